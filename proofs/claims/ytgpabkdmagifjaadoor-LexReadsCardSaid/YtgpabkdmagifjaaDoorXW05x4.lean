/- Laid for this claim by the session's own program xprint.py, over the print of the kit: functions of the program as plain Lean functions, each with a proof that a call comes to what its function says, or the row of a law out of these; no condition of its own. -/
import Derived.Test.YtgpabkdmagifjaaDoorXW05x0
import Derived.Test.YtgpabkdmagifjaaDoorXW05x3
namespace Go.Proofs.YtgpabkdmagifjaaDoor.XW05
open Go.Proofs.YtgpabkdmagifjaaDoor.X Go.RowKit Go.Proofs.YtgpabkdmagifjaaDoorW.PrintWords Go.Proofs.YtgpabkdmagifjaaDoorW.PrintLast Go.Proofs.YtgpabkdmagifjaaDoorW.PrintMore
attribute [local go_sem] cell4_1 cell4_1d max2_int min2_int max_two min_two max_three min_three max_four min_four   -- for this text's walks alone
set_option linter.unusedVariables false
set_option linter.unusedSimpArgs false

/-! ### flatironref05_Tokens: function 14 -/
mutual
def flatironref05_Tokens.l0 : Nat → ByteArray → List (S78) → Int → ByteArray → Int → Option ((List (S78)) × Bool)
  | 0, _, _, _, _, _ => none
  | k + 1, x0, x4, x5, x6, x7 => if x7 < (x0.size : Int) then (if 0 ≤ x7 then ((flatironref05_has.f k (⟨#[32, 9, 10, 59, 38, 124, 60, 62]⟩ : ByteArray) (bt x0 x7)).bind fun t148 => (if x5 = 2 then (if (bt x0 x7) = 39 then (flatironref05_Tokens.l0 k x0 x4 1 x6 (wrap64 (x7 + 1))) else (if x7 ≤ (wrap64 (x7 + 1)) then (if (wrap64 (x7 + 1)) ≤ (x0.size : Int) then (if x6.size + ((((wrap64 (x7 + 1)) : Int).toNat) - (x7 : Int).toNat) ≤ 9223372036854775807 then (flatironref05_Tokens.l0 k x0 x4 x5 (x6 ++ (x0.extract (x7 : Int).toNat ((wrap64 (x7 + 1)) : Int).toNat)) (wrap64 (x7 + 1))) else (none)) else (none)) else (none))) else (if x5 = 3 then (flatironref05_Tokens.j1 k x0 x4 x5 x6 x7 (bt x0 x7) t148 ((bt x0 x7) == 34)) else (flatironref05_Tokens.j1 k x0 x4 x5 x6 x7 (bt x0 x7) t148 false)))) else (none)) else (if x5 > 1 then (some (([] : List (S78)), false)) else (if x5 = 1 then (if x4.length < 5864062014805 then (some ((x4 ++ [(⟨0, x6⟩ : S78)]), true)) else (none)) else (some (x4, true))))
def flatironref05_Tokens.j1 : Nat → ByteArray → List (S78) → Int → ByteArray → Int → Int → Bool → Bool → Option ((List (S78)) × Bool)
  | 0, _, _, _, _, _, _, _, _ => none
  | k + 1, x0, x4, x5, x6, x7, x8, x9, x64 => if x64 = true then (flatironref05_Tokens.l0 k x0 x4 1 x6 (wrap64 (x7 + 1))) else (if x5 = 3 then (if x8 = 92 then (if (wrap64 (x7 + 1)) < (x0.size : Int) then (if 0 ≤ (wrap64 (x7 + 1)) then (if (bt x0 (wrap64 (x7 + 1))) = 34 then (if (wrap64 (x7 + 1)) ≤ (wrap64 ((wrap64 (x7 + 1)) + 1)) then (if (wrap64 ((wrap64 (x7 + 1)) + 1)) ≤ (x0.size : Int) then (if x6.size + ((((wrap64 ((wrap64 (x7 + 1)) + 1)) : Int).toNat) - ((wrap64 (x7 + 1)) : Int).toNat) ≤ 9223372036854775807 then (flatironref05_Tokens.l0 k x0 x4 x5 (x6 ++ (x0.extract ((wrap64 (x7 + 1)) : Int).toNat ((wrap64 ((wrap64 (x7 + 1)) + 1)) : Int).toNat)) (wrap64 ((wrap64 (x7 + 1)) + 1))) else (none)) else (none)) else (none)) else (if (bt x0 (wrap64 (x7 + 1))) = 92 then (if (wrap64 (x7 + 1)) ≤ (wrap64 ((wrap64 (x7 + 1)) + 1)) then (if (wrap64 ((wrap64 (x7 + 1)) + 1)) ≤ (x0.size : Int) then (if x6.size + ((((wrap64 ((wrap64 (x7 + 1)) + 1)) : Int).toNat) - ((wrap64 (x7 + 1)) : Int).toNat) ≤ 9223372036854775807 then (flatironref05_Tokens.l0 k x0 x4 x5 (x6 ++ (x0.extract ((wrap64 (x7 + 1)) : Int).toNat ((wrap64 ((wrap64 (x7 + 1)) + 1)) : Int).toNat)) (wrap64 ((wrap64 (x7 + 1)) + 1))) else (none)) else (none)) else (none)) else (if 0 ≤ x7 then (if x7 ≤ (wrap64 (x7 + 1)) then (if (wrap64 (x7 + 1)) ≤ (x0.size : Int) then (if x6.size + ((((wrap64 (x7 + 1)) : Int).toNat) - (x7 : Int).toNat) ≤ 9223372036854775807 then (flatironref05_Tokens.l0 k x0 x4 x5 (x6 ++ (x0.extract (x7 : Int).toNat ((wrap64 (x7 + 1)) : Int).toNat)) (wrap64 (x7 + 1))) else (none)) else (none)) else (none)) else (none)))) else (none)) else (if 0 ≤ x7 then (if x7 ≤ (wrap64 (x7 + 1)) then (if (wrap64 (x7 + 1)) ≤ (x0.size : Int) then (if x6.size + ((((wrap64 (x7 + 1)) : Int).toNat) - (x7 : Int).toNat) ≤ 9223372036854775807 then (flatironref05_Tokens.l0 k x0 x4 x5 (x6 ++ (x0.extract (x7 : Int).toNat ((wrap64 (x7 + 1)) : Int).toNat)) (wrap64 (x7 + 1))) else (none)) else (none)) else (none)) else (none))) else (if 0 ≤ x7 then (if x7 ≤ (wrap64 (x7 + 1)) then (if (wrap64 (x7 + 1)) ≤ (x0.size : Int) then (if x6.size + ((((wrap64 (x7 + 1)) : Int).toNat) - (x7 : Int).toNat) ≤ 9223372036854775807 then (flatironref05_Tokens.l0 k x0 x4 x5 (x6 ++ (x0.extract (x7 : Int).toNat ((wrap64 (x7 + 1)) : Int).toNat)) (wrap64 (x7 + 1))) else (none)) else (none)) else (none)) else (none))) else (if x9 = true then (if x5 = 1 then (if x4.length < 5864062014805 then (flatironref05_Tokens.j2 k x0 (x4 ++ [(⟨0, x6⟩ : S78)]) 0 (⟨#[]⟩ : ByteArray) x7 x8) else (none)) else (flatironref05_Tokens.j2 k x0 x4 x5 x6 x7 x8)) else (if 0 ≤ x7 then (if x7 ≤ (x0.size : Int) then ((flatironref05_step.f (x0.extract (x7 : Int).toNat x0.size)).bind fun bt160 => (if bt160.2.2 = true then (if bt160.2.1 = 1 then (if 0 ≤ (wrap64 ((wrap64 (x7 + bt160.1)) - 1)) then (if (wrap64 ((wrap64 (x7 + bt160.1)) - 1)) ≤ (wrap64 (x7 + bt160.1)) then (if (wrap64 (x7 + bt160.1)) ≤ (x0.size : Int) then (if x6.size + ((((wrap64 (x7 + bt160.1)) : Int).toNat) - ((wrap64 ((wrap64 (x7 + bt160.1)) - 1)) : Int).toNat) ≤ 9223372036854775807 then (flatironref05_Tokens.l0 k x0 x4 1 (x6 ++ (x0.extract ((wrap64 ((wrap64 (x7 + bt160.1)) - 1)) : Int).toNat ((wrap64 (x7 + bt160.1)) : Int).toNat)) (wrap64 (x7 + bt160.1))) else (none)) else (none)) else (none)) else (none)) else (flatironref05_Tokens.l0 k x0 x4 bt160.2.1 x6 (wrap64 (x7 + bt160.1)))) else (some (([] : List (S78)), false)))) else (none)) else (none))))
def flatironref05_Tokens.j2 : Nat → ByteArray → List (S78) → Int → ByteArray → Int → Int → Option ((List (S78)) × Bool)
  | 0, _, _, _, _, _, _ => none
  | k + 1, x0, x4, x5, x6, x7, x8 => if 0 ≤ x7 then (if x7 ≤ (x0.size : Int) then ((flatironref05_mark.f k (x0.extract (x7 : Int).toNat x0.size)).bind fun t152 => (if t152 = 0 then (if x8 = 38 then (flatironref05_Tokens.j3 k x0 x4 x5 x6 x7 t152 true) else (flatironref05_Tokens.j3 k x0 x4 x5 x6 x7 t152 (x8 == 124))) else (flatironref05_Tokens.j3 k x0 x4 x5 x6 x7 t152 false))) else (none)) else (none)
def flatironref05_Tokens.j3 : Nat → ByteArray → List (S78) → Int → ByteArray → Int → Int → Bool → Option ((List (S78)) × Bool)
  | 0, _, _, _, _, _, _, _ => none
  | k + 1, x0, x4, x5, x6, x7, x10, x132 => if x132 = true then (some (([] : List (S78)), false)) else (if x10 > 0 then (if x4.length < 5864062014805 then ((flatironref05_Marks.f).bind fun t156 => (if 0 ≤ (wrap64 (x10 - 1)) then (if (wrap64 (x10 - 1)) < (t156.length : Int) then (flatironref05_Tokens.l0 k x0 (x4 ++ [(⟨x10, (⟨#[]⟩ : ByteArray)⟩ : S78)]) x5 x6 (wrap64 ((wrap64 ((wrap64 (x7 + 1)) + ((rdOf ByteArray.empty t156 (wrap64 (x10 - 1))).size : Int))) - 1))) else (none)) else (none))) else (none)) else (flatironref05_Tokens.l0 k x0 x4 x5 x6 (wrap64 (x7 + 1))))
end
def flatironref05_Tokens.f (k : Nat) (a0 : ByteArray) : Option ((List (S78)) × Bool) := flatironref05_Tokens.l0 k a0 ([] : List (S78)) 0 (⟨#[]⟩ : ByteArray) 0
theorem flatironref05_Tokens.mono_l : ∀ k, (∀ y0 y1 y2 y3 y4, LeO (flatironref05_Tokens.l0 k y0 y1 y2 y3 y4) (flatironref05_Tokens.l0 (k + 1) y0 y1 y2 y3 y4)) ∧ (∀ y0 y1 y2 y3 y4 y5 y6 y7, LeO (flatironref05_Tokens.j1 k y0 y1 y2 y3 y4 y5 y6 y7) (flatironref05_Tokens.j1 (k + 1) y0 y1 y2 y3 y4 y5 y6 y7)) ∧ (∀ y0 y1 y2 y3 y4 y5, LeO (flatironref05_Tokens.j2 k y0 y1 y2 y3 y4 y5) (flatironref05_Tokens.j2 (k + 1) y0 y1 y2 y3 y4 y5)) ∧ (∀ y0 y1 y2 y3 y4 y5 y6, LeO (flatironref05_Tokens.j3 k y0 y1 y2 y3 y4 y5 y6) (flatironref05_Tokens.j3 (k + 1) y0 y1 y2 y3 y4 y5 y6))
  | 0 => ⟨fun _ _ _ _ _ r h => by simp [flatironref05_Tokens.l0] at h, fun _ _ _ _ _ _ _ _ r h => by simp [flatironref05_Tokens.j1] at h, fun _ _ _ _ _ _ r h => by simp [flatironref05_Tokens.j2] at h, fun _ _ _ _ _ _ _ r h => by simp [flatironref05_Tokens.j3] at h⟩
  | k + 1 => by
    obtain ⟨ih0, ih1, ih2, ih3⟩ := flatironref05_Tokens.mono_l k
    refine ⟨?_, ?_, ?_, ?_⟩
    · intro y0 y1 y2 y3 y4
      unfold flatironref05_Tokens.l0
      repeat' first
      | (with_reducible exact ih0 _ _ _ _ _)
      | (with_reducible exact ih1 _ _ _ _ _ _ _ _)
      | (with_reducible exact ih2 _ _ _ _ _ _)
      | (with_reducible exact ih3 _ _ _ _ _ _ _)
      | (with_reducible exact flatironref05_has.mono _ _ _)
      | (with_reducible exact flatironref05_mark.mono _ _)
      | (with_reducible exact LeO.refl _)
      | (with_reducible exact LeO.none _)
      | (with_reducible refine LeO.ite ?_ ?_)
      | (with_reducible refine LeO.bind ?_ (fun _ => ?_))
      | exact ih0 _ _ _ _ _
      | exact ih1 _ _ _ _ _ _ _ _
      | exact ih2 _ _ _ _ _ _
      | exact ih3 _ _ _ _ _ _ _
      | exact flatironref05_has.mono _ _ _
      | exact flatironref05_mark.mono _ _
      | exact LeO.none _
      | refine LeO.ite ?_ ?_
      | refine LeO.bind ?_ (fun _ => ?_)
    · intro y0 y1 y2 y3 y4 y5 y6 y7
      unfold flatironref05_Tokens.j1
      repeat' first
      | (with_reducible exact ih0 _ _ _ _ _)
      | (with_reducible exact ih1 _ _ _ _ _ _ _ _)
      | (with_reducible exact ih2 _ _ _ _ _ _)
      | (with_reducible exact ih3 _ _ _ _ _ _ _)
      | (with_reducible exact flatironref05_has.mono _ _ _)
      | (with_reducible exact flatironref05_mark.mono _ _)
      | (with_reducible exact LeO.refl _)
      | (with_reducible exact LeO.none _)
      | (with_reducible refine LeO.ite ?_ ?_)
      | (with_reducible refine LeO.bind ?_ (fun _ => ?_))
      | exact ih0 _ _ _ _ _
      | exact ih1 _ _ _ _ _ _ _ _
      | exact ih2 _ _ _ _ _ _
      | exact ih3 _ _ _ _ _ _ _
      | exact flatironref05_has.mono _ _ _
      | exact flatironref05_mark.mono _ _
      | exact LeO.none _
      | refine LeO.ite ?_ ?_
      | refine LeO.bind ?_ (fun _ => ?_)
    · intro y0 y1 y2 y3 y4 y5
      unfold flatironref05_Tokens.j2
      repeat' first
      | (with_reducible exact ih0 _ _ _ _ _)
      | (with_reducible exact ih1 _ _ _ _ _ _ _ _)
      | (with_reducible exact ih2 _ _ _ _ _ _)
      | (with_reducible exact ih3 _ _ _ _ _ _ _)
      | (with_reducible exact flatironref05_has.mono _ _ _)
      | (with_reducible exact flatironref05_mark.mono _ _)
      | (with_reducible exact LeO.refl _)
      | (with_reducible exact LeO.none _)
      | (with_reducible refine LeO.ite ?_ ?_)
      | (with_reducible refine LeO.bind ?_ (fun _ => ?_))
      | exact ih0 _ _ _ _ _
      | exact ih1 _ _ _ _ _ _ _ _
      | exact ih2 _ _ _ _ _ _
      | exact ih3 _ _ _ _ _ _ _
      | exact flatironref05_has.mono _ _ _
      | exact flatironref05_mark.mono _ _
      | exact LeO.none _
      | refine LeO.ite ?_ ?_
      | refine LeO.bind ?_ (fun _ => ?_)
    · intro y0 y1 y2 y3 y4 y5 y6
      unfold flatironref05_Tokens.j3
      repeat' first
      | (with_reducible exact ih0 _ _ _ _ _)
      | (with_reducible exact ih1 _ _ _ _ _ _ _ _)
      | (with_reducible exact ih2 _ _ _ _ _ _)
      | (with_reducible exact ih3 _ _ _ _ _ _ _)
      | (with_reducible exact flatironref05_has.mono _ _ _)
      | (with_reducible exact flatironref05_mark.mono _ _)
      | (with_reducible exact LeO.refl _)
      | (with_reducible exact LeO.none _)
      | (with_reducible refine LeO.ite ?_ ?_)
      | (with_reducible refine LeO.bind ?_ (fun _ => ?_))
      | exact ih0 _ _ _ _ _
      | exact ih1 _ _ _ _ _ _ _ _
      | exact ih2 _ _ _ _ _ _
      | exact ih3 _ _ _ _ _ _ _
      | exact flatironref05_has.mono _ _ _
      | exact flatironref05_mark.mono _ _
      | exact LeO.none _
      | refine LeO.ite ?_ ?_
      | refine LeO.bind ?_ (fun _ => ?_)
theorem flatironref05_Tokens.mono : ∀ a0 k, LeO (flatironref05_Tokens.f k a0) (flatironref05_Tokens.f (k + 1) a0) := by
  intro a0 k
  obtain ⟨ih0, ih1, ih2, ih3⟩ := flatironref05_Tokens.mono_l k
  unfold flatironref05_Tokens.f
  repeat' first
      | (with_reducible exact ih0 _ _ _ _ _)
      | (with_reducible exact ih1 _ _ _ _ _ _ _ _)
      | (with_reducible exact ih2 _ _ _ _ _ _)
      | (with_reducible exact ih3 _ _ _ _ _ _ _)
      | (with_reducible exact flatironref05_has.mono _ _ _)
      | (with_reducible exact flatironref05_mark.mono _ _)
      | (with_reducible exact LeO.refl _)
      | (with_reducible exact LeO.none _)
      | (with_reducible refine LeO.ite ?_ ?_)
      | (with_reducible refine LeO.bind ?_ (fun _ => ?_))
      | exact ih0 _ _ _ _ _
      | exact ih1 _ _ _ _ _ _ _ _
      | exact ih2 _ _ _ _ _ _
      | exact ih3 _ _ _ _ _ _ _
      | exact flatironref05_has.mono _ _ _
      | exact flatironref05_mark.mono _ _
      | exact LeO.none _
      | refine LeO.ite ?_ ?_
      | refine LeO.bind ?_ (fun _ => ?_)
set_option maxHeartbeats 8000000 in
set_option maxRecDepth 100000 in
theorem flatironref05_Tokens.calls (k : Nat) (a0 : ByteArray) (r1 : List (S78)) (r2 : Bool) (w : World) (h : flatironref05_Tokens.f k a0 = some (r1, r2)) :
    Calls Tryd.prog 14 #[.string a0] w fun e w' => ∃ v0_ : Value, e = .returned (.tuple #[v0_, .bool r2]) ∧ Kd.R k78 78 w' w.heap.size (fun _ => True) v0_ r1 ∧ Below w.heap.size w w' := by
  have hu78 := Tryd.underlying78
  have HB := Aside0.mk (Below.refl w.heap.size w)
  have H : (flatironref05_Tokens.l0 k a0 ([] : List (S78)) 0 (⟨#[]⟩ : ByteArray) 0) = some (r1, r2) := h
  clear h
  have H' := Aside0.mk H
  clear H
  go_enter Tryd.func14, Tryd.ntmps14
  go_wp2
  go_loopg [4, 5, 6, 7] k (fun kq v4 v5 v6 v7 w' => ∃ (x4_1 : List (S78)) (x5_1 : Int) (x6_1 : ByteArray) (x7_1 : Int), v5 = .int .i64 x5_1 ∧ v6 = .string x6_1 ∧ v7 = .int .i64 x7_1 ∧ Aside0 (flatironref05_Tokens.l0 kq a0 x4_1 x5_1 x6_1 x7_1 = some (r1, r2)) ∧ Aside0 (kq ≤ k) ∧ Aside0 (Kd.R k78 78 w' w.heap.size (fun _ => True) v4 x4_1) ∧ Aside0 (Below w.heap.size w w'))
  case atStart => exact ⟨(([] : List (S78))), (0), ((⟨#[]⟩ : ByteArray)), (0), (by first | rfl | (simp; done) | (simp [*]; done)), (by first | rfl | (simp; done) | (simp [*]; done)), (by first | rfl | (simp; done) | (simp [*]; done)), H', ⟨Nat.le_refl _⟩, ⟨by first | exact Kd.R_nil _ _ _ _ _ | exact Kd.N_nil _ _ _ _ _ | exact Kd.V_nil _ _ _ _ _ | exact Kd.Q_nil _ _ _ _ _ | exact Kd.S_nil _ _ _ _ _⟩, ⟨by repeat (first | (with_reducible first | exact HB.out | apply below_alloc | apply pw_below_drewN | apply below_drew1) | exact HB.out)⟩⟩
  case round =>
    clear H'
    try clear c1
    obtain ⟨x4_1, x5_1, x6_1, x7_1, rfl, rfl, rfl, HA, HK1, HO_4, HB⟩ := hrel
    cases gk with
    | zero => exact absurd HA.out (by simp [flatironref05_Tokens.l0])
    | succ k1 =>
      have H := HA.out
      clear HA
      simp only [flatironref05_Tokens.l0] at H
      by_cases c2 : x7_1 < (a0.size : Int)
      · rw [if_pos c2] at H
        have c2b0 : decide (x7_1 < (a0.size : Int)) = true := decide_eq_true c2
        clear c2
        by_cases c3 : 0 ≤ x7_1
        · rw [if_pos c3] at H
          have c3b0 : decide (0 ≤ x7_1) = true := decide_eq_true c3
          clear c3
          replace H := Option.bind_eq_some_iff.mp H
          obtain ⟨t148, A50, H⟩ := H
          replace H : (if x5_1 = 2 then (if (bt a0 x7_1) = 39 then (flatironref05_Tokens.l0 k1 a0 x4_1 1 x6_1 (wrap64 (x7_1 + 1))) else (if x7_1 ≤ (wrap64 (x7_1 + 1)) then (if (wrap64 (x7_1 + 1)) ≤ (a0.size : Int) then (if x6_1.size + ((((wrap64 (x7_1 + 1)) : Int).toNat) - (x7_1 : Int).toNat) ≤ 9223372036854775807 then (flatironref05_Tokens.l0 k1 a0 x4_1 x5_1 (x6_1 ++ (a0.extract (x7_1 : Int).toNat ((wrap64 (x7_1 + 1)) : Int).toNat)) (wrap64 (x7_1 + 1))) else (none)) else (none)) else (none))) else (if x5_1 = 3 then (flatironref05_Tokens.j1 k1 a0 x4_1 x5_1 x6_1 x7_1 (bt a0 x7_1) t148 ((bt a0 x7_1) == 34)) else (flatironref05_Tokens.j1 k1 a0 x4_1 x5_1 x6_1 x7_1 (bt a0 x7_1) t148 false))) = some (r1, r2) := H
          have A5 := Aside0.mk A50
          clear A50
          by_cases c6 : x5_1 = 2
          · rw [if_pos c6] at H
            have c6b0 : (x5_1 == 2) = true := beq_iff_eq.mpr c6
            have c6b1 : (x5_1 != 2) = false := bne_eq_false_iff_eq.mpr c6
            clear c6
            by_cases c7 : (bt a0 x7_1) = 39
            · rw [if_pos c7] at H
              have c7b0 : ((bt a0 x7_1) == 39) = true := beq_iff_eq.mpr c7
              have c7b1 : ((bt a0 x7_1) != 39) = false := bne_eq_false_iff_eq.mpr c7
              clear c7
              have H' := Aside0.mk H
              clear H
              have p4 : 0 ≤ (x7_1 : Int) := of_decide_eq_true (by first | (with_reducible assumption) | assumption)
              have q4 : x7_1 < (a0.size : Int) := of_decide_eq_true (by first | (with_reducible assumption) | assumption)
              have hx4 := bt_at a0 x7_1
              replace p4 := eq_true p4
              replace q4 := eq_true q4
              go_wp2_with (first | ((with_reducible refine gate_callee (f := 51) rfl ?_); refine goesL_ (some 22) rfl rfl Tryd.func51 (by kernel_rfl) rfl #[.string (⟨#[32, 9, 10, 59, 38, 124, 60, 62]⟩ : ByteArray), .int .u8 (bt a0 x7_1)] rfl (by (try simp only [List.map_toArray, List.map_cons, List.map_nil]); first | done | rfl | (simp only [List.length_drop, List.length_take]; rfl)) ?_; (with_reducible refine (flatironref05_has.calls k1 (⟨#[32, 9, 10, 59, 38, 124, 60, 62]⟩ : ByteArray) (bt a0 x7_1) t148 _ A5.out).mono ?_); rintro e w' ⟨rfl, ⟨nd, rfl⟩⟩; refine ⟨_, rfl, ?_⟩))
              go_roundg k1
              case measure => have := HK1.out; omega
              case rel => exact ⟨(x4_1), (1), (x6_1), (wrap64 (x7_1 + 1)), (by first | rfl | (simp; done) | (simp [*]; done)), (by first | rfl | (simp; done) | (simp [*]; done)), (by first | rfl | (simp; done) | (simp [*]; done)), H', ⟨by have := HK1.out; omega⟩, ⟨by (with_reducible repeat (first | apply Kd.R_alloc | apply Kd.R_drewN | apply Kd.R_drew)); (first | exact HO_4.out | (first | refine Kd.R_mono HO_4.out (fun _ hk => ?_) | refine Kd.S_mono HO_4.out (fun _ hk => ?_) | refine Kd.Q_mono HO_4.out (fun _ hk => ?_)); simp only [ownBlock_slice] at hk ⊢; exact hk)⟩, ⟨by repeat (first | (with_reducible first | exact HB.out | apply below_alloc | apply pw_below_drewN | apply below_drew1) | exact HB.out)⟩⟩
            · rw [if_neg c7] at H
              have c7b0 : ((bt a0 x7_1) == 39) = false := beq_eq_false_iff_ne.mpr c7
              have c7b1 : ((bt a0 x7_1) != 39) = true := bne_iff_ne.mpr c7
              have c8b0 := eq_true (of_decide_eq_true (by first | (with_reducible assumption) | assumption) : 0 ≤ x7_1)
              by_cases c9 : x7_1 ≤ (wrap64 (x7_1 + 1))
              · rw [if_pos c9] at H
                have c9b0 := eq_true c9
                have c9b1 : decide (x7_1 ≤ (wrap64 (x7_1 + 1))) = true := decide_eq_true c9
                by_cases c10 : (wrap64 (x7_1 + 1)) ≤ (a0.size : Int)
                · rw [if_pos c10] at H
                  have c10b0 := eq_true c10
                  have c10b1 : decide ((wrap64 (x7_1 + 1)) ≤ (a0.size : Int)) = true := decide_eq_true c10
                  by_cases c11 : x6_1.size + ((((wrap64 (x7_1 + 1)) : Int).toNat) - (x7_1 : Int).toNat) ≤ 9223372036854775807
                  · rw [if_pos c11] at H
                    have c11b0 := eq_true c11
                    have c11b1 : decide (x6_1.size + ((((wrap64 (x7_1 + 1)) : Int).toNat) - (x7_1 : Int).toNat) ≤ 9223372036854775807) = true := decide_eq_true c11
                    try have c11b2 : (9223372036854775807 < x6_1.size + ((((wrap64 (x7_1 + 1)) : Int).toNat) - (x7_1 : Int).toNat)) = False := eq_false (Nat.not_lt.2 c11)
                    have H' := Aside0.mk H
                    clear H
                    have p4 : 0 ≤ (x7_1 : Int) := of_decide_eq_true (by first | (with_reducible assumption) | assumption)
                    have q4 : x7_1 < (a0.size : Int) := of_decide_eq_true (by first | (with_reducible assumption) | assumption)
                    have hx4 := bt_at a0 x7_1
                    replace p4 := eq_true p4
                    replace q4 := eq_true q4
                    go_wp2_with (first | ((with_reducible refine gate_callee (f := 51) rfl ?_); refine goesL_ (some 22) rfl rfl Tryd.func51 (by kernel_rfl) rfl #[.string (⟨#[32, 9, 10, 59, 38, 124, 60, 62]⟩ : ByteArray), .int .u8 (bt a0 x7_1)] rfl (by (try simp only [List.map_toArray, List.map_cons, List.map_nil]); first | done | rfl | (simp only [List.length_drop, List.length_take]; rfl)) ?_; (with_reducible refine (flatironref05_has.calls k1 (⟨#[32, 9, 10, 59, 38, 124, 60, 62]⟩ : ByteArray) (bt a0 x7_1) t148 _ A5.out).mono ?_); rintro e w' ⟨rfl, ⟨nd, rfl⟩⟩; refine ⟨_, rfl, ?_⟩))
                    go_roundg k1
                    case measure => have := HK1.out; omega
                    case rel => exact ⟨(x4_1), (x5_1), (x6_1 ++ (a0.extract (x7_1 : Int).toNat ((wrap64 (x7_1 + 1)) : Int).toNat)), (wrap64 (x7_1 + 1)), (by first | rfl | (simp; done) | (simp [*]; done)), (by first | rfl | (simp; done) | (simp [*]; done)), (by first | rfl | (simp; done) | (simp [*]; done)), H', ⟨by have := HK1.out; omega⟩, ⟨by (with_reducible repeat (first | apply Kd.R_alloc | apply Kd.R_drewN | apply Kd.R_drew)); (first | exact HO_4.out | (first | refine Kd.R_mono HO_4.out (fun _ hk => ?_) | refine Kd.S_mono HO_4.out (fun _ hk => ?_) | refine Kd.Q_mono HO_4.out (fun _ hk => ?_)); simp only [ownBlock_slice] at hk ⊢; exact hk)⟩, ⟨by repeat (first | (with_reducible first | exact HB.out | apply below_alloc | apply pw_below_drewN | apply below_drew1) | exact HB.out)⟩⟩
                  · rw [if_neg c11] at H
                    exact absurd H (by simp)
                · rw [if_neg c10] at H
                  exact absurd H (by simp)
              · rw [if_neg c9] at H
                exact absurd H (by simp)
          · rw [if_neg c6] at H
            have c6b0 : (x5_1 == 2) = false := beq_eq_false_iff_ne.mpr c6
            have c6b1 : (x5_1 != 2) = true := bne_iff_ne.mpr c6
            have HC12 := Aside0.mk H
            clear H
            have p4 : 0 ≤ (x7_1 : Int) := of_decide_eq_true (by first | (with_reducible assumption) | assumption)
            have q4 : x7_1 < (a0.size : Int) := of_decide_eq_true (by first | (with_reducible assumption) | assumption)
            have hx4 := bt_at a0 x7_1
            replace p4 := eq_true p4
            replace q4 := eq_true q4
            go_upto_region 21 with (first | ((with_reducible refine gate_callee (f := 51) rfl ?_); refine goesL_ (some 22) rfl rfl Tryd.func51 (by kernel_rfl) rfl #[.string (⟨#[32, 9, 10, 59, 38, 124, 60, 62]⟩ : ByteArray), .int .u8 (bt a0 x7_1)] rfl (by (try simp only [List.map_toArray, List.map_cons, List.map_nil]); first | done | rfl | (simp only [List.length_drop, List.length_take]; rfl)) ?_; (with_reducible refine (flatironref05_has.calls k1 (⟨#[32, 9, 10, 59, 38, 124, 60, 62]⟩ : ByteArray) (bt a0 x7_1) t148 _ A5.out).mono ?_); rintro e w' ⟨rfl, ⟨nd, rfl⟩⟩; refine ⟨_, rfl, ?_⟩))
            (try simp only [Act.put, List.setIfInBounds_toArray, List.set_cons_zero, List.set_cons_succ])
            go_cut [64] (fun v64 wc => ∃ (kq : Nat) (x64_11 : Bool), v64 = .bool x64_11 ∧ Aside0 (flatironref05_Tokens.j1 kq a0 x4_1 x5_1 x6_1 x7_1 (bt a0 x7_1) t148 x64_11 = some (r1, r2)) ∧ Aside0 (kq ≤ k1) ∧ Aside0 (Kd.R k78 78 wc w.heap.size (fun _ => True) u4 x4_1) ∧ Aside0 (Below w.heap.size w wc))
            case first =>
              have H := HC12.out
              clear HC12
              by_cases c13 : x5_1 = 3
              · rw [if_pos c13] at H
                have c13b0 : (x5_1 == 3) = true := beq_iff_eq.mpr c13
                have c13b1 : (x5_1 != 3) = false := bne_eq_false_iff_eq.mpr c13
                clear c13
                (first | rw [c13b0] | (simp only [i64_w, i32_w]; rw [c13b0]) | skip)
                have H' := Aside0.mk H
                clear H
                go_wp2
                go_meet
                case rel => exact ⟨_, (((bt a0 x7_1) == 34)), (by first | rfl | (simp; done) | (simp [*]; done)), H', ⟨by have := HK1.out; first | omega | exact Nat.le_refl _⟩, ⟨by (with_reducible repeat (first | apply Kd.R_alloc | apply Kd.R_drewN | apply Kd.R_drew)); (first | exact HO_4.out | (first | refine Kd.R_mono HO_4.out (fun _ hk => ?_) | refine Kd.S_mono HO_4.out (fun _ hk => ?_) | refine Kd.Q_mono HO_4.out (fun _ hk => ?_)); simp only [ownBlock_slice] at hk ⊢; exact hk)⟩, ⟨by repeat (first | (with_reducible first | exact HB.out | apply below_alloc | apply pw_below_drewN | apply below_drew1) | exact HB.out)⟩⟩
              · rw [if_neg c13] at H
                have c13b0 : (x5_1 == 3) = false := beq_eq_false_iff_ne.mpr c13
                have c13b1 : (x5_1 != 3) = true := bne_iff_ne.mpr c13
                (first | rw [c13b0] | (simp only [i64_w, i32_w]; rw [c13b0]) | skip)
                have H' := Aside0.mk H
                clear H
                go_wp2
                go_meet
                case rel => exact ⟨_, (false), (by first | rfl | (simp; done) | (simp [*]; done)), H', ⟨by have := HK1.out; first | omega | exact Nat.le_refl _⟩, ⟨by (with_reducible repeat (first | apply Kd.R_alloc | apply Kd.R_drewN | apply Kd.R_drew)); (first | exact HO_4.out | (first | refine Kd.R_mono HO_4.out (fun _ hk => ?_) | refine Kd.S_mono HO_4.out (fun _ hk => ?_) | refine Kd.Q_mono HO_4.out (fun _ hk => ?_)); simp only [ownBlock_slice] at hk ⊢; exact hk)⟩, ⟨by repeat (first | (with_reducible first | exact HB.out | apply below_alloc | apply pw_below_drewN | apply below_drew1) | exact HB.out)⟩⟩
            case rest =>
              clear HC12
              try clear c1
              try clear c2
              try clear c2b0
              try clear p2
              try clear c3
              try clear c3b0
              try clear p4
              try clear q4
              try clear hx4
              try clear c5
              try clear c6
              try clear c6b0
              try clear c6b1
              try clear p6
              try clear c7
              try clear c7b0
              try clear c7b1
              try clear c8
              try clear c8b0
              try clear c9
              try clear c9b0
              try clear c9b1
              try clear c10
              try clear c10b0
              try clear c10b1
              try clear c11
              try clear c11b0
              try clear c11b1
              try clear c11b2
              try clear c13
              try clear c13b0
              try clear c13b1
              try clear p4
              try clear q4
              obtain ⟨kq, x64_11, rfl, HA, HJ11, HO_4, HB⟩ := hcut
              cases kq with
              | zero => exact absurd HA.out (by simp [flatironref05_Tokens.j1])
              | succ kj11 =>
                have H := HA.out
                clear HA
                simp only [flatironref05_Tokens.j1] at H
                by_cases c14 : x64_11 = true
                · subst c14
                  have H1 : (flatironref05_Tokens.l0 kj11 a0 x4_1 1 x6_1 (wrap64 (x7_1 + 1))) = some (r1, r2) := by rw [if_pos rfl] at H; exact H
                  clear H
                  have H := H1
                  clear H1
                  have H' := Aside0.mk H
                  clear H
                  go_wp2
                  go_roundg kj11
                  case measure => have := HK1.out; have := HJ11.out; omega
                  case rel => exact ⟨(x4_1), (1), (x6_1), (wrap64 (x7_1 + 1)), (by first | rfl | (simp; done) | (simp [*]; done)), (by first | rfl | (simp; done) | (simp [*]; done)), (by first | rfl | (simp; done) | (simp [*]; done)), H', ⟨by have := HK1.out; have := HJ11.out; omega⟩, ⟨by (with_reducible repeat (first | apply Kd.R_alloc | apply Kd.R_drewN | apply Kd.R_drew)); (first | exact HO_4.out | (first | refine Kd.R_mono HO_4.out (fun _ hk => ?_) | refine Kd.S_mono HO_4.out (fun _ hk => ?_) | refine Kd.Q_mono HO_4.out (fun _ hk => ?_)); simp only [ownBlock_slice] at hk ⊢; exact hk)⟩, ⟨by repeat (first | (with_reducible first | exact HB.out | apply below_alloc | apply pw_below_drewN | apply below_drew1) | exact HB.out)⟩⟩
                · replace c14 := Bool.eq_false_iff.mpr c14
                  subst c14
                  have H1 : (if x5_1 = 3 then (if (bt a0 x7_1) = 92 then (if (wrap64 (x7_1 + 1)) < (a0.size : Int) then (if 0 ≤ (wrap64 (x7_1 + 1)) then (if (bt a0 (wrap64 (x7_1 + 1))) = 34 then (if (wrap64 (x7_1 + 1)) ≤ (wrap64 ((wrap64 (x7_1 + 1)) + 1)) then (if (wrap64 ((wrap64 (x7_1 + 1)) + 1)) ≤ (a0.size : Int) then (if x6_1.size + ((((wrap64 ((wrap64 (x7_1 + 1)) + 1)) : Int).toNat) - ((wrap64 (x7_1 + 1)) : Int).toNat) ≤ 9223372036854775807 then (flatironref05_Tokens.l0 kj11 a0 x4_1 x5_1 (x6_1 ++ (a0.extract ((wrap64 (x7_1 + 1)) : Int).toNat ((wrap64 ((wrap64 (x7_1 + 1)) + 1)) : Int).toNat)) (wrap64 ((wrap64 (x7_1 + 1)) + 1))) else (none)) else (none)) else (none)) else (if (bt a0 (wrap64 (x7_1 + 1))) = 92 then (if (wrap64 (x7_1 + 1)) ≤ (wrap64 ((wrap64 (x7_1 + 1)) + 1)) then (if (wrap64 ((wrap64 (x7_1 + 1)) + 1)) ≤ (a0.size : Int) then (if x6_1.size + ((((wrap64 ((wrap64 (x7_1 + 1)) + 1)) : Int).toNat) - ((wrap64 (x7_1 + 1)) : Int).toNat) ≤ 9223372036854775807 then (flatironref05_Tokens.l0 kj11 a0 x4_1 x5_1 (x6_1 ++ (a0.extract ((wrap64 (x7_1 + 1)) : Int).toNat ((wrap64 ((wrap64 (x7_1 + 1)) + 1)) : Int).toNat)) (wrap64 ((wrap64 (x7_1 + 1)) + 1))) else (none)) else (none)) else (none)) else (if 0 ≤ x7_1 then (if x7_1 ≤ (wrap64 (x7_1 + 1)) then (if (wrap64 (x7_1 + 1)) ≤ (a0.size : Int) then (if x6_1.size + ((((wrap64 (x7_1 + 1)) : Int).toNat) - (x7_1 : Int).toNat) ≤ 9223372036854775807 then (flatironref05_Tokens.l0 kj11 a0 x4_1 x5_1 (x6_1 ++ (a0.extract (x7_1 : Int).toNat ((wrap64 (x7_1 + 1)) : Int).toNat)) (wrap64 (x7_1 + 1))) else (none)) else (none)) else (none)) else (none)))) else (none)) else (if 0 ≤ x7_1 then (if x7_1 ≤ (wrap64 (x7_1 + 1)) then (if (wrap64 (x7_1 + 1)) ≤ (a0.size : Int) then (if x6_1.size + ((((wrap64 (x7_1 + 1)) : Int).toNat) - (x7_1 : Int).toNat) ≤ 9223372036854775807 then (flatironref05_Tokens.l0 kj11 a0 x4_1 x5_1 (x6_1 ++ (a0.extract (x7_1 : Int).toNat ((wrap64 (x7_1 + 1)) : Int).toNat)) (wrap64 (x7_1 + 1))) else (none)) else (none)) else (none)) else (none))) else (if 0 ≤ x7_1 then (if x7_1 ≤ (wrap64 (x7_1 + 1)) then (if (wrap64 (x7_1 + 1)) ≤ (a0.size : Int) then (if x6_1.size + ((((wrap64 (x7_1 + 1)) : Int).toNat) - (x7_1 : Int).toNat) ≤ 9223372036854775807 then (flatironref05_Tokens.l0 kj11 a0 x4_1 x5_1 (x6_1 ++ (a0.extract (x7_1 : Int).toNat ((wrap64 (x7_1 + 1)) : Int).toNat)) (wrap64 (x7_1 + 1))) else (none)) else (none)) else (none)) else (none))) else (if t148 = true then (if x5_1 = 1 then (if x4_1.length < 5864062014805 then (flatironref05_Tokens.j2 kj11 a0 (x4_1 ++ [(⟨0, x6_1⟩ : S78)]) 0 (⟨#[]⟩ : ByteArray) x7_1 (bt a0 x7_1)) else (none)) else (flatironref05_Tokens.j2 kj11 a0 x4_1 x5_1 x6_1 x7_1 (bt a0 x7_1))) else (if 0 ≤ x7_1 then (if x7_1 ≤ (a0.size : Int) then ((flatironref05_step.f (a0.extract (x7_1 : Int).toNat a0.size)).bind fun bt160 => (if bt160.2.2 = true then (if bt160.2.1 = 1 then (if 0 ≤ (wrap64 ((wrap64 (x7_1 + bt160.1)) - 1)) then (if (wrap64 ((wrap64 (x7_1 + bt160.1)) - 1)) ≤ (wrap64 (x7_1 + bt160.1)) then (if (wrap64 (x7_1 + bt160.1)) ≤ (a0.size : Int) then (if x6_1.size + ((((wrap64 (x7_1 + bt160.1)) : Int).toNat) - ((wrap64 ((wrap64 (x7_1 + bt160.1)) - 1)) : Int).toNat) ≤ 9223372036854775807 then (flatironref05_Tokens.l0 kj11 a0 x4_1 1 (x6_1 ++ (a0.extract ((wrap64 ((wrap64 (x7_1 + bt160.1)) - 1)) : Int).toNat ((wrap64 (x7_1 + bt160.1)) : Int).toNat)) (wrap64 (x7_1 + bt160.1))) else (none)) else (none)) else (none)) else (none)) else (flatironref05_Tokens.l0 kj11 a0 x4_1 bt160.2.1 x6_1 (wrap64 (x7_1 + bt160.1)))) else (some (([] : List (S78)), false)))) else (none)) else (none)))) = some (r1, r2) := by rw [if_neg (show ¬ (false = true) by decide)] at H; exact H
                  clear H
                  have H := H1
                  clear H1
                  by_cases c15 : x5_1 = 3
                  · rw [if_pos c15] at H
                    have c15b0 : (x5_1 == 3) = true := beq_iff_eq.mpr c15
                    have c15b1 : (x5_1 != 3) = false := bne_eq_false_iff_eq.mpr c15
                    clear c15
                    by_cases c16 : (bt a0 x7_1) = 92
                    · rw [if_pos c16] at H
                      have c16b0 : ((bt a0 x7_1) == 92) = true := beq_iff_eq.mpr c16
                      have c16b1 : ((bt a0 x7_1) != 92) = false := bne_eq_false_iff_eq.mpr c16
                      clear c16
                      by_cases c17 : (wrap64 (x7_1 + 1)) < (a0.size : Int)
                      · rw [if_pos c17] at H
                        have c17b0 : decide ((wrap64 (x7_1 + 1)) < (a0.size : Int)) = true := decide_eq_true c17
                        clear c17
                        obtain ⟨ji18, hji18⟩ : ∃ j_ : Int, (wrap64 (x7_1 + 1)) = j_ := ⟨_, rfl⟩
                        replace H : (if 0 ≤ (ji18) then (if (bt a0 (ji18)) = 34 then (if (ji18) ≤ (wrap64 ((ji18) + 1)) then (if (wrap64 ((ji18) + 1)) ≤ (a0.size : Int) then (if x6_1.size + ((((wrap64 ((ji18) + 1)) : Int).toNat) - ((ji18) : Int).toNat) ≤ 9223372036854775807 then (flatironref05_Tokens.l0 kj11 a0 x4_1 x5_1 (x6_1 ++ (a0.extract ((ji18) : Int).toNat ((wrap64 ((ji18) + 1)) : Int).toNat)) (wrap64 ((ji18) + 1))) else (none)) else (none)) else (none)) else (if (bt a0 (ji18)) = 92 then (if (ji18) ≤ (wrap64 ((ji18) + 1)) then (if (wrap64 ((ji18) + 1)) ≤ (a0.size : Int) then (if x6_1.size + ((((wrap64 ((ji18) + 1)) : Int).toNat) - ((ji18) : Int).toNat) ≤ 9223372036854775807 then (flatironref05_Tokens.l0 kj11 a0 x4_1 x5_1 (x6_1 ++ (a0.extract ((ji18) : Int).toNat ((wrap64 ((ji18) + 1)) : Int).toNat)) (wrap64 ((ji18) + 1))) else (none)) else (none)) else (none)) else (if 0 ≤ x7_1 then (if x7_1 ≤ (ji18) then (if (ji18) ≤ (a0.size : Int) then (if x6_1.size + ((((ji18) : Int).toNat) - (x7_1 : Int).toNat) ≤ 9223372036854775807 then (flatironref05_Tokens.l0 kj11 a0 x4_1 x5_1 (x6_1 ++ (a0.extract (x7_1 : Int).toNat ((ji18) : Int).toNat)) ji18) else (none)) else (none)) else (none)) else (none)))) else (none)) = some (r1, r2) := by first | (rw [hji18] at H; exact H) | (simp only [hji18] at H ⊢; exact H)
                        (try rw [hji18] at c17b0)
                        have hji18w : (IntKind.i64.wrap (x7_1 + 1)) = ji18 := (i64_w _).trans hji18
                        by_cases c19 : 0 ≤ (ji18)
                        · rw [if_pos c19] at H
                          have c19b0 : decide (0 ≤ (ji18)) = true := decide_eq_true c19
                          clear c19
                          by_cases c21 : (bt a0 (ji18)) = 34
                          · rw [if_pos c21] at H
                            have c21b0 : ((bt a0 (ji18)) == 34) = true := beq_iff_eq.mpr c21
                            have c21b1 : ((bt a0 (ji18)) != 34) = false := bne_eq_false_iff_eq.mpr c21
                            clear c21
                            have c22b0 := eq_true (of_decide_eq_true (by first | (with_reducible assumption) | assumption) : 0 ≤ (ji18))
                            by_cases c23 : (ji18) ≤ (wrap64 ((ji18) + 1))
                            · rw [if_pos c23] at H
                              have c23b0 := eq_true c23
                              have c23b1 : decide ((ji18) ≤ (wrap64 ((ji18) + 1))) = true := decide_eq_true c23
                              by_cases c24 : (wrap64 ((ji18) + 1)) ≤ (a0.size : Int)
                              · rw [if_pos c24] at H
                                have c24b0 := eq_true c24
                                have c24b1 : decide ((wrap64 ((ji18) + 1)) ≤ (a0.size : Int)) = true := decide_eq_true c24
                                by_cases c25 : x6_1.size + ((((wrap64 ((ji18) + 1)) : Int).toNat) - ((ji18) : Int).toNat) ≤ 9223372036854775807
                                · rw [if_pos c25] at H
                                  have c25b0 := eq_true c25
                                  have c25b1 : decide (x6_1.size + ((((wrap64 ((ji18) + 1)) : Int).toNat) - ((ji18) : Int).toNat) ≤ 9223372036854775807) = true := decide_eq_true c25
                                  try have c25b2 : (9223372036854775807 < x6_1.size + ((((wrap64 ((ji18) + 1)) : Int).toNat) - ((ji18) : Int).toNat)) = False := eq_false (Nat.not_lt.2 c25)
                                  have H' := Aside0.mk H
                                  clear H
                                  have p20 : 0 ≤ ((ji18) : Int) := of_decide_eq_true (by first | (with_reducible assumption) | assumption)
                                  have q20 : (ji18) < (a0.size : Int) := of_decide_eq_true (by first | (with_reducible assumption) | assumption)
                                  have hx20 := bt_at a0 (ji18)
                                  replace p20 := eq_true p20
                                  replace q20 := eq_true q20
                                  go_wp2
                                  go_roundg kj11
                                  case measure => have := HK1.out; have := HJ11.out; omega
                                  case rel => exact ⟨(x4_1), (x5_1), (x6_1 ++ (a0.extract ((ji18) : Int).toNat ((wrap64 ((ji18) + 1)) : Int).toNat)), (wrap64 ((ji18) + 1)), (by first | rfl | (simp; done) | (simp [*]; done)), (by first | rfl | (simp; done) | (simp only [← hji18] <;> (first | rfl | simp)) | (simp [*]; done)), (by first | rfl | (simp; done) | (simp only [← hji18] <;> (first | rfl | simp)) | (simp [*]; done)), H', ⟨by have := HK1.out; have := HJ11.out; omega⟩, ⟨by (with_reducible repeat (first | apply Kd.R_alloc | apply Kd.R_drewN | apply Kd.R_drew)); (first | exact HO_4.out | (first | refine Kd.R_mono HO_4.out (fun _ hk => ?_) | refine Kd.S_mono HO_4.out (fun _ hk => ?_) | refine Kd.Q_mono HO_4.out (fun _ hk => ?_)); simp only [ownBlock_slice] at hk ⊢; exact hk)⟩, ⟨by repeat (first | (with_reducible first | exact HB.out | apply below_alloc | apply pw_below_drewN | apply below_drew1) | exact HB.out)⟩⟩
                                · rw [if_neg c25] at H
                                  exact absurd H (by simp)
                              · rw [if_neg c24] at H
                                exact absurd H (by simp)
                            · rw [if_neg c23] at H
                              exact absurd H (by simp)
                          · rw [if_neg c21] at H
                            have c21b0 : ((bt a0 (ji18)) == 34) = false := beq_eq_false_iff_ne.mpr c21
                            have c21b1 : ((bt a0 (ji18)) != 34) = true := bne_iff_ne.mpr c21
                            by_cases c27 : (bt a0 (ji18)) = 92
                            · rw [if_pos c27] at H
                              have c27b0 : ((bt a0 (ji18)) == 92) = true := beq_iff_eq.mpr c27
                              have c27b1 : ((bt a0 (ji18)) != 92) = false := bne_eq_false_iff_eq.mpr c27
                              clear c27
                              have c28b0 := eq_true (of_decide_eq_true (by first | (with_reducible assumption) | assumption) : 0 ≤ (ji18))
                              by_cases c29 : (ji18) ≤ (wrap64 ((ji18) + 1))
                              · rw [if_pos c29] at H
                                have c29b0 := eq_true c29
                                have c29b1 : decide ((ji18) ≤ (wrap64 ((ji18) + 1))) = true := decide_eq_true c29
                                by_cases c30 : (wrap64 ((ji18) + 1)) ≤ (a0.size : Int)
                                · rw [if_pos c30] at H
                                  have c30b0 := eq_true c30
                                  have c30b1 : decide ((wrap64 ((ji18) + 1)) ≤ (a0.size : Int)) = true := decide_eq_true c30
                                  by_cases c31 : x6_1.size + ((((wrap64 ((ji18) + 1)) : Int).toNat) - ((ji18) : Int).toNat) ≤ 9223372036854775807
                                  · rw [if_pos c31] at H
                                    have c31b0 := eq_true c31
                                    have c31b1 : decide (x6_1.size + ((((wrap64 ((ji18) + 1)) : Int).toNat) - ((ji18) : Int).toNat) ≤ 9223372036854775807) = true := decide_eq_true c31
                                    try have c31b2 : (9223372036854775807 < x6_1.size + ((((wrap64 ((ji18) + 1)) : Int).toNat) - ((ji18) : Int).toNat)) = False := eq_false (Nat.not_lt.2 c31)
                                    have H' := Aside0.mk H
                                    clear H
                                    have p20 : 0 ≤ ((ji18) : Int) := of_decide_eq_true (by first | (with_reducible assumption) | assumption)
                                    have q20 : (ji18) < (a0.size : Int) := of_decide_eq_true (by first | (with_reducible assumption) | assumption)
                                    have hx20 := bt_at a0 (ji18)
                                    replace p20 := eq_true p20
                                    replace q20 := eq_true q20
                                    have p26 : 0 ≤ ((ji18) : Int) := of_decide_eq_true (by first | (with_reducible assumption) | assumption)
                                    have q26 : (ji18) < (a0.size : Int) := of_decide_eq_true (by first | (with_reducible assumption) | assumption)
                                    have hx26 := bt_at a0 (ji18)
                                    replace p26 := eq_true p26
                                    replace q26 := eq_true q26
                                    go_wp2
                                    go_roundg kj11
                                    case measure => have := HK1.out; have := HJ11.out; omega
                                    case rel => exact ⟨(x4_1), (x5_1), (x6_1 ++ (a0.extract ((ji18) : Int).toNat ((wrap64 ((ji18) + 1)) : Int).toNat)), (wrap64 ((ji18) + 1)), (by first | rfl | (simp; done) | (simp [*]; done)), (by first | rfl | (simp; done) | (simp only [← hji18] <;> (first | rfl | simp)) | (simp [*]; done)), (by first | rfl | (simp; done) | (simp only [← hji18] <;> (first | rfl | simp)) | (simp [*]; done)), H', ⟨by have := HK1.out; have := HJ11.out; omega⟩, ⟨by (with_reducible repeat (first | apply Kd.R_alloc | apply Kd.R_drewN | apply Kd.R_drew)); (first | exact HO_4.out | (first | refine Kd.R_mono HO_4.out (fun _ hk => ?_) | refine Kd.S_mono HO_4.out (fun _ hk => ?_) | refine Kd.Q_mono HO_4.out (fun _ hk => ?_)); simp only [ownBlock_slice] at hk ⊢; exact hk)⟩, ⟨by repeat (first | (with_reducible first | exact HB.out | apply below_alloc | apply pw_below_drewN | apply below_drew1) | exact HB.out)⟩⟩
                                  · rw [if_neg c31] at H
                                    exact absurd H (by simp)
                                · rw [if_neg c30] at H
                                  exact absurd H (by simp)
                              · rw [if_neg c29] at H
                                exact absurd H (by simp)
                            · rw [if_neg c27] at H
                              have c27b0 : ((bt a0 (ji18)) == 92) = false := beq_eq_false_iff_ne.mpr c27
                              have c27b1 : ((bt a0 (ji18)) != 92) = true := bne_iff_ne.mpr c27
                              by_cases c32 : 0 ≤ x7_1
                              · rw [if_pos c32] at H
                                have c32b0 := eq_true c32
                                have c32b1 : decide (0 ≤ x7_1) = true := decide_eq_true c32
                                clear c32
                                by_cases c33 : x7_1 ≤ (ji18)
                                · rw [if_pos c33] at H
                                  have c33b0 := eq_true c33
                                  have c33b1 : decide (x7_1 ≤ (ji18)) = true := decide_eq_true c33
                                  clear c33
                                  by_cases c34 : (ji18) ≤ (a0.size : Int)
                                  · rw [if_pos c34] at H
                                    have c34b0 := eq_true c34
                                    have c34b1 : decide ((ji18) ≤ (a0.size : Int)) = true := decide_eq_true c34
                                    clear c34
                                    by_cases c35 : x6_1.size + ((((ji18) : Int).toNat) - (x7_1 : Int).toNat) ≤ 9223372036854775807
                                    · rw [if_pos c35] at H
                                      have c35b0 := eq_true c35
                                      have c35b1 : decide (x6_1.size + ((((ji18) : Int).toNat) - (x7_1 : Int).toNat) ≤ 9223372036854775807) = true := decide_eq_true c35
                                      try have c35b2 : (9223372036854775807 < x6_1.size + ((((ji18) : Int).toNat) - (x7_1 : Int).toNat)) = False := eq_false (Nat.not_lt.2 c35)
                                      have H' := Aside0.mk H
                                      clear H
                                      have p20 : 0 ≤ ((ji18) : Int) := of_decide_eq_true (by first | (with_reducible assumption) | assumption)
                                      have q20 : (ji18) < (a0.size : Int) := of_decide_eq_true (by first | (with_reducible assumption) | assumption)
                                      have hx20 := bt_at a0 (ji18)
                                      replace p20 := eq_true p20
                                      replace q20 := eq_true q20
                                      have p26 : 0 ≤ ((ji18) : Int) := of_decide_eq_true (by first | (with_reducible assumption) | assumption)
                                      have q26 : (ji18) < (a0.size : Int) := of_decide_eq_true (by first | (with_reducible assumption) | assumption)
                                      have hx26 := bt_at a0 (ji18)
                                      replace p26 := eq_true p26
                                      replace q26 := eq_true q26
                                      go_wp2
                                      go_roundg kj11
                                      case measure => have := HK1.out; have := HJ11.out; omega
                                      case rel => exact ⟨(x4_1), (x5_1), (x6_1 ++ (a0.extract (x7_1 : Int).toNat ((ji18) : Int).toNat)), (ji18), (by first | rfl | (simp; done) | (simp [*]; done)), (by first | rfl | (simp; done) | (simp only [← hji18] <;> (first | rfl | simp)) | (simp [*]; done)), (by first | rfl | (simp; done) | (simp only [← hji18] <;> (first | rfl | simp)) | (simp [*]; done)), H', ⟨by have := HK1.out; have := HJ11.out; omega⟩, ⟨by (with_reducible repeat (first | apply Kd.R_alloc | apply Kd.R_drewN | apply Kd.R_drew)); (first | exact HO_4.out | (first | refine Kd.R_mono HO_4.out (fun _ hk => ?_) | refine Kd.S_mono HO_4.out (fun _ hk => ?_) | refine Kd.Q_mono HO_4.out (fun _ hk => ?_)); simp only [ownBlock_slice] at hk ⊢; exact hk)⟩, ⟨by repeat (first | (with_reducible first | exact HB.out | apply below_alloc | apply pw_below_drewN | apply below_drew1) | exact HB.out)⟩⟩
                                    · rw [if_neg c35] at H
                                      exact absurd H (by simp)
                                  · rw [if_neg c34] at H
                                    exact absurd H (by simp)
                                · rw [if_neg c33] at H
                                  exact absurd H (by simp)
                              · rw [if_neg c32] at H
                                exact absurd H (by simp)
                        · rw [if_neg c19] at H
                          exact absurd H (by simp)
                      · rw [if_neg c17] at H
                        have c17b0 : decide ((wrap64 (x7_1 + 1)) < (a0.size : Int)) = false := decide_eq_false c17
                        clear c17
                        by_cases c36 : 0 ≤ x7_1
                        · rw [if_pos c36] at H
                          have c36b0 := eq_true c36
                          have c36b1 : decide (0 ≤ x7_1) = true := decide_eq_true c36
                          clear c36
                          by_cases c37 : x7_1 ≤ (wrap64 (x7_1 + 1))
                          · rw [if_pos c37] at H
                            have c37b0 := eq_true c37
                            have c37b1 : decide (x7_1 ≤ (wrap64 (x7_1 + 1))) = true := decide_eq_true c37
                            by_cases c38 : (wrap64 (x7_1 + 1)) ≤ (a0.size : Int)
                            · rw [if_pos c38] at H
                              have c38b0 := eq_true c38
                              have c38b1 : decide ((wrap64 (x7_1 + 1)) ≤ (a0.size : Int)) = true := decide_eq_true c38
                              by_cases c39 : x6_1.size + ((((wrap64 (x7_1 + 1)) : Int).toNat) - (x7_1 : Int).toNat) ≤ 9223372036854775807
                              · rw [if_pos c39] at H
                                have c39b0 := eq_true c39
                                have c39b1 : decide (x6_1.size + ((((wrap64 (x7_1 + 1)) : Int).toNat) - (x7_1 : Int).toNat) ≤ 9223372036854775807) = true := decide_eq_true c39
                                try have c39b2 : (9223372036854775807 < x6_1.size + ((((wrap64 (x7_1 + 1)) : Int).toNat) - (x7_1 : Int).toNat)) = False := eq_false (Nat.not_lt.2 c39)
                                have H' := Aside0.mk H
                                clear H
                                go_wp2
                                go_roundg kj11
                                case measure => have := HK1.out; have := HJ11.out; omega
                                case rel => exact ⟨(x4_1), (x5_1), (x6_1 ++ (a0.extract (x7_1 : Int).toNat ((wrap64 (x7_1 + 1)) : Int).toNat)), (wrap64 (x7_1 + 1)), (by first | rfl | (simp; done) | (simp [*]; done)), (by first | rfl | (simp; done) | (simp [*]; done)), (by first | rfl | (simp; done) | (simp [*]; done)), H', ⟨by have := HK1.out; have := HJ11.out; omega⟩, ⟨by (with_reducible repeat (first | apply Kd.R_alloc | apply Kd.R_drewN | apply Kd.R_drew)); (first | exact HO_4.out | (first | refine Kd.R_mono HO_4.out (fun _ hk => ?_) | refine Kd.S_mono HO_4.out (fun _ hk => ?_) | refine Kd.Q_mono HO_4.out (fun _ hk => ?_)); simp only [ownBlock_slice] at hk ⊢; exact hk)⟩, ⟨by repeat (first | (with_reducible first | exact HB.out | apply below_alloc | apply pw_below_drewN | apply below_drew1) | exact HB.out)⟩⟩
                              · rw [if_neg c39] at H
                                exact absurd H (by simp)
                            · rw [if_neg c38] at H
                              exact absurd H (by simp)
                          · rw [if_neg c37] at H
                            exact absurd H (by simp)
                        · rw [if_neg c36] at H
                          exact absurd H (by simp)
                    · rw [if_neg c16] at H
                      have c16b0 : ((bt a0 x7_1) == 92) = false := beq_eq_false_iff_ne.mpr c16
                      have c16b1 : ((bt a0 x7_1) != 92) = true := bne_iff_ne.mpr c16
                      by_cases c40 : 0 ≤ x7_1
                      · rw [if_pos c40] at H
                        have c40b0 := eq_true c40
                        have c40b1 : decide (0 ≤ x7_1) = true := decide_eq_true c40
                        clear c40
                        by_cases c41 : x7_1 ≤ (wrap64 (x7_1 + 1))
                        · rw [if_pos c41] at H
                          have c41b0 := eq_true c41
                          have c41b1 : decide (x7_1 ≤ (wrap64 (x7_1 + 1))) = true := decide_eq_true c41
                          by_cases c42 : (wrap64 (x7_1 + 1)) ≤ (a0.size : Int)
                          · rw [if_pos c42] at H
                            have c42b0 := eq_true c42
                            have c42b1 : decide ((wrap64 (x7_1 + 1)) ≤ (a0.size : Int)) = true := decide_eq_true c42
                            by_cases c43 : x6_1.size + ((((wrap64 (x7_1 + 1)) : Int).toNat) - (x7_1 : Int).toNat) ≤ 9223372036854775807
                            · rw [if_pos c43] at H
                              have c43b0 := eq_true c43
                              have c43b1 : decide (x6_1.size + ((((wrap64 (x7_1 + 1)) : Int).toNat) - (x7_1 : Int).toNat) ≤ 9223372036854775807) = true := decide_eq_true c43
                              try have c43b2 : (9223372036854775807 < x6_1.size + ((((wrap64 (x7_1 + 1)) : Int).toNat) - (x7_1 : Int).toNat)) = False := eq_false (Nat.not_lt.2 c43)
                              have H' := Aside0.mk H
                              clear H
                              go_wp2
                              go_roundg kj11
                              case measure => have := HK1.out; have := HJ11.out; omega
                              case rel => exact ⟨(x4_1), (x5_1), (x6_1 ++ (a0.extract (x7_1 : Int).toNat ((wrap64 (x7_1 + 1)) : Int).toNat)), (wrap64 (x7_1 + 1)), (by first | rfl | (simp; done) | (simp [*]; done)), (by first | rfl | (simp; done) | (simp [*]; done)), (by first | rfl | (simp; done) | (simp [*]; done)), H', ⟨by have := HK1.out; have := HJ11.out; omega⟩, ⟨by (with_reducible repeat (first | apply Kd.R_alloc | apply Kd.R_drewN | apply Kd.R_drew)); (first | exact HO_4.out | (first | refine Kd.R_mono HO_4.out (fun _ hk => ?_) | refine Kd.S_mono HO_4.out (fun _ hk => ?_) | refine Kd.Q_mono HO_4.out (fun _ hk => ?_)); simp only [ownBlock_slice] at hk ⊢; exact hk)⟩, ⟨by repeat (first | (with_reducible first | exact HB.out | apply below_alloc | apply pw_below_drewN | apply below_drew1) | exact HB.out)⟩⟩
                            · rw [if_neg c43] at H
                              exact absurd H (by simp)
                          · rw [if_neg c42] at H
                            exact absurd H (by simp)
                        · rw [if_neg c41] at H
                          exact absurd H (by simp)
                      · rw [if_neg c40] at H
                        exact absurd H (by simp)
                  · rw [if_neg c15] at H
                    have c15b0 : (x5_1 == 3) = false := beq_eq_false_iff_ne.mpr c15
                    have c15b1 : (x5_1 != 3) = true := bne_iff_ne.mpr c15
                    by_cases c44 : t148 = true
                    · subst c44
                      have H1 : (if x5_1 = 1 then (if x4_1.length < 5864062014805 then (flatironref05_Tokens.j2 kj11 a0 (x4_1 ++ [(⟨0, x6_1⟩ : S78)]) 0 (⟨#[]⟩ : ByteArray) x7_1 (bt a0 x7_1)) else (none)) else (flatironref05_Tokens.j2 kj11 a0 x4_1 x5_1 x6_1 x7_1 (bt a0 x7_1))) = some (r1, r2) := by rw [if_pos rfl] at H; exact H
                      clear H
                      have H := H1
                      clear H1
                      have HC45 := Aside0.mk H
                      clear H
                      go_upto_if 113 with (fail)
                      go_cut [4, 5, 6] (fun v4 v5 v6 wc => ∃ (kq : Nat) (x4_44 : List (S78)) (x5_44 : Int) (x6_44 : ByteArray), v5 = .int .i64 x5_44 ∧ v6 = .string x6_44 ∧ Aside0 (flatironref05_Tokens.j2 kq a0 x4_44 x5_44 x6_44 x7_1 (bt a0 x7_1) = some (r1, r2)) ∧ Aside0 (kq ≤ kj11) ∧ Aside0 (Kd.R k78 78 wc w.heap.size (fun _ => True) v4 x4_44) ∧ Aside0 (Below w.heap.size w wc))
                      case first =>
                        have H := HC45.out
                        clear HC45
                        by_cases c46 : x5_1 = 1
                        · rw [if_pos c46] at H
                          have c46b0 : (x5_1 == 1) = true := beq_iff_eq.mpr c46
                          have c46b1 : (x5_1 != 1) = false := bne_eq_false_iff_eq.mpr c46
                          clear c46
                          (first | rw [c46b0] | (simp only [i64_w, i32_w]; rw [c46b0]) | skip)
                          by_cases c47 : x4_1.length < 5864062014805
                          · rw [if_pos c47] at H
                            have LMc47 := Aside0.mk c47
                            clear c47
                            obtain ⟨y149, hy149⟩ : ∃ y_ : List (S78), y_ = (x4_1 ++ [(⟨0, x6_1⟩ : S78)]) := ⟨_, rfl⟩
                            replace H : (flatironref05_Tokens.j2 kj11 a0 y149 0 (⟨#[]⟩ : ByteArray) x7_1 (bt a0 x7_1)) = some (r1, r2) := by first | (rw [hy149]; with_reducible exact H) | (have H2_ := (Option.bind_some _ _).symm.trans H; rw [hy149]; with_reducible exact H2_) | (have H2_ := (Option.bind_some _ _).symm.trans H; with_reducible exact H2_) | with_reducible exact H | (rw [hy149]; exact H) | exact H
                            have Ny149 := Aside0.mk hy149
                            clear hy149
                            have H' := Aside0.mk H
                            clear H
                            go_wp2_with (first | ((with_reducible refine gate_builtin (b := .append) (xs := #[.tmp 114, .tmp 117]) rfl ?_); (try (refine gate_guard (by rfl) ?_; dsimp only)); at_builtin; refine Kd.R_append k78 (w0 := w) w.heap.size rfl (.tmp 114) (.tmp 117) 27 78 (.agg #[(.int .i64 0), (.string ⟨#[]⟩)]) 24 rfl Tryd.underlying27 info78 rfl (by decide) (by omega) u4 x4_1 (⟨0, x6_1⟩ : S78) [.int .i64 0, .string x6_1] (fun _ => True) (fun _ => False) rfl rfl ?aP (fun _ hk => hk.elim) ?aF ?aO ?aB ?aS ?aL ?_; (case aP => exact k78_mkM _ _ _ (⟨0, x6_1⟩ : S78)); (case aB => exact (by repeat (first | (with_reducible first | exact HB.out | apply below_alloc | apply pw_below_drewN | apply below_drew1) | exact HB.out))); (case aF => exact (fun _ _ => trivial)); (case aO => exact (by (with_reducible repeat (first | apply Kd.R_alloc | apply Kd.R_drewN | apply Kd.R_drew)); (first | exact HO_4.out | (first | refine Kd.R_mono HO_4.out (fun _ hk => ?_) | refine Kd.S_mono HO_4.out (fun _ hk => ?_) | refine Kd.Q_mono HO_4.out (fun _ hk => ?_)); simp only [ownBlock_slice] at hk ⊢; exact hk))); (case aS => exact (below_size (by repeat (first | (with_reducible first | exact HB.out | apply below_alloc | apply pw_below_drewN | apply below_drew1) | exact HB.out)))); (case aL => have := LMc47.out; omega); intro v150 w48 ho hb hg hat; rw [← Ny149.out] at ho; have n0_ := Aside0.mk (hb); have n1_ := Aside0.mk (ho); clear HB; clear HO_4; have HB := n0_; have HO151 := n1_; clear n0_ n1_; clear ho hb hg hat))
                            go_meet
                            case rel => exact ⟨_, (y149), (0), ((⟨#[]⟩ : ByteArray)), (by first | rfl | (simp; done) | (simp [*]; done)), (by first | rfl | (simp; done) | (simp [*]; done)), H', ⟨by have := HK1.out; have := HJ11.out; first | omega | exact Nat.le_refl _⟩, ⟨by (with_reducible repeat (first | apply Kd.R_alloc | apply Kd.R_drewN | apply Kd.R_drew)); (first | exact HO151.out | (first | refine Kd.R_mono HO151.out (fun _ hk => ?_) | refine Kd.S_mono HO151.out (fun _ hk => ?_) | refine Kd.Q_mono HO151.out (fun _ hk => ?_)); simp only [ownBlock_slice] at hk ⊢; exact hk)⟩, ⟨by repeat (first | (with_reducible first | exact HB.out | apply below_alloc | apply pw_below_drewN | apply below_drew1) | exact HB.out)⟩⟩
                          · rw [if_neg c47] at H
                            exact absurd H (by simp)
                        · rw [if_neg c46] at H
                          have c46b0 : (x5_1 == 1) = false := beq_eq_false_iff_ne.mpr c46
                          have c46b1 : (x5_1 != 1) = true := bne_iff_ne.mpr c46
                          (first | rw [c46b0] | (simp only [i64_w, i32_w]; rw [c46b0]) | skip)
                          have H' := Aside0.mk H
                          clear H
                          go_wp2
                          go_meet
                          case rel => exact ⟨_, (x4_1), (x5_1), (x6_1), (by first | rfl | (simp; done) | (simp [*]; done)), (by first | rfl | (simp; done) | (simp [*]; done)), H', ⟨by have := HK1.out; have := HJ11.out; first | omega | exact Nat.le_refl _⟩, ⟨by (with_reducible repeat (first | apply Kd.R_alloc | apply Kd.R_drewN | apply Kd.R_drew)); (first | exact HO_4.out | (first | refine Kd.R_mono HO_4.out (fun _ hk => ?_) | refine Kd.S_mono HO_4.out (fun _ hk => ?_) | refine Kd.Q_mono HO_4.out (fun _ hk => ?_)); simp only [ownBlock_slice] at hk ⊢; exact hk)⟩, ⟨by repeat (first | (with_reducible first | exact HB.out | apply below_alloc | apply pw_below_drewN | apply below_drew1) | exact HB.out)⟩⟩
                      case rest =>
                        clear HC45
                        try clear c1
                        try clear c2
                        try clear c2b0
                        try clear p2
                        try clear q2
                        try clear hx2
                        try clear c3
                        try clear c3b0
                        try clear c4
                        try clear p4
                        try clear q4
                        try clear hx4
                        try clear c5
                        try clear c6
                        try clear c6b0
                        try clear c6b1
                        try clear p6
                        try clear c7
                        try clear c7b0
                        try clear c7b1
                        try clear c8
                        try clear c8b0
                        try clear c9
                        try clear c9b0
                        try clear c9b1
                        try clear c10
                        try clear c10b0
                        try clear c10b1
                        try clear c11
                        try clear c11b0
                        try clear c11b1
                        try clear c11b2
                        try clear c13
                        try clear c13b0
                        try clear c13b1
                        try clear c14
                        try clear c15
                        try clear c15b0
                        try clear c15b1
                        try clear c16
                        try clear c16b0
                        try clear c16b1
                        try clear c17
                        try clear c17b0
                        try clear c19
                        try clear c19b0
                        try clear p20
                        try clear q20
                        try clear hx20
                        try clear c21
                        try clear c21b0
                        try clear c21b1
                        try clear c22
                        try clear c22b0
                        try clear c23
                        try clear c23b0
                        try clear c23b1
                        try clear c24
                        try clear c24b0
                        try clear c24b1
                        try clear c25
                        try clear c25b0
                        try clear c25b1
                        try clear c25b2
                        try clear p26
                        try clear q26
                        try clear hx26
                        try clear c27
                        try clear c27b0
                        try clear c27b1
                        try clear c28
                        try clear c28b0
                        try clear c29
                        try clear c29b0
                        try clear c29b1
                        try clear c30
                        try clear c30b0
                        try clear c30b1
                        try clear c31
                        try clear c31b0
                        try clear c31b1
                        try clear c31b2
                        try clear c32
                        try clear c32b0
                        try clear c32b1
                        try clear c33
                        try clear c33b0
                        try clear c33b1
                        try clear c34
                        try clear c34b0
                        try clear c34b1
                        try clear c35
                        try clear c35b0
                        try clear c35b1
                        try clear c35b2
                        try clear c36
                        try clear c36b0
                        try clear c36b1
                        try clear c37
                        try clear c37b0
                        try clear c37b1
                        try clear c38
                        try clear c38b0
                        try clear c38b1
                        try clear c39
                        try clear c39b0
                        try clear c39b1
                        try clear c39b2
                        try clear c40
                        try clear c40b0
                        try clear c40b1
                        try clear c41
                        try clear c41b0
                        try clear c41b1
                        try clear c42
                        try clear c42b0
                        try clear c42b1
                        try clear c43
                        try clear c43b0
                        try clear c43b1
                        try clear c43b2
                        try clear c44
                        try clear c46
                        try clear c46b0
                        try clear c46b1
                        try clear c47
                        try clear p2
                        try clear p20
                        try clear p26
                        try clear p4
                        try clear p6
                        try clear q20
                        try clear q26
                        try clear q4
                        obtain ⟨kq, x4_44, x5_44, x6_44, rfl, rfl, HA, HJ44, HO_4, HB⟩ := hcut
                        cases kq with
                        | zero => exact absurd HA.out (by simp [flatironref05_Tokens.j2])
                        | succ kj44 =>
                          have H := HA.out
                          clear HA
                          simp only [flatironref05_Tokens.j2] at H
                          by_cases c49 : 0 ≤ x7_1
                          · rw [if_pos c49] at H
                            have c49b0 := eq_true c49
                            have c49b1 : decide (0 ≤ x7_1) = true := decide_eq_true c49
                            clear c49
                            by_cases c50 : x7_1 ≤ (a0.size : Int)
                            · rw [if_pos c50] at H
                              have c50b0 := eq_true c50
                              have c50b1 : decide (x7_1 ≤ (a0.size : Int)) = true := decide_eq_true c50
                              clear c50
                              replace H := Option.bind_eq_some_iff.mp H
                              obtain ⟨t152, A510, H⟩ := H
                              replace H : (if t152 = 0 then (if (bt a0 x7_1) = 38 then (flatironref05_Tokens.j3 kj44 a0 x4_44 x5_44 x6_44 x7_1 t152 true) else (flatironref05_Tokens.j3 kj44 a0 x4_44 x5_44 x6_44 x7_1 t152 ((bt a0 x7_1) == 124))) else (flatironref05_Tokens.j3 kj44 a0 x4_44 x5_44 x6_44 x7_1 t152 false)) = some (r1, r2) := H
                              have A51 := Aside0.mk A510
                              clear A510
                              have HC52 := Aside0.mk H
                              clear H
                              go_upto_region 35 with (first | ((with_reducible refine gate_callee (f := 52) rfl ?_); refine goesL_ (some 122) rfl rfl Tryd.func52 (by kernel_rfl) rfl #[.string (a0.extract (x7_1 : Int).toNat a0.size)] rfl (by (try simp only [List.map_toArray, List.map_cons, List.map_nil]); first | done | rfl | (simp only [List.length_drop, List.length_take]; rfl)) ?_; (with_reducible refine (flatironref05_mark.calls kj44 (a0.extract (x7_1 : Int).toNat a0.size) t152 _ A51.out).mono ?_); rintro e w53 ⟨rfl, hb⟩; refine ⟨_, rfl, ?_⟩; have n0_ := Aside0.mk (Kd.R_below (by (with_reducible repeat (first | apply Kd.R_alloc | apply Kd.R_drewN | apply Kd.R_drew)); (first | exact HO_4.out | (first | refine Kd.R_mono HO_4.out (fun _ hk => ?_) | refine Kd.S_mono HO_4.out (fun _ hk => ?_) | refine Kd.Q_mono HO_4.out (fun _ hk => ?_)); simp only [ownBlock_slice] at hk ⊢; exact hk)) hb); have n1_ := Aside0.mk (below_step (by repeat (first | (with_reducible first | exact HB.out | apply below_alloc | apply pw_below_drewN | apply below_drew1) | exact HB.out)) hb); clear HO_4; clear HB; have HO_4 := n0_; have HB := n1_; clear n0_ n1_; (try clear hb); (try clear hb2); (try clear hk); (try clear hi)))
                              (try simp only [Act.put, List.setIfInBounds_toArray, List.set_cons_zero, List.set_cons_succ])
                              go_cut [132] (fun v132 wc => ∃ (kq : Nat) (x132_51 : Bool), v132 = .bool x132_51 ∧ Aside0 (flatironref05_Tokens.j3 kq a0 x4_44 x5_44 x6_44 x7_1 t152 x132_51 = some (r1, r2)) ∧ Aside0 (kq ≤ kj44) ∧ Aside0 (Kd.R k78 78 wc w.heap.size (fun _ => True) u4 x4_44) ∧ Aside0 (Below w.heap.size w wc))
                              case first =>
                                have H := HC52.out
                                clear HC52
                                by_cases c54 : t152 = 0
                                · rw [if_pos c54] at H
                                  have c54b0 : (t152 == 0) = true := beq_iff_eq.mpr c54
                                  have c54b1 : (t152 != 0) = false := bne_eq_false_iff_eq.mpr c54
                                  clear c54
                                  (first | rw [c54b0] | (simp only [i64_w, i32_w]; rw [c54b0]) | skip)
                                  by_cases c55 : (bt a0 x7_1) = 38
                                  · rw [if_pos c55] at H
                                    have c55b0 : ((bt a0 x7_1) == 38) = true := beq_iff_eq.mpr c55
                                    have c55b1 : ((bt a0 x7_1) != 38) = false := bne_eq_false_iff_eq.mpr c55
                                    clear c55
                                    have H' := Aside0.mk H
                                    clear H
                                    go_wp2
                                    go_meet
                                    case rel => exact ⟨_, (true), (by first | rfl | (simp; done) | (simp [*]; done)), H', ⟨by have := HK1.out; have := HJ11.out; have := HJ44.out; first | omega | exact Nat.le_refl _⟩, ⟨by (with_reducible repeat (first | apply Kd.R_alloc | apply Kd.R_drewN | apply Kd.R_drew)); (first | exact HO_4.out | (first | refine Kd.R_mono HO_4.out (fun _ hk => ?_) | refine Kd.S_mono HO_4.out (fun _ hk => ?_) | refine Kd.Q_mono HO_4.out (fun _ hk => ?_)); simp only [ownBlock_slice] at hk ⊢; exact hk)⟩, ⟨by repeat (first | (with_reducible first | exact HB.out | apply below_alloc | apply pw_below_drewN | apply below_drew1) | exact HB.out)⟩⟩
                                  · rw [if_neg c55] at H
                                    have c55b0 : ((bt a0 x7_1) == 38) = false := beq_eq_false_iff_ne.mpr c55
                                    have c55b1 : ((bt a0 x7_1) != 38) = true := bne_iff_ne.mpr c55
                                    have H' := Aside0.mk H
                                    clear H
                                    go_wp2
                                    go_meet
                                    case rel => exact ⟨_, (((bt a0 x7_1) == 124)), (by first | rfl | (simp; done) | (simp [*]; done)), H', ⟨by have := HK1.out; have := HJ11.out; have := HJ44.out; first | omega | exact Nat.le_refl _⟩, ⟨by (with_reducible repeat (first | apply Kd.R_alloc | apply Kd.R_drewN | apply Kd.R_drew)); (first | exact HO_4.out | (first | refine Kd.R_mono HO_4.out (fun _ hk => ?_) | refine Kd.S_mono HO_4.out (fun _ hk => ?_) | refine Kd.Q_mono HO_4.out (fun _ hk => ?_)); simp only [ownBlock_slice] at hk ⊢; exact hk)⟩, ⟨by repeat (first | (with_reducible first | exact HB.out | apply below_alloc | apply pw_below_drewN | apply below_drew1) | exact HB.out)⟩⟩
                                · rw [if_neg c54] at H
                                  have c54b0 : (t152 == 0) = false := beq_eq_false_iff_ne.mpr c54
                                  have c54b1 : (t152 != 0) = true := bne_iff_ne.mpr c54
                                  (first | rw [c54b0] | (simp only [i64_w, i32_w]; rw [c54b0]) | skip)
                                  have H' := Aside0.mk H
                                  clear H
                                  go_wp2
                                  go_meet
                                  case rel => exact ⟨_, (false), (by first | rfl | (simp; done) | (simp [*]; done)), H', ⟨by have := HK1.out; have := HJ11.out; have := HJ44.out; first | omega | exact Nat.le_refl _⟩, ⟨by (with_reducible repeat (first | apply Kd.R_alloc | apply Kd.R_drewN | apply Kd.R_drew)); (first | exact HO_4.out | (first | refine Kd.R_mono HO_4.out (fun _ hk => ?_) | refine Kd.S_mono HO_4.out (fun _ hk => ?_) | refine Kd.Q_mono HO_4.out (fun _ hk => ?_)); simp only [ownBlock_slice] at hk ⊢; exact hk)⟩, ⟨by repeat (first | (with_reducible first | exact HB.out | apply below_alloc | apply pw_below_drewN | apply below_drew1) | exact HB.out)⟩⟩
                              case rest =>
                                clear HC52
                                try clear c1
                                try clear c2
                                try clear c2b0
                                try clear p2
                                try clear q2
                                try clear hx2
                                try clear c3
                                try clear c3b0
                                try clear c4
                                try clear p4
                                try clear q4
                                try clear hx4
                                try clear c5
                                try clear c6
                                try clear c6b0
                                try clear c6b1
                                try clear p6
                                try clear c7
                                try clear c7b0
                                try clear c7b1
                                try clear c8
                                try clear c8b0
                                try clear c9
                                try clear c9b0
                                try clear c9b1
                                try clear c10
                                try clear c10b0
                                try clear c10b1
                                try clear c11
                                try clear c11b0
                                try clear c11b1
                                try clear c11b2
                                try clear c13
                                try clear c13b0
                                try clear c13b1
                                try clear c14
                                try clear c15
                                try clear c15b0
                                try clear c15b1
                                try clear c16
                                try clear c16b0
                                try clear c16b1
                                try clear c17
                                try clear c17b0
                                try clear c19
                                try clear c19b0
                                try clear p20
                                try clear q20
                                try clear hx20
                                try clear c21
                                try clear c21b0
                                try clear c21b1
                                try clear c22
                                try clear c22b0
                                try clear c23
                                try clear c23b0
                                try clear c23b1
                                try clear c24
                                try clear c24b0
                                try clear c24b1
                                try clear c25
                                try clear c25b0
                                try clear c25b1
                                try clear c25b2
                                try clear p26
                                try clear q26
                                try clear hx26
                                try clear c27
                                try clear c27b0
                                try clear c27b1
                                try clear c28
                                try clear c28b0
                                try clear c29
                                try clear c29b0
                                try clear c29b1
                                try clear c30
                                try clear c30b0
                                try clear c30b1
                                try clear c31
                                try clear c31b0
                                try clear c31b1
                                try clear c31b2
                                try clear c32
                                try clear c32b0
                                try clear c32b1
                                try clear c33
                                try clear c33b0
                                try clear c33b1
                                try clear c34
                                try clear c34b0
                                try clear c34b1
                                try clear c35
                                try clear c35b0
                                try clear c35b1
                                try clear c35b2
                                try clear c36
                                try clear c36b0
                                try clear c36b1
                                try clear c37
                                try clear c37b0
                                try clear c37b1
                                try clear c38
                                try clear c38b0
                                try clear c38b1
                                try clear c39
                                try clear c39b0
                                try clear c39b1
                                try clear c39b2
                                try clear c40
                                try clear c40b0
                                try clear c40b1
                                try clear c41
                                try clear c41b0
                                try clear c41b1
                                try clear c42
                                try clear c42b0
                                try clear c42b1
                                try clear c43
                                try clear c43b0
                                try clear c43b1
                                try clear c43b2
                                try clear c44
                                try clear c46
                                try clear c46b0
                                try clear c46b1
                                try clear c47
                                try clear c49
                                try clear c49b0
                                try clear c49b1
                                try clear c50
                                try clear c50b0
                                try clear c50b1
                                try clear c51
                                try clear c52
                                try clear c54
                                try clear c54b0
                                try clear c54b1
                                try clear c55
                                try clear c55b0
                                try clear c55b1
                                try clear p2
                                try clear p20
                                try clear p26
                                try clear p4
                                try clear p6
                                try clear q2
                                try clear q20
                                try clear q26
                                try clear q4
                                obtain ⟨kq, x132_51, rfl, HA, HJ51, HO_4, HB⟩ := hcut
                                cases kq with
                                | zero => exact absurd HA.out (by simp [flatironref05_Tokens.j3])
                                | succ kj51 =>
                                  have H := HA.out
                                  clear HA
                                  simp only [flatironref05_Tokens.j3] at H
                                  by_cases c56 : x132_51 = true
                                  · subst c56
                                    have H1 : (some (([] : List (S78)), false)) = some (r1, r2) := by rw [if_pos rfl] at H; exact H
                                    clear H
                                    have H := H1
                                    clear H1
                                    simp only [Option.some.injEq, Prod.mk.injEq] at H
                                    obtain ⟨rfl, rfl⟩ := H
                                    go_wp2
                                    go_ret2
                                    exact ⟨_, by first | rfl | (simp [errW_none, errW_some] <;> rfl) | (simp [*, errW_none, errW_some] <;> rfl), by first | exact Kd.R_nil _ _ _ _ _ | exact Kd.N_nil _ _ _ _ _ | exact Kd.V_nil _ _ _ _ _ | exact Kd.Q_nil _ _ _ _ _ | exact Kd.S_nil _ _ _ _ _, by repeat (first | (with_reducible first | exact HB.out | apply below_alloc | apply pw_below_drewN | apply below_drew1) | exact HB.out)⟩
                                  · replace c56 := Bool.eq_false_iff.mpr c56
                                    subst c56
                                    have H1 : (if t152 > 0 then (if x4_44.length < 5864062014805 then ((flatironref05_Marks.f).bind fun t156 => (if 0 ≤ (wrap64 (t152 - 1)) then (if (wrap64 (t152 - 1)) < (t156.length : Int) then (flatironref05_Tokens.l0 kj51 a0 (x4_44 ++ [(⟨t152, (⟨#[]⟩ : ByteArray)⟩ : S78)]) x5_44 x6_44 (wrap64 ((wrap64 ((wrap64 (x7_1 + 1)) + ((rdOf ByteArray.empty t156 (wrap64 (t152 - 1))).size : Int))) - 1))) else (none)) else (none))) else (none)) else (flatironref05_Tokens.l0 kj51 a0 x4_44 x5_44 x6_44 (wrap64 (x7_1 + 1)))) = some (r1, r2) := by rw [if_neg (show ¬ (false = true) by decide)] at H; exact H
                                    clear H
                                    have H := H1
                                    clear H1
                                    by_cases c57 : t152 > 0
                                    · rw [if_pos c57] at H
                                      have c57b0 : decide (0 < t152) = true := decide_eq_true c57
                                      clear c57
                                      by_cases c58 : x4_44.length < 5864062014805
                                      · rw [if_pos c58] at H
                                        have LMc58 := Aside0.mk c58
                                        clear c58
                                        obtain ⟨y153, hy153⟩ : ∃ y_ : List (S78), y_ = (x4_44 ++ [(⟨t152, (⟨#[]⟩ : ByteArray)⟩ : S78)]) := ⟨_, rfl⟩
                                        replace H : ((flatironref05_Marks.f).bind fun t156 => (if 0 ≤ (wrap64 (t152 - 1)) then (if (wrap64 (t152 - 1)) < (t156.length : Int) then (flatironref05_Tokens.l0 kj51 a0 y153 x5_44 x6_44 (wrap64 ((wrap64 ((wrap64 (x7_1 + 1)) + ((rdOf ByteArray.empty t156 (wrap64 (t152 - 1))).size : Int))) - 1))) else (none)) else (none))) = some (r1, r2) := by first | (rw [hy153]; with_reducible exact H) | (have H2_ := (Option.bind_some _ _).symm.trans H; rw [hy153]; with_reducible exact H2_) | (have H2_ := (Option.bind_some _ _).symm.trans H; with_reducible exact H2_) | with_reducible exact H | (rw [hy153]; exact H) | exact H
                                        have Ny153 := Aside0.mk hy153
                                        clear hy153
                                        replace H := Option.bind_eq_some_iff.mp H
                                        obtain ⟨t156, A590, H⟩ := H
                                        replace H : (if 0 ≤ (wrap64 (t152 - 1)) then (if (wrap64 (t152 - 1)) < (t156.length : Int) then (flatironref05_Tokens.l0 kj51 a0 y153 x5_44 x6_44 (wrap64 ((wrap64 ((wrap64 (x7_1 + 1)) + ((rdOf ByteArray.empty t156 (wrap64 (t152 - 1))).size : Int))) - 1))) else (none)) else (none)) = some (r1, r2) := H
                                        have A59 := Aside0.mk A590
                                        clear A590
                                        obtain ⟨ji60, hji60⟩ : ∃ j_ : Int, (wrap64 (t152 - 1)) = j_ := ⟨_, rfl⟩
                                        replace H : (if 0 ≤ (ji60) then (if (ji60) < (t156.length : Int) then (flatironref05_Tokens.l0 kj51 a0 y153 x5_44 x6_44 (wrap64 ((wrap64 ((wrap64 (x7_1 + 1)) + ((rdOf ByteArray.empty t156 (ji60)).size : Int))) - 1))) else (none)) else (none)) = some (r1, r2) := by first | (rw [hji60] at H; exact H) | (simp only [hji60] at H ⊢; exact H)
                                        (try rw [hji60] at A59)
                                        have hji60w : (IntKind.i64.wrap (t152 - 1)) = ji60 := (i64_w _).trans hji60
                                        by_cases c61 : 0 ≤ (ji60)
                                        · rw [if_pos c61] at H
                                          have c61b0 : decide (0 ≤ (ji60)) = true := decide_eq_true c61
                                          clear c61
                                          by_cases c62 : (ji60) < (t156.length : Int)
                                          · rw [if_pos c62] at H
                                            have c62b0 : decide ((ji60) < (t156.length : Int)) = true := decide_eq_true c62
                                            clear c62
                                            have H' := Aside0.mk H
                                            clear H
                                            go_wp2_with (first | ((with_reducible refine gate_builtin (b := .append) (xs := #[.tmp 137, .tmp 140]) rfl ?_); (try (refine gate_guard (by rfl) ?_; dsimp only)); at_builtin; refine Kd.R_append k78 (w0 := w) w.heap.size rfl (.tmp 137) (.tmp 140) 27 78 (.agg #[(.int .i64 0), (.string ⟨#[]⟩)]) 24 rfl Tryd.underlying27 info78 rfl (by decide) (by omega) u4 x4_44 (⟨t152, (⟨#[]⟩ : ByteArray)⟩ : S78) [.int .i64 t152, .string (⟨#[]⟩ : ByteArray)] (fun _ => True) (fun _ => False) rfl rfl ?aP (fun _ hk => hk.elim) ?aF ?aO ?aB ?aS ?aL ?_; (case aP => exact k78_mkM _ _ _ (⟨t152, (⟨#[]⟩ : ByteArray)⟩ : S78)); (case aB => exact (by repeat (first | (with_reducible first | exact HB.out | apply below_alloc | apply pw_below_drewN | apply below_drew1) | exact HB.out))); (case aF => exact (fun _ _ => trivial)); (case aO => exact (by (with_reducible repeat (first | apply Kd.R_alloc | apply Kd.R_drewN | apply Kd.R_drew)); (first | exact HO_4.out | (first | refine Kd.R_mono HO_4.out (fun _ hk => ?_) | refine Kd.S_mono HO_4.out (fun _ hk => ?_) | refine Kd.Q_mono HO_4.out (fun _ hk => ?_)); simp only [ownBlock_slice] at hk ⊢; exact hk))); (case aS => exact (below_size (by repeat (first | (with_reducible first | exact HB.out | apply below_alloc | apply pw_below_drewN | apply below_drew1) | exact HB.out)))); (case aL => have := LMc58.out; omega); intro v154 w63 ho hb hg hat; rw [← Ny153.out] at ho; have n0_ := Aside0.mk (hb); have n1_ := Aside0.mk (ho); clear HB; clear HO_4; have HB := n0_; have HO155 := n1_; clear n0_ n1_; clear ho hb hg hat) | ((with_reducible refine gate_callee (f := 53) rfl ?_); refine goesL_ (some 143) rfl rfl Tryd.func53 (by kernel_rfl) rfl #[] rfl (by (try simp only [List.map_toArray, List.map_cons, List.map_nil]); first | done | rfl | (simp only [List.length_drop, List.length_take]; rfl)) ?_; (with_reducible refine (flatironref05_Marks.calls  t156 _ A59.out).mono ?_); rintro e w64 ⟨v157, rfl, ho0, hb⟩; refine ⟨_, rfl, ?_⟩; have n0_ := Aside0.mk (Kd.R_below (by (with_reducible repeat (first | apply Kd.R_alloc | apply Kd.R_drewN | apply Kd.R_drew)); (first | exact HO155.out | (first | refine Kd.R_mono HO155.out (fun _ hk => ?_) | refine Kd.S_mono HO155.out (fun _ hk => ?_) | refine Kd.Q_mono HO155.out (fun _ hk => ?_)); simp only [ownBlock_slice] at hk ⊢; exact hk)) hb); have n1_ := Aside0.mk (Kd.R_lower ho0 (below_size (by repeat (first | (with_reducible first | exact HB.out | apply below_alloc | apply pw_below_drewN | apply below_drew1) | exact HB.out)))); have n2_ := Aside0.mk (below_step (by repeat (first | (with_reducible first | exact HB.out | apply below_alloc | apply pw_below_drewN | apply below_drew1) | exact HB.out)) hb); clear HO155; clear HB; have HO155 := n0_; have HO158 := n1_; have HB := n2_; clear n0_ n1_ n2_; (try clear hb); (try clear hb2); (try clear hk); (try clear hi); (try clear ho0); obtain ⟨Ao65, co65, eo65⟩ := Kd.R_slice HO158.out; subst eo65; have p159 : 0 ≤ ((ji60) : Int) := of_decide_eq_true (by first | (with_reducible assumption) | assumption); have q159 : (ji60) < (t156.length : Int) := of_decide_eq_true (by first | (with_reducible assumption) | assumption); obtain ⟨ad159, e159, hx159_0⟩ := Kd.at_string (Kd.R_reads' HO158.out).2.2 (ji60) p159 q159; cases e159; replace p159 := eq_true p159; replace q159 := eq_true q159))
                                            go_roundg kj51
                                            case measure => have := HK1.out; have := HJ11.out; have := HJ44.out; have := HJ51.out; omega
                                            case rel => exact ⟨(y153), (x5_44), (x6_44), (wrap64 ((wrap64 ((wrap64 (x7_1 + 1)) + ((rdOf ByteArray.empty t156 (ji60)).size : Int))) - 1)), (by first | rfl | (simp; done) | (simp [*]; done)), (by first | rfl | (simp; done) | (simp [*]; done)), (by first | rfl | (simp; done) | (simp only [← hji60] <;> (first | rfl | simp)) | (simp [*]; done)), H', ⟨by have := HK1.out; have := HJ11.out; have := HJ44.out; have := HJ51.out; omega⟩, ⟨by (with_reducible repeat (first | apply Kd.R_alloc | apply Kd.R_drewN | apply Kd.R_drew)); (first | exact HO155.out | (first | refine Kd.R_mono HO155.out (fun _ hk => ?_) | refine Kd.S_mono HO155.out (fun _ hk => ?_) | refine Kd.Q_mono HO155.out (fun _ hk => ?_)); simp only [ownBlock_slice] at hk ⊢; exact hk)⟩, ⟨by repeat (first | (with_reducible first | exact HB.out | apply below_alloc | apply pw_below_drewN | apply below_drew1) | exact HB.out)⟩⟩
                                          · rw [if_neg c62] at H
                                            exact absurd H (by simp)
                                        · rw [if_neg c61] at H
                                          exact absurd H (by simp)
                                      · rw [if_neg c58] at H
                                        exact absurd H (by simp)
                                    · rw [if_neg c57] at H
                                      have c57b0 : decide (0 < t152) = false := decide_eq_false c57
                                      clear c57
                                      have H' := Aside0.mk H
                                      clear H
                                      go_wp2
                                      go_roundg kj51
                                      case measure => have := HK1.out; have := HJ11.out; have := HJ44.out; have := HJ51.out; omega
                                      case rel => exact ⟨(x4_44), (x5_44), (x6_44), (wrap64 (x7_1 + 1)), (by first | rfl | (simp; done) | (simp [*]; done)), (by first | rfl | (simp; done) | (simp [*]; done)), (by first | rfl | (simp; done) | (simp [*]; done)), H', ⟨by have := HK1.out; have := HJ11.out; have := HJ44.out; have := HJ51.out; omega⟩, ⟨by (with_reducible repeat (first | apply Kd.R_alloc | apply Kd.R_drewN | apply Kd.R_drew)); (first | exact HO_4.out | (first | refine Kd.R_mono HO_4.out (fun _ hk => ?_) | refine Kd.S_mono HO_4.out (fun _ hk => ?_) | refine Kd.Q_mono HO_4.out (fun _ hk => ?_)); simp only [ownBlock_slice] at hk ⊢; exact hk)⟩, ⟨by repeat (first | (with_reducible first | exact HB.out | apply below_alloc | apply pw_below_drewN | apply below_drew1) | exact HB.out)⟩⟩
                            · rw [if_neg c50] at H
                              exact absurd H (by simp)
                          · rw [if_neg c49] at H
                            exact absurd H (by simp)
                    · replace c44 := Bool.eq_false_iff.mpr c44
                      subst c44
                      have H1 : (if 0 ≤ x7_1 then (if x7_1 ≤ (a0.size : Int) then ((flatironref05_step.f (a0.extract (x7_1 : Int).toNat a0.size)).bind fun bt160 => (if bt160.2.2 = true then (if bt160.2.1 = 1 then (if 0 ≤ (wrap64 ((wrap64 (x7_1 + bt160.1)) - 1)) then (if (wrap64 ((wrap64 (x7_1 + bt160.1)) - 1)) ≤ (wrap64 (x7_1 + bt160.1)) then (if (wrap64 (x7_1 + bt160.1)) ≤ (a0.size : Int) then (if x6_1.size + ((((wrap64 (x7_1 + bt160.1)) : Int).toNat) - ((wrap64 ((wrap64 (x7_1 + bt160.1)) - 1)) : Int).toNat) ≤ 9223372036854775807 then (flatironref05_Tokens.l0 kj11 a0 x4_1 1 (x6_1 ++ (a0.extract ((wrap64 ((wrap64 (x7_1 + bt160.1)) - 1)) : Int).toNat ((wrap64 (x7_1 + bt160.1)) : Int).toNat)) (wrap64 (x7_1 + bt160.1))) else (none)) else (none)) else (none)) else (none)) else (flatironref05_Tokens.l0 kj11 a0 x4_1 bt160.2.1 x6_1 (wrap64 (x7_1 + bt160.1)))) else (some (([] : List (S78)), false)))) else (none)) else (none)) = some (r1, r2) := by rw [if_neg (show ¬ (false = true) by decide)] at H; exact H
                      clear H
                      have H := H1
                      clear H1
                      by_cases c66 : 0 ≤ x7_1
                      · rw [if_pos c66] at H
                        have c66b0 := eq_true c66
                        have c66b1 : decide (0 ≤ x7_1) = true := decide_eq_true c66
                        clear c66
                        by_cases c67 : x7_1 ≤ (a0.size : Int)
                        · rw [if_pos c67] at H
                          have c67b0 := eq_true c67
                          have c67b1 : decide (x7_1 ≤ (a0.size : Int)) = true := decide_eq_true c67
                          clear c67
                          replace H := Option.bind_eq_some_iff.mp H
                          obtain ⟨⟨t160, t161, t162⟩, A680, H⟩ := H
                          replace H : (if t162 = true then (if t161 = 1 then (if 0 ≤ (wrap64 ((wrap64 (x7_1 + t160)) - 1)) then (if (wrap64 ((wrap64 (x7_1 + t160)) - 1)) ≤ (wrap64 (x7_1 + t160)) then (if (wrap64 (x7_1 + t160)) ≤ (a0.size : Int) then (if x6_1.size + ((((wrap64 (x7_1 + t160)) : Int).toNat) - ((wrap64 ((wrap64 (x7_1 + t160)) - 1)) : Int).toNat) ≤ 9223372036854775807 then (flatironref05_Tokens.l0 kj11 a0 x4_1 1 (x6_1 ++ (a0.extract ((wrap64 ((wrap64 (x7_1 + t160)) - 1)) : Int).toNat ((wrap64 (x7_1 + t160)) : Int).toNat)) (wrap64 (x7_1 + t160))) else (none)) else (none)) else (none)) else (none)) else (flatironref05_Tokens.l0 kj11 a0 x4_1 t161 x6_1 (wrap64 (x7_1 + t160)))) else (some (([] : List (S78)), false))) = some (r1, r2) := H
                          have A68 := Aside0.mk A680
                          clear A680
                          by_cases c69 : t162 = true
                          · subst c69
                            have H1 : (if t161 = 1 then (if 0 ≤ (wrap64 ((wrap64 (x7_1 + t160)) - 1)) then (if (wrap64 ((wrap64 (x7_1 + t160)) - 1)) ≤ (wrap64 (x7_1 + t160)) then (if (wrap64 (x7_1 + t160)) ≤ (a0.size : Int) then (if x6_1.size + ((((wrap64 (x7_1 + t160)) : Int).toNat) - ((wrap64 ((wrap64 (x7_1 + t160)) - 1)) : Int).toNat) ≤ 9223372036854775807 then (flatironref05_Tokens.l0 kj11 a0 x4_1 1 (x6_1 ++ (a0.extract ((wrap64 ((wrap64 (x7_1 + t160)) - 1)) : Int).toNat ((wrap64 (x7_1 + t160)) : Int).toNat)) (wrap64 (x7_1 + t160))) else (none)) else (none)) else (none)) else (none)) else (flatironref05_Tokens.l0 kj11 a0 x4_1 t161 x6_1 (wrap64 (x7_1 + t160)))) = some (r1, r2) := by rw [if_pos rfl] at H; exact H
                            clear H
                            have H := H1
                            clear H1
                            by_cases c70 : t161 = 1
                            · rw [if_pos c70] at H
                              have c70b0 : (t161 == 1) = true := beq_iff_eq.mpr c70
                              have c70b1 : (t161 != 1) = false := bne_eq_false_iff_eq.mpr c70
                              clear c70
                              obtain ⟨ji71, hji71⟩ : ∃ j_ : Int, (wrap64 ((wrap64 (x7_1 + t160)) - 1)) = j_ := ⟨_, rfl⟩
                              replace H : (if 0 ≤ (ji71) then (if (ji71) ≤ (wrap64 (x7_1 + t160)) then (if (wrap64 (x7_1 + t160)) ≤ (a0.size : Int) then (if x6_1.size + ((((wrap64 (x7_1 + t160)) : Int).toNat) - ((ji71) : Int).toNat) ≤ 9223372036854775807 then (flatironref05_Tokens.l0 kj11 a0 x4_1 1 (x6_1 ++ (a0.extract ((ji71) : Int).toNat ((wrap64 (x7_1 + t160)) : Int).toNat)) (wrap64 (x7_1 + t160))) else (none)) else (none)) else (none)) else (none)) = some (r1, r2) := by first | (rw [hji71] at H; exact H) | (simp only [hji71] at H ⊢; exact H)
                              (try rw [hji71] at A68)
                              have hji71w : (IntKind.i64.wrap ((wrap64 (x7_1 + t160)) - 1)) = ji71 := (i64_w _).trans hji71
                              by_cases c72 : 0 ≤ (ji71)
                              · rw [if_pos c72] at H
                                have c72b0 := eq_true c72
                                have c72b1 : decide (0 ≤ (ji71)) = true := decide_eq_true c72
                                clear c72
                                by_cases c73 : (ji71) ≤ (wrap64 (x7_1 + t160))
                                · rw [if_pos c73] at H
                                  have c73b0 := eq_true c73
                                  have c73b1 : decide ((ji71) ≤ (wrap64 (x7_1 + t160))) = true := decide_eq_true c73
                                  by_cases c74 : (wrap64 (x7_1 + t160)) ≤ (a0.size : Int)
                                  · rw [if_pos c74] at H
                                    have c74b0 := eq_true c74
                                    have c74b1 : decide ((wrap64 (x7_1 + t160)) ≤ (a0.size : Int)) = true := decide_eq_true c74
                                    by_cases c75 : x6_1.size + ((((wrap64 (x7_1 + t160)) : Int).toNat) - ((ji71) : Int).toNat) ≤ 9223372036854775807
                                    · rw [if_pos c75] at H
                                      have c75b0 := eq_true c75
                                      have c75b1 : decide (x6_1.size + ((((wrap64 (x7_1 + t160)) : Int).toNat) - ((ji71) : Int).toNat) ≤ 9223372036854775807) = true := decide_eq_true c75
                                      try have c75b2 : (9223372036854775807 < x6_1.size + ((((wrap64 (x7_1 + t160)) : Int).toNat) - ((ji71) : Int).toNat)) = False := eq_false (Nat.not_lt.2 c75)
                                      have H' := Aside0.mk H
                                      clear H
                                      go_wp2_with (first | ((with_reducible refine gate_callee (f := 54) rfl ?_); refine goesL_ (some 27) rfl rfl Tryd.func54 (by kernel_rfl) rfl #[.string (a0.extract (x7_1 : Int).toNat a0.size)] rfl (by (try simp only [List.map_toArray, List.map_cons, List.map_nil]); first | done | rfl | (simp only [List.length_drop, List.length_take]; rfl)) ?_; (with_reducible refine (flatironref05_step.calls (a0.extract (x7_1 : Int).toNat a0.size) t160 t161 true _ A68.out).mono ?_); rintro e w' ⟨rfl, ⟨nd, rfl⟩⟩; refine ⟨_, rfl, ?_⟩))
                                      go_roundg kj11
                                      case measure => have := HK1.out; have := HJ11.out; omega
                                      case rel => exact ⟨(x4_1), (1), (x6_1 ++ (a0.extract ((ji71) : Int).toNat ((wrap64 (x7_1 + t160)) : Int).toNat)), (wrap64 (x7_1 + t160)), (by first | rfl | (simp; done) | (simp [*]; done)), (by first | rfl | (simp; done) | (simp only [← hji71] <;> (first | rfl | simp)) | (simp [*]; done)), (by first | rfl | (simp; done) | (simp [*]; done)), H', ⟨by have := HK1.out; have := HJ11.out; omega⟩, ⟨by (with_reducible repeat (first | apply Kd.R_alloc | apply Kd.R_drewN | apply Kd.R_drew)); (first | exact HO_4.out | (first | refine Kd.R_mono HO_4.out (fun _ hk => ?_) | refine Kd.S_mono HO_4.out (fun _ hk => ?_) | refine Kd.Q_mono HO_4.out (fun _ hk => ?_)); simp only [ownBlock_slice] at hk ⊢; exact hk)⟩, ⟨by repeat (first | (with_reducible first | exact HB.out | apply below_alloc | apply pw_below_drewN | apply below_drew1) | exact HB.out)⟩⟩
                                    · rw [if_neg c75] at H
                                      exact absurd H (by simp)
                                  · rw [if_neg c74] at H
                                    exact absurd H (by simp)
                                · rw [if_neg c73] at H
                                  exact absurd H (by simp)
                              · rw [if_neg c72] at H
                                exact absurd H (by simp)
                            · rw [if_neg c70] at H
                              have c70b0 : (t161 == 1) = false := beq_eq_false_iff_ne.mpr c70
                              have c70b1 : (t161 != 1) = true := bne_iff_ne.mpr c70
                              have H' := Aside0.mk H
                              clear H
                              go_wp2_with (first | ((with_reducible refine gate_callee (f := 54) rfl ?_); refine goesL_ (some 27) rfl rfl Tryd.func54 (by kernel_rfl) rfl #[.string (a0.extract (x7_1 : Int).toNat a0.size)] rfl (by (try simp only [List.map_toArray, List.map_cons, List.map_nil]); first | done | rfl | (simp only [List.length_drop, List.length_take]; rfl)) ?_; (with_reducible refine (flatironref05_step.calls (a0.extract (x7_1 : Int).toNat a0.size) t160 t161 true _ A68.out).mono ?_); rintro e w' ⟨rfl, ⟨nd, rfl⟩⟩; refine ⟨_, rfl, ?_⟩))
                              go_roundg kj11
                              case measure => have := HK1.out; have := HJ11.out; omega
                              case rel => exact ⟨(x4_1), (t161), (x6_1), (wrap64 (x7_1 + t160)), (by first | rfl | (simp; done) | (simp [*]; done)), (by first | rfl | (simp; done) | (simp [*]; done)), (by first | rfl | (simp; done) | (simp [*]; done)), H', ⟨by have := HK1.out; have := HJ11.out; omega⟩, ⟨by (with_reducible repeat (first | apply Kd.R_alloc | apply Kd.R_drewN | apply Kd.R_drew)); (first | exact HO_4.out | (first | refine Kd.R_mono HO_4.out (fun _ hk => ?_) | refine Kd.S_mono HO_4.out (fun _ hk => ?_) | refine Kd.Q_mono HO_4.out (fun _ hk => ?_)); simp only [ownBlock_slice] at hk ⊢; exact hk)⟩, ⟨by repeat (first | (with_reducible first | exact HB.out | apply below_alloc | apply pw_below_drewN | apply below_drew1) | exact HB.out)⟩⟩
                          · replace c69 := Bool.eq_false_iff.mpr c69
                            subst c69
                            have H1 : (some (([] : List (S78)), false)) = some (r1, r2) := by rw [if_neg (show ¬ (false = true) by decide)] at H; exact H
                            clear H
                            have H := H1
                            clear H1
                            simp only [Option.some.injEq, Prod.mk.injEq] at H
                            obtain ⟨rfl, rfl⟩ := H
                            go_wp2_with (first | ((with_reducible refine gate_callee (f := 54) rfl ?_); refine goesL_ (some 27) rfl rfl Tryd.func54 (by kernel_rfl) rfl #[.string (a0.extract (x7_1 : Int).toNat a0.size)] rfl (by (try simp only [List.map_toArray, List.map_cons, List.map_nil]); first | done | rfl | (simp only [List.length_drop, List.length_take]; rfl)) ?_; (with_reducible refine (flatironref05_step.calls (a0.extract (x7_1 : Int).toNat a0.size) t160 t161 false _ A68.out).mono ?_); rintro e w' ⟨rfl, ⟨nd, rfl⟩⟩; refine ⟨_, rfl, ?_⟩))
                            go_ret2
                            exact ⟨_, by first | rfl | (simp [errW_none, errW_some] <;> rfl) | (simp [*, errW_none, errW_some] <;> rfl), by first | exact Kd.R_nil _ _ _ _ _ | exact Kd.N_nil _ _ _ _ _ | exact Kd.V_nil _ _ _ _ _ | exact Kd.Q_nil _ _ _ _ _ | exact Kd.S_nil _ _ _ _ _, by repeat (first | (with_reducible first | exact HB.out | apply below_alloc | apply pw_below_drewN | apply below_drew1) | exact HB.out)⟩
                        · rw [if_neg c67] at H
                          exact absurd H (by simp)
                      · rw [if_neg c66] at H
                        exact absurd H (by simp)
        · rw [if_neg c3] at H
          exact absurd H (by simp)
      · rw [if_neg c2] at H
        have c2b0 : decide (x7_1 < (a0.size : Int)) = false := decide_eq_false c2
        clear c2
        by_cases c76 : x5_1 > 1
        · rw [if_pos c76] at H
          have c76b0 : decide (1 < x5_1) = true := decide_eq_true c76
          clear c76
          simp only [Option.some.injEq, Prod.mk.injEq] at H
          obtain ⟨rfl, rfl⟩ := H
          go_wp2
          go_ret2
          exact ⟨_, by first | rfl | (simp [errW_none, errW_some] <;> rfl) | (simp [*, errW_none, errW_some] <;> rfl), by first | exact Kd.R_nil _ _ _ _ _ | exact Kd.N_nil _ _ _ _ _ | exact Kd.V_nil _ _ _ _ _ | exact Kd.Q_nil _ _ _ _ _ | exact Kd.S_nil _ _ _ _ _, by repeat (first | (with_reducible first | exact HB.out | apply below_alloc | apply pw_below_drewN | apply below_drew1) | exact HB.out)⟩
        · rw [if_neg c76] at H
          have c76b0 : decide (1 < x5_1) = false := decide_eq_false c76
          clear c76
          by_cases c77 : x5_1 = 1
          · rw [if_pos c77] at H
            have c77b0 : (x5_1 == 1) = true := beq_iff_eq.mpr c77
            have c77b1 : (x5_1 != 1) = false := bne_eq_false_iff_eq.mpr c77
            clear c77
            by_cases c78 : x4_1.length < 5864062014805
            · rw [if_pos c78] at H
              have LMc78 := Aside0.mk c78
              clear c78
              obtain ⟨y163, hy163⟩ : ∃ y_ : List (S78), y_ = (x4_1 ++ [(⟨0, x6_1⟩ : S78)]) := ⟨_, rfl⟩
              replace H : (some (y163, true)) = some (r1, r2) := by first | (rw [hy163]; with_reducible exact H) | (have H2_ := (Option.bind_some _ _).symm.trans H; rw [hy163]; with_reducible exact H2_) | (have H2_ := (Option.bind_some _ _).symm.trans H; with_reducible exact H2_) | with_reducible exact H | (rw [hy163]; exact H) | exact H
              have Ny163 := Aside0.mk hy163
              clear hy163
              simp only [Option.some.injEq, Prod.mk.injEq] at H
              obtain ⟨rfl, rfl⟩ := H
              go_wp2_with (first | ((with_reducible refine gate_builtin (b := .append) (xs := #[.tmp 155, .tmp 158]) rfl ?_); (try (refine gate_guard (by rfl) ?_; dsimp only)); at_builtin; refine Kd.R_append k78 (w0 := w) w.heap.size rfl (.tmp 155) (.tmp 158) 27 78 (.agg #[(.int .i64 0), (.string ⟨#[]⟩)]) 24 rfl Tryd.underlying27 info78 rfl (by decide) (by omega) u4 x4_1 (⟨0, x6_1⟩ : S78) [.int .i64 0, .string x6_1] (fun _ => True) (fun _ => False) rfl rfl ?aP (fun _ hk => hk.elim) ?aF ?aO ?aB ?aS ?aL ?_; (case aP => exact k78_mkM _ _ _ (⟨0, x6_1⟩ : S78)); (case aB => exact (by repeat (first | (with_reducible first | exact HB.out | apply below_alloc | apply pw_below_drewN | apply below_drew1) | exact HB.out))); (case aF => exact (fun _ _ => trivial)); (case aO => exact (by (with_reducible repeat (first | apply Kd.R_alloc | apply Kd.R_drewN | apply Kd.R_drew)); (first | exact HO_4.out | (first | refine Kd.R_mono HO_4.out (fun _ hk => ?_) | refine Kd.S_mono HO_4.out (fun _ hk => ?_) | refine Kd.Q_mono HO_4.out (fun _ hk => ?_)); simp only [ownBlock_slice] at hk ⊢; exact hk))); (case aS => exact (below_size (by repeat (first | (with_reducible first | exact HB.out | apply below_alloc | apply pw_below_drewN | apply below_drew1) | exact HB.out)))); (case aL => have := LMc78.out; omega); intro v164 w79 ho hb hg hat; rw [← Ny163.out] at ho; have n0_ := Aside0.mk (hb); have n1_ := Aside0.mk (ho); clear HB; clear HO_4; have HB := n0_; have HO165 := n1_; clear n0_ n1_; clear ho hb hg hat))
              go_ret2
              exact ⟨_, by first | rfl | (simp [errW_none, errW_some] <;> rfl) | (simp [*, errW_none, errW_some] <;> rfl), by (with_reducible repeat (first | apply Kd.R_alloc | apply Kd.R_drewN | apply Kd.R_drew)); exact HO165.out, by repeat (first | (with_reducible first | exact HB.out | apply below_alloc | apply pw_below_drewN | apply below_drew1) | exact HB.out)⟩
            · rw [if_neg c78] at H
              exact absurd H (by simp)
          · rw [if_neg c77] at H
            have c77b0 : (x5_1 == 1) = false := beq_eq_false_iff_ne.mpr c77
            have c77b1 : (x5_1 != 1) = true := bne_iff_ne.mpr c77
            simp only [Option.some.injEq, Prod.mk.injEq] at H
            obtain ⟨rfl, rfl⟩ := H
            go_wp2
            go_ret2
            exact ⟨_, by first | rfl | (simp [errW_none, errW_some] <;> rfl) | (simp [*, errW_none, errW_some] <;> rfl), by (with_reducible repeat (first | apply Kd.R_alloc | apply Kd.R_drewN | apply Kd.R_drew)); exact HO_4.out, by repeat (first | (with_reducible first | exact HB.out | apply below_alloc | apply pw_below_drewN | apply below_drew1) | exact HB.out)⟩

end Go.Proofs.YtgpabkdmagifjaaDoor.XW05
