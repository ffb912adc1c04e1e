/- Laid for this claim by the session's own program xprint.py, over the print of the kit: functions of the program as plain Lean functions, each with a proof that a call comes to what its function says, or the row of a law out of these; no condition of its own. -/
import Derived.Test.YtcadgnaejjgdnaaXW04x0
import Derived.Test.YtcadgnaejjgdnaaXW04x1
namespace Go.Proofs.Ytcadgnaejjgdnaa.XW04
open Go.Proofs.Ytcadgnaejjgdnaa.X Go.RowKit Go.Proofs.YtcadgnaejjgdnaaW.PrintWords Go.Proofs.YtcadgnaejjgdnaaW.PrintLast Go.Proofs.YtcadgnaejjgdnaaW.PrintMore
attribute [local go_sem] max2_int min2_int max_two min_two max_three min_three max_four min_four   -- for this text's walks alone
set_option linter.unusedVariables false
set_option linter.unusedSimpArgs false

/-! ### flatironref04_Cut: function 20 -/
mutual
def flatironref04_Cut.l0 : Nat → ByteArray → ByteArray → ByteArray → Int → Option (Int)
  | 0, _, _, _, _ => none
  | k + 1, x0, x1, x5, x6 => if x6 < (x0.size : Int) then (if 0 ≤ x6 then ((flatironref04_Has.f k x1 (bt x0 x6)).bind fun t118 => (if x5.toList = ([] : List UInt8) then (flatironref04_Cut.j1 k x0 x1 x5 x6 t118) else (flatironref04_Cut.j1 k x0 x1 x5 x6 false))) else (none)) else (some (-1))
def flatironref04_Cut.j1 : Nat → ByteArray → ByteArray → ByteArray → Int → Bool → Option (Int)
  | 0, _, _, _, _, _ => none
  | k + 1, x0, x1, x5, x6, x23 => if x23 = true then (some x6) else (if 0 ≤ x6 then (if x6 < (x0.size : Int) then (if (bt x0 x6) = 40 then (flatironref04_Cut.j2 k x0 x1 x5 x6 (bt x0 x6) ((bt x0 x6) == 40)) else (flatironref04_Cut.j2 k x0 x1 x5 x6 (bt x0 x6) ((bt x0 x6) == 123))) else (none)) else (none))
def flatironref04_Cut.j2 : Nat → ByteArray → ByteArray → ByteArray → Int → Int → Bool → Option (Int)
  | 0, _, _, _, _, _, _ => none
  | k + 1, x0, x1, x5, x6, x27, x28 => if x28 = true then (if 0 ≤ x6 then (if x6 ≤ (wrap64 (x6 + 1)) then (if (wrap64 (x6 + 1)) ≤ (x0.size : Int) then (if x5.size + (x0.extract (x6 : Int).toNat ((wrap64 (x6 + 1)) : Int).toNat).size ≤ 9223372036854775807 then (flatironref04_Cut.l0 k x0 x1 (x5 ++ (x0.extract (x6 : Int).toNat ((wrap64 (x6 + 1)) : Int).toNat)) (wrap64 (x6 + 1))) else (none)) else (none)) else (none)) else (none)) else (if x27 = 41 then (if x5.toList = ([] : List UInt8) then (flatironref04_Cut.l0 k x0 x1 x5 (wrap64 (x6 + 1))) else (if 0 ≤ (wrap64 ((x5.size : Int) - 1)) then (if (wrap64 ((x5.size : Int) - 1)) < (x5.size : Int) then (if (bt x5 (wrap64 ((x5.size : Int) - 1))) = 40 then (if (wrap64 ((x5.size : Int) - 1)) ≤ (x5.size : Int) then (flatironref04_Cut.l0 k x0 x1 (x5.extract 0 ((wrap64 ((x5.size : Int) - 1)) : Int).toNat) (wrap64 (x6 + 1))) else (none)) else (flatironref04_Cut.l0 k x0 x1 x5 (wrap64 (x6 + 1)))) else (none)) else (none))) else (if x27 = 125 then (if x5.toList = ([] : List UInt8) then (flatironref04_Cut.l0 k x0 x1 x5 (wrap64 (x6 + 1))) else (if 0 ≤ (wrap64 ((x5.size : Int) - 1)) then (if (wrap64 ((x5.size : Int) - 1)) < (x5.size : Int) then (if (bt x5 (wrap64 ((x5.size : Int) - 1))) = 123 then (if (wrap64 ((x5.size : Int) - 1)) ≤ (x5.size : Int) then (flatironref04_Cut.l0 k x0 x1 (x5.extract 0 ((wrap64 ((x5.size : Int) - 1)) : Int).toNat) (wrap64 (x6 + 1))) else (none)) else (flatironref04_Cut.l0 k x0 x1 x5 (wrap64 (x6 + 1)))) else (none)) else (none))) else (flatironref04_Cut.l0 k x0 x1 x5 (wrap64 (x6 + 1)))))
end
def flatironref04_Cut.f (k : Nat) (a0 : ByteArray) (a1 : ByteArray) : Option (Int) := flatironref04_Cut.l0 k a0 a1 (⟨#[]⟩ : ByteArray) 0
theorem flatironref04_Cut.mono_l : ∀ k, (∀ y0 y1 y2 y3, LeO (flatironref04_Cut.l0 k y0 y1 y2 y3) (flatironref04_Cut.l0 (k + 1) y0 y1 y2 y3)) ∧ (∀ y0 y1 y2 y3 y4, LeO (flatironref04_Cut.j1 k y0 y1 y2 y3 y4) (flatironref04_Cut.j1 (k + 1) y0 y1 y2 y3 y4)) ∧ (∀ y0 y1 y2 y3 y4 y5, LeO (flatironref04_Cut.j2 k y0 y1 y2 y3 y4 y5) (flatironref04_Cut.j2 (k + 1) y0 y1 y2 y3 y4 y5))
  | 0 => ⟨fun _ _ _ _ r h => by simp [flatironref04_Cut.l0] at h, fun _ _ _ _ _ r h => by simp [flatironref04_Cut.j1] at h, fun _ _ _ _ _ _ r h => by simp [flatironref04_Cut.j2] at h⟩
  | k + 1 => by
    obtain ⟨ih0, ih1, ih2⟩ := flatironref04_Cut.mono_l k
    refine ⟨?_, ?_, ?_⟩
    · intro y0 y1 y2 y3
      unfold flatironref04_Cut.l0
      repeat' first
      | (with_reducible exact ih0 _ _ _ _)
      | (with_reducible exact ih1 _ _ _ _ _)
      | (with_reducible exact ih2 _ _ _ _ _ _)
      | (with_reducible exact flatironref04_Has.mono _ _ _)
      | (with_reducible exact LeO.refl _)
      | (with_reducible exact LeO.none _)
      | (with_reducible refine LeO.ite ?_ ?_)
      | (with_reducible refine LeO.bind ?_ (fun _ => ?_))
      | exact ih0 _ _ _ _
      | exact ih1 _ _ _ _ _
      | exact ih2 _ _ _ _ _ _
      | exact flatironref04_Has.mono _ _ _
      | exact LeO.none _
      | refine LeO.ite ?_ ?_
      | refine LeO.bind ?_ (fun _ => ?_)
    · intro y0 y1 y2 y3 y4
      unfold flatironref04_Cut.j1
      repeat' first
      | (with_reducible exact ih0 _ _ _ _)
      | (with_reducible exact ih1 _ _ _ _ _)
      | (with_reducible exact ih2 _ _ _ _ _ _)
      | (with_reducible exact flatironref04_Has.mono _ _ _)
      | (with_reducible exact LeO.refl _)
      | (with_reducible exact LeO.none _)
      | (with_reducible refine LeO.ite ?_ ?_)
      | (with_reducible refine LeO.bind ?_ (fun _ => ?_))
      | exact ih0 _ _ _ _
      | exact ih1 _ _ _ _ _
      | exact ih2 _ _ _ _ _ _
      | exact flatironref04_Has.mono _ _ _
      | exact LeO.none _
      | refine LeO.ite ?_ ?_
      | refine LeO.bind ?_ (fun _ => ?_)
    · intro y0 y1 y2 y3 y4 y5
      unfold flatironref04_Cut.j2
      repeat' first
      | (with_reducible exact ih0 _ _ _ _)
      | (with_reducible exact ih1 _ _ _ _ _)
      | (with_reducible exact ih2 _ _ _ _ _ _)
      | (with_reducible exact flatironref04_Has.mono _ _ _)
      | (with_reducible exact LeO.refl _)
      | (with_reducible exact LeO.none _)
      | (with_reducible refine LeO.ite ?_ ?_)
      | (with_reducible refine LeO.bind ?_ (fun _ => ?_))
      | exact ih0 _ _ _ _
      | exact ih1 _ _ _ _ _
      | exact ih2 _ _ _ _ _ _
      | exact flatironref04_Has.mono _ _ _
      | exact LeO.none _
      | refine LeO.ite ?_ ?_
      | refine LeO.bind ?_ (fun _ => ?_)
theorem flatironref04_Cut.mono : ∀ a0 a1 k, LeO (flatironref04_Cut.f k a0 a1) (flatironref04_Cut.f (k + 1) a0 a1) := by
  intro a0 a1 k
  obtain ⟨ih0, ih1, ih2⟩ := flatironref04_Cut.mono_l k
  unfold flatironref04_Cut.f
  repeat' first
      | (with_reducible exact ih0 _ _ _ _)
      | (with_reducible exact ih1 _ _ _ _ _)
      | (with_reducible exact ih2 _ _ _ _ _ _)
      | (with_reducible exact flatironref04_Has.mono _ _ _)
      | (with_reducible exact LeO.refl _)
      | (with_reducible exact LeO.none _)
      | (with_reducible refine LeO.ite ?_ ?_)
      | (with_reducible refine LeO.bind ?_ (fun _ => ?_))
      | exact ih0 _ _ _ _
      | exact ih1 _ _ _ _ _
      | exact ih2 _ _ _ _ _ _
      | exact flatironref04_Has.mono _ _ _
      | exact LeO.none _
      | refine LeO.ite ?_ ?_
      | refine LeO.bind ?_ (fun _ => ?_)
set_option maxHeartbeats 8000000 in
set_option maxRecDepth 100000 in
theorem flatironref04_Cut.calls (k : Nat) (a0 : ByteArray) (a1 : ByteArray) (r : Int) (w : World) (h : flatironref04_Cut.f k a0 a1 = some r) :
    Calls Try.prog 20 #[.string a0, .string a1] w fun e w' => e = .returned (.int .i64 r) ∧ Drawn0 w w' := by
  have H : (flatironref04_Cut.l0 k a0 a1 (⟨#[]⟩ : ByteArray) 0) = some r := h
  clear h
  have H' := Aside0.mk H
  clear H
  go_enter Try.func20, Try.ntmps20
  go_wp2
  go_loopg [5, 6] k (fun kq v5 v6 w' => ∃ (x5_1 : ByteArray) (x6_1 : Int), v5 = .string x5_1 ∧ v6 = .int .i64 x6_1 ∧ Aside0 (flatironref04_Cut.l0 kq a0 a1 x5_1 x6_1 = some r) ∧ Aside0 (kq ≤ k) ∧ Drawn0 w w')
  case atStart => exact ⟨((⟨#[]⟩ : ByteArray)), (0), (by first | rfl | (simp; done) | (simp [*]; done)), (by first | rfl | (simp; done) | (simp [*]; done)), H', ⟨Nat.le_refl _⟩, by repeat (first | exact Drawn0.refl _ | apply Drawn0.step)⟩
  case round =>
    clear H'
    try clear c2
    try clear p2
    obtain ⟨x5_1, x6_1, rfl, rfl, HA, HK1, ⟨m1, rfl⟩⟩ := hrel
    cases gk with
    | zero => exact absurd HA.out (by simp [flatironref04_Cut.l0])
    | succ k1 =>
      have H := HA.out
      clear HA
      simp only [flatironref04_Cut.l0] at H
      by_cases c3 : x6_1 < (a0.size : Int)
      · rw [if_pos c3] at H
        have c3b0 : decide (x6_1 < (a0.size : Int)) = true := decide_eq_true c3
        clear c3
        by_cases c4 : 0 ≤ x6_1
        · rw [if_pos c4] at H
          have c4b0 : decide (0 ≤ x6_1) = true := decide_eq_true c4
          clear c4
          replace H := Option.bind_eq_some_iff.mp H
          obtain ⟨t118, A60, H⟩ := H
          replace H : (if x5_1.toList = ([] : List UInt8) then (flatironref04_Cut.j1 k1 a0 a1 x5_1 x6_1 t118) else (flatironref04_Cut.j1 k1 a0 a1 x5_1 x6_1 false)) = some r := H
          have A6 := Aside0.mk A60
          clear A60
          have HC7 := Aside0.mk H
          clear H
          have p5 : 0 ≤ (x6_1 : Int) := of_decide_eq_true (by first | (with_reducible assumption) | assumption)
          have q5 : x6_1 < (a0.size : Int) := of_decide_eq_true (by first | (with_reducible assumption) | assumption)
          have hx5 := bt_at a0 x6_1
          replace p5 := eq_true p5
          replace q5 := eq_true q5
          go_upto_region 6 with (first | ((with_reducible refine gate_callee (f := 55) rfl ?_); refine goesL_ (some 18) rfl rfl Try.func55 (by kernel_rfl) rfl #[.string a1, .int .u8 (bt a0 x6_1)] rfl (by (try simp only [List.map_toArray, List.map_cons, List.map_nil]); first | done | rfl | (simp only [List.length_drop, List.length_take]; rfl)) ?_; (with_reducible refine (flatironref04_Has.calls k1 a1 (bt a0 x6_1) t118 _ A6.out).mono ?_); rintro e w' ⟨rfl, ⟨nd, rfl⟩⟩; refine ⟨_, rfl, ?_⟩))
          (try simp only [Act.put, List.setIfInBounds_toArray, List.set_cons_zero, List.set_cons_succ])
          go_cut [23] (fun v23 wc => ∃ (kq : Nat) (x23_6 : Bool), v23 = .bool x23_6 ∧ Aside0 (flatironref04_Cut.j1 kq a0 a1 x5_1 x6_1 x23_6 = some r) ∧ Aside0 (kq ≤ k1) ∧ Drawn0 w wc)
          case first =>
            have H := HC7.out
            clear HC7
            by_cases c8 : x5_1.toList = ([] : List UInt8)
            · rw [if_pos c8] at H
              have c8b0 : (x5_1.toList == ([] : List UInt8)) = true := beq_iff_eq.mpr c8
              have c8b1 : (x5_1.toList != ([] : List UInt8)) = false := bne_eq_false_iff_eq.mpr c8
              clear c8
              (first | rw [c8b0] | (simp only [i64_w, i32_w]; rw [c8b0]) | skip)
              have H' := Aside0.mk H
              clear H
              go_wp2
              go_meet
              case rel => exact ⟨_, (t118), (by first | rfl | (simp; done) | (simp [*]; done)), H', ⟨by have := HK1.out; first | omega | exact Nat.le_refl _⟩, by repeat (first | exact Drawn0.refl _ | apply Drawn0.step)⟩
            · rw [if_neg c8] at H
              have c8b0 : (x5_1.toList == ([] : List UInt8)) = false := beq_eq_false_iff_ne.mpr c8
              have c8b1 : (x5_1.toList != ([] : List UInt8)) = true := bne_iff_ne.mpr c8
              (first | rw [c8b0] | (simp only [i64_w, i32_w]; rw [c8b0]) | skip)
              have H' := Aside0.mk H
              clear H
              go_wp2
              go_meet
              case rel => exact ⟨_, (false), (by first | rfl | (simp; done) | (simp [*]; done)), H', ⟨by have := HK1.out; first | omega | exact Nat.le_refl _⟩, by repeat (first | exact Drawn0.refl _ | apply Drawn0.step)⟩
          case rest =>
            clear HC7
            try clear c2
            try clear p2
            try clear c3
            try clear c3b0
            try clear c4
            try clear c4b0
            try clear c5
            try clear p5
            try clear q5
            try clear hx5
            try clear c8
            try clear c8b0
            try clear c8b1
            try clear p2
            try clear p5
            try clear q5
            obtain ⟨kq, x23_6, rfl, HA, HJ6, ⟨mc6, rfl⟩⟩ := hcut
            cases kq with
            | zero => exact absurd HA.out (by simp [flatironref04_Cut.j1])
            | succ kj6 =>
              have H := HA.out
              clear HA
              simp only [flatironref04_Cut.j1] at H
              by_cases c9 : x23_6 = true
              · subst c9
                have H1 : (some x6_1) = some r := by rw [if_pos rfl] at H; exact H
                clear H
                have H := H1
                clear H1
                obtain rfl := Option.some.inj H
                go_wp2
                go_ret
                exact ⟨by first | rfl | (simp; done) | (simp [*]; done), by repeat (first | exact Drawn0.refl _ | apply Drawn0.step)⟩
              · replace c9 := Bool.eq_false_iff.mpr c9
                subst c9
                have H1 : (if 0 ≤ x6_1 then (if x6_1 < (a0.size : Int) then (if (bt a0 x6_1) = 40 then (flatironref04_Cut.j2 kj6 a0 a1 x5_1 x6_1 (bt a0 x6_1) ((bt a0 x6_1) == 40)) else (flatironref04_Cut.j2 kj6 a0 a1 x5_1 x6_1 (bt a0 x6_1) ((bt a0 x6_1) == 123))) else (none)) else (none)) = some r := by rw [if_neg (show ¬ (false = true) by decide)] at H; exact H
                clear H
                have H := H1
                clear H1
                by_cases c10 : 0 ≤ x6_1
                · rw [if_pos c10] at H
                  have c10b0 : decide (0 ≤ x6_1) = true := decide_eq_true c10
                  clear c10
                  by_cases c11 : x6_1 < (a0.size : Int)
                  · rw [if_pos c11] at H
                    have c11b0 : decide (x6_1 < (a0.size : Int)) = true := decide_eq_true c11
                    clear c11
                    have HC13 := Aside0.mk H
                    clear H
                    have p12 : 0 ≤ (x6_1 : Int) := of_decide_eq_true (by first | (with_reducible assumption) | assumption)
                    have q12 : x6_1 < (a0.size : Int) := of_decide_eq_true (by first | (with_reducible assumption) | assumption)
                    have hx12 := bt_at a0 x6_1
                    replace p12 := eq_true p12
                    replace q12 := eq_true q12
                    go_upto_if 28 with (fail)
                    go_cut [28] (fun v28 wc => ∃ (kq : Nat) (x28_12 : Bool), v28 = .bool x28_12 ∧ Aside0 (flatironref04_Cut.j2 kq a0 a1 x5_1 x6_1 (bt a0 x6_1) x28_12 = some r) ∧ Aside0 (kq ≤ kj6) ∧ Drawn0 w wc)
                    case first =>
                      have H := HC13.out
                      clear HC13
                      by_cases c14 : (bt a0 x6_1) = 40
                      · rw [if_pos c14] at H
                        have c14b0 : ((bt a0 x6_1) == 40) = true := beq_iff_eq.mpr c14
                        have c14b1 : ((bt a0 x6_1) != 40) = false := bne_eq_false_iff_eq.mpr c14
                        clear c14
                        (first | rw [c14b0] | (simp only [i64_w, i32_w]; rw [c14b0]) | skip)
                        have H' := Aside0.mk H
                        clear H
                        go_wp2
                        go_meet
                        case rel => exact ⟨_, (((bt a0 x6_1) == 40)), (by first | rfl | (simp; done) | (simp [*]; done)), H', ⟨by have := HK1.out; have := HJ6.out; first | omega | exact Nat.le_refl _⟩, by repeat (first | exact Drawn0.refl _ | apply Drawn0.step)⟩
                      · rw [if_neg c14] at H
                        have c14b0 : ((bt a0 x6_1) == 40) = false := beq_eq_false_iff_ne.mpr c14
                        have c14b1 : ((bt a0 x6_1) != 40) = true := bne_iff_ne.mpr c14
                        (first | rw [c14b0] | (simp only [i64_w, i32_w]; rw [c14b0]) | skip)
                        have H' := Aside0.mk H
                        clear H
                        go_wp2
                        go_meet
                        case rel => exact ⟨_, (((bt a0 x6_1) == 123)), (by first | rfl | (simp; done) | (simp [*]; done)), H', ⟨by have := HK1.out; have := HJ6.out; first | omega | exact Nat.le_refl _⟩, by repeat (first | exact Drawn0.refl _ | apply Drawn0.step)⟩
                    case rest =>
                      clear HC13
                      try clear c1
                      try clear p1
                      try clear q1
                      try clear hx1
                      try clear c2
                      try clear p2
                      try clear c3
                      try clear c3b0
                      try clear c4
                      try clear c4b0
                      try clear c5
                      try clear p5
                      try clear q5
                      try clear hx5
                      try clear c6
                      try clear c8
                      try clear c8b0
                      try clear c8b1
                      try clear c9
                      try clear c10
                      try clear c10b0
                      try clear c11
                      try clear c11b0
                      try clear p12
                      try clear q12
                      try clear hx12
                      try clear c14
                      try clear c14b0
                      try clear c14b1
                      try clear p12
                      try clear p2
                      try clear p5
                      try clear q12
                      try clear q5
                      obtain ⟨kq, x28_12, rfl, HA, HJ12, ⟨mc12, rfl⟩⟩ := hcut
                      cases kq with
                      | zero => exact absurd HA.out (by simp [flatironref04_Cut.j2])
                      | succ kj12 =>
                        have H := HA.out
                        clear HA
                        simp only [flatironref04_Cut.j2] at H
                        by_cases c15 : x28_12 = true
                        · subst c15
                          have H1 : (if 0 ≤ x6_1 then (if x6_1 ≤ (wrap64 (x6_1 + 1)) then (if (wrap64 (x6_1 + 1)) ≤ (a0.size : Int) then (if x5_1.size + (a0.extract (x6_1 : Int).toNat ((wrap64 (x6_1 + 1)) : Int).toNat).size ≤ 9223372036854775807 then (flatironref04_Cut.l0 kj12 a0 a1 (x5_1 ++ (a0.extract (x6_1 : Int).toNat ((wrap64 (x6_1 + 1)) : Int).toNat)) (wrap64 (x6_1 + 1))) else (none)) else (none)) else (none)) else (none)) = some r := by rw [if_pos rfl] at H; exact H
                          clear H
                          have H := H1
                          clear H1
                          by_cases c16 : 0 ≤ x6_1
                          · rw [if_pos c16] at H
                            have c16b0 := eq_true c16
                            have c16b1 : decide (0 ≤ x6_1) = true := decide_eq_true c16
                            clear c16
                            by_cases c17 : x6_1 ≤ (wrap64 (x6_1 + 1))
                            · rw [if_pos c17] at H
                              have c17b0 := eq_true c17
                              have c17b1 : decide (x6_1 ≤ (wrap64 (x6_1 + 1))) = true := decide_eq_true c17
                              by_cases c18 : (wrap64 (x6_1 + 1)) ≤ (a0.size : Int)
                              · rw [if_pos c18] at H
                                have c18b0 := eq_true c18
                                have c18b1 : decide ((wrap64 (x6_1 + 1)) ≤ (a0.size : Int)) = true := decide_eq_true c18
                                by_cases c19 : x5_1.size + (a0.extract (x6_1 : Int).toNat ((wrap64 (x6_1 + 1)) : Int).toNat).size ≤ 9223372036854775807
                                · rw [if_pos c19] at H
                                  have c19b0 := eq_true c19
                                  have c19b1 : decide (x5_1.size + (a0.extract (x6_1 : Int).toNat ((wrap64 (x6_1 + 1)) : Int).toNat).size ≤ 9223372036854775807) = true := decide_eq_true c19
                                  try have c19b2 : (9223372036854775807 < x5_1.size + (a0.extract (x6_1 : Int).toNat ((wrap64 (x6_1 + 1)) : Int).toNat).size) = False := eq_false (Nat.not_lt.2 c19)
                                  have H' := Aside0.mk H
                                  clear H
                                  go_wp2
                                  go_roundg kj12
                                  case measure => have := HK1.out; have := HJ6.out; have := HJ12.out; omega
                                  case rel => exact ⟨(x5_1 ++ (a0.extract (x6_1 : Int).toNat ((wrap64 (x6_1 + 1)) : Int).toNat)), (wrap64 (x6_1 + 1)), (by first | rfl | (simp; done) | (simp [*]; done)), (by first | rfl | (simp; done) | (simp [*]; done)), H', ⟨by have := HK1.out; have := HJ6.out; have := HJ12.out; omega⟩, by repeat (first | exact Drawn0.refl _ | apply Drawn0.step)⟩
                                · rw [if_neg c19] at H
                                  exact absurd H (by simp)
                              · rw [if_neg c18] at H
                                exact absurd H (by simp)
                            · rw [if_neg c17] at H
                              exact absurd H (by simp)
                          · rw [if_neg c16] at H
                            exact absurd H (by simp)
                        · replace c15 := Bool.eq_false_iff.mpr c15
                          subst c15
                          have H1 : (if (bt a0 x6_1) = 41 then (if x5_1.toList = ([] : List UInt8) then (flatironref04_Cut.l0 kj12 a0 a1 x5_1 (wrap64 (x6_1 + 1))) else (if 0 ≤ (wrap64 ((x5_1.size : Int) - 1)) then (if (wrap64 ((x5_1.size : Int) - 1)) < (x5_1.size : Int) then (if (bt x5_1 (wrap64 ((x5_1.size : Int) - 1))) = 40 then (if (wrap64 ((x5_1.size : Int) - 1)) ≤ (x5_1.size : Int) then (flatironref04_Cut.l0 kj12 a0 a1 (x5_1.extract 0 ((wrap64 ((x5_1.size : Int) - 1)) : Int).toNat) (wrap64 (x6_1 + 1))) else (none)) else (flatironref04_Cut.l0 kj12 a0 a1 x5_1 (wrap64 (x6_1 + 1)))) else (none)) else (none))) else (if (bt a0 x6_1) = 125 then (if x5_1.toList = ([] : List UInt8) then (flatironref04_Cut.l0 kj12 a0 a1 x5_1 (wrap64 (x6_1 + 1))) else (if 0 ≤ (wrap64 ((x5_1.size : Int) - 1)) then (if (wrap64 ((x5_1.size : Int) - 1)) < (x5_1.size : Int) then (if (bt x5_1 (wrap64 ((x5_1.size : Int) - 1))) = 123 then (if (wrap64 ((x5_1.size : Int) - 1)) ≤ (x5_1.size : Int) then (flatironref04_Cut.l0 kj12 a0 a1 (x5_1.extract 0 ((wrap64 ((x5_1.size : Int) - 1)) : Int).toNat) (wrap64 (x6_1 + 1))) else (none)) else (flatironref04_Cut.l0 kj12 a0 a1 x5_1 (wrap64 (x6_1 + 1)))) else (none)) else (none))) else (flatironref04_Cut.l0 kj12 a0 a1 x5_1 (wrap64 (x6_1 + 1))))) = some r := by rw [if_neg (show ¬ (false = true) by decide)] at H; exact H
                          clear H
                          have H := H1
                          clear H1
                          by_cases c20 : (bt a0 x6_1) = 41
                          · rw [if_pos c20] at H
                            have c20b0 : ((bt a0 x6_1) == 41) = true := beq_iff_eq.mpr c20
                            have c20b1 : ((bt a0 x6_1) != 41) = false := bne_eq_false_iff_eq.mpr c20
                            clear c20
                            by_cases c21 : x5_1.toList = ([] : List UInt8)
                            · rw [if_pos c21] at H
                              have c21b0 : (x5_1.toList == ([] : List UInt8)) = true := beq_iff_eq.mpr c21
                              have c21b1 : (x5_1.toList != ([] : List UInt8)) = false := bne_eq_false_iff_eq.mpr c21
                              clear c21
                              have H' := Aside0.mk H
                              clear H
                              go_wp2
                              go_roundg kj12
                              case measure => have := HK1.out; have := HJ6.out; have := HJ12.out; omega
                              case rel => exact ⟨(x5_1), (wrap64 (x6_1 + 1)), (by first | rfl | (simp; done) | (simp [*]; done)), (by first | rfl | (simp; done) | (simp [*]; done)), H', ⟨by have := HK1.out; have := HJ6.out; have := HJ12.out; omega⟩, by repeat (first | exact Drawn0.refl _ | apply Drawn0.step)⟩
                            · rw [if_neg c21] at H
                              have c21b0 : (x5_1.toList == ([] : List UInt8)) = false := beq_eq_false_iff_ne.mpr c21
                              have c21b1 : (x5_1.toList != ([] : List UInt8)) = true := bne_iff_ne.mpr c21
                              obtain ⟨ji22, hji22⟩ : ∃ j_ : Int, (wrap64 ((x5_1.size : Int) - 1)) = j_ := ⟨_, rfl⟩
                              replace H : (if 0 ≤ (ji22) then (if (ji22) < (x5_1.size : Int) then (if (bt x5_1 (ji22)) = 40 then (if (ji22) ≤ (x5_1.size : Int) then (flatironref04_Cut.l0 kj12 a0 a1 (x5_1.extract 0 ((ji22) : Int).toNat) (wrap64 (x6_1 + 1))) else (none)) else (flatironref04_Cut.l0 kj12 a0 a1 x5_1 (wrap64 (x6_1 + 1)))) else (none)) else (none)) = some r := by first | (rw [hji22] at H; exact H) | (simp only [hji22] at H ⊢; exact H)
                              have hji22w : (IntKind.i64.wrap ((x5_1.size : Int) - 1)) = ji22 := (i64_w _).trans hji22
                              by_cases c23 : 0 ≤ (ji22)
                              · rw [if_pos c23] at H
                                have c23b0 : decide (0 ≤ (ji22)) = true := decide_eq_true c23
                                clear c23
                                by_cases c24 : (ji22) < (x5_1.size : Int)
                                · rw [if_pos c24] at H
                                  have c24b0 : decide ((ji22) < (x5_1.size : Int)) = true := decide_eq_true c24
                                  clear c24
                                  by_cases c26 : (bt x5_1 (ji22)) = 40
                                  · rw [if_pos c26] at H
                                    have c26b0 : ((bt x5_1 (ji22)) == 40) = true := beq_iff_eq.mpr c26
                                    have c26b1 : ((bt x5_1 (ji22)) != 40) = false := bne_eq_false_iff_eq.mpr c26
                                    clear c26
                                    have c27b0 := eq_true (of_decide_eq_true (by first | (with_reducible assumption) | assumption) : 0 ≤ (ji22))
                                    by_cases c28 : (ji22) ≤ (x5_1.size : Int)
                                    · rw [if_pos c28] at H
                                      have c28b0 := eq_true c28
                                      have c28b1 : decide ((ji22) ≤ (x5_1.size : Int)) = true := decide_eq_true c28
                                      clear c28
                                      have H' := Aside0.mk H
                                      clear H
                                      have p25 : 0 ≤ ((ji22) : Int) := of_decide_eq_true (by first | (with_reducible assumption) | assumption)
                                      have q25 : (ji22) < (x5_1.size : Int) := of_decide_eq_true (by first | (with_reducible assumption) | assumption)
                                      have hx25 := bt_at x5_1 (ji22)
                                      replace p25 := eq_true p25
                                      replace q25 := eq_true q25
                                      go_wp2
                                      go_roundg kj12
                                      case measure => have := HK1.out; have := HJ6.out; have := HJ12.out; omega
                                      case rel => exact ⟨(x5_1.extract 0 ((ji22) : Int).toNat), (wrap64 (x6_1 + 1)), (by first | rfl | (simp; done) | (simp only [← hji22] <;> (first | rfl | simp)) | (simp [*]; done)), (by first | rfl | (simp; done) | (simp [*]; done)), H', ⟨by have := HK1.out; have := HJ6.out; have := HJ12.out; omega⟩, by repeat (first | exact Drawn0.refl _ | apply Drawn0.step)⟩
                                    · rw [if_neg c28] at H
                                      exact absurd H (by simp)
                                  · rw [if_neg c26] at H
                                    have c26b0 : ((bt x5_1 (ji22)) == 40) = false := beq_eq_false_iff_ne.mpr c26
                                    have c26b1 : ((bt x5_1 (ji22)) != 40) = true := bne_iff_ne.mpr c26
                                    have H' := Aside0.mk H
                                    clear H
                                    have p25 : 0 ≤ ((ji22) : Int) := of_decide_eq_true (by first | (with_reducible assumption) | assumption)
                                    have q25 : (ji22) < (x5_1.size : Int) := of_decide_eq_true (by first | (with_reducible assumption) | assumption)
                                    have hx25 := bt_at x5_1 (ji22)
                                    replace p25 := eq_true p25
                                    replace q25 := eq_true q25
                                    go_wp2
                                    go_roundg kj12
                                    case measure => have := HK1.out; have := HJ6.out; have := HJ12.out; omega
                                    case rel => exact ⟨(x5_1), (wrap64 (x6_1 + 1)), (by first | rfl | (simp; done) | (simp [*]; done)), (by first | rfl | (simp; done) | (simp [*]; done)), H', ⟨by have := HK1.out; have := HJ6.out; have := HJ12.out; omega⟩, by repeat (first | exact Drawn0.refl _ | apply Drawn0.step)⟩
                                · rw [if_neg c24] at H
                                  exact absurd H (by simp)
                              · rw [if_neg c23] at H
                                exact absurd H (by simp)
                          · rw [if_neg c20] at H
                            have c20b0 : ((bt a0 x6_1) == 41) = false := beq_eq_false_iff_ne.mpr c20
                            have c20b1 : ((bt a0 x6_1) != 41) = true := bne_iff_ne.mpr c20
                            by_cases c29 : (bt a0 x6_1) = 125
                            · rw [if_pos c29] at H
                              have c29b0 : ((bt a0 x6_1) == 125) = true := beq_iff_eq.mpr c29
                              have c29b1 : ((bt a0 x6_1) != 125) = false := bne_eq_false_iff_eq.mpr c29
                              clear c29
                              by_cases c30 : x5_1.toList = ([] : List UInt8)
                              · rw [if_pos c30] at H
                                have c30b0 : (x5_1.toList == ([] : List UInt8)) = true := beq_iff_eq.mpr c30
                                have c30b1 : (x5_1.toList != ([] : List UInt8)) = false := bne_eq_false_iff_eq.mpr c30
                                clear c30
                                have H' := Aside0.mk H
                                clear H
                                go_wp2
                                go_roundg kj12
                                case measure => have := HK1.out; have := HJ6.out; have := HJ12.out; omega
                                case rel => exact ⟨(x5_1), (wrap64 (x6_1 + 1)), (by first | rfl | (simp; done) | (simp [*]; done)), (by first | rfl | (simp; done) | (simp [*]; done)), H', ⟨by have := HK1.out; have := HJ6.out; have := HJ12.out; omega⟩, by repeat (first | exact Drawn0.refl _ | apply Drawn0.step)⟩
                              · rw [if_neg c30] at H
                                have c30b0 : (x5_1.toList == ([] : List UInt8)) = false := beq_eq_false_iff_ne.mpr c30
                                have c30b1 : (x5_1.toList != ([] : List UInt8)) = true := bne_iff_ne.mpr c30
                                obtain ⟨ji31, hji31⟩ : ∃ j_ : Int, (wrap64 ((x5_1.size : Int) - 1)) = j_ := ⟨_, rfl⟩
                                replace H : (if 0 ≤ (ji31) then (if (ji31) < (x5_1.size : Int) then (if (bt x5_1 (ji31)) = 123 then (if (ji31) ≤ (x5_1.size : Int) then (flatironref04_Cut.l0 kj12 a0 a1 (x5_1.extract 0 ((ji31) : Int).toNat) (wrap64 (x6_1 + 1))) else (none)) else (flatironref04_Cut.l0 kj12 a0 a1 x5_1 (wrap64 (x6_1 + 1)))) else (none)) else (none)) = some r := by first | (rw [hji31] at H; exact H) | (simp only [hji31] at H ⊢; exact H)
                                have hji31w : (IntKind.i64.wrap ((x5_1.size : Int) - 1)) = ji31 := (i64_w _).trans hji31
                                by_cases c32 : 0 ≤ (ji31)
                                · rw [if_pos c32] at H
                                  have c32b0 : decide (0 ≤ (ji31)) = true := decide_eq_true c32
                                  clear c32
                                  by_cases c33 : (ji31) < (x5_1.size : Int)
                                  · rw [if_pos c33] at H
                                    have c33b0 : decide ((ji31) < (x5_1.size : Int)) = true := decide_eq_true c33
                                    clear c33
                                    by_cases c35 : (bt x5_1 (ji31)) = 123
                                    · rw [if_pos c35] at H
                                      have c35b0 : ((bt x5_1 (ji31)) == 123) = true := beq_iff_eq.mpr c35
                                      have c35b1 : ((bt x5_1 (ji31)) != 123) = false := bne_eq_false_iff_eq.mpr c35
                                      clear c35
                                      have c36b0 := eq_true (of_decide_eq_true (by first | (with_reducible assumption) | assumption) : 0 ≤ (ji31))
                                      by_cases c37 : (ji31) ≤ (x5_1.size : Int)
                                      · rw [if_pos c37] at H
                                        have c37b0 := eq_true c37
                                        have c37b1 : decide ((ji31) ≤ (x5_1.size : Int)) = true := decide_eq_true c37
                                        clear c37
                                        have H' := Aside0.mk H
                                        clear H
                                        have p34 : 0 ≤ ((ji31) : Int) := of_decide_eq_true (by first | (with_reducible assumption) | assumption)
                                        have q34 : (ji31) < (x5_1.size : Int) := of_decide_eq_true (by first | (with_reducible assumption) | assumption)
                                        have hx34 := bt_at x5_1 (ji31)
                                        replace p34 := eq_true p34
                                        replace q34 := eq_true q34
                                        go_wp2
                                        go_roundg kj12
                                        case measure => have := HK1.out; have := HJ6.out; have := HJ12.out; omega
                                        case rel => exact ⟨(x5_1.extract 0 ((ji31) : Int).toNat), (wrap64 (x6_1 + 1)), (by first | rfl | (simp; done) | (simp only [← hji31] <;> (first | rfl | simp)) | (simp [*]; done)), (by first | rfl | (simp; done) | (simp [*]; done)), H', ⟨by have := HK1.out; have := HJ6.out; have := HJ12.out; omega⟩, by repeat (first | exact Drawn0.refl _ | apply Drawn0.step)⟩
                                      · rw [if_neg c37] at H
                                        exact absurd H (by simp)
                                    · rw [if_neg c35] at H
                                      have c35b0 : ((bt x5_1 (ji31)) == 123) = false := beq_eq_false_iff_ne.mpr c35
                                      have c35b1 : ((bt x5_1 (ji31)) != 123) = true := bne_iff_ne.mpr c35
                                      have H' := Aside0.mk H
                                      clear H
                                      have p34 : 0 ≤ ((ji31) : Int) := of_decide_eq_true (by first | (with_reducible assumption) | assumption)
                                      have q34 : (ji31) < (x5_1.size : Int) := of_decide_eq_true (by first | (with_reducible assumption) | assumption)
                                      have hx34 := bt_at x5_1 (ji31)
                                      replace p34 := eq_true p34
                                      replace q34 := eq_true q34
                                      go_wp2
                                      go_roundg kj12
                                      case measure => have := HK1.out; have := HJ6.out; have := HJ12.out; omega
                                      case rel => exact ⟨(x5_1), (wrap64 (x6_1 + 1)), (by first | rfl | (simp; done) | (simp [*]; done)), (by first | rfl | (simp; done) | (simp [*]; done)), H', ⟨by have := HK1.out; have := HJ6.out; have := HJ12.out; omega⟩, by repeat (first | exact Drawn0.refl _ | apply Drawn0.step)⟩
                                  · rw [if_neg c33] at H
                                    exact absurd H (by simp)
                                · rw [if_neg c32] at H
                                  exact absurd H (by simp)
                            · rw [if_neg c29] at H
                              have c29b0 : ((bt a0 x6_1) == 125) = false := beq_eq_false_iff_ne.mpr c29
                              have c29b1 : ((bt a0 x6_1) != 125) = true := bne_iff_ne.mpr c29
                              have H' := Aside0.mk H
                              clear H
                              go_wp2
                              go_roundg kj12
                              case measure => have := HK1.out; have := HJ6.out; have := HJ12.out; omega
                              case rel => exact ⟨(x5_1), (wrap64 (x6_1 + 1)), (by first | rfl | (simp; done) | (simp [*]; done)), (by first | rfl | (simp; done) | (simp [*]; done)), H', ⟨by have := HK1.out; have := HJ6.out; have := HJ12.out; omega⟩, by repeat (first | exact Drawn0.refl _ | apply Drawn0.step)⟩
                  · rw [if_neg c11] at H
                    exact absurd H (by simp)
                · rw [if_neg c10] at H
                  exact absurd H (by simp)
        · rw [if_neg c4] at H
          exact absurd H (by simp)
      · rw [if_neg c3] at H
        have c3b0 : decide (x6_1 < (a0.size : Int)) = false := decide_eq_false c3
        clear c3
        obtain rfl := Option.some.inj H
        go_wp2
        go_ret
        exact ⟨by first | rfl | (simp; done) | (simp [*]; done), by repeat (first | exact Drawn0.refl _ | apply Drawn0.step)⟩

/-! ### flatironlaw04_WordsCut: function 5 -/
def flatironlaw04_WordsCut.j0 : Nat → ByteArray → ByteArray → Bool → Option (Bool)
  | 0, _, _, _ => none
  | k + 1, x0, x1, x20 => if x20 = true then ((flatironlaw04_lives.f k).bind fun t120 => (some t120)) else ((words_Cut.f k x0 x1).bind fun bt121 => ((flatironref04_Cut.f k x0 x1).bind fun t124 => (if t124 < 0 then (if bt121.1.toList = x0.toList then (if bt121.2.1 = 0 then (some (bt121.2.2.toList == ([] : List UInt8))) else (some false)) else (some false)) else (if 0 ≤ t124 then (if t124 ≤ (x0.size : Int) then (if bt121.1.toList = (x0.extract 0 (t124 : Int).toNat).toList then (if t124 < (x0.size : Int) then (if bt121.2.1 = (bt x0 t124) then (if 0 ≤ (wrap64 (t124 + 1)) then (if (wrap64 (t124 + 1)) ≤ (x0.size : Int) then (some (bt121.2.2.toList == (x0.extract ((wrap64 (t124 + 1)) : Int).toNat x0.size).toList)) else (none)) else (none)) else (some false)) else (none)) else (some false)) else (none)) else (none)))))
def flatironlaw04_WordsCut.f (k : Nat) (a0 : ByteArray) (a1 : ByteArray) : Option (Bool) := (flatironlaw04_lives.f k).bind fun t119 => (if t119 = true then (if (a0.size : Int) > 2000 then (flatironlaw04_WordsCut.j0 k a0 a1 true) else (flatironlaw04_WordsCut.j0 k a0 a1 (decide ((a1.size : Int) > 20)))) else (flatironlaw04_WordsCut.j0 k a0 a1 true))
theorem flatironlaw04_WordsCut.mono_l : ∀ k, (∀ y0 y1 y2, LeO (flatironlaw04_WordsCut.j0 k y0 y1 y2) (flatironlaw04_WordsCut.j0 (k + 1) y0 y1 y2))
  | 0 => fun _ _ _ r h => by simp [flatironlaw04_WordsCut.j0] at h
  | k + 1 => by
    have ih0 := flatironlaw04_WordsCut.mono_l k
    · intro y0 y1 y2
      unfold flatironlaw04_WordsCut.j0
      repeat' first
      | (with_reducible exact ih0 _ _ _)
      | (with_reducible exact flatironlaw04_lives.mono _)
      | (with_reducible exact flatironref04_Cut.mono _ _ _)
      | (with_reducible exact words_Cut.mono _ _ _)
      | (with_reducible exact LeO.refl _)
      | (with_reducible exact LeO.none _)
      | (with_reducible refine LeO.ite ?_ ?_)
      | (with_reducible refine LeO.bind ?_ (fun _ => ?_))
      | exact ih0 _ _ _
      | exact flatironlaw04_lives.mono _
      | exact flatironref04_Cut.mono _ _ _
      | exact words_Cut.mono _ _ _
      | exact LeO.none _
      | refine LeO.ite ?_ ?_
      | refine LeO.bind ?_ (fun _ => ?_)
theorem flatironlaw04_WordsCut.mono : ∀ a0 a1 k, LeO (flatironlaw04_WordsCut.f k a0 a1) (flatironlaw04_WordsCut.f (k + 1) a0 a1) := by
  intro a0 a1 k
  have ih0 := flatironlaw04_WordsCut.mono_l k
  unfold flatironlaw04_WordsCut.f
  repeat' first
      | (with_reducible exact ih0 _ _ _)
      | (with_reducible exact flatironlaw04_lives.mono _)
      | (with_reducible exact flatironref04_Cut.mono _ _ _)
      | (with_reducible exact words_Cut.mono _ _ _)
      | (with_reducible exact LeO.refl _)
      | (with_reducible exact LeO.none _)
      | (with_reducible refine LeO.ite ?_ ?_)
      | (with_reducible refine LeO.bind ?_ (fun _ => ?_))
      | exact ih0 _ _ _
      | exact flatironlaw04_lives.mono _
      | exact flatironref04_Cut.mono _ _ _
      | exact words_Cut.mono _ _ _
      | exact LeO.none _
      | refine LeO.ite ?_ ?_
      | refine LeO.bind ?_ (fun _ => ?_)
set_option maxHeartbeats 8000000 in
set_option maxRecDepth 100000 in
theorem flatironlaw04_WordsCut.calls (k : Nat) (a0 : ByteArray) (a1 : ByteArray) (r : Bool) (w : World) (h : flatironlaw04_WordsCut.f k a0 a1 = some r) :
    Calls Try.prog 5 #[.string a0, .string a1] w fun e w' => e = .returned (.bool r) ∧ Below w.heap.size w w' := by
  have HB := Aside0.mk (Below.refl w.heap.size w)
  have H : ((flatironlaw04_lives.f k).bind fun t119 => (if t119 = true then (if (a0.size : Int) > 2000 then (flatironlaw04_WordsCut.j0 k a0 a1 true) else (flatironlaw04_WordsCut.j0 k a0 a1 (decide ((a1.size : Int) > 20)))) else (flatironlaw04_WordsCut.j0 k a0 a1 true))) = some r := h
  clear h
  have HC3 := Aside0.mk H
  clear H
  go_enter Try.func5, Try.ntmps5
  go_upto_region 1 with (fail)
  go_cut [20] (fun v20 wc => ∃ (kq : Nat) (x20_2 : Bool), v20 = .bool x20_2 ∧ Aside0 (flatironlaw04_WordsCut.j0 kq a0 a1 x20_2 = some r) ∧ Aside0 (kq ≤ k) ∧ Aside0 (Below w.heap.size w wc))
  case first =>
    have H := HC3.out
    clear HC3
    replace H := Option.bind_eq_some_iff.mp H
    obtain ⟨t119, A40, H⟩ := H
    replace H : (if t119 = true then (if (a0.size : Int) > 2000 then (flatironlaw04_WordsCut.j0 k a0 a1 true) else (flatironlaw04_WordsCut.j0 k a0 a1 (decide ((a1.size : Int) > 20)))) else (flatironlaw04_WordsCut.j0 k a0 a1 true)) = some r := H
    have A4 := Aside0.mk A40
    clear A40
    by_cases c5 : t119 = true
    · subst c5
      have H1 : (if (a0.size : Int) > 2000 then (flatironlaw04_WordsCut.j0 k a0 a1 true) else (flatironlaw04_WordsCut.j0 k a0 a1 (decide ((a1.size : Int) > 20)))) = some r := by rw [if_pos rfl] at H; exact H
      clear H
      have H := H1
      clear H1
      by_cases c6 : (a0.size : Int) > 2000
      · rw [if_pos c6] at H
        have c6b0 : decide (2000 < (a0.size : Int)) = true := decide_eq_true c6
        have c6b1 : decide (2000 < a0.size) = true := decide_eq_true (by omega)
        clear c6
        (first | rw [c6b0] | (simp only [i64_w, i32_w]; rw [c6b0]) | skip)
        have H' := Aside0.mk H
        clear H
        go_wp2_with (first | ((with_reducible refine gate_callee (f := 18) rfl ?_); refine goesL_ (some 9) rfl rfl Try.func18 (by kernel_rfl) rfl #[] rfl (by (try simp only [List.map_toArray, List.map_cons, List.map_nil]); first | done | rfl | (simp only [List.length_drop, List.length_take]; rfl)) ?_; (with_reducible refine (flatironlaw04_lives.calls k  true _ A4.out).mono ?_); rintro e w7 ⟨rfl, hb⟩; refine ⟨_, rfl, ?_⟩; have n0_ := Aside0.mk (below_step (by repeat (first | (with_reducible first | exact HB.out | apply below_alloc | apply pw_below_drewN | apply below_drew1) | exact HB.out)) hb); clear HB; have HB := n0_; clear n0_; (try clear hb); (try clear hb2); (try clear hk); (try clear hi)))
        go_meet
        case rel => exact ⟨_, (true), (by first | rfl | (simp; done) | (simp [*]; done)), H', ⟨by first | omega | exact Nat.le_refl _⟩, ⟨by repeat (first | (with_reducible first | exact HB.out | apply below_alloc | apply pw_below_drewN | apply below_drew1) | exact HB.out)⟩⟩
      · rw [if_neg c6] at H
        have c6b0 : decide (2000 < (a0.size : Int)) = false := decide_eq_false c6
        have c6b1 : decide (2000 < a0.size) = false := decide_eq_false (by omega)
        clear c6
        (first | rw [c6b0] | (simp only [i64_w, i32_w]; rw [c6b0]) | skip)
        have H' := Aside0.mk H
        clear H
        go_wp2_with (first | ((with_reducible refine gate_callee (f := 18) rfl ?_); refine goesL_ (some 9) rfl rfl Try.func18 (by kernel_rfl) rfl #[] rfl (by (try simp only [List.map_toArray, List.map_cons, List.map_nil]); first | done | rfl | (simp only [List.length_drop, List.length_take]; rfl)) ?_; (with_reducible refine (flatironlaw04_lives.calls k  true _ A4.out).mono ?_); rintro e w8 ⟨rfl, hb⟩; refine ⟨_, rfl, ?_⟩; have n0_ := Aside0.mk (below_step (by repeat (first | (with_reducible first | exact HB.out | apply below_alloc | apply pw_below_drewN | apply below_drew1) | exact HB.out)) hb); clear HB; have HB := n0_; clear n0_; (try clear hb); (try clear hb2); (try clear hk); (try clear hi)))
        go_meet
        case rel => exact ⟨_, (decide ((a1.size : Int) > 20)), (by first | rfl | (simp; done) | (simp [*]; done)), H', ⟨by first | omega | exact Nat.le_refl _⟩, ⟨by repeat (first | (with_reducible first | exact HB.out | apply below_alloc | apply pw_below_drewN | apply below_drew1) | exact HB.out)⟩⟩
    · replace c5 := Bool.eq_false_iff.mpr c5
      subst c5
      have H1 : (flatironlaw04_WordsCut.j0 k a0 a1 true) = some r := by rw [if_neg (show ¬ (false = true) by decide)] at H; exact H
      clear H
      have H := H1
      clear H1
      have H' := Aside0.mk H
      clear H
      go_wp2_with (first | ((with_reducible refine gate_callee (f := 18) rfl ?_); refine goesL_ (some 9) rfl rfl Try.func18 (by kernel_rfl) rfl #[] rfl (by (try simp only [List.map_toArray, List.map_cons, List.map_nil]); first | done | rfl | (simp only [List.length_drop, List.length_take]; rfl)) ?_; (with_reducible refine (flatironlaw04_lives.calls k  false _ A4.out).mono ?_); rintro e w9 ⟨rfl, hb⟩; refine ⟨_, rfl, ?_⟩; have n0_ := Aside0.mk (below_step (by repeat (first | (with_reducible first | exact HB.out | apply below_alloc | apply pw_below_drewN | apply below_drew1) | exact HB.out)) hb); clear HB; have HB := n0_; clear n0_; (try clear hb); (try clear hb2); (try clear hk); (try clear hi)))
      go_meet
      case rel => exact ⟨_, (true), (by first | rfl | (simp; done) | (simp [*]; done)), H', ⟨by first | omega | exact Nat.le_refl _⟩, ⟨by repeat (first | (with_reducible first | exact HB.out | apply below_alloc | apply pw_below_drewN | apply below_drew1) | exact HB.out)⟩⟩
  case rest =>
    clear HC3
    try clear c1
    try clear p2
    try clear c5
    try clear c6
    try clear c6b0
    try clear c6b1
    obtain ⟨kq, x20_2, rfl, HA, HJ2, HB⟩ := hcut
    cases kq with
    | zero => exact absurd HA.out (by simp [flatironlaw04_WordsCut.j0])
    | succ kj2 =>
      have H := HA.out
      clear HA
      simp only [flatironlaw04_WordsCut.j0] at H
      by_cases c10 : x20_2 = true
      · subst c10
        have H1 : ((flatironlaw04_lives.f kj2).bind fun t120 => (some t120)) = some r := by rw [if_pos rfl] at H; exact H
        clear H
        have H := H1
        clear H1
        replace H := Option.bind_eq_some_iff.mp H
        obtain ⟨t120, A110, H⟩ := H
        replace H : (some t120) = some r := H
        have A11 := Aside0.mk A110
        clear A110
        obtain rfl := Option.some.inj H
        go_wp2_with (first | ((with_reducible refine gate_callee (f := 18) rfl ?_); refine goesL_ (some 21) rfl rfl Try.func18 (by kernel_rfl) rfl #[] rfl (by (try simp only [List.map_toArray, List.map_cons, List.map_nil]); first | done | rfl | (simp only [List.length_drop, List.length_take]; rfl)) ?_; (with_reducible refine (flatironlaw04_lives.calls kj2  t120 _ A11.out).mono ?_); rintro e w12 ⟨rfl, hb⟩; refine ⟨_, rfl, ?_⟩; have n0_ := Aside0.mk (below_step (by repeat (first | (with_reducible first | exact HB.out | apply below_alloc | apply pw_below_drewN | apply below_drew1) | exact HB.out)) hb); clear HB; have HB := n0_; clear n0_; (try clear hb); (try clear hb2); (try clear hk); (try clear hi)))
        go_ret
        exact ⟨by first | rfl | (simp [errW_none, errW_some] <;> rfl) | (simp [*, errW_none, errW_some] <;> rfl), by repeat (first | (with_reducible first | exact HB.out | apply below_alloc | apply pw_below_drewN | apply below_drew1) | exact HB.out)⟩
      · replace c10 := Bool.eq_false_iff.mpr c10
        subst c10
        have H1 : ((words_Cut.f kj2 a0 a1).bind fun bt121 => ((flatironref04_Cut.f kj2 a0 a1).bind fun t124 => (if t124 < 0 then (if bt121.1.toList = a0.toList then (if bt121.2.1 = 0 then (some (bt121.2.2.toList == ([] : List UInt8))) else (some false)) else (some false)) else (if 0 ≤ t124 then (if t124 ≤ (a0.size : Int) then (if bt121.1.toList = (a0.extract 0 (t124 : Int).toNat).toList then (if t124 < (a0.size : Int) then (if bt121.2.1 = (bt a0 t124) then (if 0 ≤ (wrap64 (t124 + 1)) then (if (wrap64 (t124 + 1)) ≤ (a0.size : Int) then (some (bt121.2.2.toList == (a0.extract ((wrap64 (t124 + 1)) : Int).toNat a0.size).toList)) else (none)) else (none)) else (some false)) else (none)) else (some false)) else (none)) else (none))))) = some r := by rw [if_neg (show ¬ (false = true) by decide)] at H; exact H
        clear H
        have H := H1
        clear H1
        replace H := Option.bind_eq_some_iff.mp H
        obtain ⟨⟨t121, t122, t123⟩, A130, H⟩ := H
        replace H : ((flatironref04_Cut.f kj2 a0 a1).bind fun t124 => (if t124 < 0 then (if t121.toList = a0.toList then (if t122 = 0 then (some (t123.toList == ([] : List UInt8))) else (some false)) else (some false)) else (if 0 ≤ t124 then (if t124 ≤ (a0.size : Int) then (if t121.toList = (a0.extract 0 (t124 : Int).toNat).toList then (if t124 < (a0.size : Int) then (if t122 = (bt a0 t124) then (if 0 ≤ (wrap64 (t124 + 1)) then (if (wrap64 (t124 + 1)) ≤ (a0.size : Int) then (some (t123.toList == (a0.extract ((wrap64 (t124 + 1)) : Int).toNat a0.size).toList)) else (none)) else (none)) else (some false)) else (none)) else (some false)) else (none)) else (none)))) = some r := H
        have A13 := Aside0.mk A130
        clear A130
        replace H := Option.bind_eq_some_iff.mp H
        obtain ⟨t124, A140, H⟩ := H
        replace H : (if t124 < 0 then (if t121.toList = a0.toList then (if t122 = 0 then (some (t123.toList == ([] : List UInt8))) else (some false)) else (some false)) else (if 0 ≤ t124 then (if t124 ≤ (a0.size : Int) then (if t121.toList = (a0.extract 0 (t124 : Int).toNat).toList then (if t124 < (a0.size : Int) then (if t122 = (bt a0 t124) then (if 0 ≤ (wrap64 (t124 + 1)) then (if (wrap64 (t124 + 1)) ≤ (a0.size : Int) then (some (t123.toList == (a0.extract ((wrap64 (t124 + 1)) : Int).toNat a0.size).toList)) else (none)) else (none)) else (some false)) else (none)) else (some false)) else (none)) else (none))) = some r := H
        have A14 := Aside0.mk A140
        clear A140
        by_cases c15 : t124 < 0
        · rw [if_pos c15] at H
          have c15b0 : decide (t124 < 0) = true := decide_eq_true c15
          clear c15
          by_cases c16 : t121.toList = a0.toList
          · rw [if_pos c16] at H
            have c16b0 : (t121.toList == a0.toList) = true := beq_iff_eq.mpr c16
            have c16b1 : (t121.toList != a0.toList) = false := bne_eq_false_iff_eq.mpr c16
            clear c16
            by_cases c17 : t122 = 0
            · rw [if_pos c17] at H
              have c17b0 : (t122 == 0) = true := beq_iff_eq.mpr c17
              have c17b1 : (t122 != 0) = false := bne_eq_false_iff_eq.mpr c17
              clear c17
              obtain rfl := Option.some.inj H
              go_wp2_with (first | ((with_reducible refine gate_callee (f := 19) rfl ?_); refine goesL_ (some 25) rfl rfl Try.func19 (by kernel_rfl) rfl #[.string a0, .string a1] rfl (by (try simp only [List.map_toArray, List.map_cons, List.map_nil]); first | done | rfl | (simp only [List.length_drop, List.length_take]; rfl)) ?_; (with_reducible refine (words_Cut.calls kj2 a0 a1 t121 t122 t123 _ A13.out).mono ?_); rintro e w18 ⟨rfl, hb⟩; refine ⟨_, rfl, ?_⟩; have n0_ := Aside0.mk (below_step (by repeat (first | (with_reducible first | exact HB.out | apply below_alloc | apply pw_below_drewN | apply below_drew1) | exact HB.out)) hb); clear HB; have HB := n0_; clear n0_; (try clear hb); (try clear hb2); (try clear hk); (try clear hi)) | ((with_reducible refine gate_callee (f := 20) rfl ?_); refine goesL_ (some 31) rfl rfl Try.func20 (by kernel_rfl) rfl #[.string a0, .string a1] rfl (by (try simp only [List.map_toArray, List.map_cons, List.map_nil]); first | done | rfl | (simp only [List.length_drop, List.length_take]; rfl)) ?_; (with_reducible refine (flatironref04_Cut.calls kj2 a0 a1 t124 _ A14.out).mono ?_); rintro e w' ⟨rfl, ⟨nd, rfl⟩⟩; refine ⟨_, rfl, ?_⟩))
              go_ret
              exact ⟨by first | rfl | (simp [errW_none, errW_some] <;> rfl) | (simp [*, errW_none, errW_some] <;> rfl), by repeat (first | (with_reducible first | exact HB.out | apply below_alloc | apply pw_below_drewN | apply below_drew1) | exact HB.out)⟩
            · rw [if_neg c17] at H
              have c17b0 : (t122 == 0) = false := beq_eq_false_iff_ne.mpr c17
              have c17b1 : (t122 != 0) = true := bne_iff_ne.mpr c17
              obtain rfl := Option.some.inj H
              go_wp2_with (first | ((with_reducible refine gate_callee (f := 19) rfl ?_); refine goesL_ (some 25) rfl rfl Try.func19 (by kernel_rfl) rfl #[.string a0, .string a1] rfl (by (try simp only [List.map_toArray, List.map_cons, List.map_nil]); first | done | rfl | (simp only [List.length_drop, List.length_take]; rfl)) ?_; (with_reducible refine (words_Cut.calls kj2 a0 a1 t121 t122 t123 _ A13.out).mono ?_); rintro e w19 ⟨rfl, hb⟩; refine ⟨_, rfl, ?_⟩; have n0_ := Aside0.mk (below_step (by repeat (first | (with_reducible first | exact HB.out | apply below_alloc | apply pw_below_drewN | apply below_drew1) | exact HB.out)) hb); clear HB; have HB := n0_; clear n0_; (try clear hb); (try clear hb2); (try clear hk); (try clear hi)) | ((with_reducible refine gate_callee (f := 20) rfl ?_); refine goesL_ (some 31) rfl rfl Try.func20 (by kernel_rfl) rfl #[.string a0, .string a1] rfl (by (try simp only [List.map_toArray, List.map_cons, List.map_nil]); first | done | rfl | (simp only [List.length_drop, List.length_take]; rfl)) ?_; (with_reducible refine (flatironref04_Cut.calls kj2 a0 a1 t124 _ A14.out).mono ?_); rintro e w' ⟨rfl, ⟨nd, rfl⟩⟩; refine ⟨_, rfl, ?_⟩))
              go_ret
              exact ⟨by first | rfl | (simp [errW_none, errW_some] <;> rfl) | (simp [*, errW_none, errW_some] <;> rfl), by repeat (first | (with_reducible first | exact HB.out | apply below_alloc | apply pw_below_drewN | apply below_drew1) | exact HB.out)⟩
          · rw [if_neg c16] at H
            have c16b0 : (t121.toList == a0.toList) = false := beq_eq_false_iff_ne.mpr c16
            have c16b1 : (t121.toList != a0.toList) = true := bne_iff_ne.mpr c16
            obtain rfl := Option.some.inj H
            go_wp2_with (first | ((with_reducible refine gate_callee (f := 19) rfl ?_); refine goesL_ (some 25) rfl rfl Try.func19 (by kernel_rfl) rfl #[.string a0, .string a1] rfl (by (try simp only [List.map_toArray, List.map_cons, List.map_nil]); first | done | rfl | (simp only [List.length_drop, List.length_take]; rfl)) ?_; (with_reducible refine (words_Cut.calls kj2 a0 a1 t121 t122 t123 _ A13.out).mono ?_); rintro e w20 ⟨rfl, hb⟩; refine ⟨_, rfl, ?_⟩; have n0_ := Aside0.mk (below_step (by repeat (first | (with_reducible first | exact HB.out | apply below_alloc | apply pw_below_drewN | apply below_drew1) | exact HB.out)) hb); clear HB; have HB := n0_; clear n0_; (try clear hb); (try clear hb2); (try clear hk); (try clear hi)) | ((with_reducible refine gate_callee (f := 20) rfl ?_); refine goesL_ (some 31) rfl rfl Try.func20 (by kernel_rfl) rfl #[.string a0, .string a1] rfl (by (try simp only [List.map_toArray, List.map_cons, List.map_nil]); first | done | rfl | (simp only [List.length_drop, List.length_take]; rfl)) ?_; (with_reducible refine (flatironref04_Cut.calls kj2 a0 a1 t124 _ A14.out).mono ?_); rintro e w' ⟨rfl, ⟨nd, rfl⟩⟩; refine ⟨_, rfl, ?_⟩))
            go_ret
            exact ⟨by first | rfl | (simp [errW_none, errW_some] <;> rfl) | (simp [*, errW_none, errW_some] <;> rfl), by repeat (first | (with_reducible first | exact HB.out | apply below_alloc | apply pw_below_drewN | apply below_drew1) | exact HB.out)⟩
        · rw [if_neg c15] at H
          have c15b0 : decide (t124 < 0) = false := decide_eq_false c15
          clear c15
          by_cases c21 : 0 ≤ t124
          · rw [if_pos c21] at H
            have c21b0 := eq_true c21
            have c21b1 : decide (0 ≤ t124) = true := decide_eq_true c21
            clear c21
            by_cases c22 : t124 ≤ (a0.size : Int)
            · rw [if_pos c22] at H
              have c22b0 := eq_true c22
              have c22b1 : decide (t124 ≤ (a0.size : Int)) = true := decide_eq_true c22
              clear c22
              by_cases c23 : t121.toList = (a0.extract 0 (t124 : Int).toNat).toList
              · rw [if_pos c23] at H
                have c23b0 : (t121.toList == (a0.extract 0 (t124 : Int).toNat).toList) = true := beq_iff_eq.mpr c23
                have c23b1 : (t121.toList != (a0.extract 0 (t124 : Int).toNat).toList) = false := bne_eq_false_iff_eq.mpr c23
                clear c23
                by_cases c24 : t124 < (a0.size : Int)
                · rw [if_pos c24] at H
                  have c24b0 : decide (t124 < (a0.size : Int)) = true := decide_eq_true c24
                  clear c24
                  by_cases c26 : t122 = (bt a0 t124)
                  · rw [if_pos c26] at H
                    have c26b0 : (t122 == (bt a0 t124)) = true := beq_iff_eq.mpr c26
                    have c26b1 : (t122 != (bt a0 t124)) = false := bne_eq_false_iff_eq.mpr c26
                    clear c26
                    obtain ⟨ji27, hji27⟩ : ∃ j_ : Int, (wrap64 (t124 + 1)) = j_ := ⟨_, rfl⟩
                    replace H : (if 0 ≤ (ji27) then (if (ji27) ≤ (a0.size : Int) then (some (t123.toList == (a0.extract ((ji27) : Int).toNat a0.size).toList)) else (none)) else (none)) = some r := by first | (rw [hji27] at H; exact H) | (simp only [hji27] at H ⊢; exact H)
                    (try rw [hji27] at A13)
                    (try rw [hji27] at A14)
                    have hji27w : (IntKind.i64.wrap (t124 + 1)) = ji27 := (i64_w _).trans hji27
                    by_cases c28 : 0 ≤ (ji27)
                    · rw [if_pos c28] at H
                      have c28b0 := eq_true c28
                      have c28b1 : decide (0 ≤ (ji27)) = true := decide_eq_true c28
                      clear c28
                      by_cases c29 : (ji27) ≤ (a0.size : Int)
                      · rw [if_pos c29] at H
                        have c29b0 := eq_true c29
                        have c29b1 : decide ((ji27) ≤ (a0.size : Int)) = true := decide_eq_true c29
                        clear c29
                        obtain rfl := Option.some.inj H
                        go_wp2_with (first | ((with_reducible refine gate_callee (f := 19) rfl ?_); refine goesL_ (some 25) rfl rfl Try.func19 (by kernel_rfl) rfl #[.string a0, .string a1] rfl (by (try simp only [List.map_toArray, List.map_cons, List.map_nil]); first | done | rfl | (simp only [List.length_drop, List.length_take]; rfl)) ?_; (with_reducible refine (words_Cut.calls kj2 a0 a1 t121 t122 t123 _ A13.out).mono ?_); rintro e w30 ⟨rfl, hb⟩; refine ⟨_, rfl, ?_⟩; have n0_ := Aside0.mk (below_step (by repeat (first | (with_reducible first | exact HB.out | apply below_alloc | apply pw_below_drewN | apply below_drew1) | exact HB.out)) hb); clear HB; have HB := n0_; clear n0_; (try clear hb); (try clear hb2); (try clear hk); (try clear hi)) | ((with_reducible refine gate_callee (f := 20) rfl ?_); refine goesL_ (some 31) rfl rfl Try.func20 (by kernel_rfl) rfl #[.string a0, .string a1] rfl (by (try simp only [List.map_toArray, List.map_cons, List.map_nil]); first | done | rfl | (simp only [List.length_drop, List.length_take]; rfl)) ?_; (with_reducible refine (flatironref04_Cut.calls kj2 a0 a1 t124 _ A14.out).mono ?_); rintro e w' ⟨rfl, ⟨nd, rfl⟩⟩; refine ⟨_, rfl, ?_⟩; have p25 : 0 ≤ (t124 : Int) := of_decide_eq_true (by first | (with_reducible assumption) | assumption); have q25 : t124 < (a0.size : Int) := of_decide_eq_true (by first | (with_reducible assumption) | assumption); have hx25 := bt_at a0 t124; replace p25 := eq_true p25; replace q25 := eq_true q25))
                        go_ret
                        exact ⟨by first | rfl | (simp [errW_none, errW_some] <;> rfl) | (simp only [← hji27]; first | rfl | (simp [errW_none, errW_some] <;> rfl)) | (simp [*, errW_none, errW_some] <;> rfl), by repeat (first | (with_reducible first | exact HB.out | apply below_alloc | apply pw_below_drewN | apply below_drew1) | exact HB.out)⟩
                      · rw [if_neg c29] at H
                        exact absurd H (by simp)
                    · rw [if_neg c28] at H
                      exact absurd H (by simp)
                  · rw [if_neg c26] at H
                    have c26b0 : (t122 == (bt a0 t124)) = false := beq_eq_false_iff_ne.mpr c26
                    have c26b1 : (t122 != (bt a0 t124)) = true := bne_iff_ne.mpr c26
                    obtain rfl := Option.some.inj H
                    go_wp2_with (first | ((with_reducible refine gate_callee (f := 19) rfl ?_); refine goesL_ (some 25) rfl rfl Try.func19 (by kernel_rfl) rfl #[.string a0, .string a1] rfl (by (try simp only [List.map_toArray, List.map_cons, List.map_nil]); first | done | rfl | (simp only [List.length_drop, List.length_take]; rfl)) ?_; (with_reducible refine (words_Cut.calls kj2 a0 a1 t121 t122 t123 _ A13.out).mono ?_); rintro e w31 ⟨rfl, hb⟩; refine ⟨_, rfl, ?_⟩; have n0_ := Aside0.mk (below_step (by repeat (first | (with_reducible first | exact HB.out | apply below_alloc | apply pw_below_drewN | apply below_drew1) | exact HB.out)) hb); clear HB; have HB := n0_; clear n0_; (try clear hb); (try clear hb2); (try clear hk); (try clear hi)) | ((with_reducible refine gate_callee (f := 20) rfl ?_); refine goesL_ (some 31) rfl rfl Try.func20 (by kernel_rfl) rfl #[.string a0, .string a1] rfl (by (try simp only [List.map_toArray, List.map_cons, List.map_nil]); first | done | rfl | (simp only [List.length_drop, List.length_take]; rfl)) ?_; (with_reducible refine (flatironref04_Cut.calls kj2 a0 a1 t124 _ A14.out).mono ?_); rintro e w' ⟨rfl, ⟨nd, rfl⟩⟩; refine ⟨_, rfl, ?_⟩; have p25 : 0 ≤ (t124 : Int) := of_decide_eq_true (by first | (with_reducible assumption) | assumption); have q25 : t124 < (a0.size : Int) := of_decide_eq_true (by first | (with_reducible assumption) | assumption); have hx25 := bt_at a0 t124; replace p25 := eq_true p25; replace q25 := eq_true q25))
                    go_ret
                    exact ⟨by first | rfl | (simp [errW_none, errW_some] <;> rfl) | (simp [*, errW_none, errW_some] <;> rfl), by repeat (first | (with_reducible first | exact HB.out | apply below_alloc | apply pw_below_drewN | apply below_drew1) | exact HB.out)⟩
                · rw [if_neg c24] at H
                  exact absurd H (by simp)
              · rw [if_neg c23] at H
                have c23b0 : (t121.toList == (a0.extract 0 (t124 : Int).toNat).toList) = false := beq_eq_false_iff_ne.mpr c23
                have c23b1 : (t121.toList != (a0.extract 0 (t124 : Int).toNat).toList) = true := bne_iff_ne.mpr c23
                obtain rfl := Option.some.inj H
                go_wp2_with (first | ((with_reducible refine gate_callee (f := 19) rfl ?_); refine goesL_ (some 25) rfl rfl Try.func19 (by kernel_rfl) rfl #[.string a0, .string a1] rfl (by (try simp only [List.map_toArray, List.map_cons, List.map_nil]); first | done | rfl | (simp only [List.length_drop, List.length_take]; rfl)) ?_; (with_reducible refine (words_Cut.calls kj2 a0 a1 t121 t122 t123 _ A13.out).mono ?_); rintro e w32 ⟨rfl, hb⟩; refine ⟨_, rfl, ?_⟩; have n0_ := Aside0.mk (below_step (by repeat (first | (with_reducible first | exact HB.out | apply below_alloc | apply pw_below_drewN | apply below_drew1) | exact HB.out)) hb); clear HB; have HB := n0_; clear n0_; (try clear hb); (try clear hb2); (try clear hk); (try clear hi)) | ((with_reducible refine gate_callee (f := 20) rfl ?_); refine goesL_ (some 31) rfl rfl Try.func20 (by kernel_rfl) rfl #[.string a0, .string a1] rfl (by (try simp only [List.map_toArray, List.map_cons, List.map_nil]); first | done | rfl | (simp only [List.length_drop, List.length_take]; rfl)) ?_; (with_reducible refine (flatironref04_Cut.calls kj2 a0 a1 t124 _ A14.out).mono ?_); rintro e w' ⟨rfl, ⟨nd, rfl⟩⟩; refine ⟨_, rfl, ?_⟩))
                go_ret
                exact ⟨by first | rfl | (simp [errW_none, errW_some] <;> rfl) | (simp [*, errW_none, errW_some] <;> rfl), by repeat (first | (with_reducible first | exact HB.out | apply below_alloc | apply pw_below_drewN | apply below_drew1) | exact HB.out)⟩
            · rw [if_neg c22] at H
              exact absurd H (by simp)
          · rw [if_neg c21] at H
            exact absurd H (by simp)

/-- THE ONE PURE STATEMENT of flatironlaw04_WordsCut: yours. -/
def flatironlaw04_WordsCut.Pure : Prop := ∀ (a0 : ByteArray) (a1 : ByteArray), a0.size ≤ 140737488351232 → a1.size ≤ 140737488351232 → ∃ k, flatironlaw04_WordsCut.f k a0 a1 = some true
theorem flatironlaw04_WordsCut.walk (P : flatironlaw04_WordsCut.Pure) (a0 : ByteArray) (a1 : ByteArray) (w : World) (w0 : a0.size ≤ 140737488351232) (w1 : a1.size ≤ 140737488351232) :
    Calls Try.prog 5 #[.string a0, .string a1] w fun e w' => e = .returned (.bool true) ∧ Below w.heap.size w w' := by
  obtain ⟨k, h⟩ := P a0 a1 w0 w1
  refine (flatironlaw04_WordsCut.calls k a0 a1 true w h).mono ?_
  rintro e w' ⟨rfl, hd⟩
  exact ⟨rfl, hd⟩

end Go.Proofs.Ytcadgnaejjgdnaa.XW04
