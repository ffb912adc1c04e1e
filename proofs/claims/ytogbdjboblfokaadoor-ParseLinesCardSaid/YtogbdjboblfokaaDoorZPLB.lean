/- Texts of this claim, one behind the other (merged by the session's own program merge.py: a claim bears sixty files): XW05x3, XW05x4, XW05x5. -/
import Derived.Test.YtogbdjboblfokaaDoorZPLA
/- Laid for this claim by the session's own program xprint.py, over the print of the kit: functions of the program as plain Lean functions, each with a proof that a call comes to what its function says, or the row of a law out of these; no condition of its own. -/
namespace Go.Proofs.YtogbdjboblfokaaDoor.XW05
open Go.Proofs.YtogbdjboblfokaaDoor.X Go.Proofs.YtogbdjboblfokaaDoor.XT06 Go.RowKit Go.Proofs.YtogbdjboblfokaaDoorW.PrintWords Go.Proofs.YtogbdjboblfokaaDoorW.PrintLast Go.Proofs.YtogbdjboblfokaaDoorW.PrintMore
attribute [local go_sem] cell4_1 cell4_1d max2_int min2_int max_two min_two max_three min_three max_four min_four   -- for this text's walks alone
set_option linter.unusedVariables false
set_option linter.unusedSimpArgs false

/-! ### lex_Tokens: function 19 -/
def lex_Tokens.l0 : Nat → ByteArray → List (S66) → Option ((List (S66)) × Int)
  | 0, _, _ => none
  | k + 1, x0, x4 => if x0.toList = ([] : List UInt8) then (some (x4, 0)) else (if 0 < (x0.size : Int) then ((strings_IndexByte.f (⟨#[32, 9, 10]⟩ : ByteArray) (bt x0 0)).bind fun t126 => (if t126 ≥ 0 then (if 1 ≤ (x0.size : Int) then (lex_Tokens.l0 k (x0.extract 1 x0.size) x4) else (none)) else ((lex_mark.f k x0).bind fun bt127 => (if bt127.2 > 0 then (if x4.length < 5864062014805 then (if 0 ≤ bt127.2 then (if bt127.2 ≤ (x0.size : Int) then (lex_Tokens.l0 k (x0.extract (bt127.2 : Int).toNat x0.size) (x4 ++ [(⟨bt127.1, (⟨#[]⟩ : ByteArray)⟩ : S66)])) else (none)) else (none)) else (none)) else ((lex_word.f x0).bind fun bt132 => (if bt132.2 ≤ 0 then (some (([] : List (S66)), 6)) else (if x4.length < 5864062014805 then (if 0 ≤ bt132.2 then (if bt132.2 ≤ (x0.size : Int) then (lex_Tokens.l0 k (x0.extract (bt132.2 : Int).toNat x0.size) (x4 ++ [(⟨0, bt132.1⟩ : S66)])) else (none)) else (none)) else (none)))))))) else (none))
def lex_Tokens.f (k : Nat) (a0 : ByteArray) : Option ((List (S66)) × Int) := lex_Tokens.l0 k a0 ([] : List (S66))
theorem lex_Tokens.mono_l : ∀ k, (∀ y0 y1, LeO (lex_Tokens.l0 k y0 y1) (lex_Tokens.l0 (k + 1) y0 y1))
  | 0 => fun _ _ r h => by simp [lex_Tokens.l0] at h
  | k + 1 => by
    have ih0 := lex_Tokens.mono_l k
    · intro y0 y1
      unfold lex_Tokens.l0
      repeat' first
      | (with_reducible exact ih0 _ _)
      | (with_reducible exact lex_mark.mono _ _)
      | (with_reducible exact LeO.refl _)
      | (with_reducible exact LeO.none _)
      | (with_reducible refine LeO.ite ?_ ?_)
      | (with_reducible refine LeO.bind ?_ (fun _ => ?_))
      | exact ih0 _ _
      | exact lex_mark.mono _ _
      | exact LeO.none _
      | refine LeO.ite ?_ ?_
      | refine LeO.bind ?_ (fun _ => ?_)
theorem lex_Tokens.mono : ∀ a0 k, LeO (lex_Tokens.f k a0) (lex_Tokens.f (k + 1) a0) := by
  intro a0 k
  have ih0 := lex_Tokens.mono_l k
  unfold lex_Tokens.f
  repeat' first
      | (with_reducible exact ih0 _ _)
      | (with_reducible exact lex_mark.mono _ _)
      | (with_reducible exact LeO.refl _)
      | (with_reducible exact LeO.none _)
      | (with_reducible refine LeO.ite ?_ ?_)
      | (with_reducible refine LeO.bind ?_ (fun _ => ?_))
      | exact ih0 _ _
      | exact lex_mark.mono _ _
      | exact LeO.none _
      | refine LeO.ite ?_ ?_
      | refine LeO.bind ?_ (fun _ => ?_)
def lex_Tokens.T7 : Bool × List (List Nat × List Nat) := (true, [([], []), ([], []), ([1], [1]), ([2], [2]), ([0, 3], [0, 3]), ([], []), ([], []), ([5, 6], [5, 6]), ([4, 4, 0, 1, 2, 3, 4], [0, 4]), ([7, 8, 0, 1, 2, 3, 4, 5, 6, 7, 8], [5, 7])])
def lex_Tokens.B7 : List Nat := [0, 0, 2, 6, 15, 0, 0, 96, 31, 511]
theorem lex_Tokens.tab7 : rtab .any (opsOf Tryd.f19 7) = lex_Tokens.T7 := by kernel_rfl
theorem lex_Tokens.bits7 : waitsOk lex_Tokens.T7.2 lex_Tokens.B7 = true := by kernel_rfl
def lex_Tokens.T11 : Bool × List (List Nat × List Nat) := (true, [([], []), ([], []), ([1], [1]), ([2], [2]), ([0, 3], [0, 3]), ([], []), ([], []), ([5, 6], [5, 6]), ([4, 4, 0, 1, 2, 3, 4], [0, 4]), ([7, 8, 0, 1, 2, 3, 4, 5, 6, 7, 8], [5, 7])])
def lex_Tokens.B11 : List Nat := [0, 0, 2, 6, 15, 0, 0, 96, 31, 511]
theorem lex_Tokens.tab11 : rtab .any (opsOf Tryd.f19 11) = lex_Tokens.T11 := by kernel_rfl
theorem lex_Tokens.bits11 : waitsOk lex_Tokens.T11.2 lex_Tokens.B11 = true := by kernel_rfl
set_option maxHeartbeats 8000000 in
set_option maxRecDepth 100000 in
theorem lex_Tokens.calls (k : Nat) (a0 : ByteArray) (r1 : List (S66)) (r2 : Int) (w : World) (h : lex_Tokens.f k a0 = some (r1, r2)) :
    Calls Tryd.prog 19 #[.string a0] w fun e w' => ∃ v0_ : Value, e = .returned (.tuple #[v0_, .int .i64 r2]) ∧ Kd.R k66 66 w' w.heap.size (fun _ => True) v0_ r1 ∧ Below w.heap.size w w' := by
  have hu66 := Tryd.underlying66
  have HB := Aside0.mk (Below.refl w.heap.size w)
  have H : (lex_Tokens.l0 k a0 ([] : List (S66))) = some (r1, r2) := h
  clear h
  have H' := Aside0.mk H
  clear H
  go_enter Tryd.func19, Tryd.ntmps19
  go_wp2
  go_loopg [0, 4] k (fun kq v0 v4 w' => ∃ (x0_1 : ByteArray) (x4_1 : List (S66)), v0 = .string x0_1 ∧ Aside0 (lex_Tokens.l0 kq x0_1 x4_1 = some (r1, r2)) ∧ Aside0 (kq ≤ k) ∧ Aside0 (Kd.R k66 66 w' w.heap.size (fun _ => True) v4 x4_1) ∧ Aside0 (Below w.heap.size w w'))
  case atStart => exact ⟨(a0), (([] : List (S66))), (by first | rfl | (simp; done) | (simp [*]; done)), H', ⟨Nat.le_refl _⟩, ⟨by first | exact Kd.R_nil _ _ _ _ _ | exact Kd.N_nil _ _ _ _ _ | exact Kd.V_nil _ _ _ _ _ | exact Kd.Q_nil _ _ _ _ _ | exact Kd.S_nil _ _ _ _ _⟩, ⟨by repeat (first | (with_reducible first | exact HB.out | apply below_alloc | apply pw_below_drewN | apply below_drew1) | exact HB.out)⟩⟩
  case round =>
    clear H'
    try clear c1
    obtain ⟨x0_1, x4_1, rfl, HA, HK1, HO_4, HB⟩ := hrel
    cases gk with
    | zero => exact absurd HA.out (by simp [lex_Tokens.l0])
    | succ k1 =>
      have H := HA.out
      clear HA
      simp only [lex_Tokens.l0] at H
      by_cases c2 : x0_1.toList = ([] : List UInt8)
      · rw [if_pos c2] at H
        have c2b0 : (x0_1.toList == ([] : List UInt8)) = true := beq_iff_eq.mpr c2
        have c2b1 : (x0_1.toList != ([] : List UInt8)) = false := bne_eq_false_iff_eq.mpr c2
        clear c2
        simp only [Option.some.injEq, Prod.mk.injEq] at H
        obtain ⟨rfl, rfl⟩ := H
        go_wp2
        go_ret2
        exact ⟨_, by first | rfl | (simp [errW_none, errW_some] <;> rfl) | (simp [*, errW_none, errW_some] <;> rfl), by (with_reducible repeat (first | apply Kd.R_alloc | apply Kd.R_drewN | apply Kd.R_drew)); exact HO_4.out, by repeat (first | (with_reducible first | exact HB.out | apply below_alloc | apply pw_below_drewN | apply below_drew1) | exact HB.out)⟩
      · rw [if_neg c2] at H
        have c2b0 : (x0_1.toList == ([] : List UInt8)) = false := beq_eq_false_iff_ne.mpr c2
        have c2b1 : (x0_1.toList != ([] : List UInt8)) = true := bne_iff_ne.mpr c2
        by_cases c3 : 0 < (x0_1.size : Int)
        · rw [if_pos c3] at H
          have c3b0 : decide (0 < (x0_1.size : Int)) = true := decide_eq_true c3
          have c3b1 : decide (0 < x0_1.size) = true := decide_eq_true (by omega)
          clear c3
          replace H := Option.bind_eq_some_iff.mp H
          obtain ⟨t126, A50, H⟩ := H
          replace H : (if t126 ≥ 0 then (if 1 ≤ (x0_1.size : Int) then (lex_Tokens.l0 k1 (x0_1.extract 1 x0_1.size) x4_1) else (none)) else ((lex_mark.f k1 x0_1).bind fun bt127 => (if bt127.2 > 0 then (if x4_1.length < 5864062014805 then (if 0 ≤ bt127.2 then (if bt127.2 ≤ (x0_1.size : Int) then (lex_Tokens.l0 k1 (x0_1.extract (bt127.2 : Int).toNat x0_1.size) (x4_1 ++ [(⟨bt127.1, (⟨#[]⟩ : ByteArray)⟩ : S66)])) else (none)) else (none)) else (none)) else ((lex_word.f x0_1).bind fun bt132 => (if bt132.2 ≤ 0 then (some (([] : List (S66)), 6)) else (if x4_1.length < 5864062014805 then (if 0 ≤ bt132.2 then (if bt132.2 ≤ (x0_1.size : Int) then (lex_Tokens.l0 k1 (x0_1.extract (bt132.2 : Int).toNat x0_1.size) (x4_1 ++ [(⟨0, bt132.1⟩ : S66)])) else (none)) else (none)) else (none))))))) = some (r1, r2) := H
          have A5 := Aside0.mk A50
          clear A50
          by_cases c6 : t126 ≥ 0
          · rw [if_pos c6] at H
            have c6b0 : decide (0 ≤ t126) = true := decide_eq_true c6
            clear c6
            by_cases c7 : 1 ≤ (x0_1.size : Int)
            · rw [if_pos c7] at H
              have c7b0 := eq_true c7
              have c7b1 : decide (1 ≤ (x0_1.size : Int)) = true := decide_eq_true c7
              clear c7
              have H' := Aside0.mk H
              clear H
              have p4 : 0 ≤ (0 : Int) := (by omega)
              have q4 : 0 < x0_1.size := (by have : (0 : Int) < (x0_1.size : Int) := of_decide_eq_true (by first | (with_reducible assumption) | assumption); omega)
              have hx4 : ∀ h : 0 < x0_1.size, ((x0_1[0]'h).toNat : Int) = bt x0_1 0 := bt_at x0_1 0
              clear p4
              have qi4 : (0 < (x0_1.size : Int)) = True := eq_true (of_decide_eq_true (by first | (with_reducible assumption) | assumption))
              replace q4 := eq_true q4
              go_wp2_with (first | ((with_reducible refine gate_callee (f := 40) rfl ?_); refine goesL_ (some 13) rfl rfl Tryd.func40 (by kernel_rfl) rfl #[.string (⟨#[32, 9, 10]⟩ : ByteArray), .int .u8 (bt x0_1 0)] rfl (by (try simp only [List.map_toArray, List.map_cons, List.map_nil]); first | done | rfl | (simp only [List.length_drop, List.length_take]; rfl)) ?_; (with_reducible refine (strings_IndexByte.calls (⟨#[32, 9, 10]⟩ : ByteArray) (bt x0_1 0) t126 _ A5.out).mono ?_); rintro e w' ⟨rfl, ⟨nd, rfl⟩⟩; refine ⟨_, rfl, ?_⟩))
              go_roundg k1
              case measure => have := HK1.out; omega
              case rel => exact ⟨(x0_1.extract 1 x0_1.size), (x4_1), (by first | rfl | (simp; done) | (simp [*]; done)), H', ⟨by have := HK1.out; omega⟩, ⟨by (with_reducible repeat (first | apply Kd.R_alloc | apply Kd.R_drewN | apply Kd.R_drew)); (first | exact HO_4.out | (first | refine Kd.R_mono HO_4.out (fun _ hk => ?_) | refine Kd.S_mono HO_4.out (fun _ hk => ?_) | refine Kd.Q_mono HO_4.out (fun _ hk => ?_)); simp only [ownBlock_slice] at hk ⊢; exact hk)⟩, ⟨by repeat (first | (with_reducible first | exact HB.out | apply below_alloc | apply pw_below_drewN | apply below_drew1) | exact HB.out)⟩⟩
            · rw [if_neg c7] at H
              exact absurd H (by simp)
          · rw [if_neg c6] at H
            have c6b0 : decide (0 ≤ t126) = false := decide_eq_false c6
            clear c6
            replace H := Option.bind_eq_some_iff.mp H
            obtain ⟨⟨t127, t128⟩, A80, H⟩ := H
            replace H : (if t128 > 0 then (if x4_1.length < 5864062014805 then (if 0 ≤ t128 then (if t128 ≤ (x0_1.size : Int) then (lex_Tokens.l0 k1 (x0_1.extract (t128 : Int).toNat x0_1.size) (x4_1 ++ [(⟨t127, (⟨#[]⟩ : ByteArray)⟩ : S66)])) else (none)) else (none)) else (none)) else ((lex_word.f x0_1).bind fun bt132 => (if bt132.2 ≤ 0 then (some (([] : List (S66)), 6)) else (if x4_1.length < 5864062014805 then (if 0 ≤ bt132.2 then (if bt132.2 ≤ (x0_1.size : Int) then (lex_Tokens.l0 k1 (x0_1.extract (bt132.2 : Int).toNat x0_1.size) (x4_1 ++ [(⟨0, bt132.1⟩ : S66)])) else (none)) else (none)) else (none))))) = some (r1, r2) := H
            have A8 := Aside0.mk A80
            clear A80
            by_cases c9 : t128 > 0
            · rw [if_pos c9] at H
              have c9b0 : decide (0 < t128) = true := decide_eq_true c9
              clear c9
              by_cases c10 : x4_1.length < 5864062014805
              · rw [if_pos c10] at H
                have LMc10 := Aside0.mk c10
                clear c10
                obtain ⟨y129, hy129⟩ : ∃ y_ : List (S66), y_ = (x4_1 ++ [(⟨t127, (⟨#[]⟩ : ByteArray)⟩ : S66)]) := ⟨_, rfl⟩
                replace H : (if 0 ≤ t128 then (if t128 ≤ (x0_1.size : Int) then (lex_Tokens.l0 k1 (x0_1.extract (t128 : Int).toNat x0_1.size) y129) else (none)) else (none)) = some (r1, r2) := by first | (rw [hy129]; with_reducible exact H) | (have H2_ := (Option.bind_some _ _).symm.trans H; rw [hy129]; with_reducible exact H2_) | (have H2_ := (Option.bind_some _ _).symm.trans H; with_reducible exact H2_) | with_reducible exact H | (rw [hy129]; exact H) | exact H
                have Ny129 := Aside0.mk hy129
                clear hy129
                by_cases c11 : 0 ≤ t128
                · rw [if_pos c11] at H
                  have c11b0 := eq_true c11
                  have c11b1 : decide (0 ≤ t128) = true := decide_eq_true c11
                  clear c11
                  by_cases c12 : t128 ≤ (x0_1.size : Int)
                  · rw [if_pos c12] at H
                    have c12b0 := eq_true c12
                    have c12b1 : decide (t128 ≤ (x0_1.size : Int)) = true := decide_eq_true c12
                    clear c12
                    have H' := Aside0.mk H
                    clear H
                    have p4 : 0 ≤ (0 : Int) := (by omega)
                    have q4 : 0 < x0_1.size := (by have : (0 : Int) < (x0_1.size : Int) := of_decide_eq_true (by first | (with_reducible assumption) | assumption); omega)
                    have hx4 : ∀ h : 0 < x0_1.size, ((x0_1[0]'h).toNat : Int) = bt x0_1 0 := bt_at x0_1 0
                    clear p4
                    have qi4 : (0 < (x0_1.size : Int)) = True := eq_true (of_decide_eq_true (by first | (with_reducible assumption) | assumption))
                    replace q4 := eq_true q4
                    try go_wp2_with (first | ((with_reducible refine gate_callee (f := 40) rfl ?_); refine goesL_ (some 13) rfl rfl Tryd.func40 (by kernel_rfl) rfl #[.string (⟨#[32, 9, 10]⟩ : ByteArray), .int .u8 (bt x0_1 0)] rfl (by (try simp only [List.map_toArray, List.map_cons, List.map_nil]); first | done | rfl | (simp only [List.length_drop, List.length_take]; rfl)) ?_; (with_reducible refine (strings_IndexByte.calls (⟨#[32, 9, 10]⟩ : ByteArray) (bt x0_1 0) t126 _ A5.out).mono ?_); rintro e w' ⟨rfl, ⟨nd, rfl⟩⟩; refine ⟨_, rfl, ?_⟩) | ((with_reducible refine gate_callee (f := 41) rfl ?_); refine goesL_ (some 19) rfl rfl Tryd.func41 (by kernel_rfl) rfl #[.string x0_1] rfl (by (try simp only [List.map_toArray, List.map_cons, List.map_nil]); first | done | rfl | (simp only [List.length_drop, List.length_take]; rfl)) ?_; (with_reducible refine (lex_mark.calls k1 x0_1 t127 t128 _ A8.out).mono ?_); rintro e w13 ⟨rfl, hb⟩; refine ⟨_, rfl, ?_⟩; have n0_ := Aside0.mk (Kd.R_below (by (with_reducible repeat (first | apply Kd.R_alloc | apply Kd.R_drewN | apply Kd.R_drew)); (first | exact HO_4.out | (first | refine Kd.R_mono HO_4.out (fun _ hk => ?_) | refine Kd.S_mono HO_4.out (fun _ hk => ?_) | refine Kd.Q_mono HO_4.out (fun _ hk => ?_)); simp only [ownBlock_slice] at hk ⊢; exact hk)) hb); have n1_ := Aside0.mk (below_step (by repeat (first | (with_reducible first | exact HB.out | apply below_alloc | apply pw_below_drewN | apply below_drew1) | exact HB.out)) hb); clear HO_4; clear HB; have HO_4 := n0_; have HB := n1_; clear n0_ n1_; (try clear hb); (try clear hb2); (try clear hk); (try clear hi)))
                    have n0_ := Aside0.mk (Kd.R_drew HO_4.out)
                    have n1_ := Aside0.mk (below_drew1 HB.out)
                    clear HO_4
                    clear HB
                    have HO_4 := n0_
                    have HB := n1_
                    clear n0_ n1_
                    refine start_ (n := 10) (S := fun w' => True) (ds := []) #[false, false, false, false, false, false, false, false, false, false] (by kernel_rfl) rfl rfl trivial (fun hHeld => ?_); refine with_tabW lex_Tokens.tab7 lex_Tokens.bits7 (fun HT_ HW_ => ?_)
                    generalize w13.drew = w14 at HO_4 HB hHeld ⊢
                    refine pure_ (i := 0) (N := some 24) (v := ?_) (a' := ?_) #[true, false, false, false, false, false, false, false, false, false] rfl rfl (any_of HT_.out (by kernel_rfl)) (fun _ _ _ h => h) (Or.inl ⟨by rfl, ?_⟩) ?_ ?_
                    rotate_left
                    · intro w'
                      go_simp
                      with_reducible rfl
                    rotate_left
                    · simp only [Act.put, List.setIfInBounds_toArray, List.set_cons_zero, List.set_cons_succ, i64_w, i32_w]
                      rfl
                    refine pure_ (i := 1) (N := some 25) (v := ?_) (a' := ?_) #[true, true, false, false, false, false, false, false, false, false] rfl rfl (any_of HT_.out (by kernel_rfl)) (fun _ _ _ h => h) (Or.inl ⟨by rfl, ?_⟩) ?_ ?_
                    rotate_left
                    · intro w'
                      go_simp
                      with_reducible rfl
                    rotate_left
                    · simp only [Act.put, List.setIfInBounds_toArray, List.set_cons_zero, List.set_cons_succ, i64_w, i32_w]
                      rfl
                    refine pure_ (i := 2) (N := some 26) (v := ?_) (a' := ?_) #[true, true, true, false, false, false, false, false, false, false] rfl rfl (any_of HT_.out (by kernel_rfl)) (fun _ _ _ h => h) (Or.inl ⟨by rfl, ?_⟩) ?_ ?_
                    rotate_left
                    · intro w'
                      go_simp
                      with_reducible rfl
                    rotate_left
                    · simp only [Act.put, List.setIfInBounds_toArray, List.set_cons_zero, List.set_cons_succ, i64_w, i32_w]
                      rfl
                    refine pure_ (i := 5) (N := some 29) (v := ?_) (a' := ?_) #[true, true, true, false, false, true, false, false, false, false] rfl rfl (any_of HT_.out (by kernel_rfl)) (fun _ _ _ h => h) (Or.inl ⟨by rfl, ?_⟩) ?_ ?_
                    rotate_left
                    · intro w'
                      go_simp
                      with_reducible rfl
                    rotate_left
                    · simp only [Act.put, List.setIfInBounds_toArray, List.set_cons_zero, List.set_cons_succ, i64_w, i32_w]
                      rfl
                    refine pure_ (i := 6) (N := some 30) (v := ?_) (a' := ?_) #[true, true, true, false, false, true, true, false, false, false] rfl rfl (any_of HT_.out (by kernel_rfl)) (fun _ _ _ h => h) (Or.inl ⟨by rfl, ?_⟩) ?_ ?_
                    rotate_left
                    · intro w'
                      go_simp
                      with_reducible rfl
                    rotate_left
                    · simp only [Act.put, List.setIfInBounds_toArray, List.set_cons_zero, List.set_cons_succ, i64_w, i32_w]
                      rfl
                    refine pure_ (i := 7) (N := some 31) (v := ?_) (a' := ?_) #[true, true, true, false, false, true, true, true, false, false] rfl rfl (any_of HT_.out (by kernel_rfl)) (fun _ _ _ h => h) (Or.inl ⟨by rfl, ?_⟩) ?_ ?_
                    rotate_left
                    · intro w'
                      go_simp
                      with_reducible rfl
                    rotate_left
                    · simp only [Act.put, List.setIfInBounds_toArray, List.set_cons_zero, List.set_cons_succ, i64_w, i32_w]
                      rfl
                    refine one_ (i := 3) (N := some 27) #[true, true, true, true, false, true, true, true, false, false] rfl rfl (one_of HT_.out (by kernel_rfl)) (by decide) (fun K hK => ?_)
                    refine value_ (w1 := ?_) (v := ?_) (by rfl) rfl ?_ ?_
                    rotate_left 2
                    · go_simp
                      constructor
                      · rfl
                      · rfl
                    refine hK.out _ _ trivial (fun hHeld => ?_)
                    clear hK K
                    refine norm_ (a' := ?_) ?_ ?_
                    rotate_left
                    · show Act.put _ (some 27) _ = _
                      simp only [Act.put, List.setIfInBounds_toArray, List.set_cons_zero, List.set_cons_succ, i64_w, i32_w]
                      rfl
                    refine one_ (i := 4) (N := some 28) #[true, true, true, true, true, true, true, true, false, false] rfl rfl (one_of HT_.out (by kernel_rfl)) (by decide) (fun K hK => ?_)
                    refine Kd.R_append_step k66 (w0 := w) w.heap.size (by rfl) (.tmp 24) (.tmp 27) 57 66 (.agg #[(.int .i64 0), (.string ⟨#[]⟩)]) 24 rfl Tryd.underlying57 info66 rfl (by decide) (by omega) u4 x4_1 (⟨t127, (⟨#[]⟩ : ByteArray)⟩ : S66) [.int .i64 t127, .string (⟨#[]⟩ : ByteArray)] (fun _ => True) (fun _ => False) rfl rfl ?aP (fun _ hk => hk.elim) ?aF ?aO ?aB ?aS ?aL ?_
                    (case aP => exact k66_mkM _ _ _ (⟨t127, (⟨#[]⟩ : ByteArray)⟩ : S66))
                    (case aB => exact (by repeat (first | (with_reducible first | exact HB.out | apply below_alloc | apply pw_below_drewN | apply below_drew1) | exact HB.out)))
                    (case aF => exact (fun _ _ => trivial))
                    (case aO => exact (by (with_reducible repeat (first | apply Kd.R_alloc | apply Kd.R_drewN | apply Kd.R_drew)); (first | exact HO_4.out | (first | refine Kd.R_mono HO_4.out (fun _ hk => ?_) | refine Kd.S_mono HO_4.out (fun _ hk => ?_) | refine Kd.Q_mono HO_4.out (fun _ hk => ?_)); simp only [ownBlock_slice] at hk ⊢; exact hk)))
                    (case aS => exact (below_size (by repeat (first | (with_reducible first | exact HB.out | apply below_alloc | apply pw_below_drewN | apply below_drew1) | exact HB.out))))
                    (case aL => have := LMc10.out; omega)
                    intro v130 w15 ho hb hg hat
                    rw [← Ny129.out] at ho
                    have n0_ := Aside0.mk (hb)
                    have n1_ := Aside0.mk (ho)
                    clear HB
                    clear HO_4
                    have HB := n0_
                    have HO131 := n1_
                    clear n0_ n1_
                    clear ho hb hg hat
                    refine hK.out _ _ trivial (fun hHeld => ?_)
                    clear hK K
                    refine norm_ (a' := ?_) ?_ ?_
                    rotate_left
                    · show Act.put _ (some 28) _ = _
                      simp only [Act.put, List.setIfInBounds_toArray, List.set_cons_zero, List.set_cons_succ, i64_w, i32_w]
                      rfl
                    refine pure_ (i := 8) (N := some 4) (v := ?_) (a' := ?_) #[true, true, true, true, true, true, true, true, true, false] rfl rfl (any_of HT_.out (by kernel_rfl)) (fun _ _ _ h => h) (Or.inl ⟨by rfl, ?_⟩) ?_ ?_
                    rotate_left
                    · intro w'
                      go_simp
                      with_reducible rfl
                    rotate_left
                    · simp only [Act.put, List.setIfInBounds_toArray, List.set_cons_zero, List.set_cons_succ, i64_w, i32_w]
                      rfl
                    refine pure_ (i := 9) (N := some 0) (v := ?_) (a' := ?_) #[true, true, true, true, true, true, true, true, true, true] rfl rfl (any_of HT_.out (by kernel_rfl)) (fun _ _ _ h => h) (Or.inl ⟨by rfl, ?_⟩) ?_ ?_
                    rotate_left
                    · intro w'
                      go_simp
                      with_reducible rfl
                    rotate_left
                    · simp only [Act.put, List.setIfInBounds_toArray, List.set_cons_zero, List.set_cons_succ, i64_w, i32_w]
                      rfl
                    refine done_ (done_of HT_.out (by kernel_rfl)) ?_
                    try go_wp2
                    go_roundg k1
                    case measure => have := HK1.out; omega
                    case rel => exact ⟨(x0_1.extract (t128 : Int).toNat x0_1.size), (y129), (by first | rfl | (simp; done) | (simp [*]; done)), H', ⟨by have := HK1.out; omega⟩, ⟨by (with_reducible repeat (first | apply Kd.R_alloc | apply Kd.R_drewN | apply Kd.R_drew)); (first | exact HO131.out | (first | refine Kd.R_mono HO131.out (fun _ hk => ?_) | refine Kd.S_mono HO131.out (fun _ hk => ?_) | refine Kd.Q_mono HO131.out (fun _ hk => ?_)); simp only [ownBlock_slice] at hk ⊢; exact hk)⟩, ⟨by repeat (first | (with_reducible first | exact HB.out | apply below_alloc | apply pw_below_drewN | apply below_drew1) | exact HB.out)⟩⟩
                  · rw [if_neg c12] at H
                    exact absurd H (by simp)
                · rw [if_neg c11] at H
                  exact absurd H (by simp)
              · rw [if_neg c10] at H
                exact absurd H (by simp)
            · rw [if_neg c9] at H
              have c9b0 : decide (0 < t128) = false := decide_eq_false c9
              clear c9
              replace H := Option.bind_eq_some_iff.mp H
              obtain ⟨⟨t132, t133⟩, A160, H⟩ := H
              replace H : (if t133 ≤ 0 then (some (([] : List (S66)), 6)) else (if x4_1.length < 5864062014805 then (if 0 ≤ t133 then (if t133 ≤ (x0_1.size : Int) then (lex_Tokens.l0 k1 (x0_1.extract (t133 : Int).toNat x0_1.size) (x4_1 ++ [(⟨0, t132⟩ : S66)])) else (none)) else (none)) else (none))) = some (r1, r2) := H
              have A16 := Aside0.mk A160
              clear A160
              by_cases c17 : t133 ≤ 0
              · rw [if_pos c17] at H
                have c17b0 : decide (t133 ≤ 0) = true := decide_eq_true c17
                clear c17
                simp only [Option.some.injEq, Prod.mk.injEq] at H
                obtain ⟨rfl, rfl⟩ := H
                have p4 : 0 ≤ (0 : Int) := (by omega)
                have q4 : 0 < x0_1.size := (by have : (0 : Int) < (x0_1.size : Int) := of_decide_eq_true (by first | (with_reducible assumption) | assumption); omega)
                have hx4 : ∀ h : 0 < x0_1.size, ((x0_1[0]'h).toNat : Int) = bt x0_1 0 := bt_at x0_1 0
                clear p4
                have qi4 : (0 < (x0_1.size : Int)) = True := eq_true (of_decide_eq_true (by first | (with_reducible assumption) | assumption))
                replace q4 := eq_true q4
                go_wp2_with (first | ((with_reducible refine gate_callee (f := 40) rfl ?_); refine goesL_ (some 13) rfl rfl Tryd.func40 (by kernel_rfl) rfl #[.string (⟨#[32, 9, 10]⟩ : ByteArray), .int .u8 (bt x0_1 0)] rfl (by (try simp only [List.map_toArray, List.map_cons, List.map_nil]); first | done | rfl | (simp only [List.length_drop, List.length_take]; rfl)) ?_; (with_reducible refine (strings_IndexByte.calls (⟨#[32, 9, 10]⟩ : ByteArray) (bt x0_1 0) t126 _ A5.out).mono ?_); rintro e w' ⟨rfl, ⟨nd, rfl⟩⟩; refine ⟨_, rfl, ?_⟩) | ((with_reducible refine gate_callee (f := 41) rfl ?_); refine goesL_ (some 19) rfl rfl Tryd.func41 (by kernel_rfl) rfl #[.string x0_1] rfl (by (try simp only [List.map_toArray, List.map_cons, List.map_nil]); first | done | rfl | (simp only [List.length_drop, List.length_take]; rfl)) ?_; (with_reducible refine (lex_mark.calls k1 x0_1 t127 t128 _ A8.out).mono ?_); rintro e w18 ⟨rfl, hb⟩; refine ⟨_, rfl, ?_⟩; have n0_ := Aside0.mk (Kd.R_below (by (with_reducible repeat (first | apply Kd.R_alloc | apply Kd.R_drewN | apply Kd.R_drew)); (first | exact HO_4.out | (first | refine Kd.R_mono HO_4.out (fun _ hk => ?_) | refine Kd.S_mono HO_4.out (fun _ hk => ?_) | refine Kd.Q_mono HO_4.out (fun _ hk => ?_)); simp only [ownBlock_slice] at hk ⊢; exact hk)) hb); have n1_ := Aside0.mk (below_step (by repeat (first | (with_reducible first | exact HB.out | apply below_alloc | apply pw_below_drewN | apply below_drew1) | exact HB.out)) hb); clear HO_4; clear HB; have HO_4 := n0_; have HB := n1_; clear n0_ n1_; (try clear hb); (try clear hb2); (try clear hk); (try clear hi)) | ((with_reducible refine gate_callee (f := 42) rfl ?_); refine goesL_ (some 34) rfl rfl Tryd.func42 (by kernel_rfl) rfl #[.string x0_1] rfl (by (try simp only [List.map_toArray, List.map_cons, List.map_nil]); first | done | rfl | (simp only [List.length_drop, List.length_take]; rfl)) ?_; (with_reducible refine (lex_word.calls x0_1 t132 t133 _ A16.out).mono ?_); rintro e w19 ⟨rfl, hb⟩; refine ⟨_, rfl, ?_⟩; have n0_ := Aside0.mk (Kd.R_below (by (with_reducible repeat (first | apply Kd.R_alloc | apply Kd.R_drewN | apply Kd.R_drew)); (first | exact HO_4.out | (first | refine Kd.R_mono HO_4.out (fun _ hk => ?_) | refine Kd.S_mono HO_4.out (fun _ hk => ?_) | refine Kd.Q_mono HO_4.out (fun _ hk => ?_)); simp only [ownBlock_slice] at hk ⊢; exact hk)) hb); have n1_ := Aside0.mk (below_step (by repeat (first | (with_reducible first | exact HB.out | apply below_alloc | apply pw_below_drewN | apply below_drew1) | exact HB.out)) hb); clear HO_4; clear HB; have HO_4 := n0_; have HB := n1_; clear n0_ n1_; (try clear hb); (try clear hb2); (try clear hk); (try clear hi)))
                go_ret2
                exact ⟨_, by first | rfl | (simp [errW_none, errW_some] <;> rfl) | (simp [*, errW_none, errW_some] <;> rfl), by first | exact Kd.R_nil _ _ _ _ _ | exact Kd.N_nil _ _ _ _ _ | exact Kd.V_nil _ _ _ _ _ | exact Kd.Q_nil _ _ _ _ _ | exact Kd.S_nil _ _ _ _ _, by repeat (first | (with_reducible first | exact HB.out | apply below_alloc | apply pw_below_drewN | apply below_drew1) | exact HB.out)⟩
              · rw [if_neg c17] at H
                have c17b0 : decide (t133 ≤ 0) = false := decide_eq_false c17
                clear c17
                by_cases c20 : x4_1.length < 5864062014805
                · rw [if_pos c20] at H
                  have LMc20 := Aside0.mk c20
                  clear c20
                  obtain ⟨y134, hy134⟩ : ∃ y_ : List (S66), y_ = (x4_1 ++ [(⟨0, t132⟩ : S66)]) := ⟨_, rfl⟩
                  replace H : (if 0 ≤ t133 then (if t133 ≤ (x0_1.size : Int) then (lex_Tokens.l0 k1 (x0_1.extract (t133 : Int).toNat x0_1.size) y134) else (none)) else (none)) = some (r1, r2) := by first | (rw [hy134]; with_reducible exact H) | (have H2_ := (Option.bind_some _ _).symm.trans H; rw [hy134]; with_reducible exact H2_) | (have H2_ := (Option.bind_some _ _).symm.trans H; with_reducible exact H2_) | with_reducible exact H | (rw [hy134]; exact H) | exact H
                  have Ny134 := Aside0.mk hy134
                  clear hy134
                  by_cases c21 : 0 ≤ t133
                  · rw [if_pos c21] at H
                    have c21b0 := eq_true c21
                    have c21b1 : decide (0 ≤ t133) = true := decide_eq_true c21
                    clear c21
                    by_cases c22 : t133 ≤ (x0_1.size : Int)
                    · rw [if_pos c22] at H
                      have c22b0 := eq_true c22
                      have c22b1 : decide (t133 ≤ (x0_1.size : Int)) = true := decide_eq_true c22
                      clear c22
                      have H' := Aside0.mk H
                      clear H
                      have p4 : 0 ≤ (0 : Int) := (by omega)
                      have q4 : 0 < x0_1.size := (by have : (0 : Int) < (x0_1.size : Int) := of_decide_eq_true (by first | (with_reducible assumption) | assumption); omega)
                      have hx4 : ∀ h : 0 < x0_1.size, ((x0_1[0]'h).toNat : Int) = bt x0_1 0 := bt_at x0_1 0
                      clear p4
                      have qi4 : (0 < (x0_1.size : Int)) = True := eq_true (of_decide_eq_true (by first | (with_reducible assumption) | assumption))
                      replace q4 := eq_true q4
                      try go_wp2_with (first | ((with_reducible refine gate_callee (f := 40) rfl ?_); refine goesL_ (some 13) rfl rfl Tryd.func40 (by kernel_rfl) rfl #[.string (⟨#[32, 9, 10]⟩ : ByteArray), .int .u8 (bt x0_1 0)] rfl (by (try simp only [List.map_toArray, List.map_cons, List.map_nil]); first | done | rfl | (simp only [List.length_drop, List.length_take]; rfl)) ?_; (with_reducible refine (strings_IndexByte.calls (⟨#[32, 9, 10]⟩ : ByteArray) (bt x0_1 0) t126 _ A5.out).mono ?_); rintro e w' ⟨rfl, ⟨nd, rfl⟩⟩; refine ⟨_, rfl, ?_⟩) | ((with_reducible refine gate_callee (f := 41) rfl ?_); refine goesL_ (some 19) rfl rfl Tryd.func41 (by kernel_rfl) rfl #[.string x0_1] rfl (by (try simp only [List.map_toArray, List.map_cons, List.map_nil]); first | done | rfl | (simp only [List.length_drop, List.length_take]; rfl)) ?_; (with_reducible refine (lex_mark.calls k1 x0_1 t127 t128 _ A8.out).mono ?_); rintro e w23 ⟨rfl, hb⟩; refine ⟨_, rfl, ?_⟩; have n0_ := Aside0.mk (Kd.R_below (by (with_reducible repeat (first | apply Kd.R_alloc | apply Kd.R_drewN | apply Kd.R_drew)); (first | exact HO_4.out | (first | refine Kd.R_mono HO_4.out (fun _ hk => ?_) | refine Kd.S_mono HO_4.out (fun _ hk => ?_) | refine Kd.Q_mono HO_4.out (fun _ hk => ?_)); simp only [ownBlock_slice] at hk ⊢; exact hk)) hb); have n1_ := Aside0.mk (below_step (by repeat (first | (with_reducible first | exact HB.out | apply below_alloc | apply pw_below_drewN | apply below_drew1) | exact HB.out)) hb); clear HO_4; clear HB; have HO_4 := n0_; have HB := n1_; clear n0_ n1_; (try clear hb); (try clear hb2); (try clear hk); (try clear hi)) | ((with_reducible refine gate_callee (f := 42) rfl ?_); refine goesL_ (some 34) rfl rfl Tryd.func42 (by kernel_rfl) rfl #[.string x0_1] rfl (by (try simp only [List.map_toArray, List.map_cons, List.map_nil]); first | done | rfl | (simp only [List.length_drop, List.length_take]; rfl)) ?_; (with_reducible refine (lex_word.calls x0_1 t132 t133 _ A16.out).mono ?_); rintro e w24 ⟨rfl, hb⟩; refine ⟨_, rfl, ?_⟩; have n0_ := Aside0.mk (Kd.R_below (by (with_reducible repeat (first | apply Kd.R_alloc | apply Kd.R_drewN | apply Kd.R_drew)); (first | exact HO_4.out | (first | refine Kd.R_mono HO_4.out (fun _ hk => ?_) | refine Kd.S_mono HO_4.out (fun _ hk => ?_) | refine Kd.Q_mono HO_4.out (fun _ hk => ?_)); simp only [ownBlock_slice] at hk ⊢; exact hk)) hb); have n1_ := Aside0.mk (below_step (by repeat (first | (with_reducible first | exact HB.out | apply below_alloc | apply pw_below_drewN | apply below_drew1) | exact HB.out)) hb); clear HO_4; clear HB; have HO_4 := n0_; have HB := n1_; clear n0_ n1_; (try clear hb); (try clear hb2); (try clear hk); (try clear hi)))
                      have n0_ := Aside0.mk (Kd.R_drew HO_4.out)
                      have n1_ := Aside0.mk (below_drew1 HB.out)
                      clear HO_4
                      clear HB
                      have HO_4 := n0_
                      have HB := n1_
                      clear n0_ n1_
                      refine start_ (n := 10) (S := fun w' => True) (ds := []) #[false, false, false, false, false, false, false, false, false, false] (by kernel_rfl) rfl rfl trivial (fun hHeld => ?_); refine with_tabW lex_Tokens.tab11 lex_Tokens.bits11 (fun HT_ HW_ => ?_)
                      generalize w24.drew = w25 at HO_4 HB hHeld ⊢
                      refine pure_ (i := 0) (N := some 39) (v := ?_) (a' := ?_) #[true, false, false, false, false, false, false, false, false, false] rfl rfl (any_of HT_.out (by kernel_rfl)) (fun _ _ _ h => h) (Or.inl ⟨by rfl, ?_⟩) ?_ ?_
                      rotate_left
                      · intro w'
                        go_simp
                        with_reducible rfl
                      rotate_left
                      · simp only [Act.put, List.setIfInBounds_toArray, List.set_cons_zero, List.set_cons_succ, i64_w, i32_w]
                        rfl
                      refine pure_ (i := 1) (N := some 40) (v := ?_) (a' := ?_) #[true, true, false, false, false, false, false, false, false, false] rfl rfl (any_of HT_.out (by kernel_rfl)) (fun _ _ _ h => h) (Or.inl ⟨by rfl, ?_⟩) ?_ ?_
                      rotate_left
                      · intro w'
                        go_simp
                        with_reducible rfl
                      rotate_left
                      · simp only [Act.put, List.setIfInBounds_toArray, List.set_cons_zero, List.set_cons_succ, i64_w, i32_w]
                        rfl
                      refine pure_ (i := 2) (N := some 41) (v := ?_) (a' := ?_) #[true, true, true, false, false, false, false, false, false, false] rfl rfl (any_of HT_.out (by kernel_rfl)) (fun _ _ _ h => h) (Or.inl ⟨by rfl, ?_⟩) ?_ ?_
                      rotate_left
                      · intro w'
                        go_simp
                        with_reducible rfl
                      rotate_left
                      · simp only [Act.put, List.setIfInBounds_toArray, List.set_cons_zero, List.set_cons_succ, i64_w, i32_w]
                        rfl
                      refine pure_ (i := 5) (N := some 44) (v := ?_) (a' := ?_) #[true, true, true, false, false, true, false, false, false, false] rfl rfl (any_of HT_.out (by kernel_rfl)) (fun _ _ _ h => h) (Or.inl ⟨by rfl, ?_⟩) ?_ ?_
                      rotate_left
                      · intro w'
                        go_simp
                        with_reducible rfl
                      rotate_left
                      · simp only [Act.put, List.setIfInBounds_toArray, List.set_cons_zero, List.set_cons_succ, i64_w, i32_w]
                        rfl
                      refine pure_ (i := 6) (N := some 45) (v := ?_) (a' := ?_) #[true, true, true, false, false, true, true, false, false, false] rfl rfl (any_of HT_.out (by kernel_rfl)) (fun _ _ _ h => h) (Or.inl ⟨by rfl, ?_⟩) ?_ ?_
                      rotate_left
                      · intro w'
                        go_simp
                        with_reducible rfl
                      rotate_left
                      · simp only [Act.put, List.setIfInBounds_toArray, List.set_cons_zero, List.set_cons_succ, i64_w, i32_w]
                        rfl
                      refine pure_ (i := 7) (N := some 46) (v := ?_) (a' := ?_) #[true, true, true, false, false, true, true, true, false, false] rfl rfl (any_of HT_.out (by kernel_rfl)) (fun _ _ _ h => h) (Or.inl ⟨by rfl, ?_⟩) ?_ ?_
                      rotate_left
                      · intro w'
                        go_simp
                        with_reducible rfl
                      rotate_left
                      · simp only [Act.put, List.setIfInBounds_toArray, List.set_cons_zero, List.set_cons_succ, i64_w, i32_w]
                        rfl
                      refine one_ (i := 3) (N := some 42) #[true, true, true, true, false, true, true, true, false, false] rfl rfl (one_of HT_.out (by kernel_rfl)) (by decide) (fun K hK => ?_)
                      refine value_ (w1 := ?_) (v := ?_) (by rfl) rfl ?_ ?_
                      rotate_left 2
                      · go_simp
                        constructor
                        · rfl
                        · rfl
                      refine hK.out _ _ trivial (fun hHeld => ?_)
                      clear hK K
                      refine norm_ (a' := ?_) ?_ ?_
                      rotate_left
                      · show Act.put _ (some 42) _ = _
                        simp only [Act.put, List.setIfInBounds_toArray, List.set_cons_zero, List.set_cons_succ, i64_w, i32_w]
                        rfl
                      refine one_ (i := 4) (N := some 43) #[true, true, true, true, true, true, true, true, false, false] rfl rfl (one_of HT_.out (by kernel_rfl)) (by decide) (fun K hK => ?_)
                      refine Kd.R_append_step k66 (w0 := w) w.heap.size (by rfl) (.tmp 39) (.tmp 42) 57 66 (.agg #[(.int .i64 0), (.string ⟨#[]⟩)]) 24 rfl Tryd.underlying57 info66 rfl (by decide) (by omega) u4 x4_1 (⟨0, t132⟩ : S66) [.int .i64 0, .string t132] (fun _ => True) (fun _ => False) rfl rfl ?aP (fun _ hk => hk.elim) ?aF ?aO ?aB ?aS ?aL ?_
                      (case aP => exact k66_mkM _ _ _ (⟨0, t132⟩ : S66))
                      (case aB => exact (by repeat (first | (with_reducible first | exact HB.out | apply below_alloc | apply pw_below_drewN | apply below_drew1) | exact HB.out)))
                      (case aF => exact (fun _ _ => trivial))
                      (case aO => exact (by (with_reducible repeat (first | apply Kd.R_alloc | apply Kd.R_drewN | apply Kd.R_drew)); (first | exact HO_4.out | (first | refine Kd.R_mono HO_4.out (fun _ hk => ?_) | refine Kd.S_mono HO_4.out (fun _ hk => ?_) | refine Kd.Q_mono HO_4.out (fun _ hk => ?_)); simp only [ownBlock_slice] at hk ⊢; exact hk)))
                      (case aS => exact (below_size (by repeat (first | (with_reducible first | exact HB.out | apply below_alloc | apply pw_below_drewN | apply below_drew1) | exact HB.out))))
                      (case aL => have := LMc20.out; omega)
                      intro v135 w26 ho hb hg hat
                      rw [← Ny134.out] at ho
                      have n0_ := Aside0.mk (hb)
                      have n1_ := Aside0.mk (ho)
                      clear HB
                      clear HO_4
                      have HB := n0_
                      have HO136 := n1_
                      clear n0_ n1_
                      clear ho hb hg hat
                      refine hK.out _ _ trivial (fun hHeld => ?_)
                      clear hK K
                      refine norm_ (a' := ?_) ?_ ?_
                      rotate_left
                      · show Act.put _ (some 43) _ = _
                        simp only [Act.put, List.setIfInBounds_toArray, List.set_cons_zero, List.set_cons_succ, i64_w, i32_w]
                        rfl
                      refine pure_ (i := 8) (N := some 4) (v := ?_) (a' := ?_) #[true, true, true, true, true, true, true, true, true, false] rfl rfl (any_of HT_.out (by kernel_rfl)) (fun _ _ _ h => h) (Or.inl ⟨by rfl, ?_⟩) ?_ ?_
                      rotate_left
                      · intro w'
                        go_simp
                        with_reducible rfl
                      rotate_left
                      · simp only [Act.put, List.setIfInBounds_toArray, List.set_cons_zero, List.set_cons_succ, i64_w, i32_w]
                        rfl
                      refine pure_ (i := 9) (N := some 0) (v := ?_) (a' := ?_) #[true, true, true, true, true, true, true, true, true, true] rfl rfl (any_of HT_.out (by kernel_rfl)) (fun _ _ _ h => h) (Or.inl ⟨by rfl, ?_⟩) ?_ ?_
                      rotate_left
                      · intro w'
                        go_simp
                        with_reducible rfl
                      rotate_left
                      · simp only [Act.put, List.setIfInBounds_toArray, List.set_cons_zero, List.set_cons_succ, i64_w, i32_w]
                        rfl
                      refine done_ (done_of HT_.out (by kernel_rfl)) ?_
                      try go_wp2
                      go_roundg k1
                      case measure => have := HK1.out; omega
                      case rel => exact ⟨(x0_1.extract (t133 : Int).toNat x0_1.size), (y134), (by first | rfl | (simp; done) | (simp [*]; done)), H', ⟨by have := HK1.out; omega⟩, ⟨by (with_reducible repeat (first | apply Kd.R_alloc | apply Kd.R_drewN | apply Kd.R_drew)); (first | exact HO136.out | (first | refine Kd.R_mono HO136.out (fun _ hk => ?_) | refine Kd.S_mono HO136.out (fun _ hk => ?_) | refine Kd.Q_mono HO136.out (fun _ hk => ?_)); simp only [ownBlock_slice] at hk ⊢; exact hk)⟩, ⟨by repeat (first | (with_reducible first | exact HB.out | apply below_alloc | apply pw_below_drewN | apply below_drew1) | exact HB.out)⟩⟩
                    · rw [if_neg c22] at H
                      exact absurd H (by simp)
                  · rw [if_neg c21] at H
                    exact absurd H (by simp)
                · rw [if_neg c20] at H
                  exact absurd H (by simp)
        · rw [if_neg c3] at H
          exact absurd H (by simp)

/-! ### flatironref05_has: function 44 -/
def flatironref05_has.l0 : Nat → ByteArray → Int → Int → Option (Bool)
  | 0, _, _, _ => none
  | k + 1, x0, x1, x5 => if x5 < (x0.size : Int) then (if 0 ≤ x5 then (if (bt x0 x5) = x1 then (some true) else (flatironref05_has.l0 k x0 x1 (wrap64 (x5 + 1)))) else (none)) else (some false)
def flatironref05_has.f (k : Nat) (a0 : ByteArray) (a1 : Int) : Option (Bool) := flatironref05_has.l0 k a0 a1 0
theorem flatironref05_has.mono_l : ∀ k, (∀ y0 y1 y2, LeO (flatironref05_has.l0 k y0 y1 y2) (flatironref05_has.l0 (k + 1) y0 y1 y2))
  | 0 => fun _ _ _ r h => by simp [flatironref05_has.l0] at h
  | k + 1 => by
    have ih0 := flatironref05_has.mono_l k
    · intro y0 y1 y2
      unfold flatironref05_has.l0
      repeat' first
      | (with_reducible exact ih0 _ _ _)
      | (with_reducible exact LeO.refl _)
      | (with_reducible exact LeO.none _)
      | (with_reducible refine LeO.ite ?_ ?_)
      | (with_reducible refine LeO.bind ?_ (fun _ => ?_))
      | exact ih0 _ _ _
      | exact LeO.none _
      | refine LeO.ite ?_ ?_
      | refine LeO.bind ?_ (fun _ => ?_)
theorem flatironref05_has.mono : ∀ a0 a1 k, LeO (flatironref05_has.f k a0 a1) (flatironref05_has.f (k + 1) a0 a1) := by
  intro a0 a1 k
  have ih0 := flatironref05_has.mono_l k
  unfold flatironref05_has.f
  repeat' first
      | (with_reducible exact ih0 _ _ _)
      | (with_reducible exact LeO.refl _)
      | (with_reducible exact LeO.none _)
      | (with_reducible refine LeO.ite ?_ ?_)
      | (with_reducible refine LeO.bind ?_ (fun _ => ?_))
      | exact ih0 _ _ _
      | exact LeO.none _
      | refine LeO.ite ?_ ?_
      | refine LeO.bind ?_ (fun _ => ?_)
set_option maxHeartbeats 8000000 in
set_option maxRecDepth 100000 in
theorem flatironref05_has.calls (k : Nat) (a0 : ByteArray) (a1 : Int) (r : Bool) (w : World) (h : flatironref05_has.f k a0 a1 = some r) :
    Calls Tryd.prog 44 #[.string a0, .int .u8 a1] w fun e w' => e = .returned (.bool r) ∧ Drawn0 w w' := by
  have H : (flatironref05_has.l0 k a0 a1 0) = some r := h
  clear h
  have H' := Aside0.mk H
  clear H
  go_enter Tryd.func44, Tryd.ntmps44
  go_wp2
  go_loopg [5] k (fun kq v5 w' => ∃ (x5_1 : Int), v5 = .int .i64 x5_1 ∧ Aside0 (flatironref05_has.l0 kq a0 a1 x5_1 = some r) ∧ Aside0 (kq ≤ k) ∧ Drawn0 w w')
  case atStart => exact ⟨(0), (by first | rfl | (simp; done) | (simp [*]; done)), H', ⟨Nat.le_refl _⟩, by repeat (first | exact Drawn0.refl _ | apply Drawn0.step)⟩
  case round =>
    clear H'
    try clear p2
    obtain ⟨x5_1, rfl, HA, HK1, ⟨m1, rfl⟩⟩ := hrel
    cases gk with
    | zero => exact absurd HA.out (by simp [flatironref05_has.l0])
    | succ k1 =>
      have H := HA.out
      clear HA
      simp only [flatironref05_has.l0] at H
      by_cases c3 : x5_1 < (a0.size : Int)
      · rw [if_pos c3] at H
        have c3b0 : decide (x5_1 < (a0.size : Int)) = true := decide_eq_true c3
        clear c3
        by_cases c4 : 0 ≤ x5_1
        · rw [if_pos c4] at H
          have c4b0 : decide (0 ≤ x5_1) = true := decide_eq_true c4
          clear c4
          by_cases c6 : (bt a0 x5_1) = a1
          · rw [if_pos c6] at H
            have c6b0 : ((bt a0 x5_1) == a1) = true := beq_iff_eq.mpr c6
            have c6b1 : ((bt a0 x5_1) != a1) = false := bne_eq_false_iff_eq.mpr c6
            clear c6
            obtain rfl := Option.some.inj H
            have p5 : 0 ≤ (x5_1 : Int) := of_decide_eq_true (by first | (with_reducible assumption) | assumption)
            have q5 : x5_1 < (a0.size : Int) := of_decide_eq_true (by first | (with_reducible assumption) | assumption)
            have hx5 := bt_at a0 x5_1
            replace p5 := eq_true p5
            replace q5 := eq_true q5
            go_wp2
            go_ret
            exact ⟨by first | rfl | (simp; done) | (simp [*]; done), by repeat (first | exact Drawn0.refl _ | apply Drawn0.step)⟩
          · rw [if_neg c6] at H
            have c6b0 : ((bt a0 x5_1) == a1) = false := beq_eq_false_iff_ne.mpr c6
            have c6b1 : ((bt a0 x5_1) != a1) = true := bne_iff_ne.mpr c6
            have H' := Aside0.mk H
            clear H
            have p5 : 0 ≤ (x5_1 : Int) := of_decide_eq_true (by first | (with_reducible assumption) | assumption)
            have q5 : x5_1 < (a0.size : Int) := of_decide_eq_true (by first | (with_reducible assumption) | assumption)
            have hx5 := bt_at a0 x5_1
            replace p5 := eq_true p5
            replace q5 := eq_true q5
            go_wp2
            go_roundg k1
            case measure => have := HK1.out; omega
            case rel => exact ⟨(wrap64 (x5_1 + 1)), (by first | rfl | (simp; done) | (simp [*]; done)), H', ⟨by have := HK1.out; omega⟩, by repeat (first | exact Drawn0.refl _ | apply Drawn0.step)⟩
        · rw [if_neg c4] at H
          exact absurd H (by simp)
      · rw [if_neg c3] at H
        have c3b0 : decide (x5_1 < (a0.size : Int)) = false := decide_eq_false c3
        clear c3
        obtain rfl := Option.some.inj H
        go_wp2
        go_ret
        exact ⟨by first | rfl | (simp; done) | (simp [*]; done), by repeat (first | exact Drawn0.refl _ | apply Drawn0.step)⟩

/-! ### flatironref05_Marks: function 46 -/
def flatironref05_Marks.f  : Option (List ByteArray) := some (([(⟨#[59]⟩ : ByteArray), (⟨#[38, 38]⟩ : ByteArray), (⟨#[124, 124]⟩ : ByteArray), (⟨#[62]⟩ : ByteArray), (⟨#[62, 62]⟩ : ByteArray), (⟨#[60]⟩ : ByteArray)] : List ByteArray))
set_option maxHeartbeats 8000000 in
set_option maxRecDepth 100000 in
theorem flatironref05_Marks.calls  (r : List ByteArray) (w : World) (h : flatironref05_Marks.f  = some r) :
    Calls Tryd.prog 46 #[] w fun e w' => ∃ v0_ : Value, e = .returned (v0_) ∧ Kd.R Kd.string 9 w' w.heap.size (fun _ => True) v0_ r ∧ Below w.heap.size w w' := by
  have HB := Aside0.mk (Below.refl w.heap.size w)
  have H : (some (([(⟨#[59]⟩ : ByteArray), (⟨#[38, 38]⟩ : ByteArray), (⟨#[124, 124]⟩ : ByteArray), (⟨#[62]⟩ : ByteArray), (⟨#[62, 62]⟩ : ByteArray), (⟨#[60]⟩ : ByteArray)] : List ByteArray))) = some r := h
  clear h
  obtain ⟨y137, hy137⟩ : ∃ y_ : List ByteArray, y_ = (([(⟨#[59]⟩ : ByteArray), (⟨#[38, 38]⟩ : ByteArray), (⟨#[124, 124]⟩ : ByteArray), (⟨#[62]⟩ : ByteArray), (⟨#[62, 62]⟩ : ByteArray), (⟨#[60]⟩ : ByteArray)] : List ByteArray)) := ⟨_, rfl⟩
  replace H : (some y137) = some r := by first | (rw [hy137]; with_reducible exact H) | (have H2_ := (Option.bind_some _ _).symm.trans H; rw [hy137]; with_reducible exact H2_) | (have H2_ := (Option.bind_some _ _).symm.trans H; with_reducible exact H2_) | with_reducible exact H | (rw [hy137]; exact H) | exact H
  have Ny137 := Aside0.mk hy137
  clear hy137
  obtain rfl := Option.some.inj H
  go_enter Tryd.func46, Tryd.ntmps46
  go_wp2_with (first | ((with_reducible refine gate_dst (N := 1) rfl ?_); refine Kd.R_lit Kd.string _ 9 ?hg (N := 1) ?hd (xs := ([(⟨#[59]⟩ : ByteArray), (⟨#[38, 38]⟩ : ByteArray), (⟨#[124, 124]⟩ : ByteArray), (⟨#[62]⟩ : ByteArray), (⟨#[62, 62]⟩ : ByteArray), (⟨#[60]⟩ : ByteArray)] : List ByteArray)) (inner := [.string (⟨#[59]⟩ : ByteArray), .string (⟨#[38, 38]⟩ : ByteArray), .string (⟨#[124, 124]⟩ : ByteArray), .string (⟨#[62]⟩ : ByteArray), .string (⟨#[62, 62]⟩ : ByteArray), .string (⟨#[60]⟩ : ByteArray)]) (ok := fun _ => True) (okp := fun _ => True) ?hr ?hp (fun _ hk => hk) trivial (Below.refl _ _) (Nat.le_refl _) (by simp) ?_; (case hd => rfl); (case hg => rfl); (case hr => first | (go_simp; done) | (go_simp; rfl)); (case hp => exact (Reps.one (show Kd.M Kd.string _ _ _ (⟨#[59]⟩ : ByteArray) [.string (⟨#[59]⟩ : ByteArray)] from rfl) (Reps.one (show Kd.M Kd.string _ _ _ (⟨#[38, 38]⟩ : ByteArray) [.string (⟨#[38, 38]⟩ : ByteArray)] from rfl) (Reps.one (show Kd.M Kd.string _ _ _ (⟨#[124, 124]⟩ : ByteArray) [.string (⟨#[124, 124]⟩ : ByteArray)] from rfl) (Reps.one (show Kd.M Kd.string _ _ _ (⟨#[62]⟩ : ByteArray) [.string (⟨#[62]⟩ : ByteArray)] from rfl) (Reps.one (show Kd.M Kd.string _ _ _ (⟨#[62, 62]⟩ : ByteArray) [.string (⟨#[62, 62]⟩ : ByteArray)] from rfl) (Reps.one (show Kd.M Kd.string _ _ _ (⟨#[60]⟩ : ByteArray) [.string (⟨#[60]⟩ : ByteArray)] from rfl) (Reps.none _ _)))))))); intro v138 w1 ho2 hb hg_ hnew_; clear hg_ hnew_; (first | rw [← Ny137.out] at ho2 | (simp only [Int.reduceToNat] at ho2; rw [← Ny137.out] at ho2)); have n0_ := Aside0.mk (Kd.R_lower ho2 (below_size (by repeat (first | (with_reducible first | exact HB.out | apply below_alloc | apply pw_below_drewN | apply below_drew1) | exact HB.out)))); have n1_ := Aside0.mk (below_step (by repeat (first | (with_reducible first | exact HB.out | apply below_alloc | apply pw_below_drewN | apply below_drew1) | exact HB.out)) hb); clear HB; have HO139 := n0_; have HB := n1_; clear n0_ n1_; clear hb ho2))
  go_ret
  exact ⟨_, by first | rfl | (simp [errW_none, errW_some] <;> rfl) | (simp [*, errW_none, errW_some] <;> rfl), by (with_reducible repeat (first | apply Kd.R_alloc | apply Kd.R_drewN | apply Kd.R_drew)); exact HO139.out, by repeat (first | (with_reducible first | exact HB.out | apply below_alloc | apply pw_below_drewN | apply below_drew1) | exact HB.out)⟩

/-! ### flatironref05_mark: function 45 -/
def flatironref05_mark.l0 : Nat → ByteArray → List ByteArray → Int → Int → Option (Int)
  | 0, _, _, _, _ => none
  | k + 1, x0, x3, x4, x5 => if x5 < (x3.length : Int) then (if 0 ≤ x5 then (if (x0.size : Int) ≥ ((rdOf ByteArray.empty x3 x5).size : Int) then (if 0 ≤ ((rdOf ByteArray.empty x3 x5).size : Int) then (if ((rdOf ByteArray.empty x3 x5).size : Int) ≤ (x0.size : Int) then (if (x0.extract 0 (((rdOf ByteArray.empty x3 x5).size : Int) : Int).toNat).toList = (rdOf ByteArray.empty x3 x5).toList then (if x4 = 0 then (flatironref05_mark.l0 k x0 x3 (wrap64 (x5 + 1)) (wrap64 (x5 + 1))) else (if 0 ≤ (wrap64 (x4 - 1)) then (if (wrap64 (x4 - 1)) < (x3.length : Int) then (if ((rdOf ByteArray.empty x3 x5).size : Int) > ((rdOf ByteArray.empty x3 (wrap64 (x4 - 1))).size : Int) then (flatironref05_mark.l0 k x0 x3 (wrap64 (x5 + 1)) (wrap64 (x5 + 1))) else (flatironref05_mark.l0 k x0 x3 x4 (wrap64 (x5 + 1)))) else (none)) else (none))) else (flatironref05_mark.l0 k x0 x3 x4 (wrap64 (x5 + 1)))) else (none)) else (none)) else (flatironref05_mark.l0 k x0 x3 x4 (wrap64 (x5 + 1)))) else (none)) else (some x4)
def flatironref05_mark.f (k : Nat) (a0 : ByteArray) : Option (Int) := (flatironref05_Marks.f).bind fun t140 => (flatironref05_mark.l0 k a0 t140 0 0)
theorem flatironref05_mark.mono_l : ∀ k, (∀ y0 y1 y2 y3, LeO (flatironref05_mark.l0 k y0 y1 y2 y3) (flatironref05_mark.l0 (k + 1) y0 y1 y2 y3))
  | 0 => fun _ _ _ _ r h => by simp [flatironref05_mark.l0] at h
  | k + 1 => by
    have ih0 := flatironref05_mark.mono_l k
    · intro y0 y1 y2 y3
      unfold flatironref05_mark.l0
      repeat' first
      | (with_reducible exact ih0 _ _ _ _)
      | (with_reducible exact LeO.refl _)
      | (with_reducible exact LeO.none _)
      | (with_reducible refine LeO.ite ?_ ?_)
      | (with_reducible refine LeO.bind ?_ (fun _ => ?_))
      | exact ih0 _ _ _ _
      | exact LeO.none _
      | refine LeO.ite ?_ ?_
      | refine LeO.bind ?_ (fun _ => ?_)
theorem flatironref05_mark.mono : ∀ a0 k, LeO (flatironref05_mark.f k a0) (flatironref05_mark.f (k + 1) a0) := by
  intro a0 k
  have ih0 := flatironref05_mark.mono_l k
  unfold flatironref05_mark.f
  repeat' first
      | (with_reducible exact ih0 _ _ _ _)
      | (with_reducible exact LeO.refl _)
      | (with_reducible exact LeO.none _)
      | (with_reducible refine LeO.ite ?_ ?_)
      | (with_reducible refine LeO.bind ?_ (fun _ => ?_))
      | exact ih0 _ _ _ _
      | exact LeO.none _
      | refine LeO.ite ?_ ?_
      | refine LeO.bind ?_ (fun _ => ?_)
set_option maxHeartbeats 8000000 in
set_option maxRecDepth 100000 in
theorem flatironref05_mark.calls (k : Nat) (a0 : ByteArray) (r : Int) (w : World) (h : flatironref05_mark.f k a0 = some r) :
    Calls Tryd.prog 45 #[.string a0] w fun e w' => e = .returned (.int .i64 r) ∧ Below w.heap.size w w' := by
  have HB := Aside0.mk (Below.refl w.heap.size w)
  have H : ((flatironref05_Marks.f).bind fun t140 => (flatironref05_mark.l0 k a0 t140 0 0)) = some r := h
  clear h
  replace H := Option.bind_eq_some_iff.mp H
  obtain ⟨t140, A20, H⟩ := H
  replace H : (flatironref05_mark.l0 k a0 t140 0 0) = some r := H
  have A2 := Aside0.mk A20
  clear A20
  have H' := Aside0.mk H
  clear H
  go_enter Tryd.func45, Tryd.ntmps45
  go_wp2_with (first | (go_at_call 46; (with_reducible refine (flatironref05_Marks.calls  t140 _ A2.out).mono ?_); rintro e w3 ⟨v141, rfl, ho0, hb⟩; have n0_ := Aside0.mk (Kd.R_lower ho0 (below_size (by repeat (first | (with_reducible first | exact HB.out | apply below_alloc | apply pw_below_drewN | apply below_drew1) | exact HB.out)))); have n1_ := Aside0.mk (below_step (by repeat (first | (with_reducible first | exact HB.out | apply below_alloc | apply pw_below_drewN | apply below_drew1) | exact HB.out)) hb); clear HB; have HO142 := n0_; have HB := n1_; clear n0_ n1_; (try clear hb); (try clear hb2); (try clear hk); (try clear hi); (try clear ho0)))
  repeat (go_quiet (first | (go_at_call 46; (with_reducible refine (flatironref05_Marks.calls  t140 _ A2.out).mono ?_); rintro e w3 ⟨v141, rfl, ho0, hb⟩; have n0_ := Aside0.mk (Kd.R_lower ho0 (below_size (by repeat (first | (with_reducible first | exact HB.out | apply below_alloc | apply pw_below_drewN | apply below_drew1) | exact HB.out)))); have n1_ := Aside0.mk (below_step (by repeat (first | (with_reducible first | exact HB.out | apply below_alloc | apply pw_below_drewN | apply below_drew1) | exact HB.out)) hb); clear HB; have HO142 := n0_; have HB := n1_; clear n0_ n1_; (try clear hb); (try clear hb2); (try clear hk); (try clear hi); (try clear ho0))); try go_wp2_with (first | (go_at_call 46; (with_reducible refine (flatironref05_Marks.calls  t140 _ A2.out).mono ?_); rintro e w3 ⟨v141, rfl, ho0, hb⟩; have n0_ := Aside0.mk (Kd.R_lower ho0 (below_size (by repeat (first | (with_reducible first | exact HB.out | apply below_alloc | apply pw_below_drewN | apply below_drew1) | exact HB.out)))); have n1_ := Aside0.mk (below_step (by repeat (first | (with_reducible first | exact HB.out | apply below_alloc | apply pw_below_drewN | apply below_drew1) | exact HB.out)) hb); clear HB; have HO142 := n0_; have HB := n1_; clear n0_ n1_; (try clear hb); (try clear hb2); (try clear hk); (try clear hi); (try clear ho0))))
  go_loopg [4, 5] k (fun kq v4 v5 w' => ∃ (x4_1 : Int) (x5_1 : Int), v4 = .int .i64 x4_1 ∧ v5 = .int .i64 x5_1 ∧ Aside0 (flatironref05_mark.l0 kq a0 t140 x4_1 x5_1 = some r) ∧ Aside0 (kq ≤ k) ∧ Aside0 (Kd.R Kd.string 9 w' w.heap.size (fun _ => True) v141 t140) ∧ Aside0 (Below w.heap.size w w'))
  case atStart => exact ⟨(0), (0), (by first | rfl | (simp; done) | (simp [*]; done)), (by first | rfl | (simp; done) | (simp [*]; done)), H', ⟨Nat.le_refl _⟩, ⟨by (with_reducible repeat (first | apply Kd.R_alloc | apply Kd.R_drewN | apply Kd.R_drew)); (first | exact HO142.out | (first | refine Kd.R_mono HO142.out (fun _ hk => ?_) | refine Kd.S_mono HO142.out (fun _ hk => ?_) | refine Kd.Q_mono HO142.out (fun _ hk => ?_)); simp only [ownBlock_slice] at hk ⊢; exact hk)⟩, ⟨by repeat (first | (with_reducible first | exact HB.out | apply below_alloc | apply pw_below_drewN | apply below_drew1) | exact HB.out)⟩⟩
  case round =>
    clear H'
    try clear p2
    obtain ⟨x4_1, x5_1, rfl, rfl, HA, HK1, HO_3, HB⟩ := hrel
    cases gk with
    | zero => exact absurd HA.out (by simp [flatironref05_mark.l0])
    | succ k1 =>
      have H := HA.out
      clear HA
      simp only [flatironref05_mark.l0] at H
      by_cases c4 : x5_1 < (t140.length : Int)
      · rw [if_pos c4] at H
        have c4b0 : decide (x5_1 < (t140.length : Int)) = true := decide_eq_true c4
        clear c4
        by_cases c5 : 0 ≤ x5_1
        · rw [if_pos c5] at H
          have c5b0 : decide (0 ≤ x5_1) = true := decide_eq_true c5
          clear c5
          by_cases c6 : (a0.size : Int) ≥ ((rdOf ByteArray.empty t140 x5_1).size : Int)
          · rw [if_pos c6] at H
            have c6b0 : decide (((rdOf ByteArray.empty t140 x5_1).size : Int) ≤ (a0.size : Int)) = true := decide_eq_true c6
            have c6b1 : decide ((rdOf ByteArray.empty t140 x5_1).size ≤ a0.size) = true := decide_eq_true (Int.ofNat_le.mp c6)
            clear c6
            by_cases c7 : 0 ≤ ((rdOf ByteArray.empty t140 x5_1).size : Int)
            · rw [if_pos c7] at H
              have c7b0 := eq_true c7
              have c7b1 : decide (0 ≤ ((rdOf ByteArray.empty t140 x5_1).size : Int)) = true := decide_eq_true c7
              clear c7
              by_cases c8 : ((rdOf ByteArray.empty t140 x5_1).size : Int) ≤ (a0.size : Int)
              · rw [if_pos c8] at H
                have c8b0 := eq_true c8
                have c8b1 : decide (((rdOf ByteArray.empty t140 x5_1).size : Int) ≤ (a0.size : Int)) = true := decide_eq_true c8
                clear c8
                by_cases c9 : (a0.extract 0 (((rdOf ByteArray.empty t140 x5_1).size : Int) : Int).toNat).toList = (rdOf ByteArray.empty t140 x5_1).toList
                · rw [if_pos c9] at H
                  have c9b0 : ((a0.extract 0 (((rdOf ByteArray.empty t140 x5_1).size : Int) : Int).toNat).toList == (rdOf ByteArray.empty t140 x5_1).toList) = true := beq_iff_eq.mpr c9
                  have c9b0n : ((a0.extract 0 ((rdOf ByteArray.empty t140 x5_1).size)).toList == (rdOf ByteArray.empty t140 x5_1).toList) = true := c9b0
                  have c9b1 : ((a0.extract 0 (((rdOf ByteArray.empty t140 x5_1).size : Int) : Int).toNat).toList != (rdOf ByteArray.empty t140 x5_1).toList) = false := bne_eq_false_iff_eq.mpr c9
                  have c9b1n : ((a0.extract 0 ((rdOf ByteArray.empty t140 x5_1).size)).toList != (rdOf ByteArray.empty t140 x5_1).toList) = false := c9b1
                  clear c9
                  by_cases c10 : x4_1 = 0
                  · rw [if_pos c10] at H
                    have c10b0 : (x4_1 == 0) = true := beq_iff_eq.mpr c10
                    have c10b1 : (x4_1 != 0) = false := bne_eq_false_iff_eq.mpr c10
                    clear c10
                    have H' := Aside0.mk H
                    clear H
                    obtain ⟨Ao11, co11, eo11⟩ := Kd.R_slice HO_3.out
                    subst eo11
                    have p143 : 0 ≤ (x5_1 : Int) := of_decide_eq_true (by first | (with_reducible assumption) | assumption)
                    have q143 : x5_1 < (t140.length : Int) := of_decide_eq_true (by first | (with_reducible assumption) | assumption)
                    obtain ⟨ad143, e143, hx143_0⟩ := Kd.at_string (Kd.R_reads' HO_3.out).2.2 x5_1 p143 q143
                    cases e143
                    replace p143 := eq_true p143
                    replace q143 := eq_true q143
                    have p144 : 0 ≤ (x5_1 : Int) := of_decide_eq_true (by first | (with_reducible assumption) | assumption)
                    have q144 : x5_1 < (t140.length : Int) := of_decide_eq_true (by first | (with_reducible assumption) | assumption)
                    obtain ⟨ad144, e144, hx144_0⟩ := Kd.at_string (Kd.R_reads' HO_3.out).2.2 x5_1 p144 q144
                    obtain rfl : ad143 = ad144 := (by injection e144)
                    replace p144 := eq_true p144
                    replace q144 := eq_true q144
                    go_wp2
                    repeat (go_quiet (fail); try go_wp2)
                    go_roundg k1
                    case measure => have := HK1.out; omega
                    case rel => exact ⟨(wrap64 (x5_1 + 1)), (wrap64 (x5_1 + 1)), (by first | rfl | (simp; done) | (simp [*]; done)), (by first | rfl | (simp; done) | (simp [*]; done)), H', ⟨by have := HK1.out; omega⟩, ⟨by (with_reducible repeat (first | apply Kd.R_alloc | apply Kd.R_drewN | apply Kd.R_drew)); (first | exact HO_3.out | (first | refine Kd.R_mono HO_3.out (fun _ hk => ?_) | refine Kd.S_mono HO_3.out (fun _ hk => ?_) | refine Kd.Q_mono HO_3.out (fun _ hk => ?_)); simp only [ownBlock_slice] at hk ⊢; exact hk)⟩, ⟨by repeat (first | (with_reducible first | exact HB.out | apply below_alloc | apply pw_below_drewN | apply below_drew1) | exact HB.out)⟩⟩
                  · rw [if_neg c10] at H
                    have c10b0 : (x4_1 == 0) = false := beq_eq_false_iff_ne.mpr c10
                    have c10b1 : (x4_1 != 0) = true := bne_iff_ne.mpr c10
                    obtain ⟨ji12, hji12⟩ : ∃ j_ : Int, (wrap64 (x4_1 - 1)) = j_ := ⟨_, rfl⟩
                    replace H : (if 0 ≤ (ji12) then (if (ji12) < (t140.length : Int) then (if ((rdOf ByteArray.empty t140 x5_1).size : Int) > ((rdOf ByteArray.empty t140 (ji12)).size : Int) then (flatironref05_mark.l0 k1 a0 t140 (wrap64 (x5_1 + 1)) (wrap64 (x5_1 + 1))) else (flatironref05_mark.l0 k1 a0 t140 x4_1 (wrap64 (x5_1 + 1)))) else (none)) else (none)) = some r := by first | (rw [hji12] at H; exact H) | (simp only [hji12] at H ⊢; exact H)
                    have hji12w : (IntKind.i64.wrap (x4_1 - 1)) = ji12 := (i64_w _).trans hji12
                    by_cases c13 : 0 ≤ (ji12)
                    · rw [if_pos c13] at H
                      have c13b0 : decide (0 ≤ (ji12)) = true := decide_eq_true c13
                      clear c13
                      by_cases c14 : (ji12) < (t140.length : Int)
                      · rw [if_pos c14] at H
                        have c14b0 : decide ((ji12) < (t140.length : Int)) = true := decide_eq_true c14
                        clear c14
                        by_cases c15 : ((rdOf ByteArray.empty t140 x5_1).size : Int) > ((rdOf ByteArray.empty t140 (ji12)).size : Int)
                        · rw [if_pos c15] at H
                          have c15b0 : decide (((rdOf ByteArray.empty t140 (ji12)).size : Int) < ((rdOf ByteArray.empty t140 x5_1).size : Int)) = true := decide_eq_true c15
                          have c15b1 : decide ((rdOf ByteArray.empty t140 (ji12)).size < (rdOf ByteArray.empty t140 x5_1).size) = true := decide_eq_true (Int.ofNat_lt.mp c15)
                          clear c15
                          have H' := Aside0.mk H
                          clear H
                          obtain ⟨Ao16, co16, eo16⟩ := Kd.R_slice HO_3.out
                          subst eo16
                          have p143 : 0 ≤ (x5_1 : Int) := of_decide_eq_true (by first | (with_reducible assumption) | assumption)
                          have q143 : x5_1 < (t140.length : Int) := of_decide_eq_true (by first | (with_reducible assumption) | assumption)
                          obtain ⟨ad143, e143, hx143_0⟩ := Kd.at_string (Kd.R_reads' HO_3.out).2.2 x5_1 p143 q143
                          cases e143
                          replace p143 := eq_true p143
                          replace q143 := eq_true q143
                          have p144 : 0 ≤ (x5_1 : Int) := of_decide_eq_true (by first | (with_reducible assumption) | assumption)
                          have q144 : x5_1 < (t140.length : Int) := of_decide_eq_true (by first | (with_reducible assumption) | assumption)
                          obtain ⟨ad144, e144, hx144_0⟩ := Kd.at_string (Kd.R_reads' HO_3.out).2.2 x5_1 p144 q144
                          obtain rfl : ad143 = ad144 := (by injection e144)
                          replace p144 := eq_true p144
                          replace q144 := eq_true q144
                          have p145 : 0 ≤ ((ji12) : Int) := of_decide_eq_true (by first | (with_reducible assumption) | assumption)
                          have q145 : (ji12) < (t140.length : Int) := of_decide_eq_true (by first | (with_reducible assumption) | assumption)
                          obtain ⟨ad145, e145, hx145_0⟩ := Kd.at_string (Kd.R_reads' HO_3.out).2.2 (ji12) p145 q145
                          obtain rfl : ad143 = ad145 := (by injection e145)
                          replace p145 := eq_true p145
                          replace q145 := eq_true q145
                          go_wp2
                          repeat (go_quiet (fail); try go_wp2)
                          go_roundg k1
                          case measure => have := HK1.out; omega
                          case rel => exact ⟨(wrap64 (x5_1 + 1)), (wrap64 (x5_1 + 1)), (by first | rfl | (simp; done) | (simp [*]; done)), (by first | rfl | (simp; done) | (simp [*]; done)), H', ⟨by have := HK1.out; omega⟩, ⟨by (with_reducible repeat (first | apply Kd.R_alloc | apply Kd.R_drewN | apply Kd.R_drew)); (first | exact HO_3.out | (first | refine Kd.R_mono HO_3.out (fun _ hk => ?_) | refine Kd.S_mono HO_3.out (fun _ hk => ?_) | refine Kd.Q_mono HO_3.out (fun _ hk => ?_)); simp only [ownBlock_slice] at hk ⊢; exact hk)⟩, ⟨by repeat (first | (with_reducible first | exact HB.out | apply below_alloc | apply pw_below_drewN | apply below_drew1) | exact HB.out)⟩⟩
                        · rw [if_neg c15] at H
                          have c15b0 : decide (((rdOf ByteArray.empty t140 (ji12)).size : Int) < ((rdOf ByteArray.empty t140 x5_1).size : Int)) = false := decide_eq_false c15
                          have c15b1 : decide ((rdOf ByteArray.empty t140 (ji12)).size < (rdOf ByteArray.empty t140 x5_1).size) = false := decide_eq_false (fun h => c15 (Int.ofNat_lt.mpr h))
                          clear c15
                          have H' := Aside0.mk H
                          clear H
                          obtain ⟨Ao17, co17, eo17⟩ := Kd.R_slice HO_3.out
                          subst eo17
                          have p143 : 0 ≤ (x5_1 : Int) := of_decide_eq_true (by first | (with_reducible assumption) | assumption)
                          have q143 : x5_1 < (t140.length : Int) := of_decide_eq_true (by first | (with_reducible assumption) | assumption)
                          obtain ⟨ad143, e143, hx143_0⟩ := Kd.at_string (Kd.R_reads' HO_3.out).2.2 x5_1 p143 q143
                          cases e143
                          replace p143 := eq_true p143
                          replace q143 := eq_true q143
                          have p144 : 0 ≤ (x5_1 : Int) := of_decide_eq_true (by first | (with_reducible assumption) | assumption)
                          have q144 : x5_1 < (t140.length : Int) := of_decide_eq_true (by first | (with_reducible assumption) | assumption)
                          obtain ⟨ad144, e144, hx144_0⟩ := Kd.at_string (Kd.R_reads' HO_3.out).2.2 x5_1 p144 q144
                          obtain rfl : ad143 = ad144 := (by injection e144)
                          replace p144 := eq_true p144
                          replace q144 := eq_true q144
                          have p145 : 0 ≤ ((ji12) : Int) := of_decide_eq_true (by first | (with_reducible assumption) | assumption)
                          have q145 : (ji12) < (t140.length : Int) := of_decide_eq_true (by first | (with_reducible assumption) | assumption)
                          obtain ⟨ad145, e145, hx145_0⟩ := Kd.at_string (Kd.R_reads' HO_3.out).2.2 (ji12) p145 q145
                          obtain rfl : ad143 = ad145 := (by injection e145)
                          replace p145 := eq_true p145
                          replace q145 := eq_true q145
                          go_wp2
                          repeat (go_quiet (fail); try go_wp2)
                          go_roundg k1
                          case measure => have := HK1.out; omega
                          case rel => exact ⟨(x4_1), (wrap64 (x5_1 + 1)), (by first | rfl | (simp; done) | (simp [*]; done)), (by first | rfl | (simp; done) | (simp [*]; done)), H', ⟨by have := HK1.out; omega⟩, ⟨by (with_reducible repeat (first | apply Kd.R_alloc | apply Kd.R_drewN | apply Kd.R_drew)); (first | exact HO_3.out | (first | refine Kd.R_mono HO_3.out (fun _ hk => ?_) | refine Kd.S_mono HO_3.out (fun _ hk => ?_) | refine Kd.Q_mono HO_3.out (fun _ hk => ?_)); simp only [ownBlock_slice] at hk ⊢; exact hk)⟩, ⟨by repeat (first | (with_reducible first | exact HB.out | apply below_alloc | apply pw_below_drewN | apply below_drew1) | exact HB.out)⟩⟩
                      · rw [if_neg c14] at H
                        exact absurd H (by simp)
                    · rw [if_neg c13] at H
                      exact absurd H (by simp)
                · rw [if_neg c9] at H
                  have c9b0 : ((a0.extract 0 (((rdOf ByteArray.empty t140 x5_1).size : Int) : Int).toNat).toList == (rdOf ByteArray.empty t140 x5_1).toList) = false := beq_eq_false_iff_ne.mpr c9
                  have c9b0n : ((a0.extract 0 ((rdOf ByteArray.empty t140 x5_1).size)).toList == (rdOf ByteArray.empty t140 x5_1).toList) = false := c9b0
                  have c9b1 : ((a0.extract 0 (((rdOf ByteArray.empty t140 x5_1).size : Int) : Int).toNat).toList != (rdOf ByteArray.empty t140 x5_1).toList) = true := bne_iff_ne.mpr c9
                  have c9b1n : ((a0.extract 0 ((rdOf ByteArray.empty t140 x5_1).size)).toList != (rdOf ByteArray.empty t140 x5_1).toList) = true := c9b1
                  have H' := Aside0.mk H
                  clear H
                  obtain ⟨Ao18, co18, eo18⟩ := Kd.R_slice HO_3.out
                  subst eo18
                  have p143 : 0 ≤ (x5_1 : Int) := of_decide_eq_true (by first | (with_reducible assumption) | assumption)
                  have q143 : x5_1 < (t140.length : Int) := of_decide_eq_true (by first | (with_reducible assumption) | assumption)
                  obtain ⟨ad143, e143, hx143_0⟩ := Kd.at_string (Kd.R_reads' HO_3.out).2.2 x5_1 p143 q143
                  cases e143
                  replace p143 := eq_true p143
                  replace q143 := eq_true q143
                  have p144 : 0 ≤ (x5_1 : Int) := of_decide_eq_true (by first | (with_reducible assumption) | assumption)
                  have q144 : x5_1 < (t140.length : Int) := of_decide_eq_true (by first | (with_reducible assumption) | assumption)
                  obtain ⟨ad144, e144, hx144_0⟩ := Kd.at_string (Kd.R_reads' HO_3.out).2.2 x5_1 p144 q144
                  obtain rfl : ad143 = ad144 := (by injection e144)
                  replace p144 := eq_true p144
                  replace q144 := eq_true q144
                  go_wp2
                  repeat (go_quiet (fail); try go_wp2)
                  go_roundg k1
                  case measure => have := HK1.out; omega
                  case rel => exact ⟨(x4_1), (wrap64 (x5_1 + 1)), (by first | rfl | (simp; done) | (simp [*]; done)), (by first | rfl | (simp; done) | (simp [*]; done)), H', ⟨by have := HK1.out; omega⟩, ⟨by (with_reducible repeat (first | apply Kd.R_alloc | apply Kd.R_drewN | apply Kd.R_drew)); (first | exact HO_3.out | (first | refine Kd.R_mono HO_3.out (fun _ hk => ?_) | refine Kd.S_mono HO_3.out (fun _ hk => ?_) | refine Kd.Q_mono HO_3.out (fun _ hk => ?_)); simp only [ownBlock_slice] at hk ⊢; exact hk)⟩, ⟨by repeat (first | (with_reducible first | exact HB.out | apply below_alloc | apply pw_below_drewN | apply below_drew1) | exact HB.out)⟩⟩
              · rw [if_neg c8] at H
                exact absurd H (by simp)
            · rw [if_neg c7] at H
              exact absurd H (by simp)
          · rw [if_neg c6] at H
            have c6b0 : decide (((rdOf ByteArray.empty t140 x5_1).size : Int) ≤ (a0.size : Int)) = false := decide_eq_false c6
            have c6b1 : decide ((rdOf ByteArray.empty t140 x5_1).size ≤ a0.size) = false := decide_eq_false (fun h => c6 (Int.ofNat_le.mpr h))
            clear c6
            have H' := Aside0.mk H
            clear H
            obtain ⟨Ao19, co19, eo19⟩ := Kd.R_slice HO_3.out
            subst eo19
            have p143 : 0 ≤ (x5_1 : Int) := of_decide_eq_true (by first | (with_reducible assumption) | assumption)
            have q143 : x5_1 < (t140.length : Int) := of_decide_eq_true (by first | (with_reducible assumption) | assumption)
            obtain ⟨ad143, e143, hx143_0⟩ := Kd.at_string (Kd.R_reads' HO_3.out).2.2 x5_1 p143 q143
            cases e143
            replace p143 := eq_true p143
            replace q143 := eq_true q143
            go_wp2
            repeat (go_quiet (fail); try go_wp2)
            go_roundg k1
            case measure => have := HK1.out; omega
            case rel => exact ⟨(x4_1), (wrap64 (x5_1 + 1)), (by first | rfl | (simp; done) | (simp [*]; done)), (by first | rfl | (simp; done) | (simp [*]; done)), H', ⟨by have := HK1.out; omega⟩, ⟨by (with_reducible repeat (first | apply Kd.R_alloc | apply Kd.R_drewN | apply Kd.R_drew)); (first | exact HO_3.out | (first | refine Kd.R_mono HO_3.out (fun _ hk => ?_) | refine Kd.S_mono HO_3.out (fun _ hk => ?_) | refine Kd.Q_mono HO_3.out (fun _ hk => ?_)); simp only [ownBlock_slice] at hk ⊢; exact hk)⟩, ⟨by repeat (first | (with_reducible first | exact HB.out | apply below_alloc | apply pw_below_drewN | apply below_drew1) | exact HB.out)⟩⟩
        · rw [if_neg c5] at H
          exact absurd H (by simp)
      · rw [if_neg c4] at H
        have c4b0 : decide (x5_1 < (t140.length : Int)) = false := decide_eq_false c4
        clear c4
        obtain rfl := Option.some.inj H
        obtain ⟨Ao20, co20, eo20⟩ := Kd.R_slice HO_3.out
        subst eo20
        go_wp2
        repeat (go_quiet (fail); try go_wp2)
        go_ret
        exact ⟨by first | rfl | (simp [errW_none, errW_some] <;> rfl) | (simp [*, errW_none, errW_some] <;> rfl), by repeat (first | (with_reducible first | exact HB.out | apply below_alloc | apply pw_below_drewN | apply below_drew1) | exact HB.out)⟩

end Go.Proofs.YtogbdjboblfokaaDoor.XW05
/- Laid for this claim by the session's own program xprint.py, over the print of the kit: functions of the program as plain Lean functions, each with a proof that a call comes to what its function says, or the row of a law out of these; no condition of its own. -/
namespace Go.Proofs.YtogbdjboblfokaaDoor.XW05
open Go.Proofs.YtogbdjboblfokaaDoor.X Go.Proofs.YtogbdjboblfokaaDoor.XT06 Go.RowKit Go.Proofs.YtogbdjboblfokaaDoorW.PrintWords Go.Proofs.YtogbdjboblfokaaDoorW.PrintLast Go.Proofs.YtogbdjboblfokaaDoorW.PrintMore
attribute [local go_sem] cell4_1 cell4_1d max2_int min2_int max_two min_two max_three min_three max_four min_four   -- for this text's walks alone
set_option linter.unusedVariables false
set_option linter.unusedSimpArgs false

/-! ### flatironref05_step: function 47 -/
def flatironref05_step.f (a0 : ByteArray) : Option (Int × Int × Bool) := if 0 < (a0.size : Int) then (if (bt a0 0) = 39 then (some (1, 2, true)) else (if (bt a0 0) = 34 then (some (1, 3, true)) else (if (bt a0 0) = 92 then (some (2, 1, decide ((a0.size : Int) > 1))) else (some (1, 1, true))))) else (none)
set_option maxHeartbeats 8000000 in
set_option maxRecDepth 100000 in
theorem flatironref05_step.calls (a0 : ByteArray) (r1 : Int) (r2 : Int) (r3 : Bool) (w : World) (h : flatironref05_step.f a0 = some (r1, r2, r3)) :
    Calls Tryd.prog 47 #[.string a0] w fun e w' => e = .returned (.tuple #[.int .i64 r1, .int .i64 r2, .bool r3]) ∧ Drawn0 w w' := by
  have H : (if 0 < (a0.size : Int) then (if (bt a0 0) = 39 then (some (1, 2, true)) else (if (bt a0 0) = 34 then (some (1, 3, true)) else (if (bt a0 0) = 92 then (some (2, 1, decide ((a0.size : Int) > 1))) else (some (1, 1, true))))) else (none)) = some (r1, r2, r3) := h
  clear h
  by_cases c2 : 0 < (a0.size : Int)
  · rw [if_pos c2] at H
    have c2b0 : decide (0 < (a0.size : Int)) = true := decide_eq_true c2
    have c2b1 : decide (0 < a0.size) = true := decide_eq_true (by omega)
    clear c2
    by_cases c4 : (bt a0 0) = 39
    · rw [if_pos c4] at H
      have c4b0 : ((bt a0 0) == 39) = true := beq_iff_eq.mpr c4
      have c4b1 : ((bt a0 0) != 39) = false := bne_eq_false_iff_eq.mpr c4
      clear c4
      simp only [Option.some.injEq, Prod.mk.injEq] at H
      obtain ⟨rfl, rfl, rfl⟩ := H
      have p3 : 0 ≤ (0 : Int) := (by omega)
      have q3 : 0 < a0.size := (by have : (0 : Int) < (a0.size : Int) := of_decide_eq_true (by first | (with_reducible assumption) | assumption); omega)
      have hx3 : ∀ h : 0 < a0.size, ((a0[0]'h).toNat : Int) = bt a0 0 := bt_at a0 0
      clear p3
      have qi3 : (0 < (a0.size : Int)) = True := eq_true (of_decide_eq_true (by first | (with_reducible assumption) | assumption))
      replace q3 := eq_true q3
      go_enter Tryd.func47, Tryd.ntmps47
      go_wp2
      go_ret3
      exact ⟨by first | rfl | (simp; done) | (simp [*]; done), by repeat (first | exact Drawn0.refl _ | apply Drawn0.step)⟩
    · rw [if_neg c4] at H
      have c4b0 : ((bt a0 0) == 39) = false := beq_eq_false_iff_ne.mpr c4
      have c4b1 : ((bt a0 0) != 39) = true := bne_iff_ne.mpr c4
      by_cases c5 : (bt a0 0) = 34
      · rw [if_pos c5] at H
        have c5b0 : ((bt a0 0) == 34) = true := beq_iff_eq.mpr c5
        have c5b1 : ((bt a0 0) != 34) = false := bne_eq_false_iff_eq.mpr c5
        clear c5
        simp only [Option.some.injEq, Prod.mk.injEq] at H
        obtain ⟨rfl, rfl, rfl⟩ := H
        have p3 : 0 ≤ (0 : Int) := (by omega)
        have q3 : 0 < a0.size := (by have : (0 : Int) < (a0.size : Int) := of_decide_eq_true (by first | (with_reducible assumption) | assumption); omega)
        have hx3 : ∀ h : 0 < a0.size, ((a0[0]'h).toNat : Int) = bt a0 0 := bt_at a0 0
        clear p3
        have qi3 : (0 < (a0.size : Int)) = True := eq_true (of_decide_eq_true (by first | (with_reducible assumption) | assumption))
        replace q3 := eq_true q3
        go_enter Tryd.func47, Tryd.ntmps47
        go_wp2
        go_ret3
        exact ⟨by first | rfl | (simp; done) | (simp [*]; done), by repeat (first | exact Drawn0.refl _ | apply Drawn0.step)⟩
      · rw [if_neg c5] at H
        have c5b0 : ((bt a0 0) == 34) = false := beq_eq_false_iff_ne.mpr c5
        have c5b1 : ((bt a0 0) != 34) = true := bne_iff_ne.mpr c5
        by_cases c6 : (bt a0 0) = 92
        · rw [if_pos c6] at H
          have c6b0 : ((bt a0 0) == 92) = true := beq_iff_eq.mpr c6
          have c6b1 : ((bt a0 0) != 92) = false := bne_eq_false_iff_eq.mpr c6
          clear c6
          simp only [Option.some.injEq, Prod.mk.injEq] at H
          obtain ⟨rfl, rfl, rfl⟩ := H
          have p3 : 0 ≤ (0 : Int) := (by omega)
          have q3 : 0 < a0.size := (by have : (0 : Int) < (a0.size : Int) := of_decide_eq_true (by first | (with_reducible assumption) | assumption); omega)
          have hx3 : ∀ h : 0 < a0.size, ((a0[0]'h).toNat : Int) = bt a0 0 := bt_at a0 0
          clear p3
          have qi3 : (0 < (a0.size : Int)) = True := eq_true (of_decide_eq_true (by first | (with_reducible assumption) | assumption))
          replace q3 := eq_true q3
          go_enter Tryd.func47, Tryd.ntmps47
          go_wp2
          go_ret3
          exact ⟨by first | rfl | (simp; done) | (simp [*]; done), by repeat (first | exact Drawn0.refl _ | apply Drawn0.step)⟩
        · rw [if_neg c6] at H
          have c6b0 : ((bt a0 0) == 92) = false := beq_eq_false_iff_ne.mpr c6
          have c6b1 : ((bt a0 0) != 92) = true := bne_iff_ne.mpr c6
          simp only [Option.some.injEq, Prod.mk.injEq] at H
          obtain ⟨rfl, rfl, rfl⟩ := H
          have p3 : 0 ≤ (0 : Int) := (by omega)
          have q3 : 0 < a0.size := (by have : (0 : Int) < (a0.size : Int) := of_decide_eq_true (by first | (with_reducible assumption) | assumption); omega)
          have hx3 : ∀ h : 0 < a0.size, ((a0[0]'h).toNat : Int) = bt a0 0 := bt_at a0 0
          clear p3
          have qi3 : (0 < (a0.size : Int)) = True := eq_true (of_decide_eq_true (by first | (with_reducible assumption) | assumption))
          replace q3 := eq_true q3
          go_enter Tryd.func47, Tryd.ntmps47
          go_wp2
          go_ret3
          exact ⟨by first | rfl | (simp; done) | (simp [*]; done), by repeat (first | exact Drawn0.refl _ | apply Drawn0.step)⟩
  · rw [if_neg c2] at H
    exact absurd H (by simp)

end Go.Proofs.YtogbdjboblfokaaDoor.XW05
/- Laid for this claim by the session's own program xprint.py, over the print of the kit: functions of the program as plain Lean functions, each with a proof that a call comes to what its function says, or the row of a law out of these; no condition of its own. -/
namespace Go.Proofs.YtogbdjboblfokaaDoor.XW05
open Go.Proofs.YtogbdjboblfokaaDoor.X Go.Proofs.YtogbdjboblfokaaDoor.XT06 Go.RowKit Go.Proofs.YtogbdjboblfokaaDoorW.PrintWords Go.Proofs.YtogbdjboblfokaaDoorW.PrintLast Go.Proofs.YtogbdjboblfokaaDoorW.PrintMore
attribute [local go_sem] cell4_1 cell4_1d max2_int min2_int max_two min_two max_three min_three max_four min_four   -- for this text's walks alone
set_option linter.unusedVariables false
set_option linter.unusedSimpArgs false

/-! ### flatironref05_Tokens: function 22 -/
mutual
def flatironref05_Tokens.l0 : Nat → ByteArray → List (S75) → Int → ByteArray → Int → Option ((List (S75)) × Bool)
  | 0, _, _, _, _, _ => none
  | k + 1, x0, x4, x5, x6, x7 => if x7 < (x0.size : Int) then (if 0 ≤ x7 then ((flatironref05_has.f k (⟨#[32, 9, 10, 59, 38, 124, 60, 62]⟩ : ByteArray) (bt x0 x7)).bind fun t146 => (if x5 = 2 then (if (bt x0 x7) = 39 then (flatironref05_Tokens.l0 k x0 x4 1 x6 (wrap64 (x7 + 1))) else (if x7 ≤ (wrap64 (x7 + 1)) then (if (wrap64 (x7 + 1)) ≤ (x0.size : Int) then (if x6.size + ((((wrap64 (x7 + 1)) : Int).toNat) - (x7 : Int).toNat) ≤ 9223372036854775807 then (flatironref05_Tokens.l0 k x0 x4 x5 (x6 ++ (x0.extract (x7 : Int).toNat ((wrap64 (x7 + 1)) : Int).toNat)) (wrap64 (x7 + 1))) else (none)) else (none)) else (none))) else (if x5 = 3 then (flatironref05_Tokens.j1 k x0 x4 x5 x6 x7 (bt x0 x7) t146 ((bt x0 x7) == 34)) else (flatironref05_Tokens.j1 k x0 x4 x5 x6 x7 (bt x0 x7) t146 false)))) else (none)) else (if x5 > 1 then (some (([] : List (S75)), false)) else (if x5 = 1 then (if x4.length < 5864062014805 then (some ((x4 ++ [(⟨0, x6⟩ : S75)]), true)) else (none)) else (some (x4, true))))
def flatironref05_Tokens.j1 : Nat → ByteArray → List (S75) → Int → ByteArray → Int → Int → Bool → Bool → Option ((List (S75)) × Bool)
  | 0, _, _, _, _, _, _, _, _ => none
  | k + 1, x0, x4, x5, x6, x7, x8, x9, x64 => if x64 = true then (flatironref05_Tokens.l0 k x0 x4 1 x6 (wrap64 (x7 + 1))) else (if x5 = 3 then (if x8 = 92 then (if (wrap64 (x7 + 1)) < (x0.size : Int) then (if 0 ≤ (wrap64 (x7 + 1)) then (if (bt x0 (wrap64 (x7 + 1))) = 34 then (if (wrap64 (x7 + 1)) ≤ (wrap64 ((wrap64 (x7 + 1)) + 1)) then (if (wrap64 ((wrap64 (x7 + 1)) + 1)) ≤ (x0.size : Int) then (if x6.size + ((((wrap64 ((wrap64 (x7 + 1)) + 1)) : Int).toNat) - ((wrap64 (x7 + 1)) : Int).toNat) ≤ 9223372036854775807 then (flatironref05_Tokens.l0 k x0 x4 x5 (x6 ++ (x0.extract ((wrap64 (x7 + 1)) : Int).toNat ((wrap64 ((wrap64 (x7 + 1)) + 1)) : Int).toNat)) (wrap64 ((wrap64 (x7 + 1)) + 1))) else (none)) else (none)) else (none)) else (if (bt x0 (wrap64 (x7 + 1))) = 92 then (if (wrap64 (x7 + 1)) ≤ (wrap64 ((wrap64 (x7 + 1)) + 1)) then (if (wrap64 ((wrap64 (x7 + 1)) + 1)) ≤ (x0.size : Int) then (if x6.size + ((((wrap64 ((wrap64 (x7 + 1)) + 1)) : Int).toNat) - ((wrap64 (x7 + 1)) : Int).toNat) ≤ 9223372036854775807 then (flatironref05_Tokens.l0 k x0 x4 x5 (x6 ++ (x0.extract ((wrap64 (x7 + 1)) : Int).toNat ((wrap64 ((wrap64 (x7 + 1)) + 1)) : Int).toNat)) (wrap64 ((wrap64 (x7 + 1)) + 1))) else (none)) else (none)) else (none)) else (if 0 ≤ x7 then (if x7 ≤ (wrap64 (x7 + 1)) then (if (wrap64 (x7 + 1)) ≤ (x0.size : Int) then (if x6.size + ((((wrap64 (x7 + 1)) : Int).toNat) - (x7 : Int).toNat) ≤ 9223372036854775807 then (flatironref05_Tokens.l0 k x0 x4 x5 (x6 ++ (x0.extract (x7 : Int).toNat ((wrap64 (x7 + 1)) : Int).toNat)) (wrap64 (x7 + 1))) else (none)) else (none)) else (none)) else (none)))) else (none)) else (if 0 ≤ x7 then (if x7 ≤ (wrap64 (x7 + 1)) then (if (wrap64 (x7 + 1)) ≤ (x0.size : Int) then (if x6.size + ((((wrap64 (x7 + 1)) : Int).toNat) - (x7 : Int).toNat) ≤ 9223372036854775807 then (flatironref05_Tokens.l0 k x0 x4 x5 (x6 ++ (x0.extract (x7 : Int).toNat ((wrap64 (x7 + 1)) : Int).toNat)) (wrap64 (x7 + 1))) else (none)) else (none)) else (none)) else (none))) else (if 0 ≤ x7 then (if x7 ≤ (wrap64 (x7 + 1)) then (if (wrap64 (x7 + 1)) ≤ (x0.size : Int) then (if x6.size + ((((wrap64 (x7 + 1)) : Int).toNat) - (x7 : Int).toNat) ≤ 9223372036854775807 then (flatironref05_Tokens.l0 k x0 x4 x5 (x6 ++ (x0.extract (x7 : Int).toNat ((wrap64 (x7 + 1)) : Int).toNat)) (wrap64 (x7 + 1))) else (none)) else (none)) else (none)) else (none))) else (if x9 = true then (if x5 = 1 then (if x4.length < 5864062014805 then (flatironref05_Tokens.j2 k x0 (x4 ++ [(⟨0, x6⟩ : S75)]) 0 (⟨#[]⟩ : ByteArray) x7 x8) else (none)) else (flatironref05_Tokens.j2 k x0 x4 x5 x6 x7 x8)) else (if 0 ≤ x7 then (if x7 ≤ (x0.size : Int) then ((flatironref05_step.f (x0.extract (x7 : Int).toNat x0.size)).bind fun bt158 => (if bt158.2.2 = true then (if bt158.2.1 = 1 then (if 0 ≤ (wrap64 ((wrap64 (x7 + bt158.1)) - 1)) then (if (wrap64 ((wrap64 (x7 + bt158.1)) - 1)) ≤ (wrap64 (x7 + bt158.1)) then (if (wrap64 (x7 + bt158.1)) ≤ (x0.size : Int) then (if x6.size + ((((wrap64 (x7 + bt158.1)) : Int).toNat) - ((wrap64 ((wrap64 (x7 + bt158.1)) - 1)) : Int).toNat) ≤ 9223372036854775807 then (flatironref05_Tokens.l0 k x0 x4 1 (x6 ++ (x0.extract ((wrap64 ((wrap64 (x7 + bt158.1)) - 1)) : Int).toNat ((wrap64 (x7 + bt158.1)) : Int).toNat)) (wrap64 (x7 + bt158.1))) else (none)) else (none)) else (none)) else (none)) else (flatironref05_Tokens.l0 k x0 x4 bt158.2.1 x6 (wrap64 (x7 + bt158.1)))) else (some (([] : List (S75)), false)))) else (none)) else (none))))
def flatironref05_Tokens.j2 : Nat → ByteArray → List (S75) → Int → ByteArray → Int → Int → Option ((List (S75)) × Bool)
  | 0, _, _, _, _, _, _ => none
  | k + 1, x0, x4, x5, x6, x7, x8 => if 0 ≤ x7 then (if x7 ≤ (x0.size : Int) then ((flatironref05_mark.f k (x0.extract (x7 : Int).toNat x0.size)).bind fun t150 => (if t150 = 0 then (if x8 = 38 then (flatironref05_Tokens.j3 k x0 x4 x5 x6 x7 t150 true) else (flatironref05_Tokens.j3 k x0 x4 x5 x6 x7 t150 (x8 == 124))) else (flatironref05_Tokens.j3 k x0 x4 x5 x6 x7 t150 false))) else (none)) else (none)
def flatironref05_Tokens.j3 : Nat → ByteArray → List (S75) → Int → ByteArray → Int → Int → Bool → Option ((List (S75)) × Bool)
  | 0, _, _, _, _, _, _, _ => none
  | k + 1, x0, x4, x5, x6, x7, x10, x132 => if x132 = true then (some (([] : List (S75)), false)) else (if x10 > 0 then (if x4.length < 5864062014805 then ((flatironref05_Marks.f).bind fun t154 => (if 0 ≤ (wrap64 (x10 - 1)) then (if (wrap64 (x10 - 1)) < (t154.length : Int) then (flatironref05_Tokens.l0 k x0 (x4 ++ [(⟨x10, (⟨#[]⟩ : ByteArray)⟩ : S75)]) x5 x6 (wrap64 ((wrap64 ((wrap64 (x7 + 1)) + ((rdOf ByteArray.empty t154 (wrap64 (x10 - 1))).size : Int))) - 1))) else (none)) else (none))) else (none)) else (flatironref05_Tokens.l0 k x0 x4 x5 x6 (wrap64 (x7 + 1))))
end
def flatironref05_Tokens.f (k : Nat) (a0 : ByteArray) : Option ((List (S75)) × Bool) := flatironref05_Tokens.l0 k a0 ([] : List (S75)) 0 (⟨#[]⟩ : ByteArray) 0
theorem flatironref05_Tokens.mono_l : ∀ k, (∀ y0 y1 y2 y3 y4, LeO (flatironref05_Tokens.l0 k y0 y1 y2 y3 y4) (flatironref05_Tokens.l0 (k + 1) y0 y1 y2 y3 y4)) ∧ (∀ y0 y1 y2 y3 y4 y5 y6 y7, LeO (flatironref05_Tokens.j1 k y0 y1 y2 y3 y4 y5 y6 y7) (flatironref05_Tokens.j1 (k + 1) y0 y1 y2 y3 y4 y5 y6 y7)) ∧ (∀ y0 y1 y2 y3 y4 y5, LeO (flatironref05_Tokens.j2 k y0 y1 y2 y3 y4 y5) (flatironref05_Tokens.j2 (k + 1) y0 y1 y2 y3 y4 y5)) ∧ (∀ y0 y1 y2 y3 y4 y5 y6, LeO (flatironref05_Tokens.j3 k y0 y1 y2 y3 y4 y5 y6) (flatironref05_Tokens.j3 (k + 1) y0 y1 y2 y3 y4 y5 y6))
  | 0 => ⟨fun _ _ _ _ _ r h => by simp [flatironref05_Tokens.l0] at h, fun _ _ _ _ _ _ _ _ r h => by simp [flatironref05_Tokens.j1] at h, fun _ _ _ _ _ _ r h => by simp [flatironref05_Tokens.j2] at h, fun _ _ _ _ _ _ _ r h => by simp [flatironref05_Tokens.j3] at h⟩
  | k + 1 => by
    obtain ⟨ih0, ih1, ih2, ih3⟩ := flatironref05_Tokens.mono_l k
    refine ⟨?_, ?_, ?_, ?_⟩
    · intro y0 y1 y2 y3 y4
      unfold flatironref05_Tokens.l0
      repeat' first
      | (with_reducible exact ih0 _ _ _ _ _)
      | (with_reducible exact ih1 _ _ _ _ _ _ _ _)
      | (with_reducible exact ih2 _ _ _ _ _ _)
      | (with_reducible exact ih3 _ _ _ _ _ _ _)
      | (with_reducible exact flatironref05_has.mono _ _ _)
      | (with_reducible exact flatironref05_mark.mono _ _)
      | (with_reducible exact LeO.refl _)
      | (with_reducible exact LeO.none _)
      | (with_reducible refine LeO.ite ?_ ?_)
      | (with_reducible refine LeO.bind ?_ (fun _ => ?_))
      | exact ih0 _ _ _ _ _
      | exact ih1 _ _ _ _ _ _ _ _
      | exact ih2 _ _ _ _ _ _
      | exact ih3 _ _ _ _ _ _ _
      | exact flatironref05_has.mono _ _ _
      | exact flatironref05_mark.mono _ _
      | exact LeO.none _
      | refine LeO.ite ?_ ?_
      | refine LeO.bind ?_ (fun _ => ?_)
    · intro y0 y1 y2 y3 y4 y5 y6 y7
      unfold flatironref05_Tokens.j1
      repeat' first
      | (with_reducible exact ih0 _ _ _ _ _)
      | (with_reducible exact ih1 _ _ _ _ _ _ _ _)
      | (with_reducible exact ih2 _ _ _ _ _ _)
      | (with_reducible exact ih3 _ _ _ _ _ _ _)
      | (with_reducible exact flatironref05_has.mono _ _ _)
      | (with_reducible exact flatironref05_mark.mono _ _)
      | (with_reducible exact LeO.refl _)
      | (with_reducible exact LeO.none _)
      | (with_reducible refine LeO.ite ?_ ?_)
      | (with_reducible refine LeO.bind ?_ (fun _ => ?_))
      | exact ih0 _ _ _ _ _
      | exact ih1 _ _ _ _ _ _ _ _
      | exact ih2 _ _ _ _ _ _
      | exact ih3 _ _ _ _ _ _ _
      | exact flatironref05_has.mono _ _ _
      | exact flatironref05_mark.mono _ _
      | exact LeO.none _
      | refine LeO.ite ?_ ?_
      | refine LeO.bind ?_ (fun _ => ?_)
    · intro y0 y1 y2 y3 y4 y5
      unfold flatironref05_Tokens.j2
      repeat' first
      | (with_reducible exact ih0 _ _ _ _ _)
      | (with_reducible exact ih1 _ _ _ _ _ _ _ _)
      | (with_reducible exact ih2 _ _ _ _ _ _)
      | (with_reducible exact ih3 _ _ _ _ _ _ _)
      | (with_reducible exact flatironref05_has.mono _ _ _)
      | (with_reducible exact flatironref05_mark.mono _ _)
      | (with_reducible exact LeO.refl _)
      | (with_reducible exact LeO.none _)
      | (with_reducible refine LeO.ite ?_ ?_)
      | (with_reducible refine LeO.bind ?_ (fun _ => ?_))
      | exact ih0 _ _ _ _ _
      | exact ih1 _ _ _ _ _ _ _ _
      | exact ih2 _ _ _ _ _ _
      | exact ih3 _ _ _ _ _ _ _
      | exact flatironref05_has.mono _ _ _
      | exact flatironref05_mark.mono _ _
      | exact LeO.none _
      | refine LeO.ite ?_ ?_
      | refine LeO.bind ?_ (fun _ => ?_)
    · intro y0 y1 y2 y3 y4 y5 y6
      unfold flatironref05_Tokens.j3
      repeat' first
      | (with_reducible exact ih0 _ _ _ _ _)
      | (with_reducible exact ih1 _ _ _ _ _ _ _ _)
      | (with_reducible exact ih2 _ _ _ _ _ _)
      | (with_reducible exact ih3 _ _ _ _ _ _ _)
      | (with_reducible exact flatironref05_has.mono _ _ _)
      | (with_reducible exact flatironref05_mark.mono _ _)
      | (with_reducible exact LeO.refl _)
      | (with_reducible exact LeO.none _)
      | (with_reducible refine LeO.ite ?_ ?_)
      | (with_reducible refine LeO.bind ?_ (fun _ => ?_))
      | exact ih0 _ _ _ _ _
      | exact ih1 _ _ _ _ _ _ _ _
      | exact ih2 _ _ _ _ _ _
      | exact ih3 _ _ _ _ _ _ _
      | exact flatironref05_has.mono _ _ _
      | exact flatironref05_mark.mono _ _
      | exact LeO.none _
      | refine LeO.ite ?_ ?_
      | refine LeO.bind ?_ (fun _ => ?_)
theorem flatironref05_Tokens.mono : ∀ a0 k, LeO (flatironref05_Tokens.f k a0) (flatironref05_Tokens.f (k + 1) a0) := by
  intro a0 k
  obtain ⟨ih0, ih1, ih2, ih3⟩ := flatironref05_Tokens.mono_l k
  unfold flatironref05_Tokens.f
  repeat' first
      | (with_reducible exact ih0 _ _ _ _ _)
      | (with_reducible exact ih1 _ _ _ _ _ _ _ _)
      | (with_reducible exact ih2 _ _ _ _ _ _)
      | (with_reducible exact ih3 _ _ _ _ _ _ _)
      | (with_reducible exact flatironref05_has.mono _ _ _)
      | (with_reducible exact flatironref05_mark.mono _ _)
      | (with_reducible exact LeO.refl _)
      | (with_reducible exact LeO.none _)
      | (with_reducible refine LeO.ite ?_ ?_)
      | (with_reducible refine LeO.bind ?_ (fun _ => ?_))
      | exact ih0 _ _ _ _ _
      | exact ih1 _ _ _ _ _ _ _ _
      | exact ih2 _ _ _ _ _ _
      | exact ih3 _ _ _ _ _ _ _
      | exact flatironref05_has.mono _ _ _
      | exact flatironref05_mark.mono _ _
      | exact LeO.none _
      | refine LeO.ite ?_ ?_
      | refine LeO.bind ?_ (fun _ => ?_)
set_option maxHeartbeats 8000000 in
set_option maxRecDepth 100000 in
theorem flatironref05_Tokens.calls (k : Nat) (a0 : ByteArray) (r1 : List (S75)) (r2 : Bool) (w : World) (h : flatironref05_Tokens.f k a0 = some (r1, r2)) :
    Calls Tryd.prog 22 #[.string a0] w fun e w' => ∃ v0_ : Value, e = .returned (.tuple #[v0_, .bool r2]) ∧ Kd.R k75 75 w' w.heap.size (fun _ => True) v0_ r1 ∧ Below w.heap.size w w' := by
  have hu75 := Tryd.underlying75
  have HB := Aside0.mk (Below.refl w.heap.size w)
  have H : (flatironref05_Tokens.l0 k a0 ([] : List (S75)) 0 (⟨#[]⟩ : ByteArray) 0) = some (r1, r2) := h
  clear h
  have H' := Aside0.mk H
  clear H
  go_enter Tryd.func22, Tryd.ntmps22
  go_wp2
  go_loopg [4, 5, 6, 7] k (fun kq v4 v5 v6 v7 w' => ∃ (x4_1 : List (S75)) (x5_1 : Int) (x6_1 : ByteArray) (x7_1 : Int), v5 = .int .i64 x5_1 ∧ v6 = .string x6_1 ∧ v7 = .int .i64 x7_1 ∧ Aside0 (flatironref05_Tokens.l0 kq a0 x4_1 x5_1 x6_1 x7_1 = some (r1, r2)) ∧ Aside0 (kq ≤ k) ∧ Aside0 (Kd.R k75 75 w' w.heap.size (fun _ => True) v4 x4_1) ∧ Aside0 (Below w.heap.size w w'))
  case atStart => exact ⟨(([] : List (S75))), (0), ((⟨#[]⟩ : ByteArray)), (0), (by first | rfl | (simp; done) | (simp [*]; done)), (by first | rfl | (simp; done) | (simp [*]; done)), (by first | rfl | (simp; done) | (simp [*]; done)), H', ⟨Nat.le_refl _⟩, ⟨by first | exact Kd.R_nil _ _ _ _ _ | exact Kd.N_nil _ _ _ _ _ | exact Kd.V_nil _ _ _ _ _ | exact Kd.Q_nil _ _ _ _ _ | exact Kd.S_nil _ _ _ _ _⟩, ⟨by repeat (first | (with_reducible first | exact HB.out | apply below_alloc | apply pw_below_drewN | apply below_drew1) | exact HB.out)⟩⟩
  case round =>
    clear H'
    obtain ⟨x4_1, x5_1, x6_1, x7_1, rfl, rfl, rfl, HA, HK1, HO_4, HB⟩ := hrel
    cases gk with
    | zero => exact absurd HA.out (by simp [flatironref05_Tokens.l0])
    | succ k1 =>
      have H := HA.out
      clear HA
      simp only [flatironref05_Tokens.l0] at H
      by_cases c2 : x7_1 < (a0.size : Int)
      · rw [if_pos c2] at H
        have c2b0 : decide (x7_1 < (a0.size : Int)) = true := decide_eq_true c2
        clear c2
        by_cases c3 : 0 ≤ x7_1
        · rw [if_pos c3] at H
          have c3b0 : decide (0 ≤ x7_1) = true := decide_eq_true c3
          clear c3
          replace H := Option.bind_eq_some_iff.mp H
          obtain ⟨t146, A50, H⟩ := H
          replace H : (if x5_1 = 2 then (if (bt a0 x7_1) = 39 then (flatironref05_Tokens.l0 k1 a0 x4_1 1 x6_1 (wrap64 (x7_1 + 1))) else (if x7_1 ≤ (wrap64 (x7_1 + 1)) then (if (wrap64 (x7_1 + 1)) ≤ (a0.size : Int) then (if x6_1.size + ((((wrap64 (x7_1 + 1)) : Int).toNat) - (x7_1 : Int).toNat) ≤ 9223372036854775807 then (flatironref05_Tokens.l0 k1 a0 x4_1 x5_1 (x6_1 ++ (a0.extract (x7_1 : Int).toNat ((wrap64 (x7_1 + 1)) : Int).toNat)) (wrap64 (x7_1 + 1))) else (none)) else (none)) else (none))) else (if x5_1 = 3 then (flatironref05_Tokens.j1 k1 a0 x4_1 x5_1 x6_1 x7_1 (bt a0 x7_1) t146 ((bt a0 x7_1) == 34)) else (flatironref05_Tokens.j1 k1 a0 x4_1 x5_1 x6_1 x7_1 (bt a0 x7_1) t146 false))) = some (r1, r2) := H
          have A5 := Aside0.mk A50
          clear A50
          by_cases c6 : x5_1 = 2
          · rw [if_pos c6] at H
            have c6b0 : (x5_1 == 2) = true := beq_iff_eq.mpr c6
            have c6b1 : (x5_1 != 2) = false := bne_eq_false_iff_eq.mpr c6
            clear c6
            by_cases c7 : (bt a0 x7_1) = 39
            · rw [if_pos c7] at H
              have c7b0 : ((bt a0 x7_1) == 39) = true := beq_iff_eq.mpr c7
              have c7b1 : ((bt a0 x7_1) != 39) = false := bne_eq_false_iff_eq.mpr c7
              clear c7
              have H' := Aside0.mk H
              clear H
              have p4 : 0 ≤ (x7_1 : Int) := of_decide_eq_true (by first | (with_reducible assumption) | assumption)
              have q4 : x7_1 < (a0.size : Int) := of_decide_eq_true (by first | (with_reducible assumption) | assumption)
              have hx4 := bt_at a0 x7_1
              replace p4 := eq_true p4
              replace q4 := eq_true q4
              go_wp2_with (first | ((with_reducible refine gate_callee (f := 44) rfl ?_); refine goesL_ (some 22) rfl rfl Tryd.func44 (by kernel_rfl) rfl #[.string (⟨#[32, 9, 10, 59, 38, 124, 60, 62]⟩ : ByteArray), .int .u8 (bt a0 x7_1)] rfl (by (try simp only [List.map_toArray, List.map_cons, List.map_nil]); first | done | rfl | (simp only [List.length_drop, List.length_take]; rfl)) ?_; (with_reducible refine (flatironref05_has.calls k1 (⟨#[32, 9, 10, 59, 38, 124, 60, 62]⟩ : ByteArray) (bt a0 x7_1) t146 _ A5.out).mono ?_); rintro e w' ⟨rfl, ⟨nd, rfl⟩⟩; refine ⟨_, rfl, ?_⟩))
              go_roundg k1
              case measure => have := HK1.out; omega
              case rel => exact ⟨(x4_1), (1), (x6_1), (wrap64 (x7_1 + 1)), (by first | rfl | (simp; done) | (simp [*]; done)), (by first | rfl | (simp; done) | (simp [*]; done)), (by first | rfl | (simp; done) | (simp [*]; done)), H', ⟨by have := HK1.out; omega⟩, ⟨by (with_reducible repeat (first | apply Kd.R_alloc | apply Kd.R_drewN | apply Kd.R_drew)); (first | exact HO_4.out | (first | refine Kd.R_mono HO_4.out (fun _ hk => ?_) | refine Kd.S_mono HO_4.out (fun _ hk => ?_) | refine Kd.Q_mono HO_4.out (fun _ hk => ?_)); simp only [ownBlock_slice] at hk ⊢; exact hk)⟩, ⟨by repeat (first | (with_reducible first | exact HB.out | apply below_alloc | apply pw_below_drewN | apply below_drew1) | exact HB.out)⟩⟩
            · rw [if_neg c7] at H
              have c7b0 : ((bt a0 x7_1) == 39) = false := beq_eq_false_iff_ne.mpr c7
              have c7b1 : ((bt a0 x7_1) != 39) = true := bne_iff_ne.mpr c7
              have c8b0 := eq_true (of_decide_eq_true (by first | (with_reducible assumption) | assumption) : 0 ≤ x7_1)
              by_cases c9 : x7_1 ≤ (wrap64 (x7_1 + 1))
              · rw [if_pos c9] at H
                have c9b0 := eq_true c9
                have c9b1 : decide (x7_1 ≤ (wrap64 (x7_1 + 1))) = true := decide_eq_true c9
                by_cases c10 : (wrap64 (x7_1 + 1)) ≤ (a0.size : Int)
                · rw [if_pos c10] at H
                  have c10b0 := eq_true c10
                  have c10b1 : decide ((wrap64 (x7_1 + 1)) ≤ (a0.size : Int)) = true := decide_eq_true c10
                  by_cases c11 : x6_1.size + ((((wrap64 (x7_1 + 1)) : Int).toNat) - (x7_1 : Int).toNat) ≤ 9223372036854775807
                  · rw [if_pos c11] at H
                    have c11b0 := eq_true c11
                    have c11b1 : decide (x6_1.size + ((((wrap64 (x7_1 + 1)) : Int).toNat) - (x7_1 : Int).toNat) ≤ 9223372036854775807) = true := decide_eq_true c11
                    try have c11b2 : (9223372036854775807 < x6_1.size + ((((wrap64 (x7_1 + 1)) : Int).toNat) - (x7_1 : Int).toNat)) = False := eq_false (Nat.not_lt.2 c11)
                    have H' := Aside0.mk H
                    clear H
                    have p4 : 0 ≤ (x7_1 : Int) := of_decide_eq_true (by first | (with_reducible assumption) | assumption)
                    have q4 : x7_1 < (a0.size : Int) := of_decide_eq_true (by first | (with_reducible assumption) | assumption)
                    have hx4 := bt_at a0 x7_1
                    replace p4 := eq_true p4
                    replace q4 := eq_true q4
                    go_wp2_with (first | ((with_reducible refine gate_callee (f := 44) rfl ?_); refine goesL_ (some 22) rfl rfl Tryd.func44 (by kernel_rfl) rfl #[.string (⟨#[32, 9, 10, 59, 38, 124, 60, 62]⟩ : ByteArray), .int .u8 (bt a0 x7_1)] rfl (by (try simp only [List.map_toArray, List.map_cons, List.map_nil]); first | done | rfl | (simp only [List.length_drop, List.length_take]; rfl)) ?_; (with_reducible refine (flatironref05_has.calls k1 (⟨#[32, 9, 10, 59, 38, 124, 60, 62]⟩ : ByteArray) (bt a0 x7_1) t146 _ A5.out).mono ?_); rintro e w' ⟨rfl, ⟨nd, rfl⟩⟩; refine ⟨_, rfl, ?_⟩))
                    go_roundg k1
                    case measure => have := HK1.out; omega
                    case rel => exact ⟨(x4_1), (x5_1), (x6_1 ++ (a0.extract (x7_1 : Int).toNat ((wrap64 (x7_1 + 1)) : Int).toNat)), (wrap64 (x7_1 + 1)), (by first | rfl | (simp; done) | (simp [*]; done)), (by first | rfl | (simp; done) | (simp [*]; done)), (by first | rfl | (simp; done) | (simp [*]; done)), H', ⟨by have := HK1.out; omega⟩, ⟨by (with_reducible repeat (first | apply Kd.R_alloc | apply Kd.R_drewN | apply Kd.R_drew)); (first | exact HO_4.out | (first | refine Kd.R_mono HO_4.out (fun _ hk => ?_) | refine Kd.S_mono HO_4.out (fun _ hk => ?_) | refine Kd.Q_mono HO_4.out (fun _ hk => ?_)); simp only [ownBlock_slice] at hk ⊢; exact hk)⟩, ⟨by repeat (first | (with_reducible first | exact HB.out | apply below_alloc | apply pw_below_drewN | apply below_drew1) | exact HB.out)⟩⟩
                  · rw [if_neg c11] at H
                    exact absurd H (by simp)
                · rw [if_neg c10] at H
                  exact absurd H (by simp)
              · rw [if_neg c9] at H
                exact absurd H (by simp)
          · rw [if_neg c6] at H
            have c6b0 : (x5_1 == 2) = false := beq_eq_false_iff_ne.mpr c6
            have c6b1 : (x5_1 != 2) = true := bne_iff_ne.mpr c6
            have HC12 := Aside0.mk H
            clear H
            have p4 : 0 ≤ (x7_1 : Int) := of_decide_eq_true (by first | (with_reducible assumption) | assumption)
            have q4 : x7_1 < (a0.size : Int) := of_decide_eq_true (by first | (with_reducible assumption) | assumption)
            have hx4 := bt_at a0 x7_1
            replace p4 := eq_true p4
            replace q4 := eq_true q4
            go_upto_region 21 with (first | ((with_reducible refine gate_callee (f := 44) rfl ?_); refine goesL_ (some 22) rfl rfl Tryd.func44 (by kernel_rfl) rfl #[.string (⟨#[32, 9, 10, 59, 38, 124, 60, 62]⟩ : ByteArray), .int .u8 (bt a0 x7_1)] rfl (by (try simp only [List.map_toArray, List.map_cons, List.map_nil]); first | done | rfl | (simp only [List.length_drop, List.length_take]; rfl)) ?_; (with_reducible refine (flatironref05_has.calls k1 (⟨#[32, 9, 10, 59, 38, 124, 60, 62]⟩ : ByteArray) (bt a0 x7_1) t146 _ A5.out).mono ?_); rintro e w' ⟨rfl, ⟨nd, rfl⟩⟩; refine ⟨_, rfl, ?_⟩))
            (try simp only [Act.put, List.setIfInBounds_toArray, List.set_cons_zero, List.set_cons_succ])
            go_cut [64] (fun v64 wc => ∃ (kq : Nat) (x64_11 : Bool), v64 = .bool x64_11 ∧ Aside0 (flatironref05_Tokens.j1 kq a0 x4_1 x5_1 x6_1 x7_1 (bt a0 x7_1) t146 x64_11 = some (r1, r2)) ∧ Aside0 (kq ≤ k1) ∧ Aside0 (Kd.R k75 75 wc w.heap.size (fun _ => True) u4 x4_1) ∧ Aside0 (Below w.heap.size w wc))
            case first =>
              have H := HC12.out
              clear HC12
              by_cases c13 : x5_1 = 3
              · rw [if_pos c13] at H
                have c13b0 : (x5_1 == 3) = true := beq_iff_eq.mpr c13
                have c13b1 : (x5_1 != 3) = false := bne_eq_false_iff_eq.mpr c13
                clear c13
                (first | rw [c13b0] | (simp only [i64_w, i32_w]; rw [c13b0]) | skip)
                have H' := Aside0.mk H
                clear H
                go_wp2
                go_meet
                case rel => exact ⟨_, (((bt a0 x7_1) == 34)), (by first | rfl | (simp; done) | (simp [*]; done)), H', ⟨by have := HK1.out; first | omega | exact Nat.le_refl _⟩, ⟨by (with_reducible repeat (first | apply Kd.R_alloc | apply Kd.R_drewN | apply Kd.R_drew)); (first | exact HO_4.out | (first | refine Kd.R_mono HO_4.out (fun _ hk => ?_) | refine Kd.S_mono HO_4.out (fun _ hk => ?_) | refine Kd.Q_mono HO_4.out (fun _ hk => ?_)); simp only [ownBlock_slice] at hk ⊢; exact hk)⟩, ⟨by repeat (first | (with_reducible first | exact HB.out | apply below_alloc | apply pw_below_drewN | apply below_drew1) | exact HB.out)⟩⟩
              · rw [if_neg c13] at H
                have c13b0 : (x5_1 == 3) = false := beq_eq_false_iff_ne.mpr c13
                have c13b1 : (x5_1 != 3) = true := bne_iff_ne.mpr c13
                (first | rw [c13b0] | (simp only [i64_w, i32_w]; rw [c13b0]) | skip)
                have H' := Aside0.mk H
                clear H
                go_wp2
                go_meet
                case rel => exact ⟨_, (false), (by first | rfl | (simp; done) | (simp [*]; done)), H', ⟨by have := HK1.out; first | omega | exact Nat.le_refl _⟩, ⟨by (with_reducible repeat (first | apply Kd.R_alloc | apply Kd.R_drewN | apply Kd.R_drew)); (first | exact HO_4.out | (first | refine Kd.R_mono HO_4.out (fun _ hk => ?_) | refine Kd.S_mono HO_4.out (fun _ hk => ?_) | refine Kd.Q_mono HO_4.out (fun _ hk => ?_)); simp only [ownBlock_slice] at hk ⊢; exact hk)⟩, ⟨by repeat (first | (with_reducible first | exact HB.out | apply below_alloc | apply pw_below_drewN | apply below_drew1) | exact HB.out)⟩⟩
            case rest =>
              clear HC12
              try clear c1
              try clear c2
              try clear c2b0
              try clear p2
              try clear c3
              try clear c3b0
              try clear c4
              try clear p4
              try clear q4
              try clear hx4
              try clear c6
              try clear c6b0
              try clear c6b1
              try clear p6
              try clear c7
              try clear c7b0
              try clear c7b1
              try clear c8
              try clear c8b0
              try clear c9
              try clear c9b0
              try clear c9b1
              try clear c10
              try clear c10b0
              try clear c10b1
              try clear c11
              try clear c11b0
              try clear c11b1
              try clear c11b2
              try clear c13
              try clear c13b0
              try clear c13b1
              try clear p4
              try clear q4
              obtain ⟨kq, x64_11, rfl, HA, HJ11, HO_4, HB⟩ := hcut
              cases kq with
              | zero => exact absurd HA.out (by simp [flatironref05_Tokens.j1])
              | succ kj11 =>
                have H := HA.out
                clear HA
                simp only [flatironref05_Tokens.j1] at H
                by_cases c14 : x64_11 = true
                · subst c14
                  have H1 : (flatironref05_Tokens.l0 kj11 a0 x4_1 1 x6_1 (wrap64 (x7_1 + 1))) = some (r1, r2) := by rw [if_pos rfl] at H; exact H
                  clear H
                  have H := H1
                  clear H1
                  have H' := Aside0.mk H
                  clear H
                  go_wp2
                  go_roundg kj11
                  case measure => have := HK1.out; have := HJ11.out; omega
                  case rel => exact ⟨(x4_1), (1), (x6_1), (wrap64 (x7_1 + 1)), (by first | rfl | (simp; done) | (simp [*]; done)), (by first | rfl | (simp; done) | (simp [*]; done)), (by first | rfl | (simp; done) | (simp [*]; done)), H', ⟨by have := HK1.out; have := HJ11.out; omega⟩, ⟨by (with_reducible repeat (first | apply Kd.R_alloc | apply Kd.R_drewN | apply Kd.R_drew)); (first | exact HO_4.out | (first | refine Kd.R_mono HO_4.out (fun _ hk => ?_) | refine Kd.S_mono HO_4.out (fun _ hk => ?_) | refine Kd.Q_mono HO_4.out (fun _ hk => ?_)); simp only [ownBlock_slice] at hk ⊢; exact hk)⟩, ⟨by repeat (first | (with_reducible first | exact HB.out | apply below_alloc | apply pw_below_drewN | apply below_drew1) | exact HB.out)⟩⟩
                · replace c14 := Bool.eq_false_iff.mpr c14
                  subst c14
                  have H1 : (if x5_1 = 3 then (if (bt a0 x7_1) = 92 then (if (wrap64 (x7_1 + 1)) < (a0.size : Int) then (if 0 ≤ (wrap64 (x7_1 + 1)) then (if (bt a0 (wrap64 (x7_1 + 1))) = 34 then (if (wrap64 (x7_1 + 1)) ≤ (wrap64 ((wrap64 (x7_1 + 1)) + 1)) then (if (wrap64 ((wrap64 (x7_1 + 1)) + 1)) ≤ (a0.size : Int) then (if x6_1.size + ((((wrap64 ((wrap64 (x7_1 + 1)) + 1)) : Int).toNat) - ((wrap64 (x7_1 + 1)) : Int).toNat) ≤ 9223372036854775807 then (flatironref05_Tokens.l0 kj11 a0 x4_1 x5_1 (x6_1 ++ (a0.extract ((wrap64 (x7_1 + 1)) : Int).toNat ((wrap64 ((wrap64 (x7_1 + 1)) + 1)) : Int).toNat)) (wrap64 ((wrap64 (x7_1 + 1)) + 1))) else (none)) else (none)) else (none)) else (if (bt a0 (wrap64 (x7_1 + 1))) = 92 then (if (wrap64 (x7_1 + 1)) ≤ (wrap64 ((wrap64 (x7_1 + 1)) + 1)) then (if (wrap64 ((wrap64 (x7_1 + 1)) + 1)) ≤ (a0.size : Int) then (if x6_1.size + ((((wrap64 ((wrap64 (x7_1 + 1)) + 1)) : Int).toNat) - ((wrap64 (x7_1 + 1)) : Int).toNat) ≤ 9223372036854775807 then (flatironref05_Tokens.l0 kj11 a0 x4_1 x5_1 (x6_1 ++ (a0.extract ((wrap64 (x7_1 + 1)) : Int).toNat ((wrap64 ((wrap64 (x7_1 + 1)) + 1)) : Int).toNat)) (wrap64 ((wrap64 (x7_1 + 1)) + 1))) else (none)) else (none)) else (none)) else (if 0 ≤ x7_1 then (if x7_1 ≤ (wrap64 (x7_1 + 1)) then (if (wrap64 (x7_1 + 1)) ≤ (a0.size : Int) then (if x6_1.size + ((((wrap64 (x7_1 + 1)) : Int).toNat) - (x7_1 : Int).toNat) ≤ 9223372036854775807 then (flatironref05_Tokens.l0 kj11 a0 x4_1 x5_1 (x6_1 ++ (a0.extract (x7_1 : Int).toNat ((wrap64 (x7_1 + 1)) : Int).toNat)) (wrap64 (x7_1 + 1))) else (none)) else (none)) else (none)) else (none)))) else (none)) else (if 0 ≤ x7_1 then (if x7_1 ≤ (wrap64 (x7_1 + 1)) then (if (wrap64 (x7_1 + 1)) ≤ (a0.size : Int) then (if x6_1.size + ((((wrap64 (x7_1 + 1)) : Int).toNat) - (x7_1 : Int).toNat) ≤ 9223372036854775807 then (flatironref05_Tokens.l0 kj11 a0 x4_1 x5_1 (x6_1 ++ (a0.extract (x7_1 : Int).toNat ((wrap64 (x7_1 + 1)) : Int).toNat)) (wrap64 (x7_1 + 1))) else (none)) else (none)) else (none)) else (none))) else (if 0 ≤ x7_1 then (if x7_1 ≤ (wrap64 (x7_1 + 1)) then (if (wrap64 (x7_1 + 1)) ≤ (a0.size : Int) then (if x6_1.size + ((((wrap64 (x7_1 + 1)) : Int).toNat) - (x7_1 : Int).toNat) ≤ 9223372036854775807 then (flatironref05_Tokens.l0 kj11 a0 x4_1 x5_1 (x6_1 ++ (a0.extract (x7_1 : Int).toNat ((wrap64 (x7_1 + 1)) : Int).toNat)) (wrap64 (x7_1 + 1))) else (none)) else (none)) else (none)) else (none))) else (if t146 = true then (if x5_1 = 1 then (if x4_1.length < 5864062014805 then (flatironref05_Tokens.j2 kj11 a0 (x4_1 ++ [(⟨0, x6_1⟩ : S75)]) 0 (⟨#[]⟩ : ByteArray) x7_1 (bt a0 x7_1)) else (none)) else (flatironref05_Tokens.j2 kj11 a0 x4_1 x5_1 x6_1 x7_1 (bt a0 x7_1))) else (if 0 ≤ x7_1 then (if x7_1 ≤ (a0.size : Int) then ((flatironref05_step.f (a0.extract (x7_1 : Int).toNat a0.size)).bind fun bt158 => (if bt158.2.2 = true then (if bt158.2.1 = 1 then (if 0 ≤ (wrap64 ((wrap64 (x7_1 + bt158.1)) - 1)) then (if (wrap64 ((wrap64 (x7_1 + bt158.1)) - 1)) ≤ (wrap64 (x7_1 + bt158.1)) then (if (wrap64 (x7_1 + bt158.1)) ≤ (a0.size : Int) then (if x6_1.size + ((((wrap64 (x7_1 + bt158.1)) : Int).toNat) - ((wrap64 ((wrap64 (x7_1 + bt158.1)) - 1)) : Int).toNat) ≤ 9223372036854775807 then (flatironref05_Tokens.l0 kj11 a0 x4_1 1 (x6_1 ++ (a0.extract ((wrap64 ((wrap64 (x7_1 + bt158.1)) - 1)) : Int).toNat ((wrap64 (x7_1 + bt158.1)) : Int).toNat)) (wrap64 (x7_1 + bt158.1))) else (none)) else (none)) else (none)) else (none)) else (flatironref05_Tokens.l0 kj11 a0 x4_1 bt158.2.1 x6_1 (wrap64 (x7_1 + bt158.1)))) else (some (([] : List (S75)), false)))) else (none)) else (none)))) = some (r1, r2) := by rw [if_neg (show ¬ (false = true) by decide)] at H; exact H
                  clear H
                  have H := H1
                  clear H1
                  by_cases c15 : x5_1 = 3
                  · rw [if_pos c15] at H
                    have c15b0 : (x5_1 == 3) = true := beq_iff_eq.mpr c15
                    have c15b1 : (x5_1 != 3) = false := bne_eq_false_iff_eq.mpr c15
                    clear c15
                    by_cases c16 : (bt a0 x7_1) = 92
                    · rw [if_pos c16] at H
                      have c16b0 : ((bt a0 x7_1) == 92) = true := beq_iff_eq.mpr c16
                      have c16b1 : ((bt a0 x7_1) != 92) = false := bne_eq_false_iff_eq.mpr c16
                      clear c16
                      by_cases c17 : (wrap64 (x7_1 + 1)) < (a0.size : Int)
                      · rw [if_pos c17] at H
                        have c17b0 : decide ((wrap64 (x7_1 + 1)) < (a0.size : Int)) = true := decide_eq_true c17
                        clear c17
                        obtain ⟨ji18, hji18⟩ : ∃ j_ : Int, (wrap64 (x7_1 + 1)) = j_ := ⟨_, rfl⟩
                        replace H : (if 0 ≤ (ji18) then (if (bt a0 (ji18)) = 34 then (if (ji18) ≤ (wrap64 ((ji18) + 1)) then (if (wrap64 ((ji18) + 1)) ≤ (a0.size : Int) then (if x6_1.size + ((((wrap64 ((ji18) + 1)) : Int).toNat) - ((ji18) : Int).toNat) ≤ 9223372036854775807 then (flatironref05_Tokens.l0 kj11 a0 x4_1 x5_1 (x6_1 ++ (a0.extract ((ji18) : Int).toNat ((wrap64 ((ji18) + 1)) : Int).toNat)) (wrap64 ((ji18) + 1))) else (none)) else (none)) else (none)) else (if (bt a0 (ji18)) = 92 then (if (ji18) ≤ (wrap64 ((ji18) + 1)) then (if (wrap64 ((ji18) + 1)) ≤ (a0.size : Int) then (if x6_1.size + ((((wrap64 ((ji18) + 1)) : Int).toNat) - ((ji18) : Int).toNat) ≤ 9223372036854775807 then (flatironref05_Tokens.l0 kj11 a0 x4_1 x5_1 (x6_1 ++ (a0.extract ((ji18) : Int).toNat ((wrap64 ((ji18) + 1)) : Int).toNat)) (wrap64 ((ji18) + 1))) else (none)) else (none)) else (none)) else (if 0 ≤ x7_1 then (if x7_1 ≤ (ji18) then (if (ji18) ≤ (a0.size : Int) then (if x6_1.size + ((((ji18) : Int).toNat) - (x7_1 : Int).toNat) ≤ 9223372036854775807 then (flatironref05_Tokens.l0 kj11 a0 x4_1 x5_1 (x6_1 ++ (a0.extract (x7_1 : Int).toNat ((ji18) : Int).toNat)) ji18) else (none)) else (none)) else (none)) else (none)))) else (none)) = some (r1, r2) := by first | (rw [hji18] at H; exact H) | (simp only [hji18] at H ⊢; exact H)
                        (try rw [hji18] at c17b0)
                        have hji18w : (IntKind.i64.wrap (x7_1 + 1)) = ji18 := (i64_w _).trans hji18
                        by_cases c19 : 0 ≤ (ji18)
                        · rw [if_pos c19] at H
                          have c19b0 : decide (0 ≤ (ji18)) = true := decide_eq_true c19
                          clear c19
                          by_cases c21 : (bt a0 (ji18)) = 34
                          · rw [if_pos c21] at H
                            have c21b0 : ((bt a0 (ji18)) == 34) = true := beq_iff_eq.mpr c21
                            have c21b1 : ((bt a0 (ji18)) != 34) = false := bne_eq_false_iff_eq.mpr c21
                            clear c21
                            have c22b0 := eq_true (of_decide_eq_true (by first | (with_reducible assumption) | assumption) : 0 ≤ (ji18))
                            by_cases c23 : (ji18) ≤ (wrap64 ((ji18) + 1))
                            · rw [if_pos c23] at H
                              have c23b0 := eq_true c23
                              have c23b1 : decide ((ji18) ≤ (wrap64 ((ji18) + 1))) = true := decide_eq_true c23
                              by_cases c24 : (wrap64 ((ji18) + 1)) ≤ (a0.size : Int)
                              · rw [if_pos c24] at H
                                have c24b0 := eq_true c24
                                have c24b1 : decide ((wrap64 ((ji18) + 1)) ≤ (a0.size : Int)) = true := decide_eq_true c24
                                by_cases c25 : x6_1.size + ((((wrap64 ((ji18) + 1)) : Int).toNat) - ((ji18) : Int).toNat) ≤ 9223372036854775807
                                · rw [if_pos c25] at H
                                  have c25b0 := eq_true c25
                                  have c25b1 : decide (x6_1.size + ((((wrap64 ((ji18) + 1)) : Int).toNat) - ((ji18) : Int).toNat) ≤ 9223372036854775807) = true := decide_eq_true c25
                                  try have c25b2 : (9223372036854775807 < x6_1.size + ((((wrap64 ((ji18) + 1)) : Int).toNat) - ((ji18) : Int).toNat)) = False := eq_false (Nat.not_lt.2 c25)
                                  have H' := Aside0.mk H
                                  clear H
                                  have p20 : 0 ≤ ((ji18) : Int) := of_decide_eq_true (by first | (with_reducible assumption) | assumption)
                                  have q20 : (ji18) < (a0.size : Int) := of_decide_eq_true (by first | (with_reducible assumption) | assumption)
                                  have hx20 := bt_at a0 (ji18)
                                  replace p20 := eq_true p20
                                  replace q20 := eq_true q20
                                  go_wp2
                                  go_roundg kj11
                                  case measure => have := HK1.out; have := HJ11.out; omega
                                  case rel => exact ⟨(x4_1), (x5_1), (x6_1 ++ (a0.extract ((ji18) : Int).toNat ((wrap64 ((ji18) + 1)) : Int).toNat)), (wrap64 ((ji18) + 1)), (by first | rfl | (simp; done) | (simp [*]; done)), (by first | rfl | (simp; done) | (simp only [← hji18] <;> (first | rfl | simp)) | (simp [*]; done)), (by first | rfl | (simp; done) | (simp only [← hji18] <;> (first | rfl | simp)) | (simp [*]; done)), H', ⟨by have := HK1.out; have := HJ11.out; omega⟩, ⟨by (with_reducible repeat (first | apply Kd.R_alloc | apply Kd.R_drewN | apply Kd.R_drew)); (first | exact HO_4.out | (first | refine Kd.R_mono HO_4.out (fun _ hk => ?_) | refine Kd.S_mono HO_4.out (fun _ hk => ?_) | refine Kd.Q_mono HO_4.out (fun _ hk => ?_)); simp only [ownBlock_slice] at hk ⊢; exact hk)⟩, ⟨by repeat (first | (with_reducible first | exact HB.out | apply below_alloc | apply pw_below_drewN | apply below_drew1) | exact HB.out)⟩⟩
                                · rw [if_neg c25] at H
                                  exact absurd H (by simp)
                              · rw [if_neg c24] at H
                                exact absurd H (by simp)
                            · rw [if_neg c23] at H
                              exact absurd H (by simp)
                          · rw [if_neg c21] at H
                            have c21b0 : ((bt a0 (ji18)) == 34) = false := beq_eq_false_iff_ne.mpr c21
                            have c21b1 : ((bt a0 (ji18)) != 34) = true := bne_iff_ne.mpr c21
                            by_cases c27 : (bt a0 (ji18)) = 92
                            · rw [if_pos c27] at H
                              have c27b0 : ((bt a0 (ji18)) == 92) = true := beq_iff_eq.mpr c27
                              have c27b1 : ((bt a0 (ji18)) != 92) = false := bne_eq_false_iff_eq.mpr c27
                              clear c27
                              have c28b0 := eq_true (of_decide_eq_true (by first | (with_reducible assumption) | assumption) : 0 ≤ (ji18))
                              by_cases c29 : (ji18) ≤ (wrap64 ((ji18) + 1))
                              · rw [if_pos c29] at H
                                have c29b0 := eq_true c29
                                have c29b1 : decide ((ji18) ≤ (wrap64 ((ji18) + 1))) = true := decide_eq_true c29
                                by_cases c30 : (wrap64 ((ji18) + 1)) ≤ (a0.size : Int)
                                · rw [if_pos c30] at H
                                  have c30b0 := eq_true c30
                                  have c30b1 : decide ((wrap64 ((ji18) + 1)) ≤ (a0.size : Int)) = true := decide_eq_true c30
                                  by_cases c31 : x6_1.size + ((((wrap64 ((ji18) + 1)) : Int).toNat) - ((ji18) : Int).toNat) ≤ 9223372036854775807
                                  · rw [if_pos c31] at H
                                    have c31b0 := eq_true c31
                                    have c31b1 : decide (x6_1.size + ((((wrap64 ((ji18) + 1)) : Int).toNat) - ((ji18) : Int).toNat) ≤ 9223372036854775807) = true := decide_eq_true c31
                                    try have c31b2 : (9223372036854775807 < x6_1.size + ((((wrap64 ((ji18) + 1)) : Int).toNat) - ((ji18) : Int).toNat)) = False := eq_false (Nat.not_lt.2 c31)
                                    have H' := Aside0.mk H
                                    clear H
                                    have p20 : 0 ≤ ((ji18) : Int) := of_decide_eq_true (by first | (with_reducible assumption) | assumption)
                                    have q20 : (ji18) < (a0.size : Int) := of_decide_eq_true (by first | (with_reducible assumption) | assumption)
                                    have hx20 := bt_at a0 (ji18)
                                    replace p20 := eq_true p20
                                    replace q20 := eq_true q20
                                    have p26 : 0 ≤ ((ji18) : Int) := of_decide_eq_true (by first | (with_reducible assumption) | assumption)
                                    have q26 : (ji18) < (a0.size : Int) := of_decide_eq_true (by first | (with_reducible assumption) | assumption)
                                    have hx26 := bt_at a0 (ji18)
                                    replace p26 := eq_true p26
                                    replace q26 := eq_true q26
                                    go_wp2
                                    go_roundg kj11
                                    case measure => have := HK1.out; have := HJ11.out; omega
                                    case rel => exact ⟨(x4_1), (x5_1), (x6_1 ++ (a0.extract ((ji18) : Int).toNat ((wrap64 ((ji18) + 1)) : Int).toNat)), (wrap64 ((ji18) + 1)), (by first | rfl | (simp; done) | (simp [*]; done)), (by first | rfl | (simp; done) | (simp only [← hji18] <;> (first | rfl | simp)) | (simp [*]; done)), (by first | rfl | (simp; done) | (simp only [← hji18] <;> (first | rfl | simp)) | (simp [*]; done)), H', ⟨by have := HK1.out; have := HJ11.out; omega⟩, ⟨by (with_reducible repeat (first | apply Kd.R_alloc | apply Kd.R_drewN | apply Kd.R_drew)); (first | exact HO_4.out | (first | refine Kd.R_mono HO_4.out (fun _ hk => ?_) | refine Kd.S_mono HO_4.out (fun _ hk => ?_) | refine Kd.Q_mono HO_4.out (fun _ hk => ?_)); simp only [ownBlock_slice] at hk ⊢; exact hk)⟩, ⟨by repeat (first | (with_reducible first | exact HB.out | apply below_alloc | apply pw_below_drewN | apply below_drew1) | exact HB.out)⟩⟩
                                  · rw [if_neg c31] at H
                                    exact absurd H (by simp)
                                · rw [if_neg c30] at H
                                  exact absurd H (by simp)
                              · rw [if_neg c29] at H
                                exact absurd H (by simp)
                            · rw [if_neg c27] at H
                              have c27b0 : ((bt a0 (ji18)) == 92) = false := beq_eq_false_iff_ne.mpr c27
                              have c27b1 : ((bt a0 (ji18)) != 92) = true := bne_iff_ne.mpr c27
                              by_cases c32 : 0 ≤ x7_1
                              · rw [if_pos c32] at H
                                have c32b0 := eq_true c32
                                have c32b1 : decide (0 ≤ x7_1) = true := decide_eq_true c32
                                clear c32
                                by_cases c33 : x7_1 ≤ (ji18)
                                · rw [if_pos c33] at H
                                  have c33b0 := eq_true c33
                                  have c33b1 : decide (x7_1 ≤ (ji18)) = true := decide_eq_true c33
                                  clear c33
                                  by_cases c34 : (ji18) ≤ (a0.size : Int)
                                  · rw [if_pos c34] at H
                                    have c34b0 := eq_true c34
                                    have c34b1 : decide ((ji18) ≤ (a0.size : Int)) = true := decide_eq_true c34
                                    clear c34
                                    by_cases c35 : x6_1.size + ((((ji18) : Int).toNat) - (x7_1 : Int).toNat) ≤ 9223372036854775807
                                    · rw [if_pos c35] at H
                                      have c35b0 := eq_true c35
                                      have c35b1 : decide (x6_1.size + ((((ji18) : Int).toNat) - (x7_1 : Int).toNat) ≤ 9223372036854775807) = true := decide_eq_true c35
                                      try have c35b2 : (9223372036854775807 < x6_1.size + ((((ji18) : Int).toNat) - (x7_1 : Int).toNat)) = False := eq_false (Nat.not_lt.2 c35)
                                      have H' := Aside0.mk H
                                      clear H
                                      have p20 : 0 ≤ ((ji18) : Int) := of_decide_eq_true (by first | (with_reducible assumption) | assumption)
                                      have q20 : (ji18) < (a0.size : Int) := of_decide_eq_true (by first | (with_reducible assumption) | assumption)
                                      have hx20 := bt_at a0 (ji18)
                                      replace p20 := eq_true p20
                                      replace q20 := eq_true q20
                                      have p26 : 0 ≤ ((ji18) : Int) := of_decide_eq_true (by first | (with_reducible assumption) | assumption)
                                      have q26 : (ji18) < (a0.size : Int) := of_decide_eq_true (by first | (with_reducible assumption) | assumption)
                                      have hx26 := bt_at a0 (ji18)
                                      replace p26 := eq_true p26
                                      replace q26 := eq_true q26
                                      go_wp2
                                      go_roundg kj11
                                      case measure => have := HK1.out; have := HJ11.out; omega
                                      case rel => exact ⟨(x4_1), (x5_1), (x6_1 ++ (a0.extract (x7_1 : Int).toNat ((ji18) : Int).toNat)), (ji18), (by first | rfl | (simp; done) | (simp [*]; done)), (by first | rfl | (simp; done) | (simp only [← hji18] <;> (first | rfl | simp)) | (simp [*]; done)), (by first | rfl | (simp; done) | (simp only [← hji18] <;> (first | rfl | simp)) | (simp [*]; done)), H', ⟨by have := HK1.out; have := HJ11.out; omega⟩, ⟨by (with_reducible repeat (first | apply Kd.R_alloc | apply Kd.R_drewN | apply Kd.R_drew)); (first | exact HO_4.out | (first | refine Kd.R_mono HO_4.out (fun _ hk => ?_) | refine Kd.S_mono HO_4.out (fun _ hk => ?_) | refine Kd.Q_mono HO_4.out (fun _ hk => ?_)); simp only [ownBlock_slice] at hk ⊢; exact hk)⟩, ⟨by repeat (first | (with_reducible first | exact HB.out | apply below_alloc | apply pw_below_drewN | apply below_drew1) | exact HB.out)⟩⟩
                                    · rw [if_neg c35] at H
                                      exact absurd H (by simp)
                                  · rw [if_neg c34] at H
                                    exact absurd H (by simp)
                                · rw [if_neg c33] at H
                                  exact absurd H (by simp)
                              · rw [if_neg c32] at H
                                exact absurd H (by simp)
                        · rw [if_neg c19] at H
                          exact absurd H (by simp)
                      · rw [if_neg c17] at H
                        have c17b0 : decide ((wrap64 (x7_1 + 1)) < (a0.size : Int)) = false := decide_eq_false c17
                        clear c17
                        by_cases c36 : 0 ≤ x7_1
                        · rw [if_pos c36] at H
                          have c36b0 := eq_true c36
                          have c36b1 : decide (0 ≤ x7_1) = true := decide_eq_true c36
                          clear c36
                          by_cases c37 : x7_1 ≤ (wrap64 (x7_1 + 1))
                          · rw [if_pos c37] at H
                            have c37b0 := eq_true c37
                            have c37b1 : decide (x7_1 ≤ (wrap64 (x7_1 + 1))) = true := decide_eq_true c37
                            by_cases c38 : (wrap64 (x7_1 + 1)) ≤ (a0.size : Int)
                            · rw [if_pos c38] at H
                              have c38b0 := eq_true c38
                              have c38b1 : decide ((wrap64 (x7_1 + 1)) ≤ (a0.size : Int)) = true := decide_eq_true c38
                              by_cases c39 : x6_1.size + ((((wrap64 (x7_1 + 1)) : Int).toNat) - (x7_1 : Int).toNat) ≤ 9223372036854775807
                              · rw [if_pos c39] at H
                                have c39b0 := eq_true c39
                                have c39b1 : decide (x6_1.size + ((((wrap64 (x7_1 + 1)) : Int).toNat) - (x7_1 : Int).toNat) ≤ 9223372036854775807) = true := decide_eq_true c39
                                try have c39b2 : (9223372036854775807 < x6_1.size + ((((wrap64 (x7_1 + 1)) : Int).toNat) - (x7_1 : Int).toNat)) = False := eq_false (Nat.not_lt.2 c39)
                                have H' := Aside0.mk H
                                clear H
                                go_wp2
                                go_roundg kj11
                                case measure => have := HK1.out; have := HJ11.out; omega
                                case rel => exact ⟨(x4_1), (x5_1), (x6_1 ++ (a0.extract (x7_1 : Int).toNat ((wrap64 (x7_1 + 1)) : Int).toNat)), (wrap64 (x7_1 + 1)), (by first | rfl | (simp; done) | (simp [*]; done)), (by first | rfl | (simp; done) | (simp [*]; done)), (by first | rfl | (simp; done) | (simp [*]; done)), H', ⟨by have := HK1.out; have := HJ11.out; omega⟩, ⟨by (with_reducible repeat (first | apply Kd.R_alloc | apply Kd.R_drewN | apply Kd.R_drew)); (first | exact HO_4.out | (first | refine Kd.R_mono HO_4.out (fun _ hk => ?_) | refine Kd.S_mono HO_4.out (fun _ hk => ?_) | refine Kd.Q_mono HO_4.out (fun _ hk => ?_)); simp only [ownBlock_slice] at hk ⊢; exact hk)⟩, ⟨by repeat (first | (with_reducible first | exact HB.out | apply below_alloc | apply pw_below_drewN | apply below_drew1) | exact HB.out)⟩⟩
                              · rw [if_neg c39] at H
                                exact absurd H (by simp)
                            · rw [if_neg c38] at H
                              exact absurd H (by simp)
                          · rw [if_neg c37] at H
                            exact absurd H (by simp)
                        · rw [if_neg c36] at H
                          exact absurd H (by simp)
                    · rw [if_neg c16] at H
                      have c16b0 : ((bt a0 x7_1) == 92) = false := beq_eq_false_iff_ne.mpr c16
                      have c16b1 : ((bt a0 x7_1) != 92) = true := bne_iff_ne.mpr c16
                      by_cases c40 : 0 ≤ x7_1
                      · rw [if_pos c40] at H
                        have c40b0 := eq_true c40
                        have c40b1 : decide (0 ≤ x7_1) = true := decide_eq_true c40
                        clear c40
                        by_cases c41 : x7_1 ≤ (wrap64 (x7_1 + 1))
                        · rw [if_pos c41] at H
                          have c41b0 := eq_true c41
                          have c41b1 : decide (x7_1 ≤ (wrap64 (x7_1 + 1))) = true := decide_eq_true c41
                          by_cases c42 : (wrap64 (x7_1 + 1)) ≤ (a0.size : Int)
                          · rw [if_pos c42] at H
                            have c42b0 := eq_true c42
                            have c42b1 : decide ((wrap64 (x7_1 + 1)) ≤ (a0.size : Int)) = true := decide_eq_true c42
                            by_cases c43 : x6_1.size + ((((wrap64 (x7_1 + 1)) : Int).toNat) - (x7_1 : Int).toNat) ≤ 9223372036854775807
                            · rw [if_pos c43] at H
                              have c43b0 := eq_true c43
                              have c43b1 : decide (x6_1.size + ((((wrap64 (x7_1 + 1)) : Int).toNat) - (x7_1 : Int).toNat) ≤ 9223372036854775807) = true := decide_eq_true c43
                              try have c43b2 : (9223372036854775807 < x6_1.size + ((((wrap64 (x7_1 + 1)) : Int).toNat) - (x7_1 : Int).toNat)) = False := eq_false (Nat.not_lt.2 c43)
                              have H' := Aside0.mk H
                              clear H
                              go_wp2
                              go_roundg kj11
                              case measure => have := HK1.out; have := HJ11.out; omega
                              case rel => exact ⟨(x4_1), (x5_1), (x6_1 ++ (a0.extract (x7_1 : Int).toNat ((wrap64 (x7_1 + 1)) : Int).toNat)), (wrap64 (x7_1 + 1)), (by first | rfl | (simp; done) | (simp [*]; done)), (by first | rfl | (simp; done) | (simp [*]; done)), (by first | rfl | (simp; done) | (simp [*]; done)), H', ⟨by have := HK1.out; have := HJ11.out; omega⟩, ⟨by (with_reducible repeat (first | apply Kd.R_alloc | apply Kd.R_drewN | apply Kd.R_drew)); (first | exact HO_4.out | (first | refine Kd.R_mono HO_4.out (fun _ hk => ?_) | refine Kd.S_mono HO_4.out (fun _ hk => ?_) | refine Kd.Q_mono HO_4.out (fun _ hk => ?_)); simp only [ownBlock_slice] at hk ⊢; exact hk)⟩, ⟨by repeat (first | (with_reducible first | exact HB.out | apply below_alloc | apply pw_below_drewN | apply below_drew1) | exact HB.out)⟩⟩
                            · rw [if_neg c43] at H
                              exact absurd H (by simp)
                          · rw [if_neg c42] at H
                            exact absurd H (by simp)
                        · rw [if_neg c41] at H
                          exact absurd H (by simp)
                      · rw [if_neg c40] at H
                        exact absurd H (by simp)
                  · rw [if_neg c15] at H
                    have c15b0 : (x5_1 == 3) = false := beq_eq_false_iff_ne.mpr c15
                    have c15b1 : (x5_1 != 3) = true := bne_iff_ne.mpr c15
                    by_cases c44 : t146 = true
                    · subst c44
                      have H1 : (if x5_1 = 1 then (if x4_1.length < 5864062014805 then (flatironref05_Tokens.j2 kj11 a0 (x4_1 ++ [(⟨0, x6_1⟩ : S75)]) 0 (⟨#[]⟩ : ByteArray) x7_1 (bt a0 x7_1)) else (none)) else (flatironref05_Tokens.j2 kj11 a0 x4_1 x5_1 x6_1 x7_1 (bt a0 x7_1))) = some (r1, r2) := by rw [if_pos rfl] at H; exact H
                      clear H
                      have H := H1
                      clear H1
                      have HC45 := Aside0.mk H
                      clear H
                      go_upto_if 113 with (fail)
                      go_cut [4, 5, 6] (fun v4 v5 v6 wc => ∃ (kq : Nat) (x4_44 : List (S75)) (x5_44 : Int) (x6_44 : ByteArray), v5 = .int .i64 x5_44 ∧ v6 = .string x6_44 ∧ Aside0 (flatironref05_Tokens.j2 kq a0 x4_44 x5_44 x6_44 x7_1 (bt a0 x7_1) = some (r1, r2)) ∧ Aside0 (kq ≤ kj11) ∧ Aside0 (Kd.R k75 75 wc w.heap.size (fun _ => True) v4 x4_44) ∧ Aside0 (Below w.heap.size w wc))
                      case first =>
                        have H := HC45.out
                        clear HC45
                        by_cases c46 : x5_1 = 1
                        · rw [if_pos c46] at H
                          have c46b0 : (x5_1 == 1) = true := beq_iff_eq.mpr c46
                          have c46b1 : (x5_1 != 1) = false := bne_eq_false_iff_eq.mpr c46
                          clear c46
                          (first | rw [c46b0] | (simp only [i64_w, i32_w]; rw [c46b0]) | skip)
                          by_cases c47 : x4_1.length < 5864062014805
                          · rw [if_pos c47] at H
                            have LMc47 := Aside0.mk c47
                            clear c47
                            obtain ⟨y147, hy147⟩ : ∃ y_ : List (S75), y_ = (x4_1 ++ [(⟨0, x6_1⟩ : S75)]) := ⟨_, rfl⟩
                            replace H : (flatironref05_Tokens.j2 kj11 a0 y147 0 (⟨#[]⟩ : ByteArray) x7_1 (bt a0 x7_1)) = some (r1, r2) := by first | (rw [hy147]; with_reducible exact H) | (have H2_ := (Option.bind_some _ _).symm.trans H; rw [hy147]; with_reducible exact H2_) | (have H2_ := (Option.bind_some _ _).symm.trans H; with_reducible exact H2_) | with_reducible exact H | (rw [hy147]; exact H) | exact H
                            have Ny147 := Aside0.mk hy147
                            clear hy147
                            have H' := Aside0.mk H
                            clear H
                            go_wp2_with (first | ((with_reducible refine gate_builtin (b := .append) (xs := #[.tmp 114, .tmp 117]) rfl ?_); (try (refine gate_guard (by rfl) ?_; dsimp only)); at_builtin; refine Kd.R_append k75 (w0 := w) w.heap.size rfl (.tmp 114) (.tmp 117) 68 75 (.agg #[(.int .i64 0), (.string ⟨#[]⟩)]) 24 rfl Tryd.underlying68 info75 rfl (by decide) (by omega) u4 x4_1 (⟨0, x6_1⟩ : S75) [.int .i64 0, .string x6_1] (fun _ => True) (fun _ => False) rfl rfl ?aP (fun _ hk => hk.elim) ?aF ?aO ?aB ?aS ?aL ?_; (case aP => exact k75_mkM _ _ _ (⟨0, x6_1⟩ : S75)); (case aB => exact (by repeat (first | (with_reducible first | exact HB.out | apply below_alloc | apply pw_below_drewN | apply below_drew1) | exact HB.out))); (case aF => exact (fun _ _ => trivial)); (case aO => exact (by (with_reducible repeat (first | apply Kd.R_alloc | apply Kd.R_drewN | apply Kd.R_drew)); (first | exact HO_4.out | (first | refine Kd.R_mono HO_4.out (fun _ hk => ?_) | refine Kd.S_mono HO_4.out (fun _ hk => ?_) | refine Kd.Q_mono HO_4.out (fun _ hk => ?_)); simp only [ownBlock_slice] at hk ⊢; exact hk))); (case aS => exact (below_size (by repeat (first | (with_reducible first | exact HB.out | apply below_alloc | apply pw_below_drewN | apply below_drew1) | exact HB.out)))); (case aL => have := LMc47.out; omega); intro v148 w48 ho hb hg hat; rw [← Ny147.out] at ho; have n0_ := Aside0.mk (hb); have n1_ := Aside0.mk (ho); clear HB; clear HO_4; have HB := n0_; have HO149 := n1_; clear n0_ n1_; clear ho hb hg hat))
                            go_meet
                            case rel => exact ⟨_, (y147), (0), ((⟨#[]⟩ : ByteArray)), (by first | rfl | (simp; done) | (simp [*]; done)), (by first | rfl | (simp; done) | (simp [*]; done)), H', ⟨by have := HK1.out; have := HJ11.out; first | omega | exact Nat.le_refl _⟩, ⟨by (with_reducible repeat (first | apply Kd.R_alloc | apply Kd.R_drewN | apply Kd.R_drew)); (first | exact HO149.out | (first | refine Kd.R_mono HO149.out (fun _ hk => ?_) | refine Kd.S_mono HO149.out (fun _ hk => ?_) | refine Kd.Q_mono HO149.out (fun _ hk => ?_)); simp only [ownBlock_slice] at hk ⊢; exact hk)⟩, ⟨by repeat (first | (with_reducible first | exact HB.out | apply below_alloc | apply pw_below_drewN | apply below_drew1) | exact HB.out)⟩⟩
                          · rw [if_neg c47] at H
                            exact absurd H (by simp)
                        · rw [if_neg c46] at H
                          have c46b0 : (x5_1 == 1) = false := beq_eq_false_iff_ne.mpr c46
                          have c46b1 : (x5_1 != 1) = true := bne_iff_ne.mpr c46
                          (first | rw [c46b0] | (simp only [i64_w, i32_w]; rw [c46b0]) | skip)
                          have H' := Aside0.mk H
                          clear H
                          go_wp2
                          go_meet
                          case rel => exact ⟨_, (x4_1), (x5_1), (x6_1), (by first | rfl | (simp; done) | (simp [*]; done)), (by first | rfl | (simp; done) | (simp [*]; done)), H', ⟨by have := HK1.out; have := HJ11.out; first | omega | exact Nat.le_refl _⟩, ⟨by (with_reducible repeat (first | apply Kd.R_alloc | apply Kd.R_drewN | apply Kd.R_drew)); (first | exact HO_4.out | (first | refine Kd.R_mono HO_4.out (fun _ hk => ?_) | refine Kd.S_mono HO_4.out (fun _ hk => ?_) | refine Kd.Q_mono HO_4.out (fun _ hk => ?_)); simp only [ownBlock_slice] at hk ⊢; exact hk)⟩, ⟨by repeat (first | (with_reducible first | exact HB.out | apply below_alloc | apply pw_below_drewN | apply below_drew1) | exact HB.out)⟩⟩
                      case rest =>
                        clear HC45
                        try clear c1
                        try clear c2
                        try clear c2b0
                        try clear p2
                        try clear q2
                        try clear hx2
                        try clear c3
                        try clear c3b0
                        try clear c4
                        try clear p4
                        try clear q4
                        try clear hx4
                        try clear c6
                        try clear c6b0
                        try clear c6b1
                        try clear p6
                        try clear c7
                        try clear c7b0
                        try clear c7b1
                        try clear c8
                        try clear c8b0
                        try clear c9
                        try clear c9b0
                        try clear c9b1
                        try clear c10
                        try clear c10b0
                        try clear c10b1
                        try clear c11
                        try clear c11b0
                        try clear c11b1
                        try clear c11b2
                        try clear c13
                        try clear c13b0
                        try clear c13b1
                        try clear c14
                        try clear c15
                        try clear c15b0
                        try clear c15b1
                        try clear c16
                        try clear c16b0
                        try clear c16b1
                        try clear c17
                        try clear c17b0
                        try clear c19
                        try clear c19b0
                        try clear p20
                        try clear q20
                        try clear hx20
                        try clear c21
                        try clear c21b0
                        try clear c21b1
                        try clear c22
                        try clear c22b0
                        try clear c23
                        try clear c23b0
                        try clear c23b1
                        try clear c24
                        try clear c24b0
                        try clear c24b1
                        try clear c25
                        try clear c25b0
                        try clear c25b1
                        try clear c25b2
                        try clear p26
                        try clear q26
                        try clear hx26
                        try clear c27
                        try clear c27b0
                        try clear c27b1
                        try clear c28
                        try clear c28b0
                        try clear c29
                        try clear c29b0
                        try clear c29b1
                        try clear c30
                        try clear c30b0
                        try clear c30b1
                        try clear c31
                        try clear c31b0
                        try clear c31b1
                        try clear c31b2
                        try clear c32
                        try clear c32b0
                        try clear c32b1
                        try clear c33
                        try clear c33b0
                        try clear c33b1
                        try clear c34
                        try clear c34b0
                        try clear c34b1
                        try clear c35
                        try clear c35b0
                        try clear c35b1
                        try clear c35b2
                        try clear c36
                        try clear c36b0
                        try clear c36b1
                        try clear c37
                        try clear c37b0
                        try clear c37b1
                        try clear c38
                        try clear c38b0
                        try clear c38b1
                        try clear c39
                        try clear c39b0
                        try clear c39b1
                        try clear c39b2
                        try clear c40
                        try clear c40b0
                        try clear c40b1
                        try clear c41
                        try clear c41b0
                        try clear c41b1
                        try clear c42
                        try clear c42b0
                        try clear c42b1
                        try clear c43
                        try clear c43b0
                        try clear c43b1
                        try clear c43b2
                        try clear c44
                        try clear c46
                        try clear c46b0
                        try clear c46b1
                        try clear c47
                        try clear p2
                        try clear p20
                        try clear p26
                        try clear p4
                        try clear p6
                        try clear q20
                        try clear q26
                        try clear q4
                        obtain ⟨kq, x4_44, x5_44, x6_44, rfl, rfl, HA, HJ44, HO_4, HB⟩ := hcut
                        cases kq with
                        | zero => exact absurd HA.out (by simp [flatironref05_Tokens.j2])
                        | succ kj44 =>
                          have H := HA.out
                          clear HA
                          simp only [flatironref05_Tokens.j2] at H
                          by_cases c49 : 0 ≤ x7_1
                          · rw [if_pos c49] at H
                            have c49b0 := eq_true c49
                            have c49b1 : decide (0 ≤ x7_1) = true := decide_eq_true c49
                            clear c49
                            by_cases c50 : x7_1 ≤ (a0.size : Int)
                            · rw [if_pos c50] at H
                              have c50b0 := eq_true c50
                              have c50b1 : decide (x7_1 ≤ (a0.size : Int)) = true := decide_eq_true c50
                              clear c50
                              replace H := Option.bind_eq_some_iff.mp H
                              obtain ⟨t150, A510, H⟩ := H
                              replace H : (if t150 = 0 then (if (bt a0 x7_1) = 38 then (flatironref05_Tokens.j3 kj44 a0 x4_44 x5_44 x6_44 x7_1 t150 true) else (flatironref05_Tokens.j3 kj44 a0 x4_44 x5_44 x6_44 x7_1 t150 ((bt a0 x7_1) == 124))) else (flatironref05_Tokens.j3 kj44 a0 x4_44 x5_44 x6_44 x7_1 t150 false)) = some (r1, r2) := H
                              have A51 := Aside0.mk A510
                              clear A510
                              have HC52 := Aside0.mk H
                              clear H
                              go_upto_region 35 with (first | ((with_reducible refine gate_callee (f := 45) rfl ?_); refine goesL_ (some 122) rfl rfl Tryd.func45 (by kernel_rfl) rfl #[.string (a0.extract (x7_1 : Int).toNat a0.size)] rfl (by (try simp only [List.map_toArray, List.map_cons, List.map_nil]); first | done | rfl | (simp only [List.length_drop, List.length_take]; rfl)) ?_; (with_reducible refine (flatironref05_mark.calls kj44 (a0.extract (x7_1 : Int).toNat a0.size) t150 _ A51.out).mono ?_); rintro e w53 ⟨rfl, hb⟩; refine ⟨_, rfl, ?_⟩; have n0_ := Aside0.mk (Kd.R_below (by (with_reducible repeat (first | apply Kd.R_alloc | apply Kd.R_drewN | apply Kd.R_drew)); (first | exact HO_4.out | (first | refine Kd.R_mono HO_4.out (fun _ hk => ?_) | refine Kd.S_mono HO_4.out (fun _ hk => ?_) | refine Kd.Q_mono HO_4.out (fun _ hk => ?_)); simp only [ownBlock_slice] at hk ⊢; exact hk)) hb); have n1_ := Aside0.mk (below_step (by repeat (first | (with_reducible first | exact HB.out | apply below_alloc | apply pw_below_drewN | apply below_drew1) | exact HB.out)) hb); clear HO_4; clear HB; have HO_4 := n0_; have HB := n1_; clear n0_ n1_; (try clear hb); (try clear hb2); (try clear hk); (try clear hi)))
                              (try simp only [Act.put, List.setIfInBounds_toArray, List.set_cons_zero, List.set_cons_succ])
                              go_cut [132] (fun v132 wc => ∃ (kq : Nat) (x132_51 : Bool), v132 = .bool x132_51 ∧ Aside0 (flatironref05_Tokens.j3 kq a0 x4_44 x5_44 x6_44 x7_1 t150 x132_51 = some (r1, r2)) ∧ Aside0 (kq ≤ kj44) ∧ Aside0 (Kd.R k75 75 wc w.heap.size (fun _ => True) u4 x4_44) ∧ Aside0 (Below w.heap.size w wc))
                              case first =>
                                have H := HC52.out
                                clear HC52
                                by_cases c54 : t150 = 0
                                · rw [if_pos c54] at H
                                  have c54b0 : (t150 == 0) = true := beq_iff_eq.mpr c54
                                  have c54b1 : (t150 != 0) = false := bne_eq_false_iff_eq.mpr c54
                                  clear c54
                                  (first | rw [c54b0] | (simp only [i64_w, i32_w]; rw [c54b0]) | skip)
                                  by_cases c55 : (bt a0 x7_1) = 38
                                  · rw [if_pos c55] at H
                                    have c55b0 : ((bt a0 x7_1) == 38) = true := beq_iff_eq.mpr c55
                                    have c55b1 : ((bt a0 x7_1) != 38) = false := bne_eq_false_iff_eq.mpr c55
                                    clear c55
                                    have H' := Aside0.mk H
                                    clear H
                                    go_wp2
                                    go_meet
                                    case rel => exact ⟨_, (true), (by first | rfl | (simp; done) | (simp [*]; done)), H', ⟨by have := HK1.out; have := HJ11.out; have := HJ44.out; first | omega | exact Nat.le_refl _⟩, ⟨by (with_reducible repeat (first | apply Kd.R_alloc | apply Kd.R_drewN | apply Kd.R_drew)); (first | exact HO_4.out | (first | refine Kd.R_mono HO_4.out (fun _ hk => ?_) | refine Kd.S_mono HO_4.out (fun _ hk => ?_) | refine Kd.Q_mono HO_4.out (fun _ hk => ?_)); simp only [ownBlock_slice] at hk ⊢; exact hk)⟩, ⟨by repeat (first | (with_reducible first | exact HB.out | apply below_alloc | apply pw_below_drewN | apply below_drew1) | exact HB.out)⟩⟩
                                  · rw [if_neg c55] at H
                                    have c55b0 : ((bt a0 x7_1) == 38) = false := beq_eq_false_iff_ne.mpr c55
                                    have c55b1 : ((bt a0 x7_1) != 38) = true := bne_iff_ne.mpr c55
                                    have H' := Aside0.mk H
                                    clear H
                                    go_wp2
                                    go_meet
                                    case rel => exact ⟨_, (((bt a0 x7_1) == 124)), (by first | rfl | (simp; done) | (simp [*]; done)), H', ⟨by have := HK1.out; have := HJ11.out; have := HJ44.out; first | omega | exact Nat.le_refl _⟩, ⟨by (with_reducible repeat (first | apply Kd.R_alloc | apply Kd.R_drewN | apply Kd.R_drew)); (first | exact HO_4.out | (first | refine Kd.R_mono HO_4.out (fun _ hk => ?_) | refine Kd.S_mono HO_4.out (fun _ hk => ?_) | refine Kd.Q_mono HO_4.out (fun _ hk => ?_)); simp only [ownBlock_slice] at hk ⊢; exact hk)⟩, ⟨by repeat (first | (with_reducible first | exact HB.out | apply below_alloc | apply pw_below_drewN | apply below_drew1) | exact HB.out)⟩⟩
                                · rw [if_neg c54] at H
                                  have c54b0 : (t150 == 0) = false := beq_eq_false_iff_ne.mpr c54
                                  have c54b1 : (t150 != 0) = true := bne_iff_ne.mpr c54
                                  (first | rw [c54b0] | (simp only [i64_w, i32_w]; rw [c54b0]) | skip)
                                  have H' := Aside0.mk H
                                  clear H
                                  go_wp2
                                  go_meet
                                  case rel => exact ⟨_, (false), (by first | rfl | (simp; done) | (simp [*]; done)), H', ⟨by have := HK1.out; have := HJ11.out; have := HJ44.out; first | omega | exact Nat.le_refl _⟩, ⟨by (with_reducible repeat (first | apply Kd.R_alloc | apply Kd.R_drewN | apply Kd.R_drew)); (first | exact HO_4.out | (first | refine Kd.R_mono HO_4.out (fun _ hk => ?_) | refine Kd.S_mono HO_4.out (fun _ hk => ?_) | refine Kd.Q_mono HO_4.out (fun _ hk => ?_)); simp only [ownBlock_slice] at hk ⊢; exact hk)⟩, ⟨by repeat (first | (with_reducible first | exact HB.out | apply below_alloc | apply pw_below_drewN | apply below_drew1) | exact HB.out)⟩⟩
                              case rest =>
                                clear HC52
                                try clear c1
                                try clear c2
                                try clear c2b0
                                try clear p2
                                try clear q2
                                try clear hx2
                                try clear c3
                                try clear c3b0
                                try clear c4
                                try clear p4
                                try clear q4
                                try clear hx4
                                try clear c5
                                try clear c6
                                try clear c6b0
                                try clear c6b1
                                try clear p6
                                try clear c7
                                try clear c7b0
                                try clear c7b1
                                try clear c8
                                try clear c8b0
                                try clear c9
                                try clear c9b0
                                try clear c9b1
                                try clear c10
                                try clear c10b0
                                try clear c10b1
                                try clear c11
                                try clear c11b0
                                try clear c11b1
                                try clear c11b2
                                try clear c13
                                try clear c13b0
                                try clear c13b1
                                try clear c14
                                try clear c15
                                try clear c15b0
                                try clear c15b1
                                try clear c16
                                try clear c16b0
                                try clear c16b1
                                try clear c17
                                try clear c17b0
                                try clear c19
                                try clear c19b0
                                try clear p20
                                try clear q20
                                try clear hx20
                                try clear c21
                                try clear c21b0
                                try clear c21b1
                                try clear c22
                                try clear c22b0
                                try clear c23
                                try clear c23b0
                                try clear c23b1
                                try clear c24
                                try clear c24b0
                                try clear c24b1
                                try clear c25
                                try clear c25b0
                                try clear c25b1
                                try clear c25b2
                                try clear p26
                                try clear q26
                                try clear hx26
                                try clear c27
                                try clear c27b0
                                try clear c27b1
                                try clear c28
                                try clear c28b0
                                try clear c29
                                try clear c29b0
                                try clear c29b1
                                try clear c30
                                try clear c30b0
                                try clear c30b1
                                try clear c31
                                try clear c31b0
                                try clear c31b1
                                try clear c31b2
                                try clear c32
                                try clear c32b0
                                try clear c32b1
                                try clear c33
                                try clear c33b0
                                try clear c33b1
                                try clear c34
                                try clear c34b0
                                try clear c34b1
                                try clear c35
                                try clear c35b0
                                try clear c35b1
                                try clear c35b2
                                try clear c36
                                try clear c36b0
                                try clear c36b1
                                try clear c37
                                try clear c37b0
                                try clear c37b1
                                try clear c38
                                try clear c38b0
                                try clear c38b1
                                try clear c39
                                try clear c39b0
                                try clear c39b1
                                try clear c39b2
                                try clear c40
                                try clear c40b0
                                try clear c40b1
                                try clear c41
                                try clear c41b0
                                try clear c41b1
                                try clear c42
                                try clear c42b0
                                try clear c42b1
                                try clear c43
                                try clear c43b0
                                try clear c43b1
                                try clear c43b2
                                try clear c44
                                try clear c45
                                try clear c46
                                try clear c46b0
                                try clear c46b1
                                try clear c47
                                try clear c49
                                try clear c49b0
                                try clear c49b1
                                try clear c50
                                try clear c50b0
                                try clear c50b1
                                try clear c54
                                try clear c54b0
                                try clear c54b1
                                try clear c55
                                try clear c55b0
                                try clear c55b1
                                try clear p2
                                try clear p20
                                try clear p26
                                try clear p4
                                try clear p6
                                try clear q2
                                try clear q20
                                try clear q26
                                try clear q4
                                obtain ⟨kq, x132_51, rfl, HA, HJ51, HO_4, HB⟩ := hcut
                                cases kq with
                                | zero => exact absurd HA.out (by simp [flatironref05_Tokens.j3])
                                | succ kj51 =>
                                  have H := HA.out
                                  clear HA
                                  simp only [flatironref05_Tokens.j3] at H
                                  by_cases c56 : x132_51 = true
                                  · subst c56
                                    have H1 : (some (([] : List (S75)), false)) = some (r1, r2) := by rw [if_pos rfl] at H; exact H
                                    clear H
                                    have H := H1
                                    clear H1
                                    simp only [Option.some.injEq, Prod.mk.injEq] at H
                                    obtain ⟨rfl, rfl⟩ := H
                                    go_wp2
                                    go_ret2
                                    exact ⟨_, by first | rfl | (simp [errW_none, errW_some] <;> rfl) | (simp [*, errW_none, errW_some] <;> rfl), by first | exact Kd.R_nil _ _ _ _ _ | exact Kd.N_nil _ _ _ _ _ | exact Kd.V_nil _ _ _ _ _ | exact Kd.Q_nil _ _ _ _ _ | exact Kd.S_nil _ _ _ _ _, by repeat (first | (with_reducible first | exact HB.out | apply below_alloc | apply pw_below_drewN | apply below_drew1) | exact HB.out)⟩
                                  · replace c56 := Bool.eq_false_iff.mpr c56
                                    subst c56
                                    have H1 : (if t150 > 0 then (if x4_44.length < 5864062014805 then ((flatironref05_Marks.f).bind fun t154 => (if 0 ≤ (wrap64 (t150 - 1)) then (if (wrap64 (t150 - 1)) < (t154.length : Int) then (flatironref05_Tokens.l0 kj51 a0 (x4_44 ++ [(⟨t150, (⟨#[]⟩ : ByteArray)⟩ : S75)]) x5_44 x6_44 (wrap64 ((wrap64 ((wrap64 (x7_1 + 1)) + ((rdOf ByteArray.empty t154 (wrap64 (t150 - 1))).size : Int))) - 1))) else (none)) else (none))) else (none)) else (flatironref05_Tokens.l0 kj51 a0 x4_44 x5_44 x6_44 (wrap64 (x7_1 + 1)))) = some (r1, r2) := by rw [if_neg (show ¬ (false = true) by decide)] at H; exact H
                                    clear H
                                    have H := H1
                                    clear H1
                                    by_cases c57 : t150 > 0
                                    · rw [if_pos c57] at H
                                      have c57b0 : decide (0 < t150) = true := decide_eq_true c57
                                      clear c57
                                      by_cases c58 : x4_44.length < 5864062014805
                                      · rw [if_pos c58] at H
                                        have LMc58 := Aside0.mk c58
                                        clear c58
                                        obtain ⟨y151, hy151⟩ : ∃ y_ : List (S75), y_ = (x4_44 ++ [(⟨t150, (⟨#[]⟩ : ByteArray)⟩ : S75)]) := ⟨_, rfl⟩
                                        replace H : ((flatironref05_Marks.f).bind fun t154 => (if 0 ≤ (wrap64 (t150 - 1)) then (if (wrap64 (t150 - 1)) < (t154.length : Int) then (flatironref05_Tokens.l0 kj51 a0 y151 x5_44 x6_44 (wrap64 ((wrap64 ((wrap64 (x7_1 + 1)) + ((rdOf ByteArray.empty t154 (wrap64 (t150 - 1))).size : Int))) - 1))) else (none)) else (none))) = some (r1, r2) := by first | (rw [hy151]; with_reducible exact H) | (have H2_ := (Option.bind_some _ _).symm.trans H; rw [hy151]; with_reducible exact H2_) | (have H2_ := (Option.bind_some _ _).symm.trans H; with_reducible exact H2_) | with_reducible exact H | (rw [hy151]; exact H) | exact H
                                        have Ny151 := Aside0.mk hy151
                                        clear hy151
                                        replace H := Option.bind_eq_some_iff.mp H
                                        obtain ⟨t154, A590, H⟩ := H
                                        replace H : (if 0 ≤ (wrap64 (t150 - 1)) then (if (wrap64 (t150 - 1)) < (t154.length : Int) then (flatironref05_Tokens.l0 kj51 a0 y151 x5_44 x6_44 (wrap64 ((wrap64 ((wrap64 (x7_1 + 1)) + ((rdOf ByteArray.empty t154 (wrap64 (t150 - 1))).size : Int))) - 1))) else (none)) else (none)) = some (r1, r2) := H
                                        have A59 := Aside0.mk A590
                                        clear A590
                                        obtain ⟨ji60, hji60⟩ : ∃ j_ : Int, (wrap64 (t150 - 1)) = j_ := ⟨_, rfl⟩
                                        replace H : (if 0 ≤ (ji60) then (if (ji60) < (t154.length : Int) then (flatironref05_Tokens.l0 kj51 a0 y151 x5_44 x6_44 (wrap64 ((wrap64 ((wrap64 (x7_1 + 1)) + ((rdOf ByteArray.empty t154 (ji60)).size : Int))) - 1))) else (none)) else (none)) = some (r1, r2) := by first | (rw [hji60] at H; exact H) | (simp only [hji60] at H ⊢; exact H)
                                        (try rw [hji60] at A59)
                                        have hji60w : (IntKind.i64.wrap (t150 - 1)) = ji60 := (i64_w _).trans hji60
                                        by_cases c61 : 0 ≤ (ji60)
                                        · rw [if_pos c61] at H
                                          have c61b0 : decide (0 ≤ (ji60)) = true := decide_eq_true c61
                                          clear c61
                                          by_cases c62 : (ji60) < (t154.length : Int)
                                          · rw [if_pos c62] at H
                                            have c62b0 : decide ((ji60) < (t154.length : Int)) = true := decide_eq_true c62
                                            clear c62
                                            have H' := Aside0.mk H
                                            clear H
                                            go_wp2_with (first | ((with_reducible refine gate_builtin (b := .append) (xs := #[.tmp 137, .tmp 140]) rfl ?_); (try (refine gate_guard (by rfl) ?_; dsimp only)); at_builtin; refine Kd.R_append k75 (w0 := w) w.heap.size rfl (.tmp 137) (.tmp 140) 68 75 (.agg #[(.int .i64 0), (.string ⟨#[]⟩)]) 24 rfl Tryd.underlying68 info75 rfl (by decide) (by omega) u4 x4_44 (⟨t150, (⟨#[]⟩ : ByteArray)⟩ : S75) [.int .i64 t150, .string (⟨#[]⟩ : ByteArray)] (fun _ => True) (fun _ => False) rfl rfl ?aP (fun _ hk => hk.elim) ?aF ?aO ?aB ?aS ?aL ?_; (case aP => exact k75_mkM _ _ _ (⟨t150, (⟨#[]⟩ : ByteArray)⟩ : S75)); (case aB => exact (by repeat (first | (with_reducible first | exact HB.out | apply below_alloc | apply pw_below_drewN | apply below_drew1) | exact HB.out))); (case aF => exact (fun _ _ => trivial)); (case aO => exact (by (with_reducible repeat (first | apply Kd.R_alloc | apply Kd.R_drewN | apply Kd.R_drew)); (first | exact HO_4.out | (first | refine Kd.R_mono HO_4.out (fun _ hk => ?_) | refine Kd.S_mono HO_4.out (fun _ hk => ?_) | refine Kd.Q_mono HO_4.out (fun _ hk => ?_)); simp only [ownBlock_slice] at hk ⊢; exact hk))); (case aS => exact (below_size (by repeat (first | (with_reducible first | exact HB.out | apply below_alloc | apply pw_below_drewN | apply below_drew1) | exact HB.out)))); (case aL => have := LMc58.out; omega); intro v152 w63 ho hb hg hat; rw [← Ny151.out] at ho; have n0_ := Aside0.mk (hb); have n1_ := Aside0.mk (ho); clear HB; clear HO_4; have HB := n0_; have HO153 := n1_; clear n0_ n1_; clear ho hb hg hat) | ((with_reducible refine gate_callee (f := 46) rfl ?_); refine goesL_ (some 143) rfl rfl Tryd.func46 (by kernel_rfl) rfl #[] rfl (by (try simp only [List.map_toArray, List.map_cons, List.map_nil]); first | done | rfl | (simp only [List.length_drop, List.length_take]; rfl)) ?_; (with_reducible refine (flatironref05_Marks.calls  t154 _ A59.out).mono ?_); rintro e w64 ⟨v155, rfl, ho0, hb⟩; refine ⟨_, rfl, ?_⟩; have n0_ := Aside0.mk (Kd.R_below (by (with_reducible repeat (first | apply Kd.R_alloc | apply Kd.R_drewN | apply Kd.R_drew)); (first | exact HO153.out | (first | refine Kd.R_mono HO153.out (fun _ hk => ?_) | refine Kd.S_mono HO153.out (fun _ hk => ?_) | refine Kd.Q_mono HO153.out (fun _ hk => ?_)); simp only [ownBlock_slice] at hk ⊢; exact hk)) hb); have n1_ := Aside0.mk (Kd.R_lower ho0 (below_size (by repeat (first | (with_reducible first | exact HB.out | apply below_alloc | apply pw_below_drewN | apply below_drew1) | exact HB.out)))); have n2_ := Aside0.mk (below_step (by repeat (first | (with_reducible first | exact HB.out | apply below_alloc | apply pw_below_drewN | apply below_drew1) | exact HB.out)) hb); clear HO153; clear HB; have HO153 := n0_; have HO156 := n1_; have HB := n2_; clear n0_ n1_ n2_; (try clear hb); (try clear hb2); (try clear hk); (try clear hi); (try clear ho0); obtain ⟨Ao65, co65, eo65⟩ := Kd.R_slice HO156.out; subst eo65; have p157 : 0 ≤ ((ji60) : Int) := of_decide_eq_true (by first | (with_reducible assumption) | assumption); have q157 : (ji60) < (t154.length : Int) := of_decide_eq_true (by first | (with_reducible assumption) | assumption); obtain ⟨ad157, e157, hx157_0⟩ := Kd.at_string (Kd.R_reads' HO156.out).2.2 (ji60) p157 q157; cases e157; replace p157 := eq_true p157; replace q157 := eq_true q157))
                                            go_roundg kj51
                                            case measure => have := HK1.out; have := HJ11.out; have := HJ44.out; have := HJ51.out; omega
                                            case rel => exact ⟨(y151), (x5_44), (x6_44), (wrap64 ((wrap64 ((wrap64 (x7_1 + 1)) + ((rdOf ByteArray.empty t154 (ji60)).size : Int))) - 1)), (by first | rfl | (simp; done) | (simp [*]; done)), (by first | rfl | (simp; done) | (simp [*]; done)), (by first | rfl | (simp; done) | (simp only [← hji60] <;> (first | rfl | simp)) | (simp [*]; done)), H', ⟨by have := HK1.out; have := HJ11.out; have := HJ44.out; have := HJ51.out; omega⟩, ⟨by (with_reducible repeat (first | apply Kd.R_alloc | apply Kd.R_drewN | apply Kd.R_drew)); (first | exact HO153.out | (first | refine Kd.R_mono HO153.out (fun _ hk => ?_) | refine Kd.S_mono HO153.out (fun _ hk => ?_) | refine Kd.Q_mono HO153.out (fun _ hk => ?_)); simp only [ownBlock_slice] at hk ⊢; exact hk)⟩, ⟨by repeat (first | (with_reducible first | exact HB.out | apply below_alloc | apply pw_below_drewN | apply below_drew1) | exact HB.out)⟩⟩
                                          · rw [if_neg c62] at H
                                            exact absurd H (by simp)
                                        · rw [if_neg c61] at H
                                          exact absurd H (by simp)
                                      · rw [if_neg c58] at H
                                        exact absurd H (by simp)
                                    · rw [if_neg c57] at H
                                      have c57b0 : decide (0 < t150) = false := decide_eq_false c57
                                      clear c57
                                      have H' := Aside0.mk H
                                      clear H
                                      go_wp2
                                      go_roundg kj51
                                      case measure => have := HK1.out; have := HJ11.out; have := HJ44.out; have := HJ51.out; omega
                                      case rel => exact ⟨(x4_44), (x5_44), (x6_44), (wrap64 (x7_1 + 1)), (by first | rfl | (simp; done) | (simp [*]; done)), (by first | rfl | (simp; done) | (simp [*]; done)), (by first | rfl | (simp; done) | (simp [*]; done)), H', ⟨by have := HK1.out; have := HJ11.out; have := HJ44.out; have := HJ51.out; omega⟩, ⟨by (with_reducible repeat (first | apply Kd.R_alloc | apply Kd.R_drewN | apply Kd.R_drew)); (first | exact HO_4.out | (first | refine Kd.R_mono HO_4.out (fun _ hk => ?_) | refine Kd.S_mono HO_4.out (fun _ hk => ?_) | refine Kd.Q_mono HO_4.out (fun _ hk => ?_)); simp only [ownBlock_slice] at hk ⊢; exact hk)⟩, ⟨by repeat (first | (with_reducible first | exact HB.out | apply below_alloc | apply pw_below_drewN | apply below_drew1) | exact HB.out)⟩⟩
                            · rw [if_neg c50] at H
                              exact absurd H (by simp)
                          · rw [if_neg c49] at H
                            exact absurd H (by simp)
                    · replace c44 := Bool.eq_false_iff.mpr c44
                      subst c44
                      have H1 : (if 0 ≤ x7_1 then (if x7_1 ≤ (a0.size : Int) then ((flatironref05_step.f (a0.extract (x7_1 : Int).toNat a0.size)).bind fun bt158 => (if bt158.2.2 = true then (if bt158.2.1 = 1 then (if 0 ≤ (wrap64 ((wrap64 (x7_1 + bt158.1)) - 1)) then (if (wrap64 ((wrap64 (x7_1 + bt158.1)) - 1)) ≤ (wrap64 (x7_1 + bt158.1)) then (if (wrap64 (x7_1 + bt158.1)) ≤ (a0.size : Int) then (if x6_1.size + ((((wrap64 (x7_1 + bt158.1)) : Int).toNat) - ((wrap64 ((wrap64 (x7_1 + bt158.1)) - 1)) : Int).toNat) ≤ 9223372036854775807 then (flatironref05_Tokens.l0 kj11 a0 x4_1 1 (x6_1 ++ (a0.extract ((wrap64 ((wrap64 (x7_1 + bt158.1)) - 1)) : Int).toNat ((wrap64 (x7_1 + bt158.1)) : Int).toNat)) (wrap64 (x7_1 + bt158.1))) else (none)) else (none)) else (none)) else (none)) else (flatironref05_Tokens.l0 kj11 a0 x4_1 bt158.2.1 x6_1 (wrap64 (x7_1 + bt158.1)))) else (some (([] : List (S75)), false)))) else (none)) else (none)) = some (r1, r2) := by rw [if_neg (show ¬ (false = true) by decide)] at H; exact H
                      clear H
                      have H := H1
                      clear H1
                      by_cases c66 : 0 ≤ x7_1
                      · rw [if_pos c66] at H
                        have c66b0 := eq_true c66
                        have c66b1 : decide (0 ≤ x7_1) = true := decide_eq_true c66
                        clear c66
                        by_cases c67 : x7_1 ≤ (a0.size : Int)
                        · rw [if_pos c67] at H
                          have c67b0 := eq_true c67
                          have c67b1 : decide (x7_1 ≤ (a0.size : Int)) = true := decide_eq_true c67
                          clear c67
                          replace H := Option.bind_eq_some_iff.mp H
                          obtain ⟨⟨t158, t159, t160⟩, A680, H⟩ := H
                          replace H : (if t160 = true then (if t159 = 1 then (if 0 ≤ (wrap64 ((wrap64 (x7_1 + t158)) - 1)) then (if (wrap64 ((wrap64 (x7_1 + t158)) - 1)) ≤ (wrap64 (x7_1 + t158)) then (if (wrap64 (x7_1 + t158)) ≤ (a0.size : Int) then (if x6_1.size + ((((wrap64 (x7_1 + t158)) : Int).toNat) - ((wrap64 ((wrap64 (x7_1 + t158)) - 1)) : Int).toNat) ≤ 9223372036854775807 then (flatironref05_Tokens.l0 kj11 a0 x4_1 1 (x6_1 ++ (a0.extract ((wrap64 ((wrap64 (x7_1 + t158)) - 1)) : Int).toNat ((wrap64 (x7_1 + t158)) : Int).toNat)) (wrap64 (x7_1 + t158))) else (none)) else (none)) else (none)) else (none)) else (flatironref05_Tokens.l0 kj11 a0 x4_1 t159 x6_1 (wrap64 (x7_1 + t158)))) else (some (([] : List (S75)), false))) = some (r1, r2) := H
                          have A68 := Aside0.mk A680
                          clear A680
                          by_cases c69 : t160 = true
                          · subst c69
                            have H1 : (if t159 = 1 then (if 0 ≤ (wrap64 ((wrap64 (x7_1 + t158)) - 1)) then (if (wrap64 ((wrap64 (x7_1 + t158)) - 1)) ≤ (wrap64 (x7_1 + t158)) then (if (wrap64 (x7_1 + t158)) ≤ (a0.size : Int) then (if x6_1.size + ((((wrap64 (x7_1 + t158)) : Int).toNat) - ((wrap64 ((wrap64 (x7_1 + t158)) - 1)) : Int).toNat) ≤ 9223372036854775807 then (flatironref05_Tokens.l0 kj11 a0 x4_1 1 (x6_1 ++ (a0.extract ((wrap64 ((wrap64 (x7_1 + t158)) - 1)) : Int).toNat ((wrap64 (x7_1 + t158)) : Int).toNat)) (wrap64 (x7_1 + t158))) else (none)) else (none)) else (none)) else (none)) else (flatironref05_Tokens.l0 kj11 a0 x4_1 t159 x6_1 (wrap64 (x7_1 + t158)))) = some (r1, r2) := by rw [if_pos rfl] at H; exact H
                            clear H
                            have H := H1
                            clear H1
                            by_cases c70 : t159 = 1
                            · rw [if_pos c70] at H
                              have c70b0 : (t159 == 1) = true := beq_iff_eq.mpr c70
                              have c70b1 : (t159 != 1) = false := bne_eq_false_iff_eq.mpr c70
                              clear c70
                              obtain ⟨ji71, hji71⟩ : ∃ j_ : Int, (wrap64 ((wrap64 (x7_1 + t158)) - 1)) = j_ := ⟨_, rfl⟩
                              replace H : (if 0 ≤ (ji71) then (if (ji71) ≤ (wrap64 (x7_1 + t158)) then (if (wrap64 (x7_1 + t158)) ≤ (a0.size : Int) then (if x6_1.size + ((((wrap64 (x7_1 + t158)) : Int).toNat) - ((ji71) : Int).toNat) ≤ 9223372036854775807 then (flatironref05_Tokens.l0 kj11 a0 x4_1 1 (x6_1 ++ (a0.extract ((ji71) : Int).toNat ((wrap64 (x7_1 + t158)) : Int).toNat)) (wrap64 (x7_1 + t158))) else (none)) else (none)) else (none)) else (none)) = some (r1, r2) := by first | (rw [hji71] at H; exact H) | (simp only [hji71] at H ⊢; exact H)
                              (try rw [hji71] at A68)
                              have hji71w : (IntKind.i64.wrap ((wrap64 (x7_1 + t158)) - 1)) = ji71 := (i64_w _).trans hji71
                              by_cases c72 : 0 ≤ (ji71)
                              · rw [if_pos c72] at H
                                have c72b0 := eq_true c72
                                have c72b1 : decide (0 ≤ (ji71)) = true := decide_eq_true c72
                                clear c72
                                by_cases c73 : (ji71) ≤ (wrap64 (x7_1 + t158))
                                · rw [if_pos c73] at H
                                  have c73b0 := eq_true c73
                                  have c73b1 : decide ((ji71) ≤ (wrap64 (x7_1 + t158))) = true := decide_eq_true c73
                                  by_cases c74 : (wrap64 (x7_1 + t158)) ≤ (a0.size : Int)
                                  · rw [if_pos c74] at H
                                    have c74b0 := eq_true c74
                                    have c74b1 : decide ((wrap64 (x7_1 + t158)) ≤ (a0.size : Int)) = true := decide_eq_true c74
                                    by_cases c75 : x6_1.size + ((((wrap64 (x7_1 + t158)) : Int).toNat) - ((ji71) : Int).toNat) ≤ 9223372036854775807
                                    · rw [if_pos c75] at H
                                      have c75b0 := eq_true c75
                                      have c75b1 : decide (x6_1.size + ((((wrap64 (x7_1 + t158)) : Int).toNat) - ((ji71) : Int).toNat) ≤ 9223372036854775807) = true := decide_eq_true c75
                                      try have c75b2 : (9223372036854775807 < x6_1.size + ((((wrap64 (x7_1 + t158)) : Int).toNat) - ((ji71) : Int).toNat)) = False := eq_false (Nat.not_lt.2 c75)
                                      have H' := Aside0.mk H
                                      clear H
                                      go_wp2_with (first | ((with_reducible refine gate_callee (f := 47) rfl ?_); refine goesL_ (some 27) rfl rfl Tryd.func47 (by kernel_rfl) rfl #[.string (a0.extract (x7_1 : Int).toNat a0.size)] rfl (by (try simp only [List.map_toArray, List.map_cons, List.map_nil]); first | done | rfl | (simp only [List.length_drop, List.length_take]; rfl)) ?_; (with_reducible refine (flatironref05_step.calls (a0.extract (x7_1 : Int).toNat a0.size) t158 t159 true _ A68.out).mono ?_); rintro e w' ⟨rfl, ⟨nd, rfl⟩⟩; refine ⟨_, rfl, ?_⟩))
                                      go_roundg kj11
                                      case measure => have := HK1.out; have := HJ11.out; omega
                                      case rel => exact ⟨(x4_1), (1), (x6_1 ++ (a0.extract ((ji71) : Int).toNat ((wrap64 (x7_1 + t158)) : Int).toNat)), (wrap64 (x7_1 + t158)), (by first | rfl | (simp; done) | (simp [*]; done)), (by first | rfl | (simp; done) | (simp only [← hji71] <;> (first | rfl | simp)) | (simp [*]; done)), (by first | rfl | (simp; done) | (simp [*]; done)), H', ⟨by have := HK1.out; have := HJ11.out; omega⟩, ⟨by (with_reducible repeat (first | apply Kd.R_alloc | apply Kd.R_drewN | apply Kd.R_drew)); (first | exact HO_4.out | (first | refine Kd.R_mono HO_4.out (fun _ hk => ?_) | refine Kd.S_mono HO_4.out (fun _ hk => ?_) | refine Kd.Q_mono HO_4.out (fun _ hk => ?_)); simp only [ownBlock_slice] at hk ⊢; exact hk)⟩, ⟨by repeat (first | (with_reducible first | exact HB.out | apply below_alloc | apply pw_below_drewN | apply below_drew1) | exact HB.out)⟩⟩
                                    · rw [if_neg c75] at H
                                      exact absurd H (by simp)
                                  · rw [if_neg c74] at H
                                    exact absurd H (by simp)
                                · rw [if_neg c73] at H
                                  exact absurd H (by simp)
                              · rw [if_neg c72] at H
                                exact absurd H (by simp)
                            · rw [if_neg c70] at H
                              have c70b0 : (t159 == 1) = false := beq_eq_false_iff_ne.mpr c70
                              have c70b1 : (t159 != 1) = true := bne_iff_ne.mpr c70
                              have H' := Aside0.mk H
                              clear H
                              go_wp2_with (first | ((with_reducible refine gate_callee (f := 47) rfl ?_); refine goesL_ (some 27) rfl rfl Tryd.func47 (by kernel_rfl) rfl #[.string (a0.extract (x7_1 : Int).toNat a0.size)] rfl (by (try simp only [List.map_toArray, List.map_cons, List.map_nil]); first | done | rfl | (simp only [List.length_drop, List.length_take]; rfl)) ?_; (with_reducible refine (flatironref05_step.calls (a0.extract (x7_1 : Int).toNat a0.size) t158 t159 true _ A68.out).mono ?_); rintro e w' ⟨rfl, ⟨nd, rfl⟩⟩; refine ⟨_, rfl, ?_⟩))
                              go_roundg kj11
                              case measure => have := HK1.out; have := HJ11.out; omega
                              case rel => exact ⟨(x4_1), (t159), (x6_1), (wrap64 (x7_1 + t158)), (by first | rfl | (simp; done) | (simp [*]; done)), (by first | rfl | (simp; done) | (simp [*]; done)), (by first | rfl | (simp; done) | (simp [*]; done)), H', ⟨by have := HK1.out; have := HJ11.out; omega⟩, ⟨by (with_reducible repeat (first | apply Kd.R_alloc | apply Kd.R_drewN | apply Kd.R_drew)); (first | exact HO_4.out | (first | refine Kd.R_mono HO_4.out (fun _ hk => ?_) | refine Kd.S_mono HO_4.out (fun _ hk => ?_) | refine Kd.Q_mono HO_4.out (fun _ hk => ?_)); simp only [ownBlock_slice] at hk ⊢; exact hk)⟩, ⟨by repeat (first | (with_reducible first | exact HB.out | apply below_alloc | apply pw_below_drewN | apply below_drew1) | exact HB.out)⟩⟩
                          · replace c69 := Bool.eq_false_iff.mpr c69
                            subst c69
                            have H1 : (some (([] : List (S75)), false)) = some (r1, r2) := by rw [if_neg (show ¬ (false = true) by decide)] at H; exact H
                            clear H
                            have H := H1
                            clear H1
                            simp only [Option.some.injEq, Prod.mk.injEq] at H
                            obtain ⟨rfl, rfl⟩ := H
                            go_wp2_with (first | ((with_reducible refine gate_callee (f := 47) rfl ?_); refine goesL_ (some 27) rfl rfl Tryd.func47 (by kernel_rfl) rfl #[.string (a0.extract (x7_1 : Int).toNat a0.size)] rfl (by (try simp only [List.map_toArray, List.map_cons, List.map_nil]); first | done | rfl | (simp only [List.length_drop, List.length_take]; rfl)) ?_; (with_reducible refine (flatironref05_step.calls (a0.extract (x7_1 : Int).toNat a0.size) t158 t159 false _ A68.out).mono ?_); rintro e w' ⟨rfl, ⟨nd, rfl⟩⟩; refine ⟨_, rfl, ?_⟩))
                            go_ret2
                            exact ⟨_, by first | rfl | (simp [errW_none, errW_some] <;> rfl) | (simp [*, errW_none, errW_some] <;> rfl), by first | exact Kd.R_nil _ _ _ _ _ | exact Kd.N_nil _ _ _ _ _ | exact Kd.V_nil _ _ _ _ _ | exact Kd.Q_nil _ _ _ _ _ | exact Kd.S_nil _ _ _ _ _, by repeat (first | (with_reducible first | exact HB.out | apply below_alloc | apply pw_below_drewN | apply below_drew1) | exact HB.out)⟩
                        · rw [if_neg c67] at H
                          exact absurd H (by simp)
                      · rw [if_neg c66] at H
                        exact absurd H (by simp)
        · rw [if_neg c3] at H
          exact absurd H (by simp)
      · rw [if_neg c2] at H
        have c2b0 : decide (x7_1 < (a0.size : Int)) = false := decide_eq_false c2
        clear c2
        by_cases c76 : x5_1 > 1
        · rw [if_pos c76] at H
          have c76b0 : decide (1 < x5_1) = true := decide_eq_true c76
          clear c76
          simp only [Option.some.injEq, Prod.mk.injEq] at H
          obtain ⟨rfl, rfl⟩ := H
          go_wp2
          go_ret2
          exact ⟨_, by first | rfl | (simp [errW_none, errW_some] <;> rfl) | (simp [*, errW_none, errW_some] <;> rfl), by first | exact Kd.R_nil _ _ _ _ _ | exact Kd.N_nil _ _ _ _ _ | exact Kd.V_nil _ _ _ _ _ | exact Kd.Q_nil _ _ _ _ _ | exact Kd.S_nil _ _ _ _ _, by repeat (first | (with_reducible first | exact HB.out | apply below_alloc | apply pw_below_drewN | apply below_drew1) | exact HB.out)⟩
        · rw [if_neg c76] at H
          have c76b0 : decide (1 < x5_1) = false := decide_eq_false c76
          clear c76
          by_cases c77 : x5_1 = 1
          · rw [if_pos c77] at H
            have c77b0 : (x5_1 == 1) = true := beq_iff_eq.mpr c77
            have c77b1 : (x5_1 != 1) = false := bne_eq_false_iff_eq.mpr c77
            clear c77
            by_cases c78 : x4_1.length < 5864062014805
            · rw [if_pos c78] at H
              have LMc78 := Aside0.mk c78
              clear c78
              obtain ⟨y161, hy161⟩ : ∃ y_ : List (S75), y_ = (x4_1 ++ [(⟨0, x6_1⟩ : S75)]) := ⟨_, rfl⟩
              replace H : (some (y161, true)) = some (r1, r2) := by first | (rw [hy161]; with_reducible exact H) | (have H2_ := (Option.bind_some _ _).symm.trans H; rw [hy161]; with_reducible exact H2_) | (have H2_ := (Option.bind_some _ _).symm.trans H; with_reducible exact H2_) | with_reducible exact H | (rw [hy161]; exact H) | exact H
              have Ny161 := Aside0.mk hy161
              clear hy161
              simp only [Option.some.injEq, Prod.mk.injEq] at H
              obtain ⟨rfl, rfl⟩ := H
              go_wp2_with (first | ((with_reducible refine gate_builtin (b := .append) (xs := #[.tmp 155, .tmp 158]) rfl ?_); (try (refine gate_guard (by rfl) ?_; dsimp only)); at_builtin; refine Kd.R_append k75 (w0 := w) w.heap.size rfl (.tmp 155) (.tmp 158) 68 75 (.agg #[(.int .i64 0), (.string ⟨#[]⟩)]) 24 rfl Tryd.underlying68 info75 rfl (by decide) (by omega) u4 x4_1 (⟨0, x6_1⟩ : S75) [.int .i64 0, .string x6_1] (fun _ => True) (fun _ => False) rfl rfl ?aP (fun _ hk => hk.elim) ?aF ?aO ?aB ?aS ?aL ?_; (case aP => exact k75_mkM _ _ _ (⟨0, x6_1⟩ : S75)); (case aB => exact (by repeat (first | (with_reducible first | exact HB.out | apply below_alloc | apply pw_below_drewN | apply below_drew1) | exact HB.out))); (case aF => exact (fun _ _ => trivial)); (case aO => exact (by (with_reducible repeat (first | apply Kd.R_alloc | apply Kd.R_drewN | apply Kd.R_drew)); (first | exact HO_4.out | (first | refine Kd.R_mono HO_4.out (fun _ hk => ?_) | refine Kd.S_mono HO_4.out (fun _ hk => ?_) | refine Kd.Q_mono HO_4.out (fun _ hk => ?_)); simp only [ownBlock_slice] at hk ⊢; exact hk))); (case aS => exact (below_size (by repeat (first | (with_reducible first | exact HB.out | apply below_alloc | apply pw_below_drewN | apply below_drew1) | exact HB.out)))); (case aL => have := LMc78.out; omega); intro v162 w79 ho hb hg hat; rw [← Ny161.out] at ho; have n0_ := Aside0.mk (hb); have n1_ := Aside0.mk (ho); clear HB; clear HO_4; have HB := n0_; have HO163 := n1_; clear n0_ n1_; clear ho hb hg hat))
              go_ret2
              exact ⟨_, by first | rfl | (simp [errW_none, errW_some] <;> rfl) | (simp [*, errW_none, errW_some] <;> rfl), by (with_reducible repeat (first | apply Kd.R_alloc | apply Kd.R_drewN | apply Kd.R_drew)); exact HO163.out, by repeat (first | (with_reducible first | exact HB.out | apply below_alloc | apply pw_below_drewN | apply below_drew1) | exact HB.out)⟩
            · rw [if_neg c78] at H
              exact absurd H (by simp)
          · rw [if_neg c77] at H
            have c77b0 : (x5_1 == 1) = false := beq_eq_false_iff_ne.mpr c77
            have c77b1 : (x5_1 != 1) = true := bne_iff_ne.mpr c77
            simp only [Option.some.injEq, Prod.mk.injEq] at H
            obtain ⟨rfl, rfl⟩ := H
            go_wp2
            go_ret2
            exact ⟨_, by first | rfl | (simp [errW_none, errW_some] <;> rfl) | (simp [*, errW_none, errW_some] <;> rfl), by (with_reducible repeat (first | apply Kd.R_alloc | apply Kd.R_drewN | apply Kd.R_drew)); exact HO_4.out, by repeat (first | (with_reducible first | exact HB.out | apply below_alloc | apply pw_below_drewN | apply below_drew1) | exact HB.out)⟩

end Go.Proofs.YtogbdjboblfokaaDoor.XW05
