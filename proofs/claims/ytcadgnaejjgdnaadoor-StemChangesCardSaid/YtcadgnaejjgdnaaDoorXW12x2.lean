/- Laid for this claim by the session's own program xprint.py, over the print of the kit: functions of the program as plain Lean functions, each with a proof that a call comes to what its function says, or the row of a law out of these; no condition of its own. -/
import Derived.Test.YtcadgnaejjgdnaaDoorXW12x0
import Derived.Test.YtcadgnaejjgdnaaDoorXW12x1
namespace Go.Proofs.YtcadgnaejjgdnaaDoor.XW12
open Go.Proofs.YtcadgnaejjgdnaaDoor.X Go.RowKit Go.Proofs.YtcadgnaejjgdnaaDoorW.PrintWords Go.Proofs.YtcadgnaejjgdnaaDoorW.PrintLast Go.Proofs.YtcadgnaejjgdnaaDoorW.PrintMore
attribute [local go_sem] max2_int min2_int max_two min_two max_three min_three max_four min_four   -- for this text's walks alone
set_option linter.unusedVariables false
set_option linter.unusedSimpArgs false

/-! ### flatironlaw12_StemMatches: function 3 -/
def flatironlaw12_StemMatches.j0 : Nat → ByteArray → ByteArray → ByteArray → Bool → Option (Bool)
  | 0, _, _, _, _ => none
  | k + 1, x0, x1, x2, x23 => if x23 = true then ((flatironlaw12_lives.f).bind fun t123 => (some t123)) else ((stem_Match.f x0 x1).bind fun bt124 => ((flatironref12_Match.f k x0 x1).bind fun bt126 => (if bt124.1.toList = bt126.1.toList then (if (bt124.2 != bt126.2) = true then (some false) else ((stem_Has.f x0).bind fun t128 => ((flatironref12_At.f k x0).bind fun t129 => (if (t128 != (decide (t129 ≥ 0))) = true then (some false) else ((stem_Put.f x0 x2).bind fun t130 => ((flatironref12_Put.f k x0 x2).bind fun t131 => (if t130.toList = t131.toList then (if bt124.2 = true then ((stem_Put.f x0 bt124.1).bind fun t132 => (some (t132.toList == x1.toList))) else (some true)) else (some false)))))))) else (some false))))
def flatironlaw12_StemMatches.f (k : Nat) (a0 : ByteArray) (a1 : ByteArray) (a2 : ByteArray) : Option (Bool) := (flatironlaw12_lives.f).bind fun t122 => (if t122 = true then (flatironlaw12_StemMatches.j0 k a0 a1 a2 (decide ((wrap64 ((wrap64 ((a0.size : Int) + (a1.size : Int))) + (a2.size : Int))) > 2000))) else (flatironlaw12_StemMatches.j0 k a0 a1 a2 true))
theorem flatironlaw12_StemMatches.mono_l : ∀ k, (∀ y0 y1 y2 y3, LeO (flatironlaw12_StemMatches.j0 k y0 y1 y2 y3) (flatironlaw12_StemMatches.j0 (k + 1) y0 y1 y2 y3))
  | 0 => fun _ _ _ _ r h => by simp [flatironlaw12_StemMatches.j0] at h
  | k + 1 => by
    have ih0 := flatironlaw12_StemMatches.mono_l k
    · intro y0 y1 y2 y3
      unfold flatironlaw12_StemMatches.j0
      repeat' first
      | (with_reducible exact ih0 _ _ _ _)
      | (with_reducible exact flatironref12_At.mono _ _)
      | (with_reducible exact flatironref12_Match.mono _ _ _)
      | (with_reducible exact flatironref12_Put.mono _ _ _)
      | (with_reducible exact LeO.refl _)
      | (with_reducible exact LeO.none _)
      | (with_reducible refine LeO.ite ?_ ?_)
      | (with_reducible refine LeO.bind ?_ (fun _ => ?_))
      | exact ih0 _ _ _ _
      | exact flatironref12_At.mono _ _
      | exact flatironref12_Match.mono _ _ _
      | exact flatironref12_Put.mono _ _ _
      | exact LeO.none _
      | refine LeO.ite ?_ ?_
      | refine LeO.bind ?_ (fun _ => ?_)
theorem flatironlaw12_StemMatches.mono : ∀ a0 a1 a2 k, LeO (flatironlaw12_StemMatches.f k a0 a1 a2) (flatironlaw12_StemMatches.f (k + 1) a0 a1 a2) := by
  intro a0 a1 a2 k
  have ih0 := flatironlaw12_StemMatches.mono_l k
  unfold flatironlaw12_StemMatches.f
  repeat' first
      | (with_reducible exact ih0 _ _ _ _)
      | (with_reducible exact flatironref12_At.mono _ _)
      | (with_reducible exact flatironref12_Match.mono _ _ _)
      | (with_reducible exact flatironref12_Put.mono _ _ _)
      | (with_reducible exact LeO.refl _)
      | (with_reducible exact LeO.none _)
      | (with_reducible refine LeO.ite ?_ ?_)
      | (with_reducible refine LeO.bind ?_ (fun _ => ?_))
      | exact ih0 _ _ _ _
      | exact flatironref12_At.mono _ _
      | exact flatironref12_Match.mono _ _ _
      | exact flatironref12_Put.mono _ _ _
      | exact LeO.none _
      | refine LeO.ite ?_ ?_
      | refine LeO.bind ?_ (fun _ => ?_)
set_option maxHeartbeats 8000000 in
set_option maxRecDepth 100000 in
theorem flatironlaw12_StemMatches.calls (k : Nat) (a0 : ByteArray) (a1 : ByteArray) (a2 : ByteArray) (r : Bool) (w : World) (hSH : Shp w) (h : flatironlaw12_StemMatches.f k a0 a1 a2 = some r) :
    Calls Tryd.prog 3 #[.string a0, .string a1, .string a2] w fun e w' => e = .returned (.bool r) ∧ Below w.heap.size w w' := by
  have HSH := Aside0.mk hSH
  clear hSH
  have HB := Aside0.mk (Below.refl w.heap.size w)
  have H : ((flatironlaw12_lives.f).bind fun t122 => (if t122 = true then (flatironlaw12_StemMatches.j0 k a0 a1 a2 (decide ((wrap64 ((wrap64 ((a0.size : Int) + (a1.size : Int))) + (a2.size : Int))) > 2000))) else (flatironlaw12_StemMatches.j0 k a0 a1 a2 true))) = some r := h
  clear h
  have HC4 := Aside0.mk H
  clear H
  go_enter Tryd.func3, Tryd.ntmps3
  go_upto_region 1 with (fail)
  go_cut [23] (fun v23 wc => ∃ (kq : Nat) (x23_3 : Bool), v23 = .bool x23_3 ∧ Aside0 (flatironlaw12_StemMatches.j0 kq a0 a1 a2 x23_3 = some r) ∧ Aside0 (kq ≤ k) ∧ Aside0 (Below w.heap.size w wc))
  case first =>
    have H := HC4.out
    clear HC4
    replace H := Option.bind_eq_some_iff.mp H
    obtain ⟨t122, A50, H⟩ := H
    replace H : (if t122 = true then (flatironlaw12_StemMatches.j0 k a0 a1 a2 (decide ((wrap64 ((wrap64 ((a0.size : Int) + (a1.size : Int))) + (a2.size : Int))) > 2000))) else (flatironlaw12_StemMatches.j0 k a0 a1 a2 true)) = some r := H
    have A5 := Aside0.mk A50
    clear A50
    by_cases c6 : t122 = true
    · subst c6
      have H1 : (flatironlaw12_StemMatches.j0 k a0 a1 a2 (decide ((wrap64 ((wrap64 ((a0.size : Int) + (a1.size : Int))) + (a2.size : Int))) > 2000))) = some r := by rw [if_pos rfl] at H; exact H
      clear H
      have H := H1
      clear H1
      have H' := Aside0.mk H
      clear H
      go_wp2_with (first | ((with_reducible refine gate_callee (f := 8) rfl ?_); refine goesL_ (some 11) rfl rfl Tryd.func8 (by kernel_rfl) rfl #[] rfl (by (try simp only [List.map_toArray, List.map_cons, List.map_nil]); first | done | rfl | (simp only [List.length_drop, List.length_take]; rfl)) ?_; (with_reducible refine (flatironlaw12_lives.calls  true _ ?side1 A5.out).mono ?_); (case side1 => first | exact HSH.out | exact Shp.below HSH.out (by repeat (first | (with_reducible first | exact HB.out | apply below_alloc | apply pw_below_drewN | apply below_drew1) | exact HB.out))); rintro e w7 ⟨rfl, hb⟩; refine ⟨_, rfl, ?_⟩; have n0_ := Aside0.mk (below_step (by repeat (first | (with_reducible first | exact HB.out | apply below_alloc | apply pw_below_drewN | apply below_drew1) | exact HB.out)) hb); clear HB; have HB := n0_; clear n0_; (try clear hb); (try clear hb2); (try clear hk); (try clear hi)))
      go_meet
      case rel => exact ⟨_, (decide ((wrap64 ((wrap64 ((a0.size : Int) + (a1.size : Int))) + (a2.size : Int))) > 2000)), (by first | rfl | (simp; done) | (simp [*]; done)), H', ⟨by first | omega | exact Nat.le_refl _⟩, ⟨by repeat (first | (with_reducible first | exact HB.out | apply below_alloc | apply pw_below_drewN | apply below_drew1) | exact HB.out)⟩⟩
    · replace c6 := Bool.eq_false_iff.mpr c6
      subst c6
      have H1 : (flatironlaw12_StemMatches.j0 k a0 a1 a2 true) = some r := by rw [if_neg (show ¬ (false = true) by decide)] at H; exact H
      clear H
      have H := H1
      clear H1
      have H' := Aside0.mk H
      clear H
      go_wp2_with (first | ((with_reducible refine gate_callee (f := 8) rfl ?_); refine goesL_ (some 11) rfl rfl Tryd.func8 (by kernel_rfl) rfl #[] rfl (by (try simp only [List.map_toArray, List.map_cons, List.map_nil]); first | done | rfl | (simp only [List.length_drop, List.length_take]; rfl)) ?_; (with_reducible refine (flatironlaw12_lives.calls  false _ ?side1 A5.out).mono ?_); (case side1 => first | exact HSH.out | exact Shp.below HSH.out (by repeat (first | (with_reducible first | exact HB.out | apply below_alloc | apply pw_below_drewN | apply below_drew1) | exact HB.out))); rintro e w8 ⟨rfl, hb⟩; refine ⟨_, rfl, ?_⟩; have n0_ := Aside0.mk (below_step (by repeat (first | (with_reducible first | exact HB.out | apply below_alloc | apply pw_below_drewN | apply below_drew1) | exact HB.out)) hb); clear HB; have HB := n0_; clear n0_; (try clear hb); (try clear hb2); (try clear hk); (try clear hi)))
      go_meet
      case rel => exact ⟨_, (true), (by first | rfl | (simp; done) | (simp [*]; done)), H', ⟨by first | omega | exact Nat.le_refl _⟩, ⟨by repeat (first | (with_reducible first | exact HB.out | apply below_alloc | apply pw_below_drewN | apply below_drew1) | exact HB.out)⟩⟩
  case rest =>
    clear HC4
    try clear p2
    try clear c3
    try clear c6
    try clear p6
    try clear c8
    obtain ⟨kq, x23_3, rfl, HA, HJ3, HB⟩ := hcut
    cases kq with
    | zero => exact absurd HA.out (by simp [flatironlaw12_StemMatches.j0])
    | succ kj3 =>
      have H := HA.out
      clear HA
      simp only [flatironlaw12_StemMatches.j0] at H
      by_cases c9 : x23_3 = true
      · subst c9
        have H1 : ((flatironlaw12_lives.f).bind fun t123 => (some t123)) = some r := by rw [if_pos rfl] at H; exact H
        clear H
        have H := H1
        clear H1
        replace H := Option.bind_eq_some_iff.mp H
        obtain ⟨t123, A100, H⟩ := H
        replace H : (some t123) = some r := H
        have A10 := Aside0.mk A100
        clear A100
        obtain rfl := Option.some.inj H
        go_wp2_with (first | ((with_reducible refine gate_callee (f := 8) rfl ?_); refine goesL_ (some 24) rfl rfl Tryd.func8 (by kernel_rfl) rfl #[] rfl (by (try simp only [List.map_toArray, List.map_cons, List.map_nil]); first | done | rfl | (simp only [List.length_drop, List.length_take]; rfl)) ?_; (with_reducible refine (flatironlaw12_lives.calls  t123 _ ?side1 A10.out).mono ?_); (case side1 => first | exact HSH.out | exact Shp.below HSH.out (by repeat (first | (with_reducible first | exact HB.out | apply below_alloc | apply pw_below_drewN | apply below_drew1) | exact HB.out))); rintro e w11 ⟨rfl, hb⟩; refine ⟨_, rfl, ?_⟩; have n0_ := Aside0.mk (below_step (by repeat (first | (with_reducible first | exact HB.out | apply below_alloc | apply pw_below_drewN | apply below_drew1) | exact HB.out)) hb); clear HB; have HB := n0_; clear n0_; (try clear hb); (try clear hb2); (try clear hk); (try clear hi)))
        go_ret
        exact ⟨by first | rfl | (simp [errW_none, errW_some] <;> rfl) | (simp [*, errW_none, errW_some] <;> rfl), by repeat (first | (with_reducible first | exact HB.out | apply below_alloc | apply pw_below_drewN | apply below_drew1) | exact HB.out)⟩
      · replace c9 := Bool.eq_false_iff.mpr c9
        subst c9
        have H1 : ((stem_Match.f a0 a1).bind fun bt124 => ((flatironref12_Match.f kj3 a0 a1).bind fun bt126 => (if bt124.1.toList = bt126.1.toList then (if (bt124.2 != bt126.2) = true then (some false) else ((stem_Has.f a0).bind fun t128 => ((flatironref12_At.f kj3 a0).bind fun t129 => (if (t128 != (decide (t129 ≥ 0))) = true then (some false) else ((stem_Put.f a0 a2).bind fun t130 => ((flatironref12_Put.f kj3 a0 a2).bind fun t131 => (if t130.toList = t131.toList then (if bt124.2 = true then ((stem_Put.f a0 bt124.1).bind fun t132 => (some (t132.toList == a1.toList))) else (some true)) else (some false)))))))) else (some false)))) = some r := by rw [if_neg (show ¬ (false = true) by decide)] at H; exact H
        clear H
        have H := H1
        clear H1
        replace H := Option.bind_eq_some_iff.mp H
        obtain ⟨⟨t124, t125⟩, A120, H⟩ := H
        replace H : ((flatironref12_Match.f kj3 a0 a1).bind fun bt126 => (if t124.toList = bt126.1.toList then (if (t125 != bt126.2) = true then (some false) else ((stem_Has.f a0).bind fun t128 => ((flatironref12_At.f kj3 a0).bind fun t129 => (if (t128 != (decide (t129 ≥ 0))) = true then (some false) else ((stem_Put.f a0 a2).bind fun t130 => ((flatironref12_Put.f kj3 a0 a2).bind fun t131 => (if t130.toList = t131.toList then (if t125 = true then ((stem_Put.f a0 t124).bind fun t132 => (some (t132.toList == a1.toList))) else (some true)) else (some false)))))))) else (some false))) = some r := H
        have A12 := Aside0.mk A120
        clear A120
        replace H := Option.bind_eq_some_iff.mp H
        obtain ⟨⟨t126, t127⟩, A130, H⟩ := H
        replace H : (if t124.toList = t126.toList then (if (t125 != t127) = true then (some false) else ((stem_Has.f a0).bind fun t128 => ((flatironref12_At.f kj3 a0).bind fun t129 => (if (t128 != (decide (t129 ≥ 0))) = true then (some false) else ((stem_Put.f a0 a2).bind fun t130 => ((flatironref12_Put.f kj3 a0 a2).bind fun t131 => (if t130.toList = t131.toList then (if t125 = true then ((stem_Put.f a0 t124).bind fun t132 => (some (t132.toList == a1.toList))) else (some true)) else (some false)))))))) else (some false)) = some r := H
        have A13 := Aside0.mk A130
        clear A130
        by_cases c14 : t124.toList = t126.toList
        · rw [if_pos c14] at H
          have c14b0 : (t124.toList == t126.toList) = true := beq_iff_eq.mpr c14
          have c14b1 : (t124.toList != t126.toList) = false := bne_eq_false_iff_eq.mpr c14
          clear c14
          by_cases c15 : (t125 != t127) = true
          · rw [if_pos c15] at H
            have c15b0 : (t125 != t127) = true := c15
            (try (have c15b1 : decide (t125 = t127) = false := by simpa using c15))
            (try (have c15b2 : (t125 == t127) = false := by simpa using c15))
            (try (have c15b3 : ¬ (t125 = t127) := by simpa using c15))
            clear c15
            obtain rfl := Option.some.inj H
            go_wp2_with (first | ((with_reducible refine gate_callee (f := 9) rfl ?_); refine goesL_ (some 28) rfl rfl Tryd.func9 (by kernel_rfl) rfl #[.string a0, .string a1] rfl (by (try simp only [List.map_toArray, List.map_cons, List.map_nil]); first | done | rfl | (simp only [List.length_drop, List.length_take]; rfl)) ?_; (with_reducible refine (stem_Match.calls a0 a1 t124 t125 _ ?side1 A12.out).mono ?_); (case side1 => first | exact HSH.out | exact Shp.below HSH.out (by repeat (first | (with_reducible first | exact HB.out | apply below_alloc | apply pw_below_drewN | apply below_drew1) | exact HB.out))); rintro e w' ⟨rfl, ⟨nd, rfl⟩⟩; refine ⟨_, rfl, ?_⟩) | ((with_reducible refine gate_callee (f := 10) rfl ?_); refine goesL_ (some 34) rfl rfl Tryd.func10 (by kernel_rfl) rfl #[.string a0, .string a1] rfl (by (try simp only [List.map_toArray, List.map_cons, List.map_nil]); first | done | rfl | (simp only [List.length_drop, List.length_take]; rfl)) ?_; (with_reducible refine (flatironref12_Match.calls kj3 a0 a1 t126 t127 _ A13.out).mono ?_); rintro e w' ⟨rfl, ⟨nd, rfl⟩⟩; refine ⟨_, rfl, ?_⟩))
            go_ret
            exact ⟨by first | rfl | (simp [errW_none, errW_some] <;> rfl) | (simp [*, errW_none, errW_some] <;> rfl), by repeat (first | (with_reducible first | exact HB.out | apply below_alloc | apply pw_below_drewN | apply below_drew1) | exact HB.out)⟩
          · rw [if_neg c15] at H
            have c15b0 : (t125 != t127) = false := by simpa using c15
            (try (have c15b1 : decide (t125 = t127) = true := by simpa using c15))
            (try (have c15b2 : (t125 == t127) = true := by simpa using c15))
            clear c15
            replace H := Option.bind_eq_some_iff.mp H
            obtain ⟨t128, A160, H⟩ := H
            replace H : ((flatironref12_At.f kj3 a0).bind fun t129 => (if (t128 != (decide (t129 ≥ 0))) = true then (some false) else ((stem_Put.f a0 a2).bind fun t130 => ((flatironref12_Put.f kj3 a0 a2).bind fun t131 => (if t130.toList = t131.toList then (if t125 = true then ((stem_Put.f a0 t124).bind fun t132 => (some (t132.toList == a1.toList))) else (some true)) else (some false)))))) = some r := H
            have A16 := Aside0.mk A160
            clear A160
            replace H := Option.bind_eq_some_iff.mp H
            obtain ⟨t129, A170, H⟩ := H
            replace H : (if (t128 != (decide (t129 ≥ 0))) = true then (some false) else ((stem_Put.f a0 a2).bind fun t130 => ((flatironref12_Put.f kj3 a0 a2).bind fun t131 => (if t130.toList = t131.toList then (if t125 = true then ((stem_Put.f a0 t124).bind fun t132 => (some (t132.toList == a1.toList))) else (some true)) else (some false))))) = some r := H
            have A17 := Aside0.mk A170
            clear A170
            by_cases c18 : (t128 != (decide (t129 ≥ 0))) = true
            · rw [if_pos c18] at H
              have c18b0 : (t128 != (decide (t129 ≥ 0))) = true := c18
              (try (have c18b1 : decide (t128 = (decide (t129 ≥ 0))) = false := by simpa using c18))
              (try (have c18b2 : (t128 == (decide (t129 ≥ 0))) = false := by simpa using c18))
              (try (have c18b3 : ¬ (t128 = (decide (t129 ≥ 0))) := by simpa using c18))
              clear c18
              obtain rfl := Option.some.inj H
              go_wp2_with (first | ((with_reducible refine gate_callee (f := 9) rfl ?_); refine goesL_ (some 28) rfl rfl Tryd.func9 (by kernel_rfl) rfl #[.string a0, .string a1] rfl (by (try simp only [List.map_toArray, List.map_cons, List.map_nil]); first | done | rfl | (simp only [List.length_drop, List.length_take]; rfl)) ?_; (with_reducible refine (stem_Match.calls a0 a1 t124 t125 _ ?side1 A12.out).mono ?_); (case side1 => first | exact HSH.out | exact Shp.below HSH.out (by repeat (first | (with_reducible first | exact HB.out | apply below_alloc | apply pw_below_drewN | apply below_drew1) | exact HB.out))); rintro e w' ⟨rfl, ⟨nd, rfl⟩⟩; refine ⟨_, rfl, ?_⟩) | ((with_reducible refine gate_callee (f := 10) rfl ?_); refine goesL_ (some 34) rfl rfl Tryd.func10 (by kernel_rfl) rfl #[.string a0, .string a1] rfl (by (try simp only [List.map_toArray, List.map_cons, List.map_nil]); first | done | rfl | (simp only [List.length_drop, List.length_take]; rfl)) ?_; (with_reducible refine (flatironref12_Match.calls kj3 a0 a1 t126 t127 _ A13.out).mono ?_); rintro e w' ⟨rfl, ⟨nd, rfl⟩⟩; refine ⟨_, rfl, ?_⟩) | (go_at_call 11; (with_reducible refine (stem_Has.calls a0 t128 _ ?side1 A16.out).mono ?_); (case side1 => first | exact HSH.out | exact Shp.below HSH.out (by repeat (first | (with_reducible first | exact HB.out | apply below_alloc | apply pw_below_drewN | apply below_drew1) | exact HB.out))); rintro e w' ⟨rfl, ⟨nd, rfl⟩⟩) | (go_at_call 12; (with_reducible refine (flatironref12_At.calls kj3 a0 t129 _ A17.out).mono ?_); rintro e w' ⟨rfl, ⟨nd, rfl⟩⟩))
              go_ret
              exact ⟨by first | rfl | (simp [errW_none, errW_some] <;> rfl) | (simp [*, errW_none, errW_some] <;> rfl), by repeat (first | (with_reducible first | exact HB.out | apply below_alloc | apply pw_below_drewN | apply below_drew1) | exact HB.out)⟩
            · rw [if_neg c18] at H
              have c18b0 : (t128 != (decide (t129 ≥ 0))) = false := by simpa using c18
              (try (have c18b1 : decide (t128 = (decide (t129 ≥ 0))) = true := by simpa using c18))
              (try (have c18b2 : (t128 == (decide (t129 ≥ 0))) = true := by simpa using c18))
              clear c18
              replace H := Option.bind_eq_some_iff.mp H
              obtain ⟨t130, A190, H⟩ := H
              replace H : ((flatironref12_Put.f kj3 a0 a2).bind fun t131 => (if t130.toList = t131.toList then (if t125 = true then ((stem_Put.f a0 t124).bind fun t132 => (some (t132.toList == a1.toList))) else (some true)) else (some false))) = some r := H
              have A19 := Aside0.mk A190
              clear A190
              replace H := Option.bind_eq_some_iff.mp H
              obtain ⟨t131, A200, H⟩ := H
              replace H : (if t130.toList = t131.toList then (if t125 = true then ((stem_Put.f a0 t124).bind fun t132 => (some (t132.toList == a1.toList))) else (some true)) else (some false)) = some r := H
              have A20 := Aside0.mk A200
              clear A200
              by_cases c21 : t130.toList = t131.toList
              · rw [if_pos c21] at H
                have c21b0 : (t130.toList == t131.toList) = true := beq_iff_eq.mpr c21
                have c21b1 : (t130.toList != t131.toList) = false := bne_eq_false_iff_eq.mpr c21
                clear c21
                by_cases c22 : t125 = true
                · subst c22
                  have H1 : ((stem_Put.f a0 t124).bind fun t132 => (some (t132.toList == a1.toList))) = some r := by rw [if_pos rfl] at H; exact H
                  clear H
                  have H := H1
                  clear H1
                  replace H := Option.bind_eq_some_iff.mp H
                  obtain ⟨t132, A230, H⟩ := H
                  replace H : (some (t132.toList == a1.toList)) = some r := H
                  have A23 := Aside0.mk A230
                  clear A230
                  obtain rfl := Option.some.inj H
                  go_wp2_with (first | ((with_reducible refine gate_callee (f := 9) rfl ?_); refine goesL_ (some 28) rfl rfl Tryd.func9 (by kernel_rfl) rfl #[.string a0, .string a1] rfl (by (try simp only [List.map_toArray, List.map_cons, List.map_nil]); first | done | rfl | (simp only [List.length_drop, List.length_take]; rfl)) ?_; (with_reducible refine (stem_Match.calls a0 a1 t124 true _ ?side1 A12.out).mono ?_); (case side1 => first | exact HSH.out | exact Shp.below HSH.out (by repeat (first | (with_reducible first | exact HB.out | apply below_alloc | apply pw_below_drewN | apply below_drew1) | exact HB.out))); rintro e w' ⟨rfl, ⟨nd, rfl⟩⟩; refine ⟨_, rfl, ?_⟩) | ((with_reducible refine gate_callee (f := 10) rfl ?_); refine goesL_ (some 34) rfl rfl Tryd.func10 (by kernel_rfl) rfl #[.string a0, .string a1] rfl (by (try simp only [List.map_toArray, List.map_cons, List.map_nil]); first | done | rfl | (simp only [List.length_drop, List.length_take]; rfl)) ?_; (with_reducible refine (flatironref12_Match.calls kj3 a0 a1 t126 t127 _ A13.out).mono ?_); rintro e w' ⟨rfl, ⟨nd, rfl⟩⟩; refine ⟨_, rfl, ?_⟩) | (go_at_call 11; (with_reducible refine (stem_Has.calls a0 t128 _ ?side1 A16.out).mono ?_); (case side1 => first | exact HSH.out | exact Shp.below HSH.out (by repeat (first | (with_reducible first | exact HB.out | apply below_alloc | apply pw_below_drewN | apply below_drew1) | exact HB.out))); rintro e w' ⟨rfl, ⟨nd, rfl⟩⟩) | (go_at_call 12; (with_reducible refine (flatironref12_At.calls kj3 a0 t129 _ A17.out).mono ?_); rintro e w' ⟨rfl, ⟨nd, rfl⟩⟩) | (go_at_call 13; (with_reducible refine (stem_Put.calls a0 a2 t130 _ ?side1 A19.out).mono ?_); (case side1 => first | exact HSH.out | exact Shp.below HSH.out (by repeat (first | (with_reducible first | exact HB.out | apply below_alloc | apply pw_below_drewN | apply below_drew1) | exact HB.out))); rintro e w24 ⟨rfl, hb⟩; have n0_ := Aside0.mk (below_step (by repeat (first | (with_reducible first | exact HB.out | apply below_alloc | apply pw_below_drewN | apply below_drew1) | exact HB.out)) hb); clear HB; have HB := n0_; clear n0_; (try clear hb); (try clear hb2); (try clear hk); (try clear hi)) | (go_at_call 14; (with_reducible refine (flatironref12_Put.calls kj3 a0 a2 t131 _ A20.out).mono ?_); rintro e w' ⟨rfl, ⟨nd, rfl⟩⟩) | (go_at_call 13; (with_reducible refine (stem_Put.calls a0 t124 t132 _ ?side1 A23.out).mono ?_); (case side1 => first | exact HSH.out | exact Shp.below HSH.out (by repeat (first | (with_reducible first | exact HB.out | apply below_alloc | apply pw_below_drewN | apply below_drew1) | exact HB.out))); rintro e w25 ⟨rfl, hb⟩; have n0_ := Aside0.mk (below_step (by repeat (first | (with_reducible first | exact HB.out | apply below_alloc | apply pw_below_drewN | apply below_drew1) | exact HB.out)) hb); clear HB; have HB := n0_; clear n0_; (try clear hb); (try clear hb2); (try clear hk); (try clear hi)))
                  go_ret
                  exact ⟨by first | rfl | (simp [errW_none, errW_some] <;> rfl) | (simp [*, errW_none, errW_some] <;> rfl), by repeat (first | (with_reducible first | exact HB.out | apply below_alloc | apply pw_below_drewN | apply below_drew1) | exact HB.out)⟩
                · replace c22 := Bool.eq_false_iff.mpr c22
                  subst c22
                  have H1 : (some true) = some r := by rw [if_neg (show ¬ (false = true) by decide)] at H; exact H
                  clear H
                  have H := H1
                  clear H1
                  obtain rfl := Option.some.inj H
                  go_wp2_with (first | ((with_reducible refine gate_callee (f := 9) rfl ?_); refine goesL_ (some 28) rfl rfl Tryd.func9 (by kernel_rfl) rfl #[.string a0, .string a1] rfl (by (try simp only [List.map_toArray, List.map_cons, List.map_nil]); first | done | rfl | (simp only [List.length_drop, List.length_take]; rfl)) ?_; (with_reducible refine (stem_Match.calls a0 a1 t124 false _ ?side1 A12.out).mono ?_); (case side1 => first | exact HSH.out | exact Shp.below HSH.out (by repeat (first | (with_reducible first | exact HB.out | apply below_alloc | apply pw_below_drewN | apply below_drew1) | exact HB.out))); rintro e w' ⟨rfl, ⟨nd, rfl⟩⟩; refine ⟨_, rfl, ?_⟩) | ((with_reducible refine gate_callee (f := 10) rfl ?_); refine goesL_ (some 34) rfl rfl Tryd.func10 (by kernel_rfl) rfl #[.string a0, .string a1] rfl (by (try simp only [List.map_toArray, List.map_cons, List.map_nil]); first | done | rfl | (simp only [List.length_drop, List.length_take]; rfl)) ?_; (with_reducible refine (flatironref12_Match.calls kj3 a0 a1 t126 t127 _ A13.out).mono ?_); rintro e w' ⟨rfl, ⟨nd, rfl⟩⟩; refine ⟨_, rfl, ?_⟩) | (go_at_call 11; (with_reducible refine (stem_Has.calls a0 t128 _ ?side1 A16.out).mono ?_); (case side1 => first | exact HSH.out | exact Shp.below HSH.out (by repeat (first | (with_reducible first | exact HB.out | apply below_alloc | apply pw_below_drewN | apply below_drew1) | exact HB.out))); rintro e w' ⟨rfl, ⟨nd, rfl⟩⟩) | (go_at_call 12; (with_reducible refine (flatironref12_At.calls kj3 a0 t129 _ A17.out).mono ?_); rintro e w' ⟨rfl, ⟨nd, rfl⟩⟩) | (go_at_call 13; (with_reducible refine (stem_Put.calls a0 a2 t130 _ ?side1 A19.out).mono ?_); (case side1 => first | exact HSH.out | exact Shp.below HSH.out (by repeat (first | (with_reducible first | exact HB.out | apply below_alloc | apply pw_below_drewN | apply below_drew1) | exact HB.out))); rintro e w26 ⟨rfl, hb⟩; have n0_ := Aside0.mk (below_step (by repeat (first | (with_reducible first | exact HB.out | apply below_alloc | apply pw_below_drewN | apply below_drew1) | exact HB.out)) hb); clear HB; have HB := n0_; clear n0_; (try clear hb); (try clear hb2); (try clear hk); (try clear hi)) | (go_at_call 14; (with_reducible refine (flatironref12_Put.calls kj3 a0 a2 t131 _ A20.out).mono ?_); rintro e w' ⟨rfl, ⟨nd, rfl⟩⟩))
                  go_ret
                  exact ⟨by first | rfl | (simp [errW_none, errW_some] <;> rfl) | (simp [*, errW_none, errW_some] <;> rfl), by repeat (first | (with_reducible first | exact HB.out | apply below_alloc | apply pw_below_drewN | apply below_drew1) | exact HB.out)⟩
              · rw [if_neg c21] at H
                have c21b0 : (t130.toList == t131.toList) = false := beq_eq_false_iff_ne.mpr c21
                have c21b1 : (t130.toList != t131.toList) = true := bne_iff_ne.mpr c21
                obtain rfl := Option.some.inj H
                go_wp2_with (first | ((with_reducible refine gate_callee (f := 9) rfl ?_); refine goesL_ (some 28) rfl rfl Tryd.func9 (by kernel_rfl) rfl #[.string a0, .string a1] rfl (by (try simp only [List.map_toArray, List.map_cons, List.map_nil]); first | done | rfl | (simp only [List.length_drop, List.length_take]; rfl)) ?_; (with_reducible refine (stem_Match.calls a0 a1 t124 t125 _ ?side1 A12.out).mono ?_); (case side1 => first | exact HSH.out | exact Shp.below HSH.out (by repeat (first | (with_reducible first | exact HB.out | apply below_alloc | apply pw_below_drewN | apply below_drew1) | exact HB.out))); rintro e w' ⟨rfl, ⟨nd, rfl⟩⟩; refine ⟨_, rfl, ?_⟩) | ((with_reducible refine gate_callee (f := 10) rfl ?_); refine goesL_ (some 34) rfl rfl Tryd.func10 (by kernel_rfl) rfl #[.string a0, .string a1] rfl (by (try simp only [List.map_toArray, List.map_cons, List.map_nil]); first | done | rfl | (simp only [List.length_drop, List.length_take]; rfl)) ?_; (with_reducible refine (flatironref12_Match.calls kj3 a0 a1 t126 t127 _ A13.out).mono ?_); rintro e w' ⟨rfl, ⟨nd, rfl⟩⟩; refine ⟨_, rfl, ?_⟩) | (go_at_call 11; (with_reducible refine (stem_Has.calls a0 t128 _ ?side1 A16.out).mono ?_); (case side1 => first | exact HSH.out | exact Shp.below HSH.out (by repeat (first | (with_reducible first | exact HB.out | apply below_alloc | apply pw_below_drewN | apply below_drew1) | exact HB.out))); rintro e w' ⟨rfl, ⟨nd, rfl⟩⟩) | (go_at_call 12; (with_reducible refine (flatironref12_At.calls kj3 a0 t129 _ A17.out).mono ?_); rintro e w' ⟨rfl, ⟨nd, rfl⟩⟩) | (go_at_call 13; (with_reducible refine (stem_Put.calls a0 a2 t130 _ ?side1 A19.out).mono ?_); (case side1 => first | exact HSH.out | exact Shp.below HSH.out (by repeat (first | (with_reducible first | exact HB.out | apply below_alloc | apply pw_below_drewN | apply below_drew1) | exact HB.out))); rintro e w27 ⟨rfl, hb⟩; have n0_ := Aside0.mk (below_step (by repeat (first | (with_reducible first | exact HB.out | apply below_alloc | apply pw_below_drewN | apply below_drew1) | exact HB.out)) hb); clear HB; have HB := n0_; clear n0_; (try clear hb); (try clear hb2); (try clear hk); (try clear hi)) | (go_at_call 14; (with_reducible refine (flatironref12_Put.calls kj3 a0 a2 t131 _ A20.out).mono ?_); rintro e w' ⟨rfl, ⟨nd, rfl⟩⟩))
                go_ret
                exact ⟨by first | rfl | (simp [errW_none, errW_some] <;> rfl) | (simp [*, errW_none, errW_some] <;> rfl), by repeat (first | (with_reducible first | exact HB.out | apply below_alloc | apply pw_below_drewN | apply below_drew1) | exact HB.out)⟩
        · rw [if_neg c14] at H
          have c14b0 : (t124.toList == t126.toList) = false := beq_eq_false_iff_ne.mpr c14
          have c14b1 : (t124.toList != t126.toList) = true := bne_iff_ne.mpr c14
          obtain rfl := Option.some.inj H
          go_wp2_with (first | ((with_reducible refine gate_callee (f := 9) rfl ?_); refine goesL_ (some 28) rfl rfl Tryd.func9 (by kernel_rfl) rfl #[.string a0, .string a1] rfl (by (try simp only [List.map_toArray, List.map_cons, List.map_nil]); first | done | rfl | (simp only [List.length_drop, List.length_take]; rfl)) ?_; (with_reducible refine (stem_Match.calls a0 a1 t124 t125 _ ?side1 A12.out).mono ?_); (case side1 => first | exact HSH.out | exact Shp.below HSH.out (by repeat (first | (with_reducible first | exact HB.out | apply below_alloc | apply pw_below_drewN | apply below_drew1) | exact HB.out))); rintro e w' ⟨rfl, ⟨nd, rfl⟩⟩; refine ⟨_, rfl, ?_⟩) | ((with_reducible refine gate_callee (f := 10) rfl ?_); refine goesL_ (some 34) rfl rfl Tryd.func10 (by kernel_rfl) rfl #[.string a0, .string a1] rfl (by (try simp only [List.map_toArray, List.map_cons, List.map_nil]); first | done | rfl | (simp only [List.length_drop, List.length_take]; rfl)) ?_; (with_reducible refine (flatironref12_Match.calls kj3 a0 a1 t126 t127 _ A13.out).mono ?_); rintro e w' ⟨rfl, ⟨nd, rfl⟩⟩; refine ⟨_, rfl, ?_⟩))
          go_ret
          exact ⟨by first | rfl | (simp [errW_none, errW_some] <;> rfl) | (simp [*, errW_none, errW_some] <;> rfl), by repeat (first | (with_reducible first | exact HB.out | apply below_alloc | apply pw_below_drewN | apply below_drew1) | exact HB.out)⟩

/-! ### stem_All: function 15 -/
def stem_All.l0 : Nat → ByteArray → ByteArray → List ByteArray → List ByteArray → Int → Int → Option (List ByteArray)
  | 0, _, _, _, _, _, _ => none
  | k + 1, x1, x2, x7, x10, x11, x12 => if x12 < x11 then (if 0 ≤ x12 then (if x12 < (x10.length : Int) then ((stem_Change.f (rdOf ByteArray.empty x10 x12) x1 x2).bind fun t134 => (if x7.length < 8796093022208 then (stem_All.l0 k x1 x2 (x7 ++ [t134]) x10 x11 (wrap64 (x12 + 1))) else (none))) else (none)) else (none)) else (some x7)
def stem_All.f (k : Nat) (l0 : List ByteArray) (a1 : ByteArray) (a2 : ByteArray) : Option (List ByteArray) := stem_All.l0 k a1 a2 ([] : List ByteArray) l0 (l0.length : Int) 0
theorem stem_All.mono_l : ∀ k, (∀ y0 y1 y2 y3 y4 y5, LeO (stem_All.l0 k y0 y1 y2 y3 y4 y5) (stem_All.l0 (k + 1) y0 y1 y2 y3 y4 y5))
  | 0 => fun _ _ _ _ _ _ r h => by simp [stem_All.l0] at h
  | k + 1 => by
    have ih0 := stem_All.mono_l k
    · intro y0 y1 y2 y3 y4 y5
      unfold stem_All.l0
      repeat' first
      | (with_reducible exact ih0 _ _ _ _ _ _)
      | (with_reducible exact LeO.refl _)
      | (with_reducible exact LeO.none _)
      | (with_reducible refine LeO.ite ?_ ?_)
      | (with_reducible refine LeO.bind ?_ (fun _ => ?_))
      | exact ih0 _ _ _ _ _ _
      | exact LeO.none _
      | refine LeO.ite ?_ ?_
      | refine LeO.bind ?_ (fun _ => ?_)
theorem stem_All.mono : ∀ a0 a1 a2 k, LeO (stem_All.f k a0 a1 a2) (stem_All.f (k + 1) a0 a1 a2) := by
  intro a0 a1 a2 k
  have ih0 := stem_All.mono_l k
  unfold stem_All.f
  repeat' first
      | (with_reducible exact ih0 _ _ _ _ _ _)
      | (with_reducible exact LeO.refl _)
      | (with_reducible exact LeO.none _)
      | (with_reducible refine LeO.ite ?_ ?_)
      | (with_reducible refine LeO.bind ?_ (fun _ => ?_))
      | exact ih0 _ _ _ _ _ _
      | exact LeO.none _
      | refine LeO.ite ?_ ?_
      | refine LeO.bind ?_ (fun _ => ?_)
set_option maxHeartbeats 8000000 in
set_option maxRecDepth 100000 in
theorem stem_All.calls (k : Nat) (A0 : Option Addr) (c0 : Nat) (l0 : List ByteArray) (a1 : ByteArray) (a2 : ByteArray) (r : List ByteArray) (w : World) (hSH : Shp w) (hr0 : Kd.C Kd.string w A0 l0.length l0) (hc0 : l0.length ≤ c0) (h : stem_All.f k l0 a1 a2 = some r) :
    Calls Tryd.prog 15 #[.slice A0 l0.length c0, .string a1, .string a2] w fun e w' => ∃ v0_ : Value, e = .returned (v0_) ∧ Kd.R Kd.string 9 w' w.heap.size (fun _ => True) v0_ r ∧ Below w.heap.size w w' := by
  have HSH := Aside0.mk hSH
  clear hSH
  have HR0 := Aside0.mk hr0
  have HC0 := Aside0.mk hc0
  clear hr0 hc0
  have HB := Aside0.mk (Below.refl w.heap.size w)
  have H : (stem_All.l0 k a1 a2 ([] : List ByteArray) l0 (l0.length : Int) 0) = some r := h
  clear h
  have H' := Aside0.mk H
  clear H
  go_enter Tryd.func15, Tryd.ntmps15
  go_wp2
  go_loopg [7, 12] k (fun kq v7 v12 w' => ∃ (x7_1 : List ByteArray) (x12_1 : Int), v12 = .int .i64 x12_1 ∧ Aside0 (stem_All.l0 kq a1 a2 x7_1 l0 (l0.length : Int) x12_1 = some r) ∧ Aside0 (kq ≤ k) ∧ Aside0 (Kd.R Kd.string 9 w' w.heap.size (fun _ => True) v7 x7_1) ∧ Aside0 (Below w.heap.size w w'))
  case atStart => exact ⟨(([] : List ByteArray)), (0), (by first | rfl | (simp; done) | (simp [*]; done)), H', ⟨Nat.le_refl _⟩, ⟨by first | exact Kd.R_nil _ _ _ _ _ | exact Kd.N_nil _ _ _ _ _ | exact Kd.V_nil _ _ _ _ _ | exact Kd.Q_nil _ _ _ _ _ | exact Kd.S_nil _ _ _ _ _⟩, ⟨by repeat (first | (with_reducible first | exact HB.out | apply below_alloc | apply pw_below_drewN | apply below_drew1) | exact HB.out)⟩⟩
  case round =>
    clear H'
    try clear c1
    try clear p2
    obtain ⟨x7_1, x12_1, rfl, HA, HK1, HO_7, HB⟩ := hrel
    cases gk with
    | zero => exact absurd HA.out (by simp [stem_All.l0])
    | succ k1 =>
      have H := HA.out
      clear HA
      simp only [stem_All.l0] at H
      by_cases c4 : x12_1 < (l0.length : Int)
      · rw [if_pos c4] at H
        have c4b0 : decide (x12_1 < (l0.length : Int)) = true := decide_eq_true c4
        clear c4
        by_cases c5 : 0 ≤ x12_1
        · rw [if_pos c5] at H
          have c5b0 : decide (0 ≤ x12_1) = true := decide_eq_true c5
          clear c5
          by_cases c6 : x12_1 < (l0.length : Int)
          · rw [if_pos c6] at H
            have c6b0 : decide (x12_1 < (l0.length : Int)) = true := decide_eq_true c6
            clear c6
            replace H := Option.bind_eq_some_iff.mp H
            obtain ⟨t134, A70, H⟩ := H
            replace H : (if x7_1.length < 8796093022208 then (stem_All.l0 k1 a1 a2 (x7_1 ++ [t134]) l0 (l0.length : Int) (wrap64 (x12_1 + 1))) else (none)) = some r := H
            have A7 := Aside0.mk A70
            clear A70
            by_cases c8 : x7_1.length < 8796093022208
            · rw [if_pos c8] at H
              have LMc8 := Aside0.mk c8
              clear c8
              obtain ⟨y135, hy135⟩ : ∃ y_ : List ByteArray, y_ = (x7_1 ++ [t134]) := ⟨_, rfl⟩
              replace H : (stem_All.l0 k1 a1 a2 y135 l0 (l0.length : Int) (wrap64 (x12_1 + 1))) = some r := by first | (rw [hy135]; with_reducible exact H) | (have H2_ := (Option.bind_some _ _).symm.trans H; rw [hy135]; with_reducible exact H2_) | (have H2_ := (Option.bind_some _ _).symm.trans H; with_reducible exact H2_) | with_reducible exact H | (rw [hy135]; exact H) | exact H
              have Ny135 := Aside0.mk hy135
              clear hy135
              have H' := Aside0.mk H
              clear H
              have p133 : 0 ≤ (x12_1 : Int) := of_decide_eq_true (by first | (with_reducible assumption) | assumption)
              have q133 : x12_1 < (l0.length : Int) := of_decide_eq_true (by first | (with_reducible assumption) | assumption)
              obtain ⟨ad133, e133, hx133_0⟩ := Kd.at_string HR0.out x12_1 p133 q133
              cases e133
              replace hx133_0 := (HB.out.cell (World.block_lt_of_cell? w _ hx133_0)).trans hx133_0
              replace p133 := eq_true p133
              replace q133 := eq_true q133
              go_wp2_with (first | ((with_reducible refine gate_callee (f := 17) rfl ?_); refine goesL_ (some 20) rfl rfl Tryd.func17 (by kernel_rfl) rfl #[.string (rdOf ByteArray.empty l0 x12_1), .string a1, .string a2] rfl (by (try simp only [List.map_toArray, List.map_cons, List.map_nil]); first | done | rfl | (simp only [List.length_drop, List.length_take]; rfl)) ?_; (with_reducible refine (stem_Change.calls (rdOf ByteArray.empty l0 x12_1) a1 a2 t134 _ ?side1 A7.out).mono ?_); (case side1 => first | exact HSH.out | exact Shp.below HSH.out (by repeat (first | (with_reducible first | exact HB.out | apply below_alloc | apply pw_below_drewN | apply below_drew1) | exact HB.out))); rintro e w9 ⟨rfl, hb⟩; refine ⟨_, rfl, ?_⟩; have n0_ := Aside0.mk (Kd.R_below (by (with_reducible repeat (first | apply Kd.R_alloc | apply Kd.R_drewN | apply Kd.R_drew)); exact HO_7.out) hb); have n1_ := Aside0.mk (below_step (by repeat (first | (with_reducible first | exact HB.out | apply below_alloc | apply pw_below_drewN | apply below_drew1) | exact HB.out)) hb); clear HO_7; clear HB; have HO_7 := n0_; have HB := n1_; clear n0_ n1_; (try clear hb); (try clear hb2); (try clear hk); (try clear hi)) | ((with_reducible refine gate_builtin (b := .append) (xs := #[.tmp 16, .tmp 21]) rfl ?_); at_builtin; refine Kd.R_append Kd.string (w0 := w) w.heap.size rfl (.tmp 16) (.tmp 21) 29 9 (.string ⟨#[]⟩) 16 rfl Tryd.underlying29 info9 rfl (by decide) (by omega) u7 x7_1 t134 [.string t134] (fun _ => True) (fun _ => False) rfl rfl ?aP (fun _ hk => hk.elim) ?aF ?aO ?aB ?aS ?aL ?_; (case aP => exact rfl); (case aB => exact (by repeat (first | (with_reducible first | exact HB.out | apply below_alloc | apply pw_below_drewN | apply below_drew1) | exact HB.out))); (case aF => exact (fun _ _ => trivial)); (case aO => exact (by (with_reducible repeat (first | apply Kd.R_alloc | apply Kd.R_drewN | apply Kd.R_drew)); exact HO_7.out)); (case aS => exact (below_size (by repeat (first | (with_reducible first | exact HB.out | apply below_alloc | apply pw_below_drewN | apply below_drew1) | exact HB.out)))); (case aL => have := LMc8.out; omega); intro v136 w10 ho hb hg hat; rw [← Ny135.out] at ho; have n0_ := Aside0.mk (hb); have n1_ := Aside0.mk (ho); clear HB; clear HO_7; have HB := n0_; have HO137 := n1_; clear n0_ n1_; clear ho hb hg hat))
              go_roundg k1
              case measure => have := HK1.out; omega
              case rel => exact ⟨(y135), (wrap64 (x12_1 + 1)), (by first | rfl | (simp; done) | (simp [*]; done)), H', ⟨by have := HK1.out; omega⟩, ⟨by (with_reducible repeat (first | apply Kd.R_alloc | apply Kd.R_drewN | apply Kd.R_drew)); exact HO137.out⟩, ⟨by repeat (first | (with_reducible first | exact HB.out | apply below_alloc | apply pw_below_drewN | apply below_drew1) | exact HB.out)⟩⟩
            · rw [if_neg c8] at H
              exact absurd H (by simp)
          · rw [if_neg c6] at H
            exact absurd H (by simp)
        · rw [if_neg c5] at H
          exact absurd H (by simp)
      · rw [if_neg c4] at H
        have c4b0 : decide (x12_1 < (l0.length : Int)) = false := decide_eq_false c4
        clear c4
        obtain rfl := Option.some.inj H
        go_wp2
        go_ret
        exact ⟨_, by first | rfl | (simp [errW_none, errW_some] <;> rfl) | (simp [*, errW_none, errW_some] <;> rfl), by (with_reducible repeat (first | apply Kd.R_alloc | apply Kd.R_drewN | apply Kd.R_drew)); exact HO_7.out, by repeat (first | (with_reducible first | exact HB.out | apply below_alloc | apply pw_below_drewN | apply below_drew1) | exact HB.out)⟩

/-! ### flatironref12_Change: function 16 -/
def flatironref12_Change.f (k : Nat) (a0 : ByteArray) (a1 : ByteArray) (a2 : ByteArray) : Option (ByteArray) := (flatironref12_Match.f k a1 a0).bind fun bt138 => (if bt138.2 = true then ((flatironref12_At.f k a1).bind fun t140 => (if t140 < 0 then (some a2) else ((flatironref12_Put.f k a2 bt138.1).bind fun t141 => (some t141)))) else (some a0))
theorem flatironref12_Change.mono : ∀ a0 a1 a2 k, LeO (flatironref12_Change.f k a0 a1 a2) (flatironref12_Change.f (k + 1) a0 a1 a2) := by
  intro a0 a1 a2 k
  unfold flatironref12_Change.f
  repeat' first
      | (with_reducible exact flatironref12_At.mono _ _)
      | (with_reducible exact flatironref12_Match.mono _ _ _)
      | (with_reducible exact flatironref12_Put.mono _ _ _)
      | (with_reducible exact LeO.refl _)
      | (with_reducible exact LeO.none _)
      | (with_reducible refine LeO.ite ?_ ?_)
      | (with_reducible refine LeO.bind ?_ (fun _ => ?_))
      | exact flatironref12_At.mono _ _
      | exact flatironref12_Match.mono _ _ _
      | exact flatironref12_Put.mono _ _ _
      | exact LeO.none _
      | refine LeO.ite ?_ ?_
      | refine LeO.bind ?_ (fun _ => ?_)
set_option maxHeartbeats 8000000 in
set_option maxRecDepth 100000 in
theorem flatironref12_Change.calls (k : Nat) (a0 : ByteArray) (a1 : ByteArray) (a2 : ByteArray) (r : ByteArray) (w : World) (h : flatironref12_Change.f k a0 a1 a2 = some r) :
    Calls Tryd.prog 16 #[.string a0, .string a1, .string a2] w fun e w' => e = .returned (.string r) ∧ Drawn0 w w' := by
  have H : ((flatironref12_Match.f k a1 a0).bind fun bt138 => (if bt138.2 = true then ((flatironref12_At.f k a1).bind fun t140 => (if t140 < 0 then (some a2) else ((flatironref12_Put.f k a2 bt138.1).bind fun t141 => (some t141)))) else (some a0))) = some r := h
  clear h
  replace H := Option.bind_eq_some_iff.mp H
  obtain ⟨⟨t138, t139⟩, A40, H⟩ := H
  replace H : (if t139 = true then ((flatironref12_At.f k a1).bind fun t140 => (if t140 < 0 then (some a2) else ((flatironref12_Put.f k a2 t138).bind fun t141 => (some t141)))) else (some a0)) = some r := H
  have A4 := Aside0.mk A40
  clear A40
  by_cases c5 : t139 = true
  · subst c5
    have H1 : ((flatironref12_At.f k a1).bind fun t140 => (if t140 < 0 then (some a2) else ((flatironref12_Put.f k a2 t138).bind fun t141 => (some t141)))) = some r := by rw [if_pos rfl] at H; exact H
    clear H
    have H := H1
    clear H1
    replace H := Option.bind_eq_some_iff.mp H
    obtain ⟨t140, A60, H⟩ := H
    replace H : (if t140 < 0 then (some a2) else ((flatironref12_Put.f k a2 t138).bind fun t141 => (some t141))) = some r := H
    have A6 := Aside0.mk A60
    clear A60
    by_cases c7 : t140 < 0
    · rw [if_pos c7] at H
      have c7b0 : decide (t140 < 0) = true := decide_eq_true c7
      clear c7
      obtain rfl := Option.some.inj H
      go_enter Tryd.func16, Tryd.ntmps16
      go_wp2_with (first | ((with_reducible refine gate_callee (f := 10) rfl ?_); refine goesL_ (some 12) rfl rfl Tryd.func10 (by kernel_rfl) rfl #[.string a1, .string a0] rfl (by (try simp only [List.map_toArray, List.map_cons, List.map_nil]); first | done | rfl | (simp only [List.length_drop, List.length_take]; rfl)) ?_; (with_reducible refine (flatironref12_Match.calls k a1 a0 t138 true _ A4.out).mono ?_); rintro e w' ⟨rfl, ⟨nd, rfl⟩⟩; refine ⟨_, rfl, ?_⟩) | ((with_reducible refine gate_callee (f := 12) rfl ?_); refine goesL_ (some 19) rfl rfl Tryd.func12 (by kernel_rfl) rfl #[.string a1] rfl (by (try simp only [List.map_toArray, List.map_cons, List.map_nil]); first | done | rfl | (simp only [List.length_drop, List.length_take]; rfl)) ?_; (with_reducible refine (flatironref12_At.calls k a1 t140 _ A6.out).mono ?_); rintro e w' ⟨rfl, ⟨nd, rfl⟩⟩; refine ⟨_, rfl, ?_⟩))
      go_ret
      exact ⟨by first | rfl | (simp; done) | (simp [*]; done), by repeat (first | exact Drawn0.refl _ | apply Drawn0.step)⟩
    · rw [if_neg c7] at H
      have c7b0 : decide (t140 < 0) = false := decide_eq_false c7
      clear c7
      replace H := Option.bind_eq_some_iff.mp H
      obtain ⟨t141, A80, H⟩ := H
      replace H : (some t141) = some r := H
      have A8 := Aside0.mk A80
      clear A80
      obtain rfl := Option.some.inj H
      go_enter Tryd.func16, Tryd.ntmps16
      go_wp2_with (first | ((with_reducible refine gate_callee (f := 10) rfl ?_); refine goesL_ (some 12) rfl rfl Tryd.func10 (by kernel_rfl) rfl #[.string a1, .string a0] rfl (by (try simp only [List.map_toArray, List.map_cons, List.map_nil]); first | done | rfl | (simp only [List.length_drop, List.length_take]; rfl)) ?_; (with_reducible refine (flatironref12_Match.calls k a1 a0 t138 true _ A4.out).mono ?_); rintro e w' ⟨rfl, ⟨nd, rfl⟩⟩; refine ⟨_, rfl, ?_⟩) | ((with_reducible refine gate_callee (f := 12) rfl ?_); refine goesL_ (some 19) rfl rfl Tryd.func12 (by kernel_rfl) rfl #[.string a1] rfl (by (try simp only [List.map_toArray, List.map_cons, List.map_nil]); first | done | rfl | (simp only [List.length_drop, List.length_take]; rfl)) ?_; (with_reducible refine (flatironref12_At.calls k a1 t140 _ A6.out).mono ?_); rintro e w' ⟨rfl, ⟨nd, rfl⟩⟩; refine ⟨_, rfl, ?_⟩) | ((with_reducible refine gate_callee (f := 14) rfl ?_); refine goesL_ (some 24) rfl rfl Tryd.func14 (by kernel_rfl) rfl #[.string a2, .string t138] rfl (by (try simp only [List.map_toArray, List.map_cons, List.map_nil]); first | done | rfl | (simp only [List.length_drop, List.length_take]; rfl)) ?_; (with_reducible refine (flatironref12_Put.calls k a2 t138 t141 _ A8.out).mono ?_); rintro e w' ⟨rfl, ⟨nd, rfl⟩⟩; refine ⟨_, rfl, ?_⟩))
      go_ret
      exact ⟨by first | rfl | (simp; done) | (simp [*]; done), by repeat (first | exact Drawn0.refl _ | apply Drawn0.step)⟩
  · replace c5 := Bool.eq_false_iff.mpr c5
    subst c5
    have H1 : (some a0) = some r := by rw [if_neg (show ¬ (false = true) by decide)] at H; exact H
    clear H
    have H := H1
    clear H1
    obtain rfl := Option.some.inj H
    go_enter Tryd.func16, Tryd.ntmps16
    go_wp2_with (first | ((with_reducible refine gate_callee (f := 10) rfl ?_); refine goesL_ (some 12) rfl rfl Tryd.func10 (by kernel_rfl) rfl #[.string a1, .string a0] rfl (by (try simp only [List.map_toArray, List.map_cons, List.map_nil]); first | done | rfl | (simp only [List.length_drop, List.length_take]; rfl)) ?_; (with_reducible refine (flatironref12_Match.calls k a1 a0 t138 false _ A4.out).mono ?_); rintro e w' ⟨rfl, ⟨nd, rfl⟩⟩; refine ⟨_, rfl, ?_⟩))
    go_ret
    exact ⟨by first | rfl | (simp; done) | (simp [*]; done), by repeat (first | exact Drawn0.refl _ | apply Drawn0.step)⟩

end Go.Proofs.YtcadgnaejjgdnaaDoor.XW12
