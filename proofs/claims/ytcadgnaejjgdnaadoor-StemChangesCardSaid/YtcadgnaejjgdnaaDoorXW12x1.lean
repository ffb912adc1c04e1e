/- Laid for this claim by the session's own program xprint.py, over the print of the kit: functions of the program as plain Lean functions, each with a proof that a call comes to what its function says, or the row of a law out of these; no condition of its own. -/
import Derived.Test.YtcadgnaejjgdnaaDoorXW12x0
namespace Go.Proofs.YtcadgnaejjgdnaaDoor.XW12
open Go.Proofs.YtcadgnaejjgdnaaDoor.X Go.RowKit Go.Proofs.YtcadgnaejjgdnaaDoorW.PrintWords Go.Proofs.YtcadgnaejjgdnaaDoorW.PrintLast Go.Proofs.YtcadgnaejjgdnaaDoorW.PrintMore
attribute [local go_sem] max2_int min2_int max_two min_two max_three min_three max_four min_four   -- for this text's walks alone
set_option linter.unusedVariables false
set_option linter.unusedSimpArgs false

/-! ### strings_Index: function 56 -/
def strings_Index.f (a0 : ByteArray) (a1 : ByteArray) : Option (Int) := (stringslite_Index.f a0 a1).bind fun t101 => (some t101)
set_option maxHeartbeats 8000000 in
set_option maxRecDepth 100000 in
theorem strings_Index.calls (a0 : ByteArray) (a1 : ByteArray) (r : Int) (w : World) (hSH : Shp w) (h : strings_Index.f a0 a1 = some r) :
    Calls Tryd.prog 56 #[.string a0, .string a1] w fun e w' => e = .returned (.int .i64 r) ∧ Drawn0 w w' := by
  have HSH := Aside0.mk hSH
  clear hSH
  have H : ((stringslite_Index.f a0 a1).bind fun t101 => (some t101)) = some r := h
  clear h
  replace H := Option.bind_eq_some_iff.mp H
  obtain ⟨t101, A30, H⟩ := H
  replace H : (some t101) = some r := H
  have A3 := Aside0.mk A30
  clear A30
  obtain rfl := Option.some.inj H
  go_enter Tryd.func56, Tryd.ntmps56
  go_wp2_with (first | ((with_reducible refine gate_callee (f := 75) rfl ?_); refine goesL_ (some 7) rfl rfl Tryd.func75 (by kernel_rfl) rfl #[.string a0, .string a1] rfl (by (try simp only [List.map_toArray, List.map_cons, List.map_nil]); first | done | rfl | (simp only [List.length_drop, List.length_take]; rfl)) ?_; (with_reducible refine (stringslite_Index.calls a0 a1 t101 _ ?side1 A3.out).mono ?_); (case side1 => first | exact HSH.out | (with_reducible repeat (first | exact HSH.out | refine Shp.drewN ?_ _ | refine Shp.drew ?_))); rintro e w' ⟨rfl, ⟨nd, rfl⟩⟩; refine ⟨_, rfl, ?_⟩))
  go_ret
  exact ⟨by first | rfl | (simp; done) | (simp [*]; done), by repeat (first | exact Drawn0.refl _ | apply Drawn0.step)⟩

/-! ### strings_Contains: function 42 -/
def strings_Contains.f (a0 : ByteArray) (a1 : ByteArray) : Option (Bool) := (strings_Index.f a0 a1).bind fun t102 => (some (decide (t102 ≥ 0)))
set_option maxHeartbeats 8000000 in
set_option maxRecDepth 100000 in
theorem strings_Contains.calls (a0 : ByteArray) (a1 : ByteArray) (r : Bool) (w : World) (hSH : Shp w) (h : strings_Contains.f a0 a1 = some r) :
    Calls Tryd.prog 42 #[.string a0, .string a1] w fun e w' => e = .returned (.bool r) ∧ Drawn0 w w' := by
  have HSH := Aside0.mk hSH
  clear hSH
  have H : ((strings_Index.f a0 a1).bind fun t102 => (some (decide (t102 ≥ 0)))) = some r := h
  clear h
  replace H := Option.bind_eq_some_iff.mp H
  obtain ⟨t102, A30, H⟩ := H
  replace H : (some (decide (t102 ≥ 0))) = some r := H
  have A3 := Aside0.mk A30
  clear A30
  obtain rfl := Option.some.inj H
  go_enter Tryd.func42, Tryd.ntmps42
  go_wp2_with (first | ((with_reducible refine gate_callee (f := 56) rfl ?_); refine goesL_ (some 7) rfl rfl Tryd.func56 (by kernel_rfl) rfl #[.string a0, .string a1] rfl (by (try simp only [List.map_toArray, List.map_cons, List.map_nil]); first | done | rfl | (simp only [List.length_drop, List.length_take]; rfl)) ?_; (with_reducible refine (strings_Index.calls a0 a1 t102 _ ?side1 A3.out).mono ?_); (case side1 => first | exact HSH.out | (with_reducible repeat (first | exact HSH.out | refine Shp.drewN ?_ _ | refine Shp.drew ?_))); rintro e w' ⟨rfl, ⟨nd, rfl⟩⟩; refine ⟨_, rfl, ?_⟩))
  go_ret
  exact ⟨by first | rfl | (simp; done) | (simp [*]; done), by repeat (first | exact Drawn0.refl _ | apply Drawn0.step)⟩

/-! ### stem_Has: function 11 -/
def stem_Has.f (a0 : ByteArray) : Option (Bool) := (strings_Contains.f a0 (⟨#[37]⟩ : ByteArray)).bind fun t103 => (some t103)
set_option maxHeartbeats 8000000 in
set_option maxRecDepth 100000 in
theorem stem_Has.calls (a0 : ByteArray) (r : Bool) (w : World) (hSH : Shp w) (h : stem_Has.f a0 = some r) :
    Calls Tryd.prog 11 #[.string a0] w fun e w' => e = .returned (.bool r) ∧ Drawn0 w w' := by
  have HSH := Aside0.mk hSH
  clear hSH
  have H : ((strings_Contains.f a0 (⟨#[37]⟩ : ByteArray)).bind fun t103 => (some t103)) = some r := h
  clear h
  replace H := Option.bind_eq_some_iff.mp H
  obtain ⟨t103, A20, H⟩ := H
  replace H : (some t103) = some r := H
  have A2 := Aside0.mk A20
  clear A20
  obtain rfl := Option.some.inj H
  go_enter Tryd.func11, Tryd.ntmps11
  go_wp2_with (first | ((with_reducible refine gate_callee (f := 42) rfl ?_); refine goesL_ (some 4) rfl rfl Tryd.func42 (by kernel_rfl) rfl #[.string a0, .string (⟨#[37]⟩ : ByteArray)] rfl (by (try simp only [List.map_toArray, List.map_cons, List.map_nil]); first | done | rfl | (simp only [List.length_drop, List.length_take]; rfl)) ?_; (with_reducible refine (strings_Contains.calls a0 (⟨#[37]⟩ : ByteArray) t103 _ ?side1 A2.out).mono ?_); (case side1 => first | exact HSH.out | (with_reducible repeat (first | exact HSH.out | refine Shp.drewN ?_ _ | refine Shp.drew ?_))); rintro e w' ⟨rfl, ⟨nd, rfl⟩⟩; refine ⟨_, rfl, ?_⟩))
  go_ret
  exact ⟨by first | rfl | (simp; done) | (simp [*]; done), by repeat (first | exact Drawn0.refl _ | apply Drawn0.step)⟩

/-! ### stringslite_Cut: function 53 -/
def stringslite_Cut.f (a0 : ByteArray) (a1 : ByteArray) : Option (ByteArray × ByteArray × Bool) := (stringslite_Index.f a0 a1).bind fun t104 => (if t104 ≥ 0 then (if 0 ≤ t104 then (if t104 ≤ (a0.size : Int) then (if 0 ≤ (wrap64 (t104 + (a1.size : Int))) then (if (wrap64 (t104 + (a1.size : Int))) ≤ (a0.size : Int) then (some (a0.extract 0 (t104 : Int).toNat, a0.extract ((wrap64 (t104 + (a1.size : Int))) : Int).toNat a0.size, true)) else (none)) else (none)) else (none)) else (none)) else (some (a0, (⟨#[]⟩ : ByteArray), false)))
set_option maxHeartbeats 8000000 in
set_option maxRecDepth 100000 in
theorem stringslite_Cut.calls (a0 : ByteArray) (a1 : ByteArray) (r1 : ByteArray) (r2 : ByteArray) (r3 : Bool) (w : World) (hSH : Shp w) (h : stringslite_Cut.f a0 a1 = some (r1, r2, r3)) :
    Calls Tryd.prog 53 #[.string a0, .string a1] w fun e w' => e = .returned (.tuple #[.string r1, .string r2, .bool r3]) ∧ Drawn0 w w' := by
  have HSH := Aside0.mk hSH
  clear hSH
  have H : ((stringslite_Index.f a0 a1).bind fun t104 => (if t104 ≥ 0 then (if 0 ≤ t104 then (if t104 ≤ (a0.size : Int) then (if 0 ≤ (wrap64 (t104 + (a1.size : Int))) then (if (wrap64 (t104 + (a1.size : Int))) ≤ (a0.size : Int) then (some (a0.extract 0 (t104 : Int).toNat, a0.extract ((wrap64 (t104 + (a1.size : Int))) : Int).toNat a0.size, true)) else (none)) else (none)) else (none)) else (none)) else (some (a0, (⟨#[]⟩ : ByteArray), false)))) = some (r1, r2, r3) := h
  clear h
  replace H := Option.bind_eq_some_iff.mp H
  obtain ⟨t104, A30, H⟩ := H
  replace H : (if t104 ≥ 0 then (if 0 ≤ t104 then (if t104 ≤ (a0.size : Int) then (if 0 ≤ (wrap64 (t104 + (a1.size : Int))) then (if (wrap64 (t104 + (a1.size : Int))) ≤ (a0.size : Int) then (some (a0.extract 0 (t104 : Int).toNat, a0.extract ((wrap64 (t104 + (a1.size : Int))) : Int).toNat a0.size, true)) else (none)) else (none)) else (none)) else (none)) else (some (a0, (⟨#[]⟩ : ByteArray), false))) = some (r1, r2, r3) := H
  have A3 := Aside0.mk A30
  clear A30
  by_cases c4 : t104 ≥ 0
  · rw [if_pos c4] at H
    have c4b0 : decide (0 ≤ t104) = true := decide_eq_true c4
    clear c4
    by_cases c5 : 0 ≤ t104
    · rw [if_pos c5] at H
      have c5b0 := eq_true c5
      have c5b1 : decide (0 ≤ t104) = true := decide_eq_true c5
      clear c5
      by_cases c6 : t104 ≤ (a0.size : Int)
      · rw [if_pos c6] at H
        have c6b0 := eq_true c6
        have c6b1 : decide (t104 ≤ (a0.size : Int)) = true := decide_eq_true c6
        clear c6
        obtain ⟨ji7, hji7⟩ : ∃ j_ : Int, (wrap64 (t104 + (a1.size : Int))) = j_ := ⟨_, rfl⟩
        replace H : (if 0 ≤ (ji7) then (if (ji7) ≤ (a0.size : Int) then (some (a0.extract 0 (t104 : Int).toNat, a0.extract ((ji7) : Int).toNat a0.size, true)) else (none)) else (none)) = some (r1, r2, r3) := by first | (rw [hji7] at H; exact H) | (simp only [hji7] at H ⊢; exact H)
        (try rw [hji7] at A3)
        have hji7w : (IntKind.i64.wrap (t104 + (a1.size : Int))) = ji7 := (i64_w _).trans hji7
        by_cases c8 : 0 ≤ (ji7)
        · rw [if_pos c8] at H
          have c8b0 := eq_true c8
          have c8b1 : decide (0 ≤ (ji7)) = true := decide_eq_true c8
          clear c8
          by_cases c9 : (ji7) ≤ (a0.size : Int)
          · rw [if_pos c9] at H
            have c9b0 := eq_true c9
            have c9b1 : decide ((ji7) ≤ (a0.size : Int)) = true := decide_eq_true c9
            clear c9
            simp only [Option.some.injEq, Prod.mk.injEq] at H
            obtain ⟨rfl, rfl, rfl⟩ := H
            go_enter Tryd.func53, Tryd.ntmps53
            go_wp2_with (first | (go_at_call 75; (with_reducible refine (stringslite_Index.calls a0 a1 t104 _ ?side1 A3.out).mono ?_); (case side1 => first | exact HSH.out | (with_reducible repeat (first | exact HSH.out | refine Shp.drewN ?_ _ | refine Shp.drew ?_))); rintro e w' ⟨rfl, ⟨nd, rfl⟩⟩; (try first | exact ⟨rfl, _, World.drewN_drewN _ _ _⟩ | exact ⟨rfl, _, Eq.trans (World.drewN_drewN _ _ _) (congrArg (World.drewN _) (Nat.add_assoc _ _ _))⟩)))
            repeat (go_quiet (first | (go_at_call 75; (with_reducible refine (stringslite_Index.calls a0 a1 t104 _ ?side1 A3.out).mono ?_); (case side1 => first | exact HSH.out | (with_reducible repeat (first | exact HSH.out | refine Shp.drewN ?_ _ | refine Shp.drew ?_))); rintro e w' ⟨rfl, ⟨nd, rfl⟩⟩; (try first | exact ⟨rfl, _, World.drewN_drewN _ _ _⟩ | exact ⟨rfl, _, Eq.trans (World.drewN_drewN _ _ _) (congrArg (World.drewN _) (Nat.add_assoc _ _ _))⟩))); try go_wp2_with (first | (go_at_call 75; (with_reducible refine (stringslite_Index.calls a0 a1 t104 _ ?side1 A3.out).mono ?_); (case side1 => first | exact HSH.out | (with_reducible repeat (first | exact HSH.out | refine Shp.drewN ?_ _ | refine Shp.drew ?_))); rintro e w' ⟨rfl, ⟨nd, rfl⟩⟩; (try first | exact ⟨rfl, _, World.drewN_drewN _ _ _⟩ | exact ⟨rfl, _, Eq.trans (World.drewN_drewN _ _ _) (congrArg (World.drewN _) (Nat.add_assoc _ _ _))⟩))))
            go_ret3
            exact ⟨by first | rfl | (simp; done) | (simp only [← hji7] <;> (first | rfl | simp)) | (simp [*]; done), by repeat (first | exact Drawn0.refl _ | apply Drawn0.step)⟩
          · rw [if_neg c9] at H
            exact absurd H (by simp)
        · rw [if_neg c8] at H
          exact absurd H (by simp)
      · rw [if_neg c6] at H
        exact absurd H (by simp)
    · rw [if_neg c5] at H
      exact absurd H (by simp)
  · rw [if_neg c4] at H
    have c4b0 : decide (0 ≤ t104) = false := decide_eq_false c4
    clear c4
    simp only [Option.some.injEq, Prod.mk.injEq] at H
    obtain ⟨rfl, rfl, rfl⟩ := H
    go_enter Tryd.func53, Tryd.ntmps53
    go_wp2_with (first | (go_at_call 75; (with_reducible refine (stringslite_Index.calls a0 a1 t104 _ ?side1 A3.out).mono ?_); (case side1 => first | exact HSH.out | (with_reducible repeat (first | exact HSH.out | refine Shp.drewN ?_ _ | refine Shp.drew ?_))); rintro e w' ⟨rfl, ⟨nd, rfl⟩⟩; (try first | exact ⟨rfl, _, World.drewN_drewN _ _ _⟩ | exact ⟨rfl, _, Eq.trans (World.drewN_drewN _ _ _) (congrArg (World.drewN _) (Nat.add_assoc _ _ _))⟩)))
    repeat (go_quiet (first | (go_at_call 75; (with_reducible refine (stringslite_Index.calls a0 a1 t104 _ ?side1 A3.out).mono ?_); (case side1 => first | exact HSH.out | (with_reducible repeat (first | exact HSH.out | refine Shp.drewN ?_ _ | refine Shp.drew ?_))); rintro e w' ⟨rfl, ⟨nd, rfl⟩⟩; (try first | exact ⟨rfl, _, World.drewN_drewN _ _ _⟩ | exact ⟨rfl, _, Eq.trans (World.drewN_drewN _ _ _) (congrArg (World.drewN _) (Nat.add_assoc _ _ _))⟩))); try go_wp2_with (first | (go_at_call 75; (with_reducible refine (stringslite_Index.calls a0 a1 t104 _ ?side1 A3.out).mono ?_); (case side1 => first | exact HSH.out | (with_reducible repeat (first | exact HSH.out | refine Shp.drewN ?_ _ | refine Shp.drew ?_))); rintro e w' ⟨rfl, ⟨nd, rfl⟩⟩; (try first | exact ⟨rfl, _, World.drewN_drewN _ _ _⟩ | exact ⟨rfl, _, Eq.trans (World.drewN_drewN _ _ _) (congrArg (World.drewN _) (Nat.add_assoc _ _ _))⟩))))
    go_ret3
    exact ⟨by first | rfl | (simp; done) | (simp [*]; done), by repeat (first | exact Drawn0.refl _ | apply Drawn0.step)⟩

/-! ### strings_Cut: function 39 -/
def strings_Cut.f (a0 : ByteArray) (a1 : ByteArray) : Option (ByteArray × ByteArray × Bool) := (stringslite_Cut.f a0 a1).bind fun bt105 => (some (bt105.1, bt105.2.1, bt105.2.2))
set_option maxHeartbeats 8000000 in
set_option maxRecDepth 100000 in
theorem strings_Cut.calls (a0 : ByteArray) (a1 : ByteArray) (r1 : ByteArray) (r2 : ByteArray) (r3 : Bool) (w : World) (hSH : Shp w) (h : strings_Cut.f a0 a1 = some (r1, r2, r3)) :
    Calls Tryd.prog 39 #[.string a0, .string a1] w fun e w' => e = .returned (.tuple #[.string r1, .string r2, .bool r3]) ∧ Drawn0 w w' := by
  have HSH := Aside0.mk hSH
  clear hSH
  have H : ((stringslite_Cut.f a0 a1).bind fun bt105 => (some (bt105.1, bt105.2.1, bt105.2.2))) = some (r1, r2, r3) := h
  clear h
  replace H := Option.bind_eq_some_iff.mp H
  obtain ⟨⟨t105, t106, t107⟩, A30, H⟩ := H
  replace H : (some (t105, t106, t107)) = some (r1, r2, r3) := H
  have A3 := Aside0.mk A30
  clear A30
  simp only [Option.some.injEq, Prod.mk.injEq] at H
  obtain ⟨rfl, rfl, rfl⟩ := H
  go_enter Tryd.func39, Tryd.ntmps39
  go_wp2_with (first | ((with_reducible refine gate_callee (f := 53) rfl ?_); refine goesL_ (some 9) rfl rfl Tryd.func53 (by kernel_rfl) rfl #[.string a0, .string a1] rfl (by (try simp only [List.map_toArray, List.map_cons, List.map_nil]); first | done | rfl | (simp only [List.length_drop, List.length_take]; rfl)) ?_; (with_reducible refine (stringslite_Cut.calls a0 a1 t105 t106 t107 _ ?side1 A3.out).mono ?_); (case side1 => first | exact HSH.out | (with_reducible repeat (first | exact HSH.out | refine Shp.drewN ?_ _ | refine Shp.drew ?_))); rintro e w' ⟨rfl, ⟨nd, rfl⟩⟩; refine ⟨_, rfl, ?_⟩))
  go_ret3
  exact ⟨by first | rfl | (simp; done) | (simp [*]; done), by repeat (first | exact Drawn0.refl _ | apply Drawn0.step)⟩

/-! ### stem_Match: function 9 -/
def stem_Match.f (a0 : ByteArray) (a1 : ByteArray) : Option (ByteArray × Bool) := (strings_Cut.f a0 (⟨#[37]⟩ : ByteArray)).bind fun bt108 => (if bt108.2.2 = true then (if (a1.size : Int) ≤ (wrap64 ((bt108.1.size : Int) + (bt108.2.1.size : Int))) then (some ((⟨#[]⟩ : ByteArray), false)) else ((strings_HasPrefix.f a1 bt108.1).bind fun t111 => (if t111 = true then ((strings_HasSuffix.f a1 bt108.2.1).bind fun t112 => (if t112 = true then (if 0 ≤ (bt108.1.size : Int) then (if (bt108.1.size : Int) ≤ (wrap64 ((a1.size : Int) - (bt108.2.1.size : Int))) then (if (wrap64 ((a1.size : Int) - (bt108.2.1.size : Int))) ≤ (a1.size : Int) then (some (a1.extract ((bt108.1.size : Int) : Int).toNat ((wrap64 ((a1.size : Int) - (bt108.2.1.size : Int))) : Int).toNat, true)) else (none)) else (none)) else (none)) else (some ((⟨#[]⟩ : ByteArray), false)))) else (some ((⟨#[]⟩ : ByteArray), false))))) else (some ((⟨#[]⟩ : ByteArray), (a0.toList == a1.toList))))
set_option maxHeartbeats 8000000 in
set_option maxRecDepth 100000 in
theorem stem_Match.calls (a0 : ByteArray) (a1 : ByteArray) (r1 : ByteArray) (r2 : Bool) (w : World) (hSH : Shp w) (h : stem_Match.f a0 a1 = some (r1, r2)) :
    Calls Tryd.prog 9 #[.string a0, .string a1] w fun e w' => e = .returned (.tuple #[.string r1, .bool r2]) ∧ Drawn0 w w' := by
  have HSH := Aside0.mk hSH
  clear hSH
  have H : ((strings_Cut.f a0 (⟨#[37]⟩ : ByteArray)).bind fun bt108 => (if bt108.2.2 = true then (if (a1.size : Int) ≤ (wrap64 ((bt108.1.size : Int) + (bt108.2.1.size : Int))) then (some ((⟨#[]⟩ : ByteArray), false)) else ((strings_HasPrefix.f a1 bt108.1).bind fun t111 => (if t111 = true then ((strings_HasSuffix.f a1 bt108.2.1).bind fun t112 => (if t112 = true then (if 0 ≤ (bt108.1.size : Int) then (if (bt108.1.size : Int) ≤ (wrap64 ((a1.size : Int) - (bt108.2.1.size : Int))) then (if (wrap64 ((a1.size : Int) - (bt108.2.1.size : Int))) ≤ (a1.size : Int) then (some (a1.extract ((bt108.1.size : Int) : Int).toNat ((wrap64 ((a1.size : Int) - (bt108.2.1.size : Int))) : Int).toNat, true)) else (none)) else (none)) else (none)) else (some ((⟨#[]⟩ : ByteArray), false)))) else (some ((⟨#[]⟩ : ByteArray), false))))) else (some ((⟨#[]⟩ : ByteArray), (a0.toList == a1.toList))))) = some (r1, r2) := h
  clear h
  replace H := Option.bind_eq_some_iff.mp H
  obtain ⟨⟨t108, t109, t110⟩, A30, H⟩ := H
  replace H : (if t110 = true then (if (a1.size : Int) ≤ (wrap64 ((t108.size : Int) + (t109.size : Int))) then (some ((⟨#[]⟩ : ByteArray), false)) else ((strings_HasPrefix.f a1 t108).bind fun t111 => (if t111 = true then ((strings_HasSuffix.f a1 t109).bind fun t112 => (if t112 = true then (if 0 ≤ (t108.size : Int) then (if (t108.size : Int) ≤ (wrap64 ((a1.size : Int) - (t109.size : Int))) then (if (wrap64 ((a1.size : Int) - (t109.size : Int))) ≤ (a1.size : Int) then (some (a1.extract ((t108.size : Int) : Int).toNat ((wrap64 ((a1.size : Int) - (t109.size : Int))) : Int).toNat, true)) else (none)) else (none)) else (none)) else (some ((⟨#[]⟩ : ByteArray), false)))) else (some ((⟨#[]⟩ : ByteArray), false))))) else (some ((⟨#[]⟩ : ByteArray), (a0.toList == a1.toList)))) = some (r1, r2) := H
  have A3 := Aside0.mk A30
  clear A30
  by_cases c4 : t110 = true
  · subst c4
    have H1 : (if (a1.size : Int) ≤ (wrap64 ((t108.size : Int) + (t109.size : Int))) then (some ((⟨#[]⟩ : ByteArray), false)) else ((strings_HasPrefix.f a1 t108).bind fun t111 => (if t111 = true then ((strings_HasSuffix.f a1 t109).bind fun t112 => (if t112 = true then (if 0 ≤ (t108.size : Int) then (if (t108.size : Int) ≤ (wrap64 ((a1.size : Int) - (t109.size : Int))) then (if (wrap64 ((a1.size : Int) - (t109.size : Int))) ≤ (a1.size : Int) then (some (a1.extract ((t108.size : Int) : Int).toNat ((wrap64 ((a1.size : Int) - (t109.size : Int))) : Int).toNat, true)) else (none)) else (none)) else (none)) else (some ((⟨#[]⟩ : ByteArray), false)))) else (some ((⟨#[]⟩ : ByteArray), false))))) = some (r1, r2) := by rw [if_pos rfl] at H; exact H
    clear H
    have H := H1
    clear H1
    by_cases c5 : (a1.size : Int) ≤ (wrap64 ((t108.size : Int) + (t109.size : Int)))
    · rw [if_pos c5] at H
      have c5b0 : decide ((a1.size : Int) ≤ (wrap64 ((t108.size : Int) + (t109.size : Int)))) = true := decide_eq_true c5
      clear c5
      simp only [Option.some.injEq, Prod.mk.injEq] at H
      obtain ⟨rfl, rfl⟩ := H
      go_enter Tryd.func9, Tryd.ntmps9
      go_wp2_with (first | ((with_reducible refine gate_callee (f := 39) rfl ?_); refine goesL_ (some 11) rfl rfl Tryd.func39 (by kernel_rfl) rfl #[.string a0, .string (⟨#[37]⟩ : ByteArray)] rfl (by (try simp only [List.map_toArray, List.map_cons, List.map_nil]); first | done | rfl | (simp only [List.length_drop, List.length_take]; rfl)) ?_; (with_reducible refine (strings_Cut.calls a0 (⟨#[37]⟩ : ByteArray) t108 t109 true _ ?side1 A3.out).mono ?_); (case side1 => first | exact HSH.out | (with_reducible repeat (first | exact HSH.out | refine Shp.drewN ?_ _ | refine Shp.drew ?_))); rintro e w' ⟨rfl, ⟨nd, rfl⟩⟩; refine ⟨_, rfl, ?_⟩))
      go_ret2
      exact ⟨by first | rfl | (simp; done) | (simp [*]; done), by repeat (first | exact Drawn0.refl _ | apply Drawn0.step)⟩
    · rw [if_neg c5] at H
      have c5b0 : decide ((a1.size : Int) ≤ (wrap64 ((t108.size : Int) + (t109.size : Int)))) = false := decide_eq_false c5
      clear c5
      replace H := Option.bind_eq_some_iff.mp H
      obtain ⟨t111, A60, H⟩ := H
      replace H : (if t111 = true then ((strings_HasSuffix.f a1 t109).bind fun t112 => (if t112 = true then (if 0 ≤ (t108.size : Int) then (if (t108.size : Int) ≤ (wrap64 ((a1.size : Int) - (t109.size : Int))) then (if (wrap64 ((a1.size : Int) - (t109.size : Int))) ≤ (a1.size : Int) then (some (a1.extract ((t108.size : Int) : Int).toNat ((wrap64 ((a1.size : Int) - (t109.size : Int))) : Int).toNat, true)) else (none)) else (none)) else (none)) else (some ((⟨#[]⟩ : ByteArray), false)))) else (some ((⟨#[]⟩ : ByteArray), false))) = some (r1, r2) := H
      have A6 := Aside0.mk A60
      clear A60
      by_cases c7 : t111 = true
      · subst c7
        have H1 : ((strings_HasSuffix.f a1 t109).bind fun t112 => (if t112 = true then (if 0 ≤ (t108.size : Int) then (if (t108.size : Int) ≤ (wrap64 ((a1.size : Int) - (t109.size : Int))) then (if (wrap64 ((a1.size : Int) - (t109.size : Int))) ≤ (a1.size : Int) then (some (a1.extract ((t108.size : Int) : Int).toNat ((wrap64 ((a1.size : Int) - (t109.size : Int))) : Int).toNat, true)) else (none)) else (none)) else (none)) else (some ((⟨#[]⟩ : ByteArray), false)))) = some (r1, r2) := by rw [if_pos rfl] at H; exact H
        clear H
        have H := H1
        clear H1
        replace H := Option.bind_eq_some_iff.mp H
        obtain ⟨t112, A80, H⟩ := H
        replace H : (if t112 = true then (if 0 ≤ (t108.size : Int) then (if (t108.size : Int) ≤ (wrap64 ((a1.size : Int) - (t109.size : Int))) then (if (wrap64 ((a1.size : Int) - (t109.size : Int))) ≤ (a1.size : Int) then (some (a1.extract ((t108.size : Int) : Int).toNat ((wrap64 ((a1.size : Int) - (t109.size : Int))) : Int).toNat, true)) else (none)) else (none)) else (none)) else (some ((⟨#[]⟩ : ByteArray), false))) = some (r1, r2) := H
        have A8 := Aside0.mk A80
        clear A80
        by_cases c9 : t112 = true
        · subst c9
          have H1 : (if 0 ≤ (t108.size : Int) then (if (t108.size : Int) ≤ (wrap64 ((a1.size : Int) - (t109.size : Int))) then (if (wrap64 ((a1.size : Int) - (t109.size : Int))) ≤ (a1.size : Int) then (some (a1.extract ((t108.size : Int) : Int).toNat ((wrap64 ((a1.size : Int) - (t109.size : Int))) : Int).toNat, true)) else (none)) else (none)) else (none)) = some (r1, r2) := by rw [if_pos rfl] at H; exact H
          clear H
          have H := H1
          clear H1
          by_cases c10 : 0 ≤ (t108.size : Int)
          · rw [if_pos c10] at H
            have c10b0 := eq_true c10
            have c10b1 : decide (0 ≤ (t108.size : Int)) = true := decide_eq_true c10
            clear c10
            by_cases c11 : (t108.size : Int) ≤ (wrap64 ((a1.size : Int) - (t109.size : Int)))
            · rw [if_pos c11] at H
              have c11b0 := eq_true c11
              have c11b1 : decide ((t108.size : Int) ≤ (wrap64 ((a1.size : Int) - (t109.size : Int)))) = true := decide_eq_true c11
              clear c11
              by_cases c12 : (wrap64 ((a1.size : Int) - (t109.size : Int))) ≤ (a1.size : Int)
              · rw [if_pos c12] at H
                have c12b0 := eq_true c12
                have c12b1 : decide ((wrap64 ((a1.size : Int) - (t109.size : Int))) ≤ (a1.size : Int)) = true := decide_eq_true c12
                clear c12
                simp only [Option.some.injEq, Prod.mk.injEq] at H
                obtain ⟨rfl, rfl⟩ := H
                go_enter Tryd.func9, Tryd.ntmps9
                go_wp2_with (first | ((with_reducible refine gate_callee (f := 39) rfl ?_); refine goesL_ (some 11) rfl rfl Tryd.func39 (by kernel_rfl) rfl #[.string a0, .string (⟨#[37]⟩ : ByteArray)] rfl (by (try simp only [List.map_toArray, List.map_cons, List.map_nil]); first | done | rfl | (simp only [List.length_drop, List.length_take]; rfl)) ?_; (with_reducible refine (strings_Cut.calls a0 (⟨#[37]⟩ : ByteArray) t108 t109 true _ ?side1 A3.out).mono ?_); (case side1 => first | exact HSH.out | (with_reducible repeat (first | exact HSH.out | refine Shp.drewN ?_ _ | refine Shp.drew ?_))); rintro e w' ⟨rfl, ⟨nd, rfl⟩⟩; refine ⟨_, rfl, ?_⟩) | (go_at_call 40; (with_reducible refine (strings_HasPrefix.calls a1 t108 true _ A6.out).mono ?_); rintro e w' ⟨rfl, ⟨nd, rfl⟩⟩) | (go_at_call 41; (with_reducible refine (strings_HasSuffix.calls a1 t109 true _ A8.out).mono ?_); rintro e w' ⟨rfl, ⟨nd, rfl⟩⟩))
                go_ret2
                exact ⟨by first | rfl | (simp; done) | (simp [*]; done), by repeat (first | exact Drawn0.refl _ | apply Drawn0.step)⟩
              · rw [if_neg c12] at H
                exact absurd H (by simp)
            · rw [if_neg c11] at H
              exact absurd H (by simp)
          · rw [if_neg c10] at H
            exact absurd H (by simp)
        · replace c9 := Bool.eq_false_iff.mpr c9
          subst c9
          have H1 : (some ((⟨#[]⟩ : ByteArray), false)) = some (r1, r2) := by rw [if_neg (show ¬ (false = true) by decide)] at H; exact H
          clear H
          have H := H1
          clear H1
          simp only [Option.some.injEq, Prod.mk.injEq] at H
          obtain ⟨rfl, rfl⟩ := H
          go_enter Tryd.func9, Tryd.ntmps9
          go_wp2_with (first | ((with_reducible refine gate_callee (f := 39) rfl ?_); refine goesL_ (some 11) rfl rfl Tryd.func39 (by kernel_rfl) rfl #[.string a0, .string (⟨#[37]⟩ : ByteArray)] rfl (by (try simp only [List.map_toArray, List.map_cons, List.map_nil]); first | done | rfl | (simp only [List.length_drop, List.length_take]; rfl)) ?_; (with_reducible refine (strings_Cut.calls a0 (⟨#[37]⟩ : ByteArray) t108 t109 true _ ?side1 A3.out).mono ?_); (case side1 => first | exact HSH.out | (with_reducible repeat (first | exact HSH.out | refine Shp.drewN ?_ _ | refine Shp.drew ?_))); rintro e w' ⟨rfl, ⟨nd, rfl⟩⟩; refine ⟨_, rfl, ?_⟩) | (go_at_call 40; (with_reducible refine (strings_HasPrefix.calls a1 t108 true _ A6.out).mono ?_); rintro e w' ⟨rfl, ⟨nd, rfl⟩⟩) | (go_at_call 41; (with_reducible refine (strings_HasSuffix.calls a1 t109 false _ A8.out).mono ?_); rintro e w' ⟨rfl, ⟨nd, rfl⟩⟩))
          go_ret2
          exact ⟨by first | rfl | (simp; done) | (simp [*]; done), by repeat (first | exact Drawn0.refl _ | apply Drawn0.step)⟩
      · replace c7 := Bool.eq_false_iff.mpr c7
        subst c7
        have H1 : (some ((⟨#[]⟩ : ByteArray), false)) = some (r1, r2) := by rw [if_neg (show ¬ (false = true) by decide)] at H; exact H
        clear H
        have H := H1
        clear H1
        simp only [Option.some.injEq, Prod.mk.injEq] at H
        obtain ⟨rfl, rfl⟩ := H
        go_enter Tryd.func9, Tryd.ntmps9
        go_wp2_with (first | ((with_reducible refine gate_callee (f := 39) rfl ?_); refine goesL_ (some 11) rfl rfl Tryd.func39 (by kernel_rfl) rfl #[.string a0, .string (⟨#[37]⟩ : ByteArray)] rfl (by (try simp only [List.map_toArray, List.map_cons, List.map_nil]); first | done | rfl | (simp only [List.length_drop, List.length_take]; rfl)) ?_; (with_reducible refine (strings_Cut.calls a0 (⟨#[37]⟩ : ByteArray) t108 t109 true _ ?side1 A3.out).mono ?_); (case side1 => first | exact HSH.out | (with_reducible repeat (first | exact HSH.out | refine Shp.drewN ?_ _ | refine Shp.drew ?_))); rintro e w' ⟨rfl, ⟨nd, rfl⟩⟩; refine ⟨_, rfl, ?_⟩) | (go_at_call 40; (with_reducible refine (strings_HasPrefix.calls a1 t108 false _ A6.out).mono ?_); rintro e w' ⟨rfl, ⟨nd, rfl⟩⟩))
        go_ret2
        exact ⟨by first | rfl | (simp; done) | (simp [*]; done), by repeat (first | exact Drawn0.refl _ | apply Drawn0.step)⟩
  · replace c4 := Bool.eq_false_iff.mpr c4
    subst c4
    have H1 : (some ((⟨#[]⟩ : ByteArray), (a0.toList == a1.toList))) = some (r1, r2) := by rw [if_neg (show ¬ (false = true) by decide)] at H; exact H
    clear H
    have H := H1
    clear H1
    simp only [Option.some.injEq, Prod.mk.injEq] at H
    obtain ⟨rfl, rfl⟩ := H
    go_enter Tryd.func9, Tryd.ntmps9
    go_wp2_with (first | ((with_reducible refine gate_callee (f := 39) rfl ?_); refine goesL_ (some 11) rfl rfl Tryd.func39 (by kernel_rfl) rfl #[.string a0, .string (⟨#[37]⟩ : ByteArray)] rfl (by (try simp only [List.map_toArray, List.map_cons, List.map_nil]); first | done | rfl | (simp only [List.length_drop, List.length_take]; rfl)) ?_; (with_reducible refine (strings_Cut.calls a0 (⟨#[37]⟩ : ByteArray) t108 t109 false _ ?side1 A3.out).mono ?_); (case side1 => first | exact HSH.out | (with_reducible repeat (first | exact HSH.out | refine Shp.drewN ?_ _ | refine Shp.drew ?_))); rintro e w' ⟨rfl, ⟨nd, rfl⟩⟩; refine ⟨_, rfl, ?_⟩))
    go_ret2
    exact ⟨by first | rfl | (simp; done) | (simp [*]; done), by repeat (first | exact Drawn0.refl _ | apply Drawn0.step)⟩

/-! ### stem_Put: function 13 -/
def stem_Put.f (a0 : ByteArray) (a1 : ByteArray) : Option (ByteArray) := (strings_Replace.f a0 (⟨#[37]⟩ : ByteArray) a1 1).bind fun t113 => (some t113)
set_option maxHeartbeats 8000000 in
set_option maxRecDepth 100000 in
theorem stem_Put.calls (a0 : ByteArray) (a1 : ByteArray) (r : ByteArray) (w : World) (hSH : Shp w) (h : stem_Put.f a0 a1 = some r) :
    Calls Tryd.prog 13 #[.string a0, .string a1] w fun e w' => e = .returned (.string r) ∧ Below w.heap.size w w' := by
  have HSH := Aside0.mk hSH
  clear hSH
  have HB := Aside0.mk (Below.refl w.heap.size w)
  have H : ((strings_Replace.f a0 (⟨#[37]⟩ : ByteArray) a1 1).bind fun t113 => (some t113)) = some r := h
  clear h
  replace H := Option.bind_eq_some_iff.mp H
  obtain ⟨t113, A30, H⟩ := H
  replace H : (some t113) = some r := H
  have A3 := Aside0.mk A30
  clear A30
  obtain rfl := Option.some.inj H
  go_enter Tryd.func13, Tryd.ntmps13
  go_wp2_with (first | ((with_reducible refine gate_callee (f := 43) rfl ?_); refine goesL_ (some 7) rfl rfl Tryd.func43 (by kernel_rfl) rfl #[.string a0, .string (⟨#[37]⟩ : ByteArray), .string a1, .int .i64 1] rfl (by (try simp only [List.map_toArray, List.map_cons, List.map_nil]); first | done | rfl | (simp only [List.length_drop, List.length_take]; rfl)) ?_; (with_reducible refine (strings_Replace.calls a0 (⟨#[37]⟩ : ByteArray) a1 1 t113 _ ?side1 A3.out).mono ?_); (case side1 => first | exact HSH.out | exact Shp.below HSH.out (by repeat (first | (with_reducible first | exact HB.out | apply below_alloc | apply pw_below_drewN | apply below_drew1) | exact HB.out))); rintro e w4 ⟨rfl, hb⟩; refine ⟨_, rfl, ?_⟩; have n0_ := Aside0.mk (below_step (by repeat (first | (with_reducible first | exact HB.out | apply below_alloc | apply pw_below_drewN | apply below_drew1) | exact HB.out)) hb); clear HB; have HB := n0_; clear n0_; (try clear hb); (try clear hb2); (try clear hk); (try clear hi)))
  go_ret
  exact ⟨by first | rfl | (simp [errW_none, errW_some] <;> rfl) | (simp [*, errW_none, errW_some] <;> rfl), by repeat (first | (with_reducible first | exact HB.out | apply below_alloc | apply pw_below_drewN | apply below_drew1) | exact HB.out)⟩

/-! ### stem_Change: function 17 -/
def stem_Change.f (a0 : ByteArray) (a1 : ByteArray) (a2 : ByteArray) : Option (ByteArray) := (stem_Match.f a1 a0).bind fun bt114 => (if bt114.2 = true then ((stem_Has.f a1).bind fun t116 => (if t116 = true then ((stem_Put.f a2 bt114.1).bind fun t117 => (some t117)) else (some a2))) else (some a0))
set_option maxHeartbeats 8000000 in
set_option maxRecDepth 100000 in
theorem stem_Change.calls (a0 : ByteArray) (a1 : ByteArray) (a2 : ByteArray) (r : ByteArray) (w : World) (hSH : Shp w) (h : stem_Change.f a0 a1 a2 = some r) :
    Calls Tryd.prog 17 #[.string a0, .string a1, .string a2] w fun e w' => e = .returned (.string r) ∧ Below w.heap.size w w' := by
  have HSH := Aside0.mk hSH
  clear hSH
  have HB := Aside0.mk (Below.refl w.heap.size w)
  have H : ((stem_Match.f a1 a0).bind fun bt114 => (if bt114.2 = true then ((stem_Has.f a1).bind fun t116 => (if t116 = true then ((stem_Put.f a2 bt114.1).bind fun t117 => (some t117)) else (some a2))) else (some a0))) = some r := h
  clear h
  replace H := Option.bind_eq_some_iff.mp H
  obtain ⟨⟨t114, t115⟩, A40, H⟩ := H
  replace H : (if t115 = true then ((stem_Has.f a1).bind fun t116 => (if t116 = true then ((stem_Put.f a2 t114).bind fun t117 => (some t117)) else (some a2))) else (some a0)) = some r := H
  have A4 := Aside0.mk A40
  clear A40
  by_cases c5 : t115 = true
  · subst c5
    have H1 : ((stem_Has.f a1).bind fun t116 => (if t116 = true then ((stem_Put.f a2 t114).bind fun t117 => (some t117)) else (some a2))) = some r := by rw [if_pos rfl] at H; exact H
    clear H
    have H := H1
    clear H1
    replace H := Option.bind_eq_some_iff.mp H
    obtain ⟨t116, A60, H⟩ := H
    replace H : (if t116 = true then ((stem_Put.f a2 t114).bind fun t117 => (some t117)) else (some a2)) = some r := H
    have A6 := Aside0.mk A60
    clear A60
    by_cases c7 : t116 = true
    · subst c7
      have H1 : ((stem_Put.f a2 t114).bind fun t117 => (some t117)) = some r := by rw [if_pos rfl] at H; exact H
      clear H
      have H := H1
      clear H1
      replace H := Option.bind_eq_some_iff.mp H
      obtain ⟨t117, A80, H⟩ := H
      replace H : (some t117) = some r := H
      have A8 := Aside0.mk A80
      clear A80
      obtain rfl := Option.some.inj H
      go_enter Tryd.func17, Tryd.ntmps17
      go_wp2_with (first | ((with_reducible refine gate_callee (f := 9) rfl ?_); refine goesL_ (some 12) rfl rfl Tryd.func9 (by kernel_rfl) rfl #[.string a1, .string a0] rfl (by (try simp only [List.map_toArray, List.map_cons, List.map_nil]); first | done | rfl | (simp only [List.length_drop, List.length_take]; rfl)) ?_; (with_reducible refine (stem_Match.calls a1 a0 t114 true _ ?side1 A4.out).mono ?_); (case side1 => first | exact HSH.out | exact Shp.below HSH.out (by repeat (first | (with_reducible first | exact HB.out | apply below_alloc | apply pw_below_drewN | apply below_drew1) | exact HB.out))); rintro e w' ⟨rfl, ⟨nd, rfl⟩⟩; refine ⟨_, rfl, ?_⟩) | ((with_reducible refine gate_callee (f := 11) rfl ?_); refine goesL_ (some 21) rfl rfl Tryd.func11 (by kernel_rfl) rfl #[.string a1] rfl (by (try simp only [List.map_toArray, List.map_cons, List.map_nil]); first | done | rfl | (simp only [List.length_drop, List.length_take]; rfl)) ?_; (with_reducible refine (stem_Has.calls a1 true _ ?side1 A6.out).mono ?_); (case side1 => first | exact HSH.out | exact Shp.below HSH.out (by repeat (first | (with_reducible first | exact HB.out | apply below_alloc | apply pw_below_drewN | apply below_drew1) | exact HB.out))); rintro e w' ⟨rfl, ⟨nd, rfl⟩⟩; refine ⟨_, rfl, ?_⟩) | ((with_reducible refine gate_callee (f := 13) rfl ?_); refine goesL_ (some 24) rfl rfl Tryd.func13 (by kernel_rfl) rfl #[.string a2, .string t114] rfl (by (try simp only [List.map_toArray, List.map_cons, List.map_nil]); first | done | rfl | (simp only [List.length_drop, List.length_take]; rfl)) ?_; (with_reducible refine (stem_Put.calls a2 t114 t117 _ ?side1 A8.out).mono ?_); (case side1 => first | exact HSH.out | exact Shp.below HSH.out (by repeat (first | (with_reducible first | exact HB.out | apply below_alloc | apply pw_below_drewN | apply below_drew1) | exact HB.out))); rintro e w9 ⟨rfl, hb⟩; refine ⟨_, rfl, ?_⟩; have n0_ := Aside0.mk (below_step (by repeat (first | (with_reducible first | exact HB.out | apply below_alloc | apply pw_below_drewN | apply below_drew1) | exact HB.out)) hb); clear HB; have HB := n0_; clear n0_; (try clear hb); (try clear hb2); (try clear hk); (try clear hi)))
      go_ret
      exact ⟨by first | rfl | (simp [errW_none, errW_some] <;> rfl) | (simp [*, errW_none, errW_some] <;> rfl), by repeat (first | (with_reducible first | exact HB.out | apply below_alloc | apply pw_below_drewN | apply below_drew1) | exact HB.out)⟩
    · replace c7 := Bool.eq_false_iff.mpr c7
      subst c7
      have H1 : (some a2) = some r := by rw [if_neg (show ¬ (false = true) by decide)] at H; exact H
      clear H
      have H := H1
      clear H1
      obtain rfl := Option.some.inj H
      go_enter Tryd.func17, Tryd.ntmps17
      go_wp2_with (first | ((with_reducible refine gate_callee (f := 9) rfl ?_); refine goesL_ (some 12) rfl rfl Tryd.func9 (by kernel_rfl) rfl #[.string a1, .string a0] rfl (by (try simp only [List.map_toArray, List.map_cons, List.map_nil]); first | done | rfl | (simp only [List.length_drop, List.length_take]; rfl)) ?_; (with_reducible refine (stem_Match.calls a1 a0 t114 true _ ?side1 A4.out).mono ?_); (case side1 => first | exact HSH.out | exact Shp.below HSH.out (by repeat (first | (with_reducible first | exact HB.out | apply below_alloc | apply pw_below_drewN | apply below_drew1) | exact HB.out))); rintro e w' ⟨rfl, ⟨nd, rfl⟩⟩; refine ⟨_, rfl, ?_⟩) | ((with_reducible refine gate_callee (f := 11) rfl ?_); refine goesL_ (some 21) rfl rfl Tryd.func11 (by kernel_rfl) rfl #[.string a1] rfl (by (try simp only [List.map_toArray, List.map_cons, List.map_nil]); first | done | rfl | (simp only [List.length_drop, List.length_take]; rfl)) ?_; (with_reducible refine (stem_Has.calls a1 false _ ?side1 A6.out).mono ?_); (case side1 => first | exact HSH.out | exact Shp.below HSH.out (by repeat (first | (with_reducible first | exact HB.out | apply below_alloc | apply pw_below_drewN | apply below_drew1) | exact HB.out))); rintro e w' ⟨rfl, ⟨nd, rfl⟩⟩; refine ⟨_, rfl, ?_⟩))
      go_ret
      exact ⟨by first | rfl | (simp [errW_none, errW_some] <;> rfl) | (simp [*, errW_none, errW_some] <;> rfl), by repeat (first | (with_reducible first | exact HB.out | apply below_alloc | apply pw_below_drewN | apply below_drew1) | exact HB.out)⟩
  · replace c5 := Bool.eq_false_iff.mpr c5
    subst c5
    have H1 : (some a0) = some r := by rw [if_neg (show ¬ (false = true) by decide)] at H; exact H
    clear H
    have H := H1
    clear H1
    obtain rfl := Option.some.inj H
    go_enter Tryd.func17, Tryd.ntmps17
    go_wp2_with (first | ((with_reducible refine gate_callee (f := 9) rfl ?_); refine goesL_ (some 12) rfl rfl Tryd.func9 (by kernel_rfl) rfl #[.string a1, .string a0] rfl (by (try simp only [List.map_toArray, List.map_cons, List.map_nil]); first | done | rfl | (simp only [List.length_drop, List.length_take]; rfl)) ?_; (with_reducible refine (stem_Match.calls a1 a0 t114 false _ ?side1 A4.out).mono ?_); (case side1 => first | exact HSH.out | exact Shp.below HSH.out (by repeat (first | (with_reducible first | exact HB.out | apply below_alloc | apply pw_below_drewN | apply below_drew1) | exact HB.out))); rintro e w' ⟨rfl, ⟨nd, rfl⟩⟩; refine ⟨_, rfl, ?_⟩))
    go_ret
    exact ⟨by first | rfl | (simp [errW_none, errW_some] <;> rfl) | (simp [*, errW_none, errW_some] <;> rfl), by repeat (first | (with_reducible first | exact HB.out | apply below_alloc | apply pw_below_drewN | apply below_drew1) | exact HB.out)⟩

/-! ### flatironlaw12_lives: function 8 -/
def flatironlaw12_lives.f  : Option (Bool) := (stem_Change.f (⟨#[120, 46, 99]⟩ : ByteArray) (⟨#[37, 46, 99]⟩ : ByteArray) (⟨#[37, 46, 111]⟩ : ByteArray)).bind fun t118 => (if t118.toList = ([120, 46, 111] : List UInt8) then ((stem_Has.f (⟨#[37]⟩ : ByteArray)).bind fun t119 => (some t119)) else (some false))
set_option maxHeartbeats 8000000 in
set_option maxRecDepth 100000 in
theorem flatironlaw12_lives.calls  (r : Bool) (w : World) (hSH : Shp w) (h : flatironlaw12_lives.f  = some r) :
    Calls Tryd.prog 8 #[] w fun e w' => e = .returned (.bool r) ∧ Below w.heap.size w w' := by
  have HSH := Aside0.mk hSH
  clear hSH
  have HB := Aside0.mk (Below.refl w.heap.size w)
  have H : ((stem_Change.f (⟨#[120, 46, 99]⟩ : ByteArray) (⟨#[37, 46, 99]⟩ : ByteArray) (⟨#[37, 46, 111]⟩ : ByteArray)).bind fun t118 => (if t118.toList = ([120, 46, 111] : List UInt8) then ((stem_Has.f (⟨#[37]⟩ : ByteArray)).bind fun t119 => (some t119)) else (some false))) = some r := h
  clear h
  replace H := Option.bind_eq_some_iff.mp H
  obtain ⟨t118, A10, H⟩ := H
  replace H : (if t118.toList = ([120, 46, 111] : List UInt8) then ((stem_Has.f (⟨#[37]⟩ : ByteArray)).bind fun t119 => (some t119)) else (some false)) = some r := H
  have A1 := Aside0.mk A10
  clear A10
  by_cases c2 : t118.toList = ([120, 46, 111] : List UInt8)
  · rw [if_pos c2] at H
    have c2b0 : (t118.toList == ([120, 46, 111] : List UInt8)) = true := beq_iff_eq.mpr c2
    have c2b1 : (t118.toList != ([120, 46, 111] : List UInt8)) = false := bne_eq_false_iff_eq.mpr c2
    clear c2
    replace H := Option.bind_eq_some_iff.mp H
    obtain ⟨t119, A30, H⟩ := H
    replace H : (some t119) = some r := H
    have A3 := Aside0.mk A30
    clear A30
    obtain rfl := Option.some.inj H
    go_enter Tryd.func8, Tryd.ntmps8
    go_wp2_with (first | ((with_reducible refine gate_callee (f := 17) rfl ?_); refine goesL_ (some 1) rfl rfl Tryd.func17 (by kernel_rfl) rfl #[.string (⟨#[120, 46, 99]⟩ : ByteArray), .string (⟨#[37, 46, 99]⟩ : ByteArray), .string (⟨#[37, 46, 111]⟩ : ByteArray)] rfl (by (try simp only [List.map_toArray, List.map_cons, List.map_nil]); first | done | rfl | (simp only [List.length_drop, List.length_take]; rfl)) ?_; (with_reducible refine (stem_Change.calls (⟨#[120, 46, 99]⟩ : ByteArray) (⟨#[37, 46, 99]⟩ : ByteArray) (⟨#[37, 46, 111]⟩ : ByteArray) t118 _ ?side1 A1.out).mono ?_); (case side1 => first | exact HSH.out | exact Shp.below HSH.out (by repeat (first | (with_reducible first | exact HB.out | apply below_alloc | apply pw_below_drewN | apply below_drew1) | exact HB.out))); rintro e w4 ⟨rfl, hb⟩; refine ⟨_, rfl, ?_⟩; have n0_ := Aside0.mk (below_step (by repeat (first | (with_reducible first | exact HB.out | apply below_alloc | apply pw_below_drewN | apply below_drew1) | exact HB.out)) hb); clear HB; have HB := n0_; clear n0_; (try clear hb); (try clear hb2); (try clear hk); (try clear hi)) | (go_at_call 11; (with_reducible refine (stem_Has.calls (⟨#[37]⟩ : ByteArray) t119 _ ?side1 A3.out).mono ?_); (case side1 => first | exact HSH.out | exact Shp.below HSH.out (by repeat (first | (with_reducible first | exact HB.out | apply below_alloc | apply pw_below_drewN | apply below_drew1) | exact HB.out))); rintro e w' ⟨rfl, ⟨nd, rfl⟩⟩))
    go_ret
    exact ⟨by first | rfl | (simp [errW_none, errW_some] <;> rfl) | (simp [*, errW_none, errW_some] <;> rfl), by repeat (first | (with_reducible first | exact HB.out | apply below_alloc | apply pw_below_drewN | apply below_drew1) | exact HB.out)⟩
  · rw [if_neg c2] at H
    have c2b0 : (t118.toList == ([120, 46, 111] : List UInt8)) = false := beq_eq_false_iff_ne.mpr c2
    have c2b1 : (t118.toList != ([120, 46, 111] : List UInt8)) = true := bne_iff_ne.mpr c2
    obtain rfl := Option.some.inj H
    go_enter Tryd.func8, Tryd.ntmps8
    go_wp2_with (first | ((with_reducible refine gate_callee (f := 17) rfl ?_); refine goesL_ (some 1) rfl rfl Tryd.func17 (by kernel_rfl) rfl #[.string (⟨#[120, 46, 99]⟩ : ByteArray), .string (⟨#[37, 46, 99]⟩ : ByteArray), .string (⟨#[37, 46, 111]⟩ : ByteArray)] rfl (by (try simp only [List.map_toArray, List.map_cons, List.map_nil]); first | done | rfl | (simp only [List.length_drop, List.length_take]; rfl)) ?_; (with_reducible refine (stem_Change.calls (⟨#[120, 46, 99]⟩ : ByteArray) (⟨#[37, 46, 99]⟩ : ByteArray) (⟨#[37, 46, 111]⟩ : ByteArray) t118 _ ?side1 A1.out).mono ?_); (case side1 => first | exact HSH.out | exact Shp.below HSH.out (by repeat (first | (with_reducible first | exact HB.out | apply below_alloc | apply pw_below_drewN | apply below_drew1) | exact HB.out))); rintro e w5 ⟨rfl, hb⟩; refine ⟨_, rfl, ?_⟩; have n0_ := Aside0.mk (below_step (by repeat (first | (with_reducible first | exact HB.out | apply below_alloc | apply pw_below_drewN | apply below_drew1) | exact HB.out)) hb); clear HB; have HB := n0_; clear n0_; (try clear hb); (try clear hb2); (try clear hk); (try clear hi)))
    go_ret
    exact ⟨by first | rfl | (simp [errW_none, errW_some] <;> rfl) | (simp [*, errW_none, errW_some] <;> rfl), by repeat (first | (with_reducible first | exact HB.out | apply below_alloc | apply pw_below_drewN | apply below_drew1) | exact HB.out)⟩

/-! ### flatironref12_At: function 12 -/
def flatironref12_At.l0 : Nat → ByteArray → Int → Option (Int)
  | 0, _, _ => none
  | k + 1, x0, x3 => if x3 < (x0.size : Int) then (if 0 ≤ x3 then (if (bt x0 x3) = 37 then (some x3) else (flatironref12_At.l0 k x0 (wrap64 (x3 + 1)))) else (none)) else (some (-1))
def flatironref12_At.f (k : Nat) (a0 : ByteArray) : Option (Int) := flatironref12_At.l0 k a0 0
theorem flatironref12_At.mono_l : ∀ k, (∀ y0 y1, LeO (flatironref12_At.l0 k y0 y1) (flatironref12_At.l0 (k + 1) y0 y1))
  | 0 => fun _ _ r h => by simp [flatironref12_At.l0] at h
  | k + 1 => by
    have ih0 := flatironref12_At.mono_l k
    · intro y0 y1
      unfold flatironref12_At.l0
      repeat' first
      | (with_reducible exact ih0 _ _)
      | (with_reducible exact LeO.refl _)
      | (with_reducible exact LeO.none _)
      | (with_reducible refine LeO.ite ?_ ?_)
      | (with_reducible refine LeO.bind ?_ (fun _ => ?_))
      | exact ih0 _ _
      | exact LeO.none _
      | refine LeO.ite ?_ ?_
      | refine LeO.bind ?_ (fun _ => ?_)
theorem flatironref12_At.mono : ∀ a0 k, LeO (flatironref12_At.f k a0) (flatironref12_At.f (k + 1) a0) := by
  intro a0 k
  have ih0 := flatironref12_At.mono_l k
  unfold flatironref12_At.f
  repeat' first
      | (with_reducible exact ih0 _ _)
      | (with_reducible exact LeO.refl _)
      | (with_reducible exact LeO.none _)
      | (with_reducible refine LeO.ite ?_ ?_)
      | (with_reducible refine LeO.bind ?_ (fun _ => ?_))
      | exact ih0 _ _
      | exact LeO.none _
      | refine LeO.ite ?_ ?_
      | refine LeO.bind ?_ (fun _ => ?_)
set_option maxHeartbeats 8000000 in
set_option maxRecDepth 100000 in
theorem flatironref12_At.calls (k : Nat) (a0 : ByteArray) (r : Int) (w : World) (h : flatironref12_At.f k a0 = some r) :
    Calls Tryd.prog 12 #[.string a0] w fun e w' => e = .returned (.int .i64 r) ∧ Drawn0 w w' := by
  have H : (flatironref12_At.l0 k a0 0) = some r := h
  clear h
  have H' := Aside0.mk H
  clear H
  go_enter Tryd.func12, Tryd.ntmps12
  go_wp2
  go_loopg [3] k (fun kq v3 w' => ∃ (x3_1 : Int), v3 = .int .i64 x3_1 ∧ Aside0 (flatironref12_At.l0 kq a0 x3_1 = some r) ∧ Aside0 (kq ≤ k) ∧ Drawn0 w w')
  case atStart => exact ⟨(0), (by first | rfl | (simp; done) | (simp [*]; done)), H', ⟨Nat.le_refl _⟩, by repeat (first | exact Drawn0.refl _ | apply Drawn0.step)⟩
  case round =>
    clear H'
    try clear c1
    obtain ⟨x3_1, rfl, HA, HK1, ⟨m1, rfl⟩⟩ := hrel
    cases gk with
    | zero => exact absurd HA.out (by simp [flatironref12_At.l0])
    | succ k1 =>
      have H := HA.out
      clear HA
      simp only [flatironref12_At.l0] at H
      by_cases c2 : x3_1 < (a0.size : Int)
      · rw [if_pos c2] at H
        have c2b0 : decide (x3_1 < (a0.size : Int)) = true := decide_eq_true c2
        clear c2
        by_cases c3 : 0 ≤ x3_1
        · rw [if_pos c3] at H
          have c3b0 : decide (0 ≤ x3_1) = true := decide_eq_true c3
          clear c3
          by_cases c5 : (bt a0 x3_1) = 37
          · rw [if_pos c5] at H
            have c5b0 : ((bt a0 x3_1) == 37) = true := beq_iff_eq.mpr c5
            have c5b1 : ((bt a0 x3_1) != 37) = false := bne_eq_false_iff_eq.mpr c5
            clear c5
            obtain rfl := Option.some.inj H
            have p4 : 0 ≤ (x3_1 : Int) := of_decide_eq_true (by first | (with_reducible assumption) | assumption)
            have q4 : x3_1 < (a0.size : Int) := of_decide_eq_true (by first | (with_reducible assumption) | assumption)
            have hx4 := bt_at a0 x3_1
            replace p4 := eq_true p4
            replace q4 := eq_true q4
            go_wp2
            go_ret
            exact ⟨by first | rfl | (simp; done) | (simp [*]; done), by repeat (first | exact Drawn0.refl _ | apply Drawn0.step)⟩
          · rw [if_neg c5] at H
            have c5b0 : ((bt a0 x3_1) == 37) = false := beq_eq_false_iff_ne.mpr c5
            have c5b1 : ((bt a0 x3_1) != 37) = true := bne_iff_ne.mpr c5
            have H' := Aside0.mk H
            clear H
            have p4 : 0 ≤ (x3_1 : Int) := of_decide_eq_true (by first | (with_reducible assumption) | assumption)
            have q4 : x3_1 < (a0.size : Int) := of_decide_eq_true (by first | (with_reducible assumption) | assumption)
            have hx4 := bt_at a0 x3_1
            replace p4 := eq_true p4
            replace q4 := eq_true q4
            go_wp2
            go_roundg k1
            case measure => have := HK1.out; omega
            case rel => exact ⟨(wrap64 (x3_1 + 1)), (by first | rfl | (simp; done) | (simp [*]; done)), H', ⟨by have := HK1.out; omega⟩, by repeat (first | exact Drawn0.refl _ | apply Drawn0.step)⟩
        · rw [if_neg c3] at H
          exact absurd H (by simp)
      · rw [if_neg c2] at H
        have c2b0 : decide (x3_1 < (a0.size : Int)) = false := decide_eq_false c2
        clear c2
        obtain rfl := Option.some.inj H
        go_wp2
        go_ret
        exact ⟨by first | rfl | (simp; done) | (simp [*]; done), by repeat (first | exact Drawn0.refl _ | apply Drawn0.step)⟩

/-! ### flatironref12_Match: function 10 -/
def flatironref12_Match.f (k : Nat) (a0 : ByteArray) (a1 : ByteArray) : Option (ByteArray × Bool) := (flatironref12_At.f k a0).bind fun t120 => (if t120 < 0 then (some ((⟨#[]⟩ : ByteArray), (a0.toList == a1.toList))) else (if 0 ≤ (wrap64 (t120 + 1)) then (if (wrap64 (t120 + 1)) ≤ (a0.size : Int) then (if (wrap64 ((wrap64 ((a1.size : Int) - t120)) - ((a0.size - ((wrap64 (t120 + 1)) : Int).toNat : Nat) : Int))) < 1 then (some ((⟨#[]⟩ : ByteArray), false)) else (if 0 ≤ t120 then (if t120 ≤ (a1.size : Int) then (if t120 ≤ (a0.size : Int) then (if (a1.extract 0 (t120 : Int).toNat).toList = (a0.extract 0 (t120 : Int).toNat).toList then (if 0 ≤ (wrap64 (t120 + (wrap64 ((wrap64 ((a1.size : Int) - t120)) - ((a0.size - ((wrap64 (t120 + 1)) : Int).toNat : Nat) : Int))))) then (if (wrap64 (t120 + (wrap64 ((wrap64 ((a1.size : Int) - t120)) - ((a0.size - ((wrap64 (t120 + 1)) : Int).toNat : Nat) : Int))))) ≤ (a1.size : Int) then (if (a1.extract ((wrap64 (t120 + (wrap64 ((wrap64 ((a1.size : Int) - t120)) - ((a0.size - ((wrap64 (t120 + 1)) : Int).toNat : Nat) : Int))))) : Int).toNat a1.size).toList = (a0.extract ((wrap64 (t120 + 1)) : Int).toNat a0.size).toList then (if t120 ≤ (wrap64 (t120 + (wrap64 ((wrap64 ((a1.size : Int) - t120)) - ((a0.size - ((wrap64 (t120 + 1)) : Int).toNat : Nat) : Int))))) then (some (a1.extract (t120 : Int).toNat ((wrap64 (t120 + (wrap64 ((wrap64 ((a1.size : Int) - t120)) - ((a0.size - ((wrap64 (t120 + 1)) : Int).toNat : Nat) : Int))))) : Int).toNat, true)) else (none)) else (some ((⟨#[]⟩ : ByteArray), false))) else (none)) else (none)) else (some ((⟨#[]⟩ : ByteArray), false))) else (none)) else (none)) else (none))) else (none)) else (none)))
theorem flatironref12_Match.mono : ∀ a0 a1 k, LeO (flatironref12_Match.f k a0 a1) (flatironref12_Match.f (k + 1) a0 a1) := by
  intro a0 a1 k
  unfold flatironref12_Match.f
  repeat' first
      | (with_reducible exact flatironref12_At.mono _ _)
      | (with_reducible exact LeO.refl _)
      | (with_reducible exact LeO.none _)
      | (with_reducible refine LeO.ite ?_ ?_)
      | (with_reducible refine LeO.bind ?_ (fun _ => ?_))
      | exact flatironref12_At.mono _ _
      | exact LeO.none _
      | refine LeO.ite ?_ ?_
      | refine LeO.bind ?_ (fun _ => ?_)
set_option maxHeartbeats 8000000 in
set_option maxRecDepth 100000 in
theorem flatironref12_Match.calls (k : Nat) (a0 : ByteArray) (a1 : ByteArray) (r1 : ByteArray) (r2 : Bool) (w : World) (h : flatironref12_Match.f k a0 a1 = some (r1, r2)) :
    Calls Tryd.prog 10 #[.string a0, .string a1] w fun e w' => e = .returned (.tuple #[.string r1, .bool r2]) ∧ Drawn0 w w' := by
  have H : ((flatironref12_At.f k a0).bind fun t120 => (if t120 < 0 then (some ((⟨#[]⟩ : ByteArray), (a0.toList == a1.toList))) else (if 0 ≤ (wrap64 (t120 + 1)) then (if (wrap64 (t120 + 1)) ≤ (a0.size : Int) then (if (wrap64 ((wrap64 ((a1.size : Int) - t120)) - ((a0.size - ((wrap64 (t120 + 1)) : Int).toNat : Nat) : Int))) < 1 then (some ((⟨#[]⟩ : ByteArray), false)) else (if 0 ≤ t120 then (if t120 ≤ (a1.size : Int) then (if t120 ≤ (a0.size : Int) then (if (a1.extract 0 (t120 : Int).toNat).toList = (a0.extract 0 (t120 : Int).toNat).toList then (if 0 ≤ (wrap64 (t120 + (wrap64 ((wrap64 ((a1.size : Int) - t120)) - ((a0.size - ((wrap64 (t120 + 1)) : Int).toNat : Nat) : Int))))) then (if (wrap64 (t120 + (wrap64 ((wrap64 ((a1.size : Int) - t120)) - ((a0.size - ((wrap64 (t120 + 1)) : Int).toNat : Nat) : Int))))) ≤ (a1.size : Int) then (if (a1.extract ((wrap64 (t120 + (wrap64 ((wrap64 ((a1.size : Int) - t120)) - ((a0.size - ((wrap64 (t120 + 1)) : Int).toNat : Nat) : Int))))) : Int).toNat a1.size).toList = (a0.extract ((wrap64 (t120 + 1)) : Int).toNat a0.size).toList then (if t120 ≤ (wrap64 (t120 + (wrap64 ((wrap64 ((a1.size : Int) - t120)) - ((a0.size - ((wrap64 (t120 + 1)) : Int).toNat : Nat) : Int))))) then (some (a1.extract (t120 : Int).toNat ((wrap64 (t120 + (wrap64 ((wrap64 ((a1.size : Int) - t120)) - ((a0.size - ((wrap64 (t120 + 1)) : Int).toNat : Nat) : Int))))) : Int).toNat, true)) else (none)) else (some ((⟨#[]⟩ : ByteArray), false))) else (none)) else (none)) else (some ((⟨#[]⟩ : ByteArray), false))) else (none)) else (none)) else (none))) else (none)) else (none)))) = some (r1, r2) := h
  clear h
  replace H := Option.bind_eq_some_iff.mp H
  obtain ⟨t120, A30, H⟩ := H
  replace H : (if t120 < 0 then (some ((⟨#[]⟩ : ByteArray), (a0.toList == a1.toList))) else (if 0 ≤ (wrap64 (t120 + 1)) then (if (wrap64 (t120 + 1)) ≤ (a0.size : Int) then (if (wrap64 ((wrap64 ((a1.size : Int) - t120)) - ((a0.size - ((wrap64 (t120 + 1)) : Int).toNat : Nat) : Int))) < 1 then (some ((⟨#[]⟩ : ByteArray), false)) else (if 0 ≤ t120 then (if t120 ≤ (a1.size : Int) then (if t120 ≤ (a0.size : Int) then (if (a1.extract 0 (t120 : Int).toNat).toList = (a0.extract 0 (t120 : Int).toNat).toList then (if 0 ≤ (wrap64 (t120 + (wrap64 ((wrap64 ((a1.size : Int) - t120)) - ((a0.size - ((wrap64 (t120 + 1)) : Int).toNat : Nat) : Int))))) then (if (wrap64 (t120 + (wrap64 ((wrap64 ((a1.size : Int) - t120)) - ((a0.size - ((wrap64 (t120 + 1)) : Int).toNat : Nat) : Int))))) ≤ (a1.size : Int) then (if (a1.extract ((wrap64 (t120 + (wrap64 ((wrap64 ((a1.size : Int) - t120)) - ((a0.size - ((wrap64 (t120 + 1)) : Int).toNat : Nat) : Int))))) : Int).toNat a1.size).toList = (a0.extract ((wrap64 (t120 + 1)) : Int).toNat a0.size).toList then (if t120 ≤ (wrap64 (t120 + (wrap64 ((wrap64 ((a1.size : Int) - t120)) - ((a0.size - ((wrap64 (t120 + 1)) : Int).toNat : Nat) : Int))))) then (some (a1.extract (t120 : Int).toNat ((wrap64 (t120 + (wrap64 ((wrap64 ((a1.size : Int) - t120)) - ((a0.size - ((wrap64 (t120 + 1)) : Int).toNat : Nat) : Int))))) : Int).toNat, true)) else (none)) else (some ((⟨#[]⟩ : ByteArray), false))) else (none)) else (none)) else (some ((⟨#[]⟩ : ByteArray), false))) else (none)) else (none)) else (none))) else (none)) else (none))) = some (r1, r2) := H
  have A3 := Aside0.mk A30
  clear A30
  by_cases c4 : t120 < 0
  · rw [if_pos c4] at H
    have c4b0 : decide (t120 < 0) = true := decide_eq_true c4
    clear c4
    simp only [Option.some.injEq, Prod.mk.injEq] at H
    obtain ⟨rfl, rfl⟩ := H
    go_enter Tryd.func10, Tryd.ntmps10
    go_wp2_with (first | (go_at_call 12; (with_reducible refine (flatironref12_At.calls k a0 t120 _ A3.out).mono ?_); rintro e w' ⟨rfl, ⟨nd, rfl⟩⟩; (try first | exact ⟨rfl, _, World.drewN_drewN _ _ _⟩ | exact ⟨rfl, _, Eq.trans (World.drewN_drewN _ _ _) (congrArg (World.drewN _) (Nat.add_assoc _ _ _))⟩)))
    repeat (go_quiet (first | (go_at_call 12; (with_reducible refine (flatironref12_At.calls k a0 t120 _ A3.out).mono ?_); rintro e w' ⟨rfl, ⟨nd, rfl⟩⟩; (try first | exact ⟨rfl, _, World.drewN_drewN _ _ _⟩ | exact ⟨rfl, _, Eq.trans (World.drewN_drewN _ _ _) (congrArg (World.drewN _) (Nat.add_assoc _ _ _))⟩))); try go_wp2_with (first | (go_at_call 12; (with_reducible refine (flatironref12_At.calls k a0 t120 _ A3.out).mono ?_); rintro e w' ⟨rfl, ⟨nd, rfl⟩⟩; (try first | exact ⟨rfl, _, World.drewN_drewN _ _ _⟩ | exact ⟨rfl, _, Eq.trans (World.drewN_drewN _ _ _) (congrArg (World.drewN _) (Nat.add_assoc _ _ _))⟩))))
    go_ret2
    exact ⟨by first | rfl | (simp; done) | (simp [*]; done), by repeat (first | exact Drawn0.refl _ | apply Drawn0.step)⟩
  · rw [if_neg c4] at H
    have c4b0 : decide (t120 < 0) = false := decide_eq_false c4
    clear c4
    obtain ⟨ji5, hji5⟩ : ∃ j_ : Int, (wrap64 (t120 + 1)) = j_ := ⟨_, rfl⟩
    replace H : (if 0 ≤ (ji5) then (if (ji5) ≤ (a0.size : Int) then (if (wrap64 ((wrap64 ((a1.size : Int) - t120)) - ((a0.size - ((ji5) : Int).toNat : Nat) : Int))) < 1 then (some ((⟨#[]⟩ : ByteArray), false)) else (if 0 ≤ t120 then (if t120 ≤ (a1.size : Int) then (if t120 ≤ (a0.size : Int) then (if (a1.extract 0 (t120 : Int).toNat).toList = (a0.extract 0 (t120 : Int).toNat).toList then (if 0 ≤ (wrap64 (t120 + (wrap64 ((wrap64 ((a1.size : Int) - t120)) - ((a0.size - ((ji5) : Int).toNat : Nat) : Int))))) then (if (wrap64 (t120 + (wrap64 ((wrap64 ((a1.size : Int) - t120)) - ((a0.size - ((ji5) : Int).toNat : Nat) : Int))))) ≤ (a1.size : Int) then (if (a1.extract ((wrap64 (t120 + (wrap64 ((wrap64 ((a1.size : Int) - t120)) - ((a0.size - ((ji5) : Int).toNat : Nat) : Int))))) : Int).toNat a1.size).toList = (a0.extract ((ji5) : Int).toNat a0.size).toList then (if t120 ≤ (wrap64 (t120 + (wrap64 ((wrap64 ((a1.size : Int) - t120)) - ((a0.size - ((ji5) : Int).toNat : Nat) : Int))))) then (some (a1.extract (t120 : Int).toNat ((wrap64 (t120 + (wrap64 ((wrap64 ((a1.size : Int) - t120)) - ((a0.size - ((ji5) : Int).toNat : Nat) : Int))))) : Int).toNat, true)) else (none)) else (some ((⟨#[]⟩ : ByteArray), false))) else (none)) else (none)) else (some ((⟨#[]⟩ : ByteArray), false))) else (none)) else (none)) else (none))) else (none)) else (none)) = some (r1, r2) := by first | (rw [hji5] at H; exact H) | (simp only [hji5] at H ⊢; exact H)
    (try rw [hji5] at A3)
    have hji5w : (IntKind.i64.wrap (t120 + 1)) = ji5 := (i64_w _).trans hji5
    by_cases c6 : 0 ≤ (ji5)
    · rw [if_pos c6] at H
      have c6b0 := eq_true c6
      have c6b1 : decide (0 ≤ (ji5)) = true := decide_eq_true c6
      clear c6
      by_cases c7 : (ji5) ≤ (a0.size : Int)
      · rw [if_pos c7] at H
        have c7b0 := eq_true c7
        have c7b1 : decide ((ji5) ≤ (a0.size : Int)) = true := decide_eq_true c7
        clear c7
        by_cases c8 : (wrap64 ((wrap64 ((a1.size : Int) - t120)) - ((a0.size - ((ji5) : Int).toNat : Nat) : Int))) < 1
        · rw [if_pos c8] at H
          have c8b0 : decide ((wrap64 ((wrap64 ((a1.size : Int) - t120)) - ((a0.size - ((ji5) : Int).toNat : Nat) : Int))) < 1) = true := decide_eq_true c8
          clear c8
          simp only [Option.some.injEq, Prod.mk.injEq] at H
          obtain ⟨rfl, rfl⟩ := H
          go_enter Tryd.func10, Tryd.ntmps10
          go_wp2_with (first | (go_at_call 12; (with_reducible refine (flatironref12_At.calls k a0 t120 _ A3.out).mono ?_); rintro e w' ⟨rfl, ⟨nd, rfl⟩⟩; (try first | exact ⟨rfl, _, World.drewN_drewN _ _ _⟩ | exact ⟨rfl, _, Eq.trans (World.drewN_drewN _ _ _) (congrArg (World.drewN _) (Nat.add_assoc _ _ _))⟩)))
          repeat (go_quiet (first | (go_at_call 12; (with_reducible refine (flatironref12_At.calls k a0 t120 _ A3.out).mono ?_); rintro e w' ⟨rfl, ⟨nd, rfl⟩⟩; (try first | exact ⟨rfl, _, World.drewN_drewN _ _ _⟩ | exact ⟨rfl, _, Eq.trans (World.drewN_drewN _ _ _) (congrArg (World.drewN _) (Nat.add_assoc _ _ _))⟩))); try go_wp2_with (first | (go_at_call 12; (with_reducible refine (flatironref12_At.calls k a0 t120 _ A3.out).mono ?_); rintro e w' ⟨rfl, ⟨nd, rfl⟩⟩; (try first | exact ⟨rfl, _, World.drewN_drewN _ _ _⟩ | exact ⟨rfl, _, Eq.trans (World.drewN_drewN _ _ _) (congrArg (World.drewN _) (Nat.add_assoc _ _ _))⟩))))
          go_ret2
          exact ⟨by first | rfl | (simp; done) | (simp only [← hji5] <;> (first | rfl | simp)) | (simp [*]; done), by repeat (first | exact Drawn0.refl _ | apply Drawn0.step)⟩
        · rw [if_neg c8] at H
          have c8b0 : decide ((wrap64 ((wrap64 ((a1.size : Int) - t120)) - ((a0.size - ((ji5) : Int).toNat : Nat) : Int))) < 1) = false := decide_eq_false c8
          clear c8
          by_cases c9 : 0 ≤ t120
          · rw [if_pos c9] at H
            have c9b0 := eq_true c9
            have c9b1 : decide (0 ≤ t120) = true := decide_eq_true c9
            clear c9
            by_cases c10 : t120 ≤ (a1.size : Int)
            · rw [if_pos c10] at H
              have c10b0 := eq_true c10
              have c10b1 : decide (t120 ≤ (a1.size : Int)) = true := decide_eq_true c10
              clear c10
              have c11b0 := eq_true (of_decide_eq_true (by first | (with_reducible assumption) | assumption) : 0 ≤ t120)
              by_cases c12 : t120 ≤ (a0.size : Int)
              · rw [if_pos c12] at H
                have c12b0 := eq_true c12
                have c12b1 : decide (t120 ≤ (a0.size : Int)) = true := decide_eq_true c12
                clear c12
                by_cases c13 : (a1.extract 0 (t120 : Int).toNat).toList = (a0.extract 0 (t120 : Int).toNat).toList
                · rw [if_pos c13] at H
                  have c13b0 : ((a1.extract 0 (t120 : Int).toNat).toList == (a0.extract 0 (t120 : Int).toNat).toList) = true := beq_iff_eq.mpr c13
                  have c13b1 : ((a1.extract 0 (t120 : Int).toNat).toList != (a0.extract 0 (t120 : Int).toNat).toList) = false := bne_eq_false_iff_eq.mpr c13
                  clear c13
                  obtain ⟨ji14, hji14⟩ : ∃ j_ : Int, (wrap64 (t120 + (wrap64 ((wrap64 ((a1.size : Int) - t120)) - ((a0.size - ((ji5) : Int).toNat : Nat) : Int))))) = j_ := ⟨_, rfl⟩
                  replace H : (if 0 ≤ (ji14) then (if (ji14) ≤ (a1.size : Int) then (if (a1.extract ((ji14) : Int).toNat a1.size).toList = (a0.extract ((ji5) : Int).toNat a0.size).toList then (if t120 ≤ (ji14) then (some (a1.extract (t120 : Int).toNat ((ji14) : Int).toNat, true)) else (none)) else (some ((⟨#[]⟩ : ByteArray), false))) else (none)) else (none)) = some (r1, r2) := by first | (rw [hji14] at H; exact H) | (simp only [hji14] at H ⊢; exact H)
                  (try rw [hji14] at A3)
                  have hji14w : (IntKind.i64.wrap (t120 + (wrap64 ((wrap64 ((a1.size : Int) - t120)) - ((a0.size - ((ji5) : Int).toNat : Nat) : Int))))) = ji14 := (i64_w _).trans hji14
                  by_cases c15 : 0 ≤ (ji14)
                  · rw [if_pos c15] at H
                    have c15b0 := eq_true c15
                    have c15b1 : decide (0 ≤ (ji14)) = true := decide_eq_true c15
                    clear c15
                    by_cases c16 : (ji14) ≤ (a1.size : Int)
                    · rw [if_pos c16] at H
                      have c16b0 := eq_true c16
                      have c16b1 : decide ((ji14) ≤ (a1.size : Int)) = true := decide_eq_true c16
                      clear c16
                      by_cases c17 : (a1.extract ((ji14) : Int).toNat a1.size).toList = (a0.extract ((ji5) : Int).toNat a0.size).toList
                      · rw [if_pos c17] at H
                        have c17b0 : ((a1.extract ((ji14) : Int).toNat a1.size).toList == (a0.extract ((ji5) : Int).toNat a0.size).toList) = true := beq_iff_eq.mpr c17
                        have c17b1 : ((a1.extract ((ji14) : Int).toNat a1.size).toList != (a0.extract ((ji5) : Int).toNat a0.size).toList) = false := bne_eq_false_iff_eq.mpr c17
                        clear c17
                        have c18b0 := eq_true (of_decide_eq_true (by first | (with_reducible assumption) | assumption) : 0 ≤ t120)
                        by_cases c19 : t120 ≤ (ji14)
                        · rw [if_pos c19] at H
                          have c19b0 := eq_true c19
                          have c19b1 : decide (t120 ≤ (ji14)) = true := decide_eq_true c19
                          clear c19
                          have c20b0 := eq_true (of_decide_eq_true (by first | (with_reducible assumption) | assumption) : (ji14) ≤ (a1.size : Int))
                          simp only [Option.some.injEq, Prod.mk.injEq] at H
                          obtain ⟨rfl, rfl⟩ := H
                          go_enter Tryd.func10, Tryd.ntmps10
                          go_wp2_with (first | (go_at_call 12; (with_reducible refine (flatironref12_At.calls k a0 t120 _ A3.out).mono ?_); rintro e w' ⟨rfl, ⟨nd, rfl⟩⟩; (try first | exact ⟨rfl, _, World.drewN_drewN _ _ _⟩ | exact ⟨rfl, _, Eq.trans (World.drewN_drewN _ _ _) (congrArg (World.drewN _) (Nat.add_assoc _ _ _))⟩)))
                          repeat (go_quiet (first | (go_at_call 12; (with_reducible refine (flatironref12_At.calls k a0 t120 _ A3.out).mono ?_); rintro e w' ⟨rfl, ⟨nd, rfl⟩⟩; (try first | exact ⟨rfl, _, World.drewN_drewN _ _ _⟩ | exact ⟨rfl, _, Eq.trans (World.drewN_drewN _ _ _) (congrArg (World.drewN _) (Nat.add_assoc _ _ _))⟩))); try go_wp2_with (first | (go_at_call 12; (with_reducible refine (flatironref12_At.calls k a0 t120 _ A3.out).mono ?_); rintro e w' ⟨rfl, ⟨nd, rfl⟩⟩; (try first | exact ⟨rfl, _, World.drewN_drewN _ _ _⟩ | exact ⟨rfl, _, Eq.trans (World.drewN_drewN _ _ _) (congrArg (World.drewN _) (Nat.add_assoc _ _ _))⟩))))
                          go_ret2
                          exact ⟨by first | rfl | (simp; done) | (simp only [← hji5, ← hji14] <;> (first | rfl | simp)) | (simp [*]; done), by repeat (first | exact Drawn0.refl _ | apply Drawn0.step)⟩
                        · rw [if_neg c19] at H
                          exact absurd H (by simp)
                      · rw [if_neg c17] at H
                        have c17b0 : ((a1.extract ((ji14) : Int).toNat a1.size).toList == (a0.extract ((ji5) : Int).toNat a0.size).toList) = false := beq_eq_false_iff_ne.mpr c17
                        have c17b1 : ((a1.extract ((ji14) : Int).toNat a1.size).toList != (a0.extract ((ji5) : Int).toNat a0.size).toList) = true := bne_iff_ne.mpr c17
                        simp only [Option.some.injEq, Prod.mk.injEq] at H
                        obtain ⟨rfl, rfl⟩ := H
                        go_enter Tryd.func10, Tryd.ntmps10
                        go_wp2_with (first | (go_at_call 12; (with_reducible refine (flatironref12_At.calls k a0 t120 _ A3.out).mono ?_); rintro e w' ⟨rfl, ⟨nd, rfl⟩⟩; (try first | exact ⟨rfl, _, World.drewN_drewN _ _ _⟩ | exact ⟨rfl, _, Eq.trans (World.drewN_drewN _ _ _) (congrArg (World.drewN _) (Nat.add_assoc _ _ _))⟩)))
                        repeat (go_quiet (first | (go_at_call 12; (with_reducible refine (flatironref12_At.calls k a0 t120 _ A3.out).mono ?_); rintro e w' ⟨rfl, ⟨nd, rfl⟩⟩; (try first | exact ⟨rfl, _, World.drewN_drewN _ _ _⟩ | exact ⟨rfl, _, Eq.trans (World.drewN_drewN _ _ _) (congrArg (World.drewN _) (Nat.add_assoc _ _ _))⟩))); try go_wp2_with (first | (go_at_call 12; (with_reducible refine (flatironref12_At.calls k a0 t120 _ A3.out).mono ?_); rintro e w' ⟨rfl, ⟨nd, rfl⟩⟩; (try first | exact ⟨rfl, _, World.drewN_drewN _ _ _⟩ | exact ⟨rfl, _, Eq.trans (World.drewN_drewN _ _ _) (congrArg (World.drewN _) (Nat.add_assoc _ _ _))⟩))))
                        go_ret2
                        exact ⟨by first | rfl | (simp; done) | (simp only [← hji5, ← hji14] <;> (first | rfl | simp)) | (simp [*]; done), by repeat (first | exact Drawn0.refl _ | apply Drawn0.step)⟩
                    · rw [if_neg c16] at H
                      exact absurd H (by simp)
                  · rw [if_neg c15] at H
                    exact absurd H (by simp)
                · rw [if_neg c13] at H
                  have c13b0 : ((a1.extract 0 (t120 : Int).toNat).toList == (a0.extract 0 (t120 : Int).toNat).toList) = false := beq_eq_false_iff_ne.mpr c13
                  have c13b1 : ((a1.extract 0 (t120 : Int).toNat).toList != (a0.extract 0 (t120 : Int).toNat).toList) = true := bne_iff_ne.mpr c13
                  simp only [Option.some.injEq, Prod.mk.injEq] at H
                  obtain ⟨rfl, rfl⟩ := H
                  go_enter Tryd.func10, Tryd.ntmps10
                  go_wp2_with (first | (go_at_call 12; (with_reducible refine (flatironref12_At.calls k a0 t120 _ A3.out).mono ?_); rintro e w' ⟨rfl, ⟨nd, rfl⟩⟩; (try first | exact ⟨rfl, _, World.drewN_drewN _ _ _⟩ | exact ⟨rfl, _, Eq.trans (World.drewN_drewN _ _ _) (congrArg (World.drewN _) (Nat.add_assoc _ _ _))⟩)))
                  repeat (go_quiet (first | (go_at_call 12; (with_reducible refine (flatironref12_At.calls k a0 t120 _ A3.out).mono ?_); rintro e w' ⟨rfl, ⟨nd, rfl⟩⟩; (try first | exact ⟨rfl, _, World.drewN_drewN _ _ _⟩ | exact ⟨rfl, _, Eq.trans (World.drewN_drewN _ _ _) (congrArg (World.drewN _) (Nat.add_assoc _ _ _))⟩))); try go_wp2_with (first | (go_at_call 12; (with_reducible refine (flatironref12_At.calls k a0 t120 _ A3.out).mono ?_); rintro e w' ⟨rfl, ⟨nd, rfl⟩⟩; (try first | exact ⟨rfl, _, World.drewN_drewN _ _ _⟩ | exact ⟨rfl, _, Eq.trans (World.drewN_drewN _ _ _) (congrArg (World.drewN _) (Nat.add_assoc _ _ _))⟩))))
                  go_ret2
                  exact ⟨by first | rfl | (simp; done) | (simp only [← hji5] <;> (first | rfl | simp)) | (simp [*]; done), by repeat (first | exact Drawn0.refl _ | apply Drawn0.step)⟩
              · rw [if_neg c12] at H
                exact absurd H (by simp)
            · rw [if_neg c10] at H
              exact absurd H (by simp)
          · rw [if_neg c9] at H
            exact absurd H (by simp)
      · rw [if_neg c7] at H
        exact absurd H (by simp)
    · rw [if_neg c6] at H
      exact absurd H (by simp)

/-! ### flatironref12_Put: function 14 -/
def flatironref12_Put.f (k : Nat) (a0 : ByteArray) (a1 : ByteArray) : Option (ByteArray) := (flatironref12_At.f k a0).bind fun t121 => (if t121 < 0 then (some a0) else (if 0 ≤ t121 then (if t121 ≤ (a0.size : Int) then (if ((t121 : Int).toNat) + a1.size ≤ 9223372036854775807 then (if 0 ≤ (wrap64 (t121 + 1)) then (if (wrap64 (t121 + 1)) ≤ (a0.size : Int) then (if ((t121 : Int).toNat + a1.size) + (a0.size - ((wrap64 (t121 + 1)) : Int).toNat) ≤ 9223372036854775807 then (some (((a0.extract 0 (t121 : Int).toNat) ++ a1) ++ (a0.extract ((wrap64 (t121 + 1)) : Int).toNat a0.size))) else (none)) else (none)) else (none)) else (none)) else (none)) else (none)))
theorem flatironref12_Put.mono : ∀ a0 a1 k, LeO (flatironref12_Put.f k a0 a1) (flatironref12_Put.f (k + 1) a0 a1) := by
  intro a0 a1 k
  unfold flatironref12_Put.f
  repeat' first
      | (with_reducible exact flatironref12_At.mono _ _)
      | (with_reducible exact LeO.refl _)
      | (with_reducible exact LeO.none _)
      | (with_reducible refine LeO.ite ?_ ?_)
      | (with_reducible refine LeO.bind ?_ (fun _ => ?_))
      | exact flatironref12_At.mono _ _
      | exact LeO.none _
      | refine LeO.ite ?_ ?_
      | refine LeO.bind ?_ (fun _ => ?_)
set_option maxHeartbeats 8000000 in
set_option maxRecDepth 100000 in
theorem flatironref12_Put.calls (k : Nat) (a0 : ByteArray) (a1 : ByteArray) (r : ByteArray) (w : World) (h : flatironref12_Put.f k a0 a1 = some r) :
    Calls Tryd.prog 14 #[.string a0, .string a1] w fun e w' => e = .returned (.string r) ∧ Drawn0 w w' := by
  have H : ((flatironref12_At.f k a0).bind fun t121 => (if t121 < 0 then (some a0) else (if 0 ≤ t121 then (if t121 ≤ (a0.size : Int) then (if ((t121 : Int).toNat) + a1.size ≤ 9223372036854775807 then (if 0 ≤ (wrap64 (t121 + 1)) then (if (wrap64 (t121 + 1)) ≤ (a0.size : Int) then (if ((t121 : Int).toNat + a1.size) + (a0.size - ((wrap64 (t121 + 1)) : Int).toNat) ≤ 9223372036854775807 then (some (((a0.extract 0 (t121 : Int).toNat) ++ a1) ++ (a0.extract ((wrap64 (t121 + 1)) : Int).toNat a0.size))) else (none)) else (none)) else (none)) else (none)) else (none)) else (none)))) = some r := h
  clear h
  replace H := Option.bind_eq_some_iff.mp H
  obtain ⟨t121, A30, H⟩ := H
  replace H : (if t121 < 0 then (some a0) else (if 0 ≤ t121 then (if t121 ≤ (a0.size : Int) then (if ((t121 : Int).toNat) + a1.size ≤ 9223372036854775807 then (if 0 ≤ (wrap64 (t121 + 1)) then (if (wrap64 (t121 + 1)) ≤ (a0.size : Int) then (if ((t121 : Int).toNat + a1.size) + (a0.size - ((wrap64 (t121 + 1)) : Int).toNat) ≤ 9223372036854775807 then (some (((a0.extract 0 (t121 : Int).toNat) ++ a1) ++ (a0.extract ((wrap64 (t121 + 1)) : Int).toNat a0.size))) else (none)) else (none)) else (none)) else (none)) else (none)) else (none))) = some r := H
  have A3 := Aside0.mk A30
  clear A30
  by_cases c4 : t121 < 0
  · rw [if_pos c4] at H
    have c4b0 : decide (t121 < 0) = true := decide_eq_true c4
    clear c4
    obtain rfl := Option.some.inj H
    go_enter Tryd.func14, Tryd.ntmps14
    go_wp2_with (first | (go_at_call 12; (with_reducible refine (flatironref12_At.calls k a0 t121 _ A3.out).mono ?_); rintro e w' ⟨rfl, ⟨nd, rfl⟩⟩; (try first | exact ⟨rfl, _, World.drewN_drewN _ _ _⟩ | exact ⟨rfl, _, Eq.trans (World.drewN_drewN _ _ _) (congrArg (World.drewN _) (Nat.add_assoc _ _ _))⟩)))
    repeat (go_quiet (first | (go_at_call 12; (with_reducible refine (flatironref12_At.calls k a0 t121 _ A3.out).mono ?_); rintro e w' ⟨rfl, ⟨nd, rfl⟩⟩; (try first | exact ⟨rfl, _, World.drewN_drewN _ _ _⟩ | exact ⟨rfl, _, Eq.trans (World.drewN_drewN _ _ _) (congrArg (World.drewN _) (Nat.add_assoc _ _ _))⟩))); try go_wp2_with (first | (go_at_call 12; (with_reducible refine (flatironref12_At.calls k a0 t121 _ A3.out).mono ?_); rintro e w' ⟨rfl, ⟨nd, rfl⟩⟩; (try first | exact ⟨rfl, _, World.drewN_drewN _ _ _⟩ | exact ⟨rfl, _, Eq.trans (World.drewN_drewN _ _ _) (congrArg (World.drewN _) (Nat.add_assoc _ _ _))⟩))))
    go_ret
    exact ⟨by first | rfl | (simp; done) | (simp [*]; done), by repeat (first | exact Drawn0.refl _ | apply Drawn0.step)⟩
  · rw [if_neg c4] at H
    have c4b0 : decide (t121 < 0) = false := decide_eq_false c4
    clear c4
    by_cases c5 : 0 ≤ t121
    · rw [if_pos c5] at H
      have c5b0 := eq_true c5
      have c5b1 : decide (0 ≤ t121) = true := decide_eq_true c5
      clear c5
      by_cases c6 : t121 ≤ (a0.size : Int)
      · rw [if_pos c6] at H
        have c6b0 := eq_true c6
        have c6b1 : decide (t121 ≤ (a0.size : Int)) = true := decide_eq_true c6
        clear c6
        by_cases c7 : ((t121 : Int).toNat) + a1.size ≤ 9223372036854775807
        · rw [if_pos c7] at H
          have c7b0 := eq_true c7
          have c7b1 : decide (((t121 : Int).toNat) + a1.size ≤ 9223372036854775807) = true := decide_eq_true c7
          try have c7b2 : (9223372036854775807 < ((t121 : Int).toNat) + a1.size) = False := eq_false (Nat.not_lt.2 c7)
          obtain ⟨ji8, hji8⟩ : ∃ j_ : Int, (wrap64 (t121 + 1)) = j_ := ⟨_, rfl⟩
          replace H : (if 0 ≤ (ji8) then (if (ji8) ≤ (a0.size : Int) then (if ((t121 : Int).toNat + a1.size) + (a0.size - ((ji8) : Int).toNat) ≤ 9223372036854775807 then (some (((a0.extract 0 (t121 : Int).toNat) ++ a1) ++ (a0.extract ((ji8) : Int).toNat a0.size))) else (none)) else (none)) else (none)) = some r := by first | (rw [hji8] at H; exact H) | (simp only [hji8] at H ⊢; exact H)
          (try rw [hji8] at A3)
          have hji8w : (IntKind.i64.wrap (t121 + 1)) = ji8 := (i64_w _).trans hji8
          by_cases c9 : 0 ≤ (ji8)
          · rw [if_pos c9] at H
            have c9b0 := eq_true c9
            have c9b1 : decide (0 ≤ (ji8)) = true := decide_eq_true c9
            clear c9
            by_cases c10 : (ji8) ≤ (a0.size : Int)
            · rw [if_pos c10] at H
              have c10b0 := eq_true c10
              have c10b1 : decide ((ji8) ≤ (a0.size : Int)) = true := decide_eq_true c10
              clear c10
              by_cases c11 : ((t121 : Int).toNat + a1.size) + (a0.size - ((ji8) : Int).toNat) ≤ 9223372036854775807
              · rw [if_pos c11] at H
                have c11b0 := eq_true c11
                have c11b1 : decide (((t121 : Int).toNat + a1.size) + (a0.size - ((ji8) : Int).toNat) ≤ 9223372036854775807) = true := decide_eq_true c11
                try have c11b2 : (9223372036854775807 < ((t121 : Int).toNat + a1.size) + (a0.size - ((ji8) : Int).toNat)) = False := eq_false (Nat.not_lt.2 c11)
                obtain rfl := Option.some.inj H
                go_enter Tryd.func14, Tryd.ntmps14
                go_wp2_with (first | (go_at_call 12; (with_reducible refine (flatironref12_At.calls k a0 t121 _ A3.out).mono ?_); rintro e w' ⟨rfl, ⟨nd, rfl⟩⟩; (try first | exact ⟨rfl, _, World.drewN_drewN _ _ _⟩ | exact ⟨rfl, _, Eq.trans (World.drewN_drewN _ _ _) (congrArg (World.drewN _) (Nat.add_assoc _ _ _))⟩)))
                repeat (go_quiet (first | (go_at_call 12; (with_reducible refine (flatironref12_At.calls k a0 t121 _ A3.out).mono ?_); rintro e w' ⟨rfl, ⟨nd, rfl⟩⟩; (try first | exact ⟨rfl, _, World.drewN_drewN _ _ _⟩ | exact ⟨rfl, _, Eq.trans (World.drewN_drewN _ _ _) (congrArg (World.drewN _) (Nat.add_assoc _ _ _))⟩))); try go_wp2_with (first | (go_at_call 12; (with_reducible refine (flatironref12_At.calls k a0 t121 _ A3.out).mono ?_); rintro e w' ⟨rfl, ⟨nd, rfl⟩⟩; (try first | exact ⟨rfl, _, World.drewN_drewN _ _ _⟩ | exact ⟨rfl, _, Eq.trans (World.drewN_drewN _ _ _) (congrArg (World.drewN _) (Nat.add_assoc _ _ _))⟩))))
                go_ret
                exact ⟨by first | rfl | (simp; done) | (simp only [← hji8] <;> (first | rfl | simp)) | (simp [*]; done), by repeat (first | exact Drawn0.refl _ | apply Drawn0.step)⟩
              · rw [if_neg c11] at H
                exact absurd H (by simp)
            · rw [if_neg c10] at H
              exact absurd H (by simp)
          · rw [if_neg c9] at H
            exact absurd H (by simp)
        · rw [if_neg c7] at H
          exact absurd H (by simp)
      · rw [if_neg c6] at H
        exact absurd H (by simp)
    · rw [if_neg c5] at H
      exact absurd H (by simp)

end Go.Proofs.YtcadgnaejjgdnaaDoor.XW12
