-- compact
/- Laid for this claim by the session's own program xprint.py, over the print of the kit: functions of the program as plain Lean functions, each with a proof that a call comes to what its function says, or the row of a law out of these; no condition of its own. -/
import Derived.Test.YtgpabkdmagifjaaDoorXW02x0
namespace Go.Proofs.YtgpabkdmagifjaaDoor.XW02
open Go.Proofs.YtgpabkdmagifjaaDoor.X Go.RowKit Go.Proofs.YtgpabkdmagifjaaDoorW.PrintWords Go.Proofs.YtgpabkdmagifjaaDoorW.PrintLast Go.Proofs.YtgpabkdmagifjaaDoorW.PrintMore
attribute [local go_sem] cell4_1 cell4_1d max2_int min2_int max_two min_two max_three min_three max_four min_four   -- for this text's walks alone
set_option linter.unusedVariables false
set_option linter.unusedSimpArgs false

/-! ### stringslite_HasPrefix: function 121 -/
def stringslite_HasPrefix.f (a0 : ByteArray) (a1 : ByteArray) : Option (Bool) := if (a0.size : Int) ≥ (a1.size : Int) then (if 0 ≤ (a1.size : Int) then (if (a1.size : Int) ≤ (a0.size : Int) then (some ((a0.extract 0 ((a1.size : Int) : Int).toNat).toList == a1.toList)) else (none)) else (none)) else (some false)
set_option maxHeartbeats 8000000 in
set_option maxRecDepth 100000 in
theorem stringslite_HasPrefix.calls (a0 : ByteArray) (a1 : ByteArray) (r : Bool) (w : World) (h : stringslite_HasPrefix.f a0 a1 = some r) :
  Calls Tryd.prog 121 #[.string a0, .string a1] w fun e w' => e = .returned (.bool r) ∧ Drawn0 w w' := by
 have H : (if (a0.size : Int) ≥ (a1.size : Int) then (if 0 ≤ (a1.size : Int) then (if (a1.size : Int) ≤ (a0.size : Int) then (some ((a0.extract 0 ((a1.size : Int) : Int).toNat).toList == a1.toList)) else (none)) else (none)) else (some false)) = some r := h
 clear h
 by_cases c3 : (a0.size : Int) ≥ (a1.size : Int)
 ·rw [if_pos c3] at H
  have c3b0 : decide ((a1.size : Int) ≤ (a0.size : Int)) = true := decide_eq_true c3
  have c3b1 : decide (a1.size ≤ a0.size) = true := decide_eq_true (Int.ofNat_le.mp c3)
  clear c3
  by_cases c4 : 0 ≤ (a1.size : Int)
  ·rw [if_pos c4] at H
   have c4b0 := eq_true c4
   have c4b1 : decide (0 ≤ (a1.size : Int)) = true := decide_eq_true c4
   clear c4
   by_cases c5 : (a1.size : Int) ≤ (a0.size : Int)
   ·rw [if_pos c5] at H
    have c5b0 := eq_true c5
    have c5b1 : decide ((a1.size : Int) ≤ (a0.size : Int)) = true := decide_eq_true c5
    clear c5
    obtain rfl := Option.some.inj H
    go_enter Tryd.func121, Tryd.ntmps121
    go_wp2
    go_ret
    exact ⟨by first | rfl | (simp; done) | (simp [*]; done), by repeat (first | exact Drawn0.refl _ | apply Drawn0.step)⟩
   ·rw [if_neg c5] at H
    exact absurd H (by simp)
  ·rw [if_neg c4] at H
   exact absurd H (by simp)
 ·rw [if_neg c3] at H
  have c3b0 : decide ((a1.size : Int) ≤ (a0.size : Int)) = false := decide_eq_false c3
  have c3b1 : decide (a1.size ≤ a0.size) = false := decide_eq_false (fun h => c3 (Int.ofNat_le.mpr h))
  clear c3
  obtain rfl := Option.some.inj H
  go_enter Tryd.func121, Tryd.ntmps121
  go_wp2
  go_ret
  exact ⟨by first | rfl | (simp; done) | (simp [*]; done), by repeat (first | exact Drawn0.refl _ | apply Drawn0.step)⟩

/-! ### stringslite_TrimPrefix: function 173 -/
def stringslite_TrimPrefix.f (a0 : ByteArray) (a1 : ByteArray) : Option (ByteArray) := (stringslite_HasPrefix.f a0 a1).bind fun t101 => (if t101 = true then (if 0 ≤ (a1.size : Int) then (if (a1.size : Int) ≤ (a0.size : Int) then (some (a0.extract ((a1.size : Int) : Int).toNat a0.size)) else (none)) else (none)) else (some a0))
set_option maxHeartbeats 8000000 in
set_option maxRecDepth 100000 in
theorem stringslite_TrimPrefix.calls (a0 : ByteArray) (a1 : ByteArray) (r : ByteArray) (w : World) (h : stringslite_TrimPrefix.f a0 a1 = some r) :
  Calls Tryd.prog 173 #[.string a0, .string a1] w fun e w' => e = .returned (.string r) ∧ Drawn0 w w' := by
 have H : ((stringslite_HasPrefix.f a0 a1).bind fun t101 => (if t101 = true then (if 0 ≤ (a1.size : Int) then (if (a1.size : Int) ≤ (a0.size : Int) then (some (a0.extract ((a1.size : Int) : Int).toNat a0.size)) else (none)) else (none)) else (some a0))) = some r := h
 clear h
 replace H := Option.bind_eq_some_iff.mp H
 obtain ⟨t101, A30, H⟩ := H
 replace H : (if t101 = true then (if 0 ≤ (a1.size : Int) then (if (a1.size : Int) ≤ (a0.size : Int) then (some (a0.extract ((a1.size : Int) : Int).toNat a0.size)) else (none)) else (none)) else (some a0)) = some r := H
 have A3 := Aside0.mk A30
 clear A30
 by_cases c4 : t101 = true
 ·subst c4
  have H1 : (if 0 ≤ (a1.size : Int) then (if (a1.size : Int) ≤ (a0.size : Int) then (some (a0.extract ((a1.size : Int) : Int).toNat a0.size)) else (none)) else (none)) = some r := by rw [if_pos rfl] at H; exact H
  clear H
  have H := H1
  clear H1
  by_cases c5 : 0 ≤ (a1.size : Int)
  ·rw [if_pos c5] at H
   have c5b0 := eq_true c5
   have c5b1 : decide (0 ≤ (a1.size : Int)) = true := decide_eq_true c5
   clear c5
   by_cases c6 : (a1.size : Int) ≤ (a0.size : Int)
   ·rw [if_pos c6] at H
    have c6b0 := eq_true c6
    have c6b1 : decide ((a1.size : Int) ≤ (a0.size : Int)) = true := decide_eq_true c6
    clear c6
    obtain rfl := Option.some.inj H
    go_enter Tryd.func173, Tryd.ntmps173
    go_wp2_with (first | ((with_reducible refine gate_callee (f := 121) rfl ?_); refine goesL_ (some 7) rfl rfl Tryd.func121 (by kernel_rfl) rfl #[.string a0, .string a1] rfl (by (try simp only [List.map_toArray, List.map_cons, List.map_nil]); first | done | rfl | (simp only [List.length_drop, List.length_take]; rfl)) ?_; (with_reducible refine (stringslite_HasPrefix.calls a0 a1 true _ A3.out).mono ?_); rintro e w' ⟨rfl, ⟨nd, rfl⟩⟩; refine ⟨_, rfl, ?_⟩))
    go_ret
    exact ⟨by first | rfl | (simp; done) | (simp [*]; done), by repeat (first | exact Drawn0.refl _ | apply Drawn0.step)⟩
   ·rw [if_neg c6] at H
    exact absurd H (by simp)
  ·rw [if_neg c5] at H
   exact absurd H (by simp)
 ·replace c4 := Bool.eq_false_iff.mpr c4
  subst c4
  have H1 : (some a0) = some r := by rw [if_neg (show ¬ (false = true) by decide)] at H; exact H
  clear H
  have H := H1
  clear H1
  obtain rfl := Option.some.inj H
  go_enter Tryd.func173, Tryd.ntmps173
  go_wp2_with (first | ((with_reducible refine gate_callee (f := 121) rfl ?_); refine goesL_ (some 7) rfl rfl Tryd.func121 (by kernel_rfl) rfl #[.string a0, .string a1] rfl (by (try simp only [List.map_toArray, List.map_cons, List.map_nil]); first | done | rfl | (simp only [List.length_drop, List.length_take]; rfl)) ?_; (with_reducible refine (stringslite_HasPrefix.calls a0 a1 false _ A3.out).mono ?_); rintro e w' ⟨rfl, ⟨nd, rfl⟩⟩; refine ⟨_, rfl, ?_⟩))
  go_ret
  exact ⟨by first | rfl | (simp; done) | (simp [*]; done), by repeat (first | exact Drawn0.refl _ | apply Drawn0.step)⟩

/-! ### strings_TrimPrefix: function 161 -/
def strings_TrimPrefix.f (a0 : ByteArray) (a1 : ByteArray) : Option (ByteArray) := (stringslite_TrimPrefix.f a0 a1).bind fun t102 => (some t102)
set_option maxHeartbeats 8000000 in
set_option maxRecDepth 100000 in
theorem strings_TrimPrefix.calls (a0 : ByteArray) (a1 : ByteArray) (r : ByteArray) (w : World) (h : strings_TrimPrefix.f a0 a1 = some r) :
  Calls Tryd.prog 161 #[.string a0, .string a1] w fun e w' => e = .returned (.string r) ∧ Drawn0 w w' := by
 have H : ((stringslite_TrimPrefix.f a0 a1).bind fun t102 => (some t102)) = some r := h
 clear h
 replace H := Option.bind_eq_some_iff.mp H
 obtain ⟨t102, A30, H⟩ := H
 replace H : (some t102) = some r := H
 have A3 := Aside0.mk A30
 clear A30
 obtain rfl := Option.some.inj H
 go_enter Tryd.func161, Tryd.ntmps161
 go_wp2_with (first | ((with_reducible refine gate_callee (f := 173) rfl ?_); refine goesL_ (some 7) rfl rfl Tryd.func173 (by kernel_rfl) rfl #[.string a0, .string a1] rfl (by (try simp only [List.map_toArray, List.map_cons, List.map_nil]); first | done | rfl | (simp only [List.length_drop, List.length_take]; rfl)) ?_; (with_reducible refine (stringslite_TrimPrefix.calls a0 a1 t102 _ A3.out).mono ?_); rintro e w' ⟨rfl, ⟨nd, rfl⟩⟩; refine ⟨_, rfl, ?_⟩))
 go_ret
 exact ⟨by first | rfl | (simp; done) | (simp [*]; done), by repeat (first | exact Drawn0.refl _ | apply Drawn0.step)⟩

/-! ### glob_class: function 135 -/
mutual
def glob_class.l0 : Nat → ByteArray → Int → Bool → Bool → Int → Option (Bool × ByteArray × Bool)
 | 0, _, _, _, _, _ => none
 | k + 1, x0, x1, x7, x8, x9 => if x9 < (x0.size : Int) then (if 0 ≤ x9 then (if (bt x0 x9) = 93 then (glob_class.j1 k x0 x1 x7 x8 x9 (decide (x9 > 0))) else (glob_class.j1 k x0 x1 x7 x8 x9 false)) else (none)) else (some (false, (⟨#[]⟩ : ByteArray), false))
def glob_class.j1 : Nat → ByteArray → Int → Bool → Bool → Int → Bool → Option (Bool × ByteArray × Bool)
 | 0, _, _, _, _, _, _ => none
 | k + 1, x0, x1, x7, x8, x9, x28 => if x28 = true then (if 0 ≤ (wrap64 (x9 + 1)) then (if (wrap64 (x9 + 1)) ≤ (x0.size : Int) then (some ((x8 != x7), x0.extract ((wrap64 (x9 + 1)) : Int).toNat x0.size, true)) else (none)) else (none)) else (if (wrap64 (x9 + 2)) < (x0.size : Int) then (if 0 ≤ (wrap64 (x9 + 1)) then (if (wrap64 (x9 + 1)) < (x0.size : Int) then (if (bt x0 (wrap64 (x9 + 1))) = 45 then (if 0 ≤ (wrap64 (x9 + 2)) then (if (bt x0 (wrap64 (x9 + 2))) = 93 then (if x8 = true then (glob_class.l0 k x0 x1 x7 true (wrap64 (x9 + 1))) else (if 0 ≤ x9 then (if x9 < (x0.size : Int) then (glob_class.l0 k x0 x1 x7 (x1 == (bt x0 x9)) (wrap64 (x9 + 1))) else (none)) else (none))) else (if x8 = true then (glob_class.l0 k x0 x1 x7 true (wrap64 ((wrap64 (x9 + 2)) + 1))) else (if 0 ≤ x9 then (if x9 < (x0.size : Int) then (if x1 ≥ (bt x0 x9) then (glob_class.l0 k x0 x1 x7 (decide (x1 ≤ (bt x0 (wrap64 (x9 + 2))))) (wrap64 ((wrap64 (x9 + 2)) + 1))) else (glob_class.l0 k x0 x1 x7 false (wrap64 ((wrap64 (x9 + 2)) + 1)))) else (none)) else (none)))) else (none)) else (if x8 = true then (glob_class.l0 k x0 x1 x7 true (wrap64 (x9 + 1))) else (if 0 ≤ x9 then (if x9 < (x0.size : Int) then (glob_class.l0 k x0 x1 x7 (x1 == (bt x0 x9)) (wrap64 (x9 + 1))) else (none)) else (none)))) else (none)) else (none)) else (if x8 = true then (glob_class.l0 k x0 x1 x7 true (wrap64 (x9 + 1))) else (if 0 ≤ x9 then (if x9 < (x0.size : Int) then (glob_class.l0 k x0 x1 x7 (x1 == (bt x0 x9)) (wrap64 (x9 + 1))) else (none)) else (none))))
end
def glob_class.f (k : Nat) (a0 : ByteArray) (a1 : Int) : Option (Bool × ByteArray × Bool) := (strings_HasPrefix.f a0 (⟨#[33]⟩ : ByteArray)).bind fun t103 => ((strings_TrimPrefix.f a0 (⟨#[33]⟩ : ByteArray)).bind fun t104 => (glob_class.l0 k t104 a1 t103 false 0))
theorem glob_class.mono_l : ∀ k, (∀ y0 y1 y2 y3 y4, LeO (glob_class.l0 k y0 y1 y2 y3 y4) (glob_class.l0 (k + 1) y0 y1 y2 y3 y4)) ∧ (∀ y0 y1 y2 y3 y4 y5, LeO (glob_class.j1 k y0 y1 y2 y3 y4 y5) (glob_class.j1 (k + 1) y0 y1 y2 y3 y4 y5))
 | 0 => ⟨fun _ _ _ _ _ r h => by simp [glob_class.l0] at h, fun _ _ _ _ _ _ r h => by simp [glob_class.j1] at h⟩
 | k + 1 => by
  obtain ⟨ih0, ih1⟩ := glob_class.mono_l k
  refine ⟨?_, ?_⟩
  ·intro y0 y1 y2 y3 y4
   unfold glob_class.l0
   repeat' first
   | (with_reducible exact ih0 _ _ _ _ _)
   | (with_reducible exact ih1 _ _ _ _ _ _)
   | (with_reducible exact LeO.refl _)
   | (with_reducible exact LeO.none _)
   | (with_reducible refine LeO.ite ?_ ?_)
   | (with_reducible refine LeO.bind ?_ (fun _ => ?_))
   | exact ih0 _ _ _ _ _
   | exact ih1 _ _ _ _ _ _
   | exact LeO.none _
   | refine LeO.ite ?_ ?_
   | refine LeO.bind ?_ (fun _ => ?_)
  ·intro y0 y1 y2 y3 y4 y5
   unfold glob_class.j1
   repeat' first
   | (with_reducible exact ih0 _ _ _ _ _)
   | (with_reducible exact ih1 _ _ _ _ _ _)
   | (with_reducible exact LeO.refl _)
   | (with_reducible exact LeO.none _)
   | (with_reducible refine LeO.ite ?_ ?_)
   | (with_reducible refine LeO.bind ?_ (fun _ => ?_))
   | exact ih0 _ _ _ _ _
   | exact ih1 _ _ _ _ _ _
   | exact LeO.none _
   | refine LeO.ite ?_ ?_
   | refine LeO.bind ?_ (fun _ => ?_)
theorem glob_class.mono : ∀ a0 a1 k, LeO (glob_class.f k a0 a1) (glob_class.f (k + 1) a0 a1) := by
 intro a0 a1 k
 obtain ⟨ih0, ih1⟩ := glob_class.mono_l k
 unfold glob_class.f
 repeat' first
   | (with_reducible exact ih0 _ _ _ _ _)
   | (with_reducible exact ih1 _ _ _ _ _ _)
   | (with_reducible exact LeO.refl _)
   | (with_reducible exact LeO.none _)
   | (with_reducible refine LeO.ite ?_ ?_)
   | (with_reducible refine LeO.bind ?_ (fun _ => ?_))
   | exact ih0 _ _ _ _ _
   | exact ih1 _ _ _ _ _ _
   | exact LeO.none _
   | refine LeO.ite ?_ ?_
   | refine LeO.bind ?_ (fun _ => ?_)
set_option maxHeartbeats 8000000 in
set_option maxRecDepth 100000 in
theorem glob_class.calls (k : Nat) (a0 : ByteArray) (a1 : Int) (r1 : Bool) (r2 : ByteArray) (r3 : Bool) (w : World) (h : glob_class.f k a0 a1 = some (r1, r2, r3)) :
  Calls Tryd.prog 135 #[.string a0, .int .u8 a1] w fun e w' => e = .returned (.tuple #[.bool r1, .string r2, .bool r3]) ∧ Drawn0 w w' := by
 have H : ((strings_HasPrefix.f a0 (⟨#[33]⟩ : ByteArray)).bind fun t103 => ((strings_TrimPrefix.f a0 (⟨#[33]⟩ : ByteArray)).bind fun t104 => (glob_class.l0 k t104 a1 t103 false 0))) = some (r1, r2, r3) := h
 clear h
 replace H := Option.bind_eq_some_iff.mp H
 obtain ⟨t103, A30, H⟩ := H
 replace H : ((strings_TrimPrefix.f a0 (⟨#[33]⟩ : ByteArray)).bind fun t104 => (glob_class.l0 k t104 a1 t103 false 0)) = some (r1, r2, r3) := H
 have A3 := Aside0.mk A30
 clear A30
 replace H := Option.bind_eq_some_iff.mp H
 obtain ⟨t104, A40, H⟩ := H
 replace H : (glob_class.l0 k t104 a1 t103 false 0) = some (r1, r2, r3) := H
 have A4 := Aside0.mk A40
 clear A40
 have H' := Aside0.mk H
 clear H
 go_enter Tryd.func135, Tryd.ntmps135
 go_wp2_with (first | (go_at_call 60; (with_reducible refine (strings_HasPrefix.calls a0 (⟨#[33]⟩ : ByteArray) t103 _ A3.out).mono ?_); rintro e w' ⟨rfl, ⟨nd, rfl⟩⟩; (try first | exact ⟨rfl, _, World.drewN_drewN _ _ _⟩ | exact ⟨rfl, _, Eq.trans (World.drewN_drewN _ _ _) (congrArg (World.drewN _) (Nat.add_assoc _ _ _))⟩)) | (go_at_call 161; (with_reducible refine (strings_TrimPrefix.calls a0 (⟨#[33]⟩ : ByteArray) t104 _ A4.out).mono ?_); rintro e w' ⟨rfl, ⟨nd, rfl⟩⟩; (try first | exact ⟨rfl, _, World.drewN_drewN _ _ _⟩ | exact ⟨rfl, _, Eq.trans (World.drewN_drewN _ _ _) (congrArg (World.drewN _) (Nat.add_assoc _ _ _))⟩)))
 repeat (go_quiet (first | (go_at_call 60; (with_reducible refine (strings_HasPrefix.calls a0 (⟨#[33]⟩ : ByteArray) t103 _ A3.out).mono ?_); rintro e w' ⟨rfl, ⟨nd, rfl⟩⟩; (try first | exact ⟨rfl, _, World.drewN_drewN _ _ _⟩ | exact ⟨rfl, _, Eq.trans (World.drewN_drewN _ _ _) (congrArg (World.drewN _) (Nat.add_assoc _ _ _))⟩)) | (go_at_call 161; (with_reducible refine (strings_TrimPrefix.calls a0 (⟨#[33]⟩ : ByteArray) t104 _ A4.out).mono ?_); rintro e w' ⟨rfl, ⟨nd, rfl⟩⟩; (try first | exact ⟨rfl, _, World.drewN_drewN _ _ _⟩ | exact ⟨rfl, _, Eq.trans (World.drewN_drewN _ _ _) (congrArg (World.drewN _) (Nat.add_assoc _ _ _))⟩))); try go_wp2_with (first | (go_at_call 60; (with_reducible refine (strings_HasPrefix.calls a0 (⟨#[33]⟩ : ByteArray) t103 _ A3.out).mono ?_); rintro e w' ⟨rfl, ⟨nd, rfl⟩⟩; (try first | exact ⟨rfl, _, World.drewN_drewN _ _ _⟩ | exact ⟨rfl, _, Eq.trans (World.drewN_drewN _ _ _) (congrArg (World.drewN _) (Nat.add_assoc _ _ _))⟩)) | (go_at_call 161; (with_reducible refine (strings_TrimPrefix.calls a0 (⟨#[33]⟩ : ByteArray) t104 _ A4.out).mono ?_); rintro e w' ⟨rfl, ⟨nd, rfl⟩⟩; (try first | exact ⟨rfl, _, World.drewN_drewN _ _ _⟩ | exact ⟨rfl, _, Eq.trans (World.drewN_drewN _ _ _) (congrArg (World.drewN _) (Nat.add_assoc _ _ _))⟩))))
 go_loopg [8, 9] k (fun kq v8 v9 w' => ∃ (x8_1 : Bool) (x9_1 : Int), v8 = .bool x8_1 ∧ v9 = .int .i64 x9_1 ∧ Aside0 (glob_class.l0 kq t104 a1 t103 x8_1 x9_1 = some (r1, r2, r3)) ∧ Aside0 (kq ≤ k) ∧ Drawn0 w w')
 case atStart => exact ⟨(false), (0), (by first | rfl | (simp; done) | (simp [*]; done)), (by first | rfl | (simp; done) | (simp [*]; done)), H', ⟨Nat.le_refl _⟩, by repeat (first | exact Drawn0.refl _ | apply Drawn0.step)⟩
 case round =>
  clear H'
  try clear c1
  try clear p2
  obtain ⟨x8_1, x9_1, rfl, rfl, HA, HK1, ⟨m1, rfl⟩⟩ := hrel
  cases gk with
  | zero => exact absurd HA.out (by simp [glob_class.l0])
  | succ k1 =>
   have H := HA.out
   clear HA
   simp only [glob_class.l0] at H
   by_cases c5 : x9_1 < (t104.size : Int)
   ·rw [if_pos c5] at H
    have c5b0 : decide (x9_1 < (t104.size : Int)) = true := decide_eq_true c5
    clear c5
    have HC6 := Aside0.mk H
    clear H
    go_upto_region 8 with (fail)
    repeat (go_quiet (fail); go_upto_region 8 with (fail))
    go_cut [28] (fun v28 wc => ∃ (kq : Nat) (x28_5 : Bool), v28 = .bool x28_5 ∧ Aside0 (glob_class.j1 kq t104 a1 t103 x8_1 x9_1 x28_5 = some (r1, r2, r3)) ∧ Aside0 (kq ≤ k1) ∧ Drawn0 w wc)
    case first =>
     have H := HC6.out
     clear HC6
     by_cases c7 : 0 ≤ x9_1
     ·rw [if_pos c7] at H
      have c7b0 : decide (0 ≤ x9_1) = true := decide_eq_true c7
      clear c7
      (first | rw [c7b0] | (simp only [i64_w, i32_w]; rw [c7b0]) | skip)
      by_cases c9 : (bt t104 x9_1) = 93
      ·rw [if_pos c9] at H
       have c9b0 : ((bt t104 x9_1) == 93) = true := beq_iff_eq.mpr c9
       have c9b1 : ((bt t104 x9_1) != 93) = false := bne_eq_false_iff_eq.mpr c9
       clear c9
       have H' := Aside0.mk H
       clear H
       have p8 : 0 ≤ (x9_1 : Int) := of_decide_eq_true (by first | (with_reducible assumption) | assumption)
       have q8 : x9_1 < (t104.size : Int) := of_decide_eq_true (by first | (with_reducible assumption) | assumption)
       have hx8 := bt_at t104 x9_1
       replace p8 := eq_true p8
       replace q8 := eq_true q8
       go_wp2
       repeat (go_quiet (fail); try go_wp2)
       go_meet
       case rel => exact ⟨_, (decide (x9_1 > 0)), (by first | rfl | (simp; done) | (simp [*]; done)), H', ⟨by have := HK1.out; first | omega | exact Nat.le_refl _⟩, by repeat (first | exact Drawn0.refl _ | apply Drawn0.step)⟩
      ·rw [if_neg c9] at H
       have c9b0 : ((bt t104 x9_1) == 93) = false := beq_eq_false_iff_ne.mpr c9
       have c9b1 : ((bt t104 x9_1) != 93) = true := bne_iff_ne.mpr c9
       have H' := Aside0.mk H
       clear H
       have p8 : 0 ≤ (x9_1 : Int) := of_decide_eq_true (by first | (with_reducible assumption) | assumption)
       have q8 : x9_1 < (t104.size : Int) := of_decide_eq_true (by first | (with_reducible assumption) | assumption)
       have hx8 := bt_at t104 x9_1
       replace p8 := eq_true p8
       replace q8 := eq_true q8
       go_wp2
       repeat (go_quiet (fail); try go_wp2)
       go_meet
       case rel => exact ⟨_, (false), (by first | rfl | (simp; done) | (simp [*]; done)), H', ⟨by have := HK1.out; first | omega | exact Nat.le_refl _⟩, by repeat (first | exact Drawn0.refl _ | apply Drawn0.step)⟩
     ·rw [if_neg c7] at H
      exact absurd H (by simp)
    case rest =>
     clear HC6
     try clear c1
     try clear p2
     try clear c5
     try clear c5b0
     try clear c7
     try clear c7b0
     try clear p8
     try clear q8
     try clear hx8
     try clear c9
     try clear c9b0
     try clear c9b1
     try clear p2
     try clear p8
     try clear q8
     obtain ⟨kq, x28_5, rfl, HA, HJ5, ⟨mc5, rfl⟩⟩ := hcut
     cases kq with
     | zero => exact absurd HA.out (by simp [glob_class.j1])
     | succ kj5 =>
      have H := HA.out
      clear HA
      simp only [glob_class.j1] at H
      by_cases c10 : x28_5 = true
      ·subst c10
       have H1 : (if 0 ≤ (wrap64 (x9_1 + 1)) then (if (wrap64 (x9_1 + 1)) ≤ (t104.size : Int) then (some ((x8_1 != t103), t104.extract ((wrap64 (x9_1 + 1)) : Int).toNat t104.size, true)) else (none)) else (none)) = some (r1, r2, r3) := by rw [if_pos rfl] at H; exact H
       clear H
       have H := H1
       clear H1
       obtain ⟨ji11, hji11⟩ : ∃ j_ : Int, (wrap64 (x9_1 + 1)) = j_ := ⟨_, rfl⟩
       replace H : (if 0 ≤ (ji11) then (if (ji11) ≤ (t104.size : Int) then (some ((x8_1 != t103), t104.extract ((ji11) : Int).toNat t104.size, true)) else (none)) else (none)) = some (r1, r2, r3) := by first | (rw [hji11] at H; exact H) | (simp only [hji11] at H ⊢; exact H)
       have hji11w : (IntKind.i64.wrap (x9_1 + 1)) = ji11 := (i64_w _).trans hji11
       by_cases c12 : 0 ≤ (ji11)
       ·rw [if_pos c12] at H
        have c12b0 := eq_true c12
        have c12b1 : decide (0 ≤ (ji11)) = true := decide_eq_true c12
        clear c12
        by_cases c13 : (ji11) ≤ (t104.size : Int)
        ·rw [if_pos c13] at H
         have c13b0 := eq_true c13
         have c13b1 : decide ((ji11) ≤ (t104.size : Int)) = true := decide_eq_true c13
         clear c13
         simp only [Option.some.injEq, Prod.mk.injEq] at H
         obtain ⟨rfl, rfl, rfl⟩ := H
         go_wp2
         repeat (go_quiet (fail); try go_wp2)
         go_ret3
         exact ⟨by first | rfl | (simp; done) | (simp only [← hji11] <;> (first | rfl | simp)) | (simp [*]; done), by repeat (first | exact Drawn0.refl _ | apply Drawn0.step)⟩
        ·rw [if_neg c13] at H
         exact absurd H (by simp)
       ·rw [if_neg c12] at H
        exact absurd H (by simp)
      ·replace c10 := Bool.eq_false_iff.mpr c10
       subst c10
       have H1 : (if (wrap64 (x9_1 + 2)) < (t104.size : Int) then (if 0 ≤ (wrap64 (x9_1 + 1)) then (if (wrap64 (x9_1 + 1)) < (t104.size : Int) then (if (bt t104 (wrap64 (x9_1 + 1))) = 45 then (if 0 ≤ (wrap64 (x9_1 + 2)) then (if (bt t104 (wrap64 (x9_1 + 2))) = 93 then (if x8_1 = true then (glob_class.l0 kj5 t104 a1 t103 true (wrap64 (x9_1 + 1))) else (if 0 ≤ x9_1 then (if x9_1 < (t104.size : Int) then (glob_class.l0 kj5 t104 a1 t103 (a1 == (bt t104 x9_1)) (wrap64 (x9_1 + 1))) else (none)) else (none))) else (if x8_1 = true then (glob_class.l0 kj5 t104 a1 t103 true (wrap64 ((wrap64 (x9_1 + 2)) + 1))) else (if 0 ≤ x9_1 then (if x9_1 < (t104.size : Int) then (if a1 ≥ (bt t104 x9_1) then (glob_class.l0 kj5 t104 a1 t103 (decide (a1 ≤ (bt t104 (wrap64 (x9_1 + 2))))) (wrap64 ((wrap64 (x9_1 + 2)) + 1))) else (glob_class.l0 kj5 t104 a1 t103 false (wrap64 ((wrap64 (x9_1 + 2)) + 1)))) else (none)) else (none)))) else (none)) else (if x8_1 = true then (glob_class.l0 kj5 t104 a1 t103 true (wrap64 (x9_1 + 1))) else (if 0 ≤ x9_1 then (if x9_1 < (t104.size : Int) then (glob_class.l0 kj5 t104 a1 t103 (a1 == (bt t104 x9_1)) (wrap64 (x9_1 + 1))) else (none)) else (none)))) else (none)) else (none)) else (if x8_1 = true then (glob_class.l0 kj5 t104 a1 t103 true (wrap64 (x9_1 + 1))) else (if 0 ≤ x9_1 then (if x9_1 < (t104.size : Int) then (glob_class.l0 kj5 t104 a1 t103 (a1 == (bt t104 x9_1)) (wrap64 (x9_1 + 1))) else (none)) else (none)))) = some (r1, r2, r3) := by rw [if_neg (show ¬ (false = true) by decide)] at H; exact H
       clear H
       have H := H1
       clear H1
       by_cases c14 : (wrap64 (x9_1 + 2)) < (t104.size : Int)
       ·rw [if_pos c14] at H
        have c14b0 : decide ((wrap64 (x9_1 + 2)) < (t104.size : Int)) = true := decide_eq_true c14
        clear c14
        obtain ⟨ji15, hji15⟩ : ∃ j_ : Int, (wrap64 (x9_1 + 1)) = j_ := ⟨_, rfl⟩
        (try clear hji11w); (try clear hji11)
        replace H : (if 0 ≤ (ji15) then (if (ji15) < (t104.size : Int) then (if (bt t104 (ji15)) = 45 then (if 0 ≤ (wrap64 (x9_1 + 2)) then (if (bt t104 (wrap64 (x9_1 + 2))) = 93 then (if x8_1 = true then (glob_class.l0 kj5 t104 a1 t103 true ji15) else (if 0 ≤ x9_1 then (if x9_1 < (t104.size : Int) then (glob_class.l0 kj5 t104 a1 t103 (a1 == (bt t104 x9_1)) ji15) else (none)) else (none))) else (if x8_1 = true then (glob_class.l0 kj5 t104 a1 t103 true (wrap64 ((wrap64 (x9_1 + 2)) + 1))) else (if 0 ≤ x9_1 then (if x9_1 < (t104.size : Int) then (if a1 ≥ (bt t104 x9_1) then (glob_class.l0 kj5 t104 a1 t103 (decide (a1 ≤ (bt t104 (wrap64 (x9_1 + 2))))) (wrap64 ((wrap64 (x9_1 + 2)) + 1))) else (glob_class.l0 kj5 t104 a1 t103 false (wrap64 ((wrap64 (x9_1 + 2)) + 1)))) else (none)) else (none)))) else (none)) else (if x8_1 = true then (glob_class.l0 kj5 t104 a1 t103 true ji15) else (if 0 ≤ x9_1 then (if x9_1 < (t104.size : Int) then (glob_class.l0 kj5 t104 a1 t103 (a1 == (bt t104 x9_1)) ji15) else (none)) else (none)))) else (none)) else (none)) = some (r1, r2, r3) := by first | (rw [hji15] at H; exact H) | (simp only [hji15] at H ⊢; exact H)
        have hji15w : (IntKind.i64.wrap (x9_1 + 1)) = ji15 := (i64_w _).trans hji15
        by_cases c16 : 0 ≤ (ji15)
        ·rw [if_pos c16] at H
         have c16b0 : decide (0 ≤ (ji15)) = true := decide_eq_true c16
         clear c16
         by_cases c17 : (ji15) < (t104.size : Int)
         ·rw [if_pos c17] at H
          have c17b0 : decide ((ji15) < (t104.size : Int)) = true := decide_eq_true c17
          clear c17
          by_cases c19 : (bt t104 (ji15)) = 45
          ·rw [if_pos c19] at H
           have c19b0 : ((bt t104 (ji15)) == 45) = true := beq_iff_eq.mpr c19
           have c19b1 : ((bt t104 (ji15)) != 45) = false := bne_eq_false_iff_eq.mpr c19
           clear c19
           obtain ⟨ji20, hji20⟩ : ∃ j_ : Int, (wrap64 (x9_1 + 2)) = j_ := ⟨_, rfl⟩
           replace H : (if 0 ≤ (ji20) then (if (bt t104 (ji20)) = 93 then (if x8_1 = true then (glob_class.l0 kj5 t104 a1 t103 true ji15) else (if 0 ≤ x9_1 then (if x9_1 < (t104.size : Int) then (glob_class.l0 kj5 t104 a1 t103 (a1 == (bt t104 x9_1)) ji15) else (none)) else (none))) else (if x8_1 = true then (glob_class.l0 kj5 t104 a1 t103 true (wrap64 ((ji20) + 1))) else (if 0 ≤ x9_1 then (if x9_1 < (t104.size : Int) then (if a1 ≥ (bt t104 x9_1) then (glob_class.l0 kj5 t104 a1 t103 (decide (a1 ≤ (bt t104 (ji20)))) (wrap64 ((ji20) + 1))) else (glob_class.l0 kj5 t104 a1 t103 false (wrap64 ((ji20) + 1)))) else (none)) else (none)))) else (none)) = some (r1, r2, r3) := by first | (rw [hji20] at H; exact H) | (simp only [hji20] at H ⊢; exact H)
           (try rw [hji20] at c14b0)
           have hji20w : (IntKind.i64.wrap (x9_1 + 2)) = ji20 := (i64_w _).trans hji20
           by_cases c21 : 0 ≤ (ji20)
           ·rw [if_pos c21] at H
            have c21b0 : decide (0 ≤ (ji20)) = true := decide_eq_true c21
            clear c21
            by_cases c23 : (bt t104 (ji20)) = 93
            ·rw [if_pos c23] at H
             have c23b0 : ((bt t104 (ji20)) == 93) = true := beq_iff_eq.mpr c23
             have c23b1 : ((bt t104 (ji20)) != 93) = false := bne_eq_false_iff_eq.mpr c23
             clear c23
             by_cases c24 : x8_1 = true
             ·subst c24
              have H1 : (glob_class.l0 kj5 t104 a1 t103 true ji15) = some (r1, r2, r3) := by rw [if_pos rfl] at H; exact H
              clear H
              have H := H1
              clear H1
              have H' := Aside0.mk H
              clear H
              have p18 : 0 ≤ ((ji15) : Int) := of_decide_eq_true (by first | (with_reducible assumption) | assumption)
              have q18 : (ji15) < (t104.size : Int) := of_decide_eq_true (by first | (with_reducible assumption) | assumption)
              have hx18 := bt_at t104 (ji15)
              replace p18 := eq_true p18
              replace q18 := eq_true q18
              have p22 : 0 ≤ ((ji20) : Int) := of_decide_eq_true (by first | (with_reducible assumption) | assumption)
              have q22 : (ji20) < (t104.size : Int) := of_decide_eq_true (by first | (with_reducible assumption) | assumption)
              have hx22 := bt_at t104 (ji20)
              replace p22 := eq_true p22
              replace q22 := eq_true q22
              go_wp2
              repeat (go_quiet (fail); try go_wp2)
              go_roundg kj5
              case measure => have := HK1.out; have := HJ5.out; omega
              case rel => exact ⟨(true), (ji15), (by first | rfl | (simp; done) | (simp [*]; done)), (by first | rfl | (simp; done) | (simp only [← hji15] <;> (first | rfl | simp)) | (simp [*]; done)), H', ⟨by have := HK1.out; have := HJ5.out; omega⟩, by repeat (first | exact Drawn0.refl _ | apply Drawn0.step)⟩
             ·replace c24 := Bool.eq_false_iff.mpr c24
              subst c24
              have H1 : (if 0 ≤ x9_1 then (if x9_1 < (t104.size : Int) then (glob_class.l0 kj5 t104 a1 t103 (a1 == (bt t104 x9_1)) ji15) else (none)) else (none)) = some (r1, r2, r3) := by rw [if_neg (show ¬ (false = true) by decide)] at H; exact H
              clear H
              have H := H1
              clear H1
              by_cases c25 : 0 ≤ x9_1
              ·rw [if_pos c25] at H
               have c25b0 : decide (0 ≤ x9_1) = true := decide_eq_true c25
               clear c25
               by_cases c26 : x9_1 < (t104.size : Int)
               ·rw [if_pos c26] at H
                have c26b0 : decide (x9_1 < (t104.size : Int)) = true := decide_eq_true c26
                clear c26
                have H' := Aside0.mk H
                clear H
                have p18 : 0 ≤ ((ji15) : Int) := of_decide_eq_true (by first | (with_reducible assumption) | assumption)
                have q18 : (ji15) < (t104.size : Int) := of_decide_eq_true (by first | (with_reducible assumption) | assumption)
                have hx18 := bt_at t104 (ji15)
                replace p18 := eq_true p18
                replace q18 := eq_true q18
                have p22 : 0 ≤ ((ji20) : Int) := of_decide_eq_true (by first | (with_reducible assumption) | assumption)
                have q22 : (ji20) < (t104.size : Int) := of_decide_eq_true (by first | (with_reducible assumption) | assumption)
                have hx22 := bt_at t104 (ji20)
                replace p22 := eq_true p22
                replace q22 := eq_true q22
                have p27 : 0 ≤ (x9_1 : Int) := of_decide_eq_true (by first | (with_reducible assumption) | assumption)
                have q27 : x9_1 < (t104.size : Int) := of_decide_eq_true (by first | (with_reducible assumption) | assumption)
                have hx27 := bt_at t104 x9_1
                replace p27 := eq_true p27
                replace q27 := eq_true q27
                go_wp2
                repeat (go_quiet (fail); try go_wp2)
                go_roundg kj5
                case measure => have := HK1.out; have := HJ5.out; omega
                case rel => exact ⟨((a1 == (bt t104 x9_1))), (ji15), (by first | rfl | (simp; done) | (simp [*]; done)), (by first | rfl | (simp; done) | (simp only [← hji15] <;> (first | rfl | simp)) | (simp [*]; done)), H', ⟨by have := HK1.out; have := HJ5.out; omega⟩, by repeat (first | exact Drawn0.refl _ | apply Drawn0.step)⟩
               ·rw [if_neg c26] at H
                exact absurd H (by simp)
              ·rw [if_neg c25] at H
               exact absurd H (by simp)
            ·rw [if_neg c23] at H
             have c23b0 : ((bt t104 (ji20)) == 93) = false := beq_eq_false_iff_ne.mpr c23
             have c23b1 : ((bt t104 (ji20)) != 93) = true := bne_iff_ne.mpr c23
             by_cases c28 : x8_1 = true
             ·subst c28
              have H1 : (glob_class.l0 kj5 t104 a1 t103 true (wrap64 ((ji20) + 1))) = some (r1, r2, r3) := by rw [if_pos rfl] at H; exact H
              clear H
              have H := H1
              clear H1
              have H' := Aside0.mk H
              clear H
              have p18 : 0 ≤ ((ji15) : Int) := of_decide_eq_true (by first | (with_reducible assumption) | assumption)
              have q18 : (ji15) < (t104.size : Int) := of_decide_eq_true (by first | (with_reducible assumption) | assumption)
              have hx18 := bt_at t104 (ji15)
              replace p18 := eq_true p18
              replace q18 := eq_true q18
              have p22 : 0 ≤ ((ji20) : Int) := of_decide_eq_true (by first | (with_reducible assumption) | assumption)
              have q22 : (ji20) < (t104.size : Int) := of_decide_eq_true (by first | (with_reducible assumption) | assumption)
              have hx22 := bt_at t104 (ji20)
              replace p22 := eq_true p22
              replace q22 := eq_true q22
              go_wp2
              repeat (go_quiet (fail); try go_wp2)
              go_roundg kj5
              case measure => have := HK1.out; have := HJ5.out; omega
              case rel => exact ⟨(true), (wrap64 ((ji20) + 1)), (by first | rfl | (simp; done) | (simp [*]; done)), (by first | rfl | (simp; done) | (simp only [← hji20] <;> (first | rfl | simp)) | (simp [*]; done)), H', ⟨by have := HK1.out; have := HJ5.out; omega⟩, by repeat (first | exact Drawn0.refl _ | apply Drawn0.step)⟩
             ·replace c28 := Bool.eq_false_iff.mpr c28
              subst c28
              have H1 : (if 0 ≤ x9_1 then (if x9_1 < (t104.size : Int) then (if a1 ≥ (bt t104 x9_1) then (glob_class.l0 kj5 t104 a1 t103 (decide (a1 ≤ (bt t104 (ji20)))) (wrap64 ((ji20) + 1))) else (glob_class.l0 kj5 t104 a1 t103 false (wrap64 ((ji20) + 1)))) else (none)) else (none)) = some (r1, r2, r3) := by rw [if_neg (show ¬ (false = true) by decide)] at H; exact H
              clear H
              have H := H1
              clear H1
              by_cases c29 : 0 ≤ x9_1
              ·rw [if_pos c29] at H
               have c29b0 : decide (0 ≤ x9_1) = true := decide_eq_true c29
               clear c29
               by_cases c30 : x9_1 < (t104.size : Int)
               ·rw [if_pos c30] at H
                have c30b0 : decide (x9_1 < (t104.size : Int)) = true := decide_eq_true c30
                clear c30
                by_cases c32 : a1 ≥ (bt t104 x9_1)
                ·rw [if_pos c32] at H
                 have c32b0 : decide ((bt t104 x9_1) ≤ a1) = true := decide_eq_true c32
                 clear c32
                 have H' := Aside0.mk H
                 clear H
                 have p18 : 0 ≤ ((ji15) : Int) := of_decide_eq_true (by first | (with_reducible assumption) | assumption)
                 have q18 : (ji15) < (t104.size : Int) := of_decide_eq_true (by first | (with_reducible assumption) | assumption)
                 have hx18 := bt_at t104 (ji15)
                 replace p18 := eq_true p18
                 replace q18 := eq_true q18
                 have p22 : 0 ≤ ((ji20) : Int) := of_decide_eq_true (by first | (with_reducible assumption) | assumption)
                 have q22 : (ji20) < (t104.size : Int) := of_decide_eq_true (by first | (with_reducible assumption) | assumption)
                 have hx22 := bt_at t104 (ji20)
                 replace p22 := eq_true p22
                 replace q22 := eq_true q22
                 have p31 : 0 ≤ (x9_1 : Int) := of_decide_eq_true (by first | (with_reducible assumption) | assumption)
                 have q31 : x9_1 < (t104.size : Int) := of_decide_eq_true (by first | (with_reducible assumption) | assumption)
                 have hx31 := bt_at t104 x9_1
                 replace p31 := eq_true p31
                 replace q31 := eq_true q31
                 have p33 : 0 ≤ ((ji20) : Int) := of_decide_eq_true (by first | (with_reducible assumption) | assumption)
                 have q33 : (ji20) < (t104.size : Int) := of_decide_eq_true (by first | (with_reducible assumption) | assumption)
                 have hx33 := bt_at t104 (ji20)
                 replace p33 := eq_true p33
                 replace q33 := eq_true q33
                 go_wp2
                 repeat (go_quiet (fail); try go_wp2)
                 go_roundg kj5
                 case measure => have := HK1.out; have := HJ5.out; omega
                 case rel => exact ⟨(decide (a1 ≤ (bt t104 (ji20)))), (wrap64 ((ji20) + 1)), (by first | rfl | (simp; done) | (simp only [← hji20] <;> (first | rfl | simp)) | (simp [*]; done)), (by first | rfl | (simp; done) | (simp only [← hji20] <;> (first | rfl | simp)) | (simp [*]; done)), H', ⟨by have := HK1.out; have := HJ5.out; omega⟩, by repeat (first | exact Drawn0.refl _ | apply Drawn0.step)⟩
                ·rw [if_neg c32] at H
                 have c32b0 : decide ((bt t104 x9_1) ≤ a1) = false := decide_eq_false c32
                 clear c32
                 have H' := Aside0.mk H
                 clear H
                 have p18 : 0 ≤ ((ji15) : Int) := of_decide_eq_true (by first | (with_reducible assumption) | assumption)
                 have q18 : (ji15) < (t104.size : Int) := of_decide_eq_true (by first | (with_reducible assumption) | assumption)
                 have hx18 := bt_at t104 (ji15)
                 replace p18 := eq_true p18
                 replace q18 := eq_true q18
                 have p22 : 0 ≤ ((ji20) : Int) := of_decide_eq_true (by first | (with_reducible assumption) | assumption)
                 have q22 : (ji20) < (t104.size : Int) := of_decide_eq_true (by first | (with_reducible assumption) | assumption)
                 have hx22 := bt_at t104 (ji20)
                 replace p22 := eq_true p22
                 replace q22 := eq_true q22
                 have p31 : 0 ≤ (x9_1 : Int) := of_decide_eq_true (by first | (with_reducible assumption) | assumption)
                 have q31 : x9_1 < (t104.size : Int) := of_decide_eq_true (by first | (with_reducible assumption) | assumption)
                 have hx31 := bt_at t104 x9_1
                 replace p31 := eq_true p31
                 replace q31 := eq_true q31
                 go_wp2
                 repeat (go_quiet (fail); try go_wp2)
                 go_roundg kj5
                 case measure => have := HK1.out; have := HJ5.out; omega
                 case rel => exact ⟨(false), (wrap64 ((ji20) + 1)), (by first | rfl | (simp; done) | (simp [*]; done)), (by first | rfl | (simp; done) | (simp only [← hji20] <;> (first | rfl | simp)) | (simp [*]; done)), H', ⟨by have := HK1.out; have := HJ5.out; omega⟩, by repeat (first | exact Drawn0.refl _ | apply Drawn0.step)⟩
               ·rw [if_neg c30] at H
                exact absurd H (by simp)
              ·rw [if_neg c29] at H
               exact absurd H (by simp)
           ·rw [if_neg c21] at H
            exact absurd H (by simp)
          ·rw [if_neg c19] at H
           have c19b0 : ((bt t104 (ji15)) == 45) = false := beq_eq_false_iff_ne.mpr c19
           have c19b1 : ((bt t104 (ji15)) != 45) = true := bne_iff_ne.mpr c19
           by_cases c34 : x8_1 = true
           ·subst c34
            have H1 : (glob_class.l0 kj5 t104 a1 t103 true ji15) = some (r1, r2, r3) := by rw [if_pos rfl] at H; exact H
            clear H
            have H := H1
            clear H1
            have H' := Aside0.mk H
            clear H
            have p18 : 0 ≤ ((ji15) : Int) := of_decide_eq_true (by first | (with_reducible assumption) | assumption)
            have q18 : (ji15) < (t104.size : Int) := of_decide_eq_true (by first | (with_reducible assumption) | assumption)
            have hx18 := bt_at t104 (ji15)
            replace p18 := eq_true p18
            replace q18 := eq_true q18
            go_wp2
            repeat (go_quiet (fail); try go_wp2)
            go_roundg kj5
            case measure => have := HK1.out; have := HJ5.out; omega
            case rel => exact ⟨(true), (ji15), (by first | rfl | (simp; done) | (simp [*]; done)), (by first | rfl | (simp; done) | (simp only [← hji15] <;> (first | rfl | simp)) | (simp [*]; done)), H', ⟨by have := HK1.out; have := HJ5.out; omega⟩, by repeat (first | exact Drawn0.refl _ | apply Drawn0.step)⟩
           ·replace c34 := Bool.eq_false_iff.mpr c34
            subst c34
            have H1 : (if 0 ≤ x9_1 then (if x9_1 < (t104.size : Int) then (glob_class.l0 kj5 t104 a1 t103 (a1 == (bt t104 x9_1)) ji15) else (none)) else (none)) = some (r1, r2, r3) := by rw [if_neg (show ¬ (false = true) by decide)] at H; exact H
            clear H
            have H := H1
            clear H1
            by_cases c35 : 0 ≤ x9_1
            ·rw [if_pos c35] at H
             have c35b0 : decide (0 ≤ x9_1) = true := decide_eq_true c35
             clear c35
             by_cases c36 : x9_1 < (t104.size : Int)
             ·rw [if_pos c36] at H
              have c36b0 : decide (x9_1 < (t104.size : Int)) = true := decide_eq_true c36
              clear c36
              have H' := Aside0.mk H
              clear H
              have p18 : 0 ≤ ((ji15) : Int) := of_decide_eq_true (by first | (with_reducible assumption) | assumption)
              have q18 : (ji15) < (t104.size : Int) := of_decide_eq_true (by first | (with_reducible assumption) | assumption)
              have hx18 := bt_at t104 (ji15)
              replace p18 := eq_true p18
              replace q18 := eq_true q18
              have p37 : 0 ≤ (x9_1 : Int) := of_decide_eq_true (by first | (with_reducible assumption) | assumption)
              have q37 : x9_1 < (t104.size : Int) := of_decide_eq_true (by first | (with_reducible assumption) | assumption)
              have hx37 := bt_at t104 x9_1
              replace p37 := eq_true p37
              replace q37 := eq_true q37
              go_wp2
              repeat (go_quiet (fail); try go_wp2)
              go_roundg kj5
              case measure => have := HK1.out; have := HJ5.out; omega
              case rel => exact ⟨((a1 == (bt t104 x9_1))), (ji15), (by first | rfl | (simp; done) | (simp [*]; done)), (by first | rfl | (simp; done) | (simp only [← hji15] <;> (first | rfl | simp)) | (simp [*]; done)), H', ⟨by have := HK1.out; have := HJ5.out; omega⟩, by repeat (first | exact Drawn0.refl _ | apply Drawn0.step)⟩
             ·rw [if_neg c36] at H
              exact absurd H (by simp)
            ·rw [if_neg c35] at H
             exact absurd H (by simp)
         ·rw [if_neg c17] at H
          exact absurd H (by simp)
        ·rw [if_neg c16] at H
         exact absurd H (by simp)
       ·rw [if_neg c14] at H
        have c14b0 : decide ((wrap64 (x9_1 + 2)) < (t104.size : Int)) = false := decide_eq_false c14
        clear c14
        by_cases c38 : x8_1 = true
        ·subst c38
         have H1 : (glob_class.l0 kj5 t104 a1 t103 true (wrap64 (x9_1 + 1))) = some (r1, r2, r3) := by rw [if_pos rfl] at H; exact H
         clear H
         have H := H1
         clear H1
         have H' := Aside0.mk H
         clear H
         go_wp2
         repeat (go_quiet (fail); try go_wp2)
         go_roundg kj5
         case measure => have := HK1.out; have := HJ5.out; omega
         case rel => exact ⟨(true), (wrap64 (x9_1 + 1)), (by first | rfl | (simp; done) | (simp [*]; done)), (by first | rfl | (simp; done) | (simp [*]; done)), H', ⟨by have := HK1.out; have := HJ5.out; omega⟩, by repeat (first | exact Drawn0.refl _ | apply Drawn0.step)⟩
        ·replace c38 := Bool.eq_false_iff.mpr c38
         subst c38
         have H1 : (if 0 ≤ x9_1 then (if x9_1 < (t104.size : Int) then (glob_class.l0 kj5 t104 a1 t103 (a1 == (bt t104 x9_1)) (wrap64 (x9_1 + 1))) else (none)) else (none)) = some (r1, r2, r3) := by rw [if_neg (show ¬ (false = true) by decide)] at H; exact H
         clear H
         have H := H1
         clear H1
         by_cases c39 : 0 ≤ x9_1
         ·rw [if_pos c39] at H
          have c39b0 : decide (0 ≤ x9_1) = true := decide_eq_true c39
          clear c39
          by_cases c40 : x9_1 < (t104.size : Int)
          ·rw [if_pos c40] at H
           have c40b0 : decide (x9_1 < (t104.size : Int)) = true := decide_eq_true c40
           clear c40
           have H' := Aside0.mk H
           clear H
           have p41 : 0 ≤ (x9_1 : Int) := of_decide_eq_true (by first | (with_reducible assumption) | assumption)
           have q41 : x9_1 < (t104.size : Int) := of_decide_eq_true (by first | (with_reducible assumption) | assumption)
           have hx41 := bt_at t104 x9_1
           replace p41 := eq_true p41
           replace q41 := eq_true q41
           go_wp2
           repeat (go_quiet (fail); try go_wp2)
           go_roundg kj5
           case measure => have := HK1.out; have := HJ5.out; omega
           case rel => exact ⟨((a1 == (bt t104 x9_1))), (wrap64 (x9_1 + 1)), (by first | rfl | (simp; done) | (simp [*]; done)), (by first | rfl | (simp; done) | (simp [*]; done)), H', ⟨by have := HK1.out; have := HJ5.out; omega⟩, by repeat (first | exact Drawn0.refl _ | apply Drawn0.step)⟩
          ·rw [if_neg c40] at H
           exact absurd H (by simp)
         ·rw [if_neg c39] at H
          exact absurd H (by simp)
   ·rw [if_neg c5] at H
    have c5b0 : decide (x9_1 < (t104.size : Int)) = false := decide_eq_false c5
    clear c5
    simp only [Option.some.injEq, Prod.mk.injEq] at H
    obtain ⟨rfl, rfl, rfl⟩ := H
    go_wp2
    repeat (go_quiet (fail); try go_wp2)
    go_ret3
    exact ⟨by first | rfl | (simp; done) | (simp [*]; done), by repeat (first | exact Drawn0.refl _ | apply Drawn0.step)⟩

/-! ### glob_one: function 90 -/
def glob_one.f (k : Nat) (a0 : ByteArray) (a1 : Int) : Option (ByteArray × Bool) := if 0 < (a0.size : Int) then (if (bt a0 0) = 63 then (if 1 ≤ (a0.size : Int) then (some (a0.extract 1 a0.size, true)) else (none)) else (if (bt a0 0) = 91 then (if 1 ≤ (a0.size : Int) then ((glob_class.f k (a0.extract 1 a0.size) a1).bind fun bt105 => (if bt105.2.2 = true then (some (bt105.2.1, bt105.1)) else (some (a0.extract 1 a0.size, ((bt a0 0) == a1))))) else (none)) else (if (bt a0 0) = 92 then (if (a0.size : Int) > 1 then (if 2 ≤ (a0.size : Int) then (if 1 < (a0.size : Int) then (some (a0.extract 2 a0.size, ((bt a0 1) == a1))) else (none)) else (none)) else (if 1 ≤ (a0.size : Int) then (some (a0.extract 1 a0.size, ((bt a0 0) == a1))) else (none))) else (if 1 ≤ (a0.size : Int) then (some (a0.extract 1 a0.size, ((bt a0 0) == a1))) else (none))))) else (none)
theorem glob_one.mono : ∀ a0 a1 k, LeO (glob_one.f k a0 a1) (glob_one.f (k + 1) a0 a1) := by
 intro a0 a1 k
 unfold glob_one.f
 repeat' first
   | (with_reducible exact glob_class.mono _ _ _)
   | (with_reducible exact LeO.refl _)
   | (with_reducible exact LeO.none _)
   | (with_reducible refine LeO.ite ?_ ?_)
   | (with_reducible refine LeO.bind ?_ (fun _ => ?_))
   | exact glob_class.mono _ _ _
   | exact LeO.none _
   | refine LeO.ite ?_ ?_
   | refine LeO.bind ?_ (fun _ => ?_)
set_option maxHeartbeats 8000000 in
set_option maxRecDepth 100000 in
theorem glob_one.calls (k : Nat) (a0 : ByteArray) (a1 : Int) (r1 : ByteArray) (r2 : Bool) (w : World) (h : glob_one.f k a0 a1 = some (r1, r2)) :
  Calls Tryd.prog 90 #[.string a0, .int .u8 a1] w fun e w' => e = .returned (.tuple #[.string r1, .bool r2]) ∧ Drawn0 w w' := by
 have H : (if 0 < (a0.size : Int) then (if (bt a0 0) = 63 then (if 1 ≤ (a0.size : Int) then (some (a0.extract 1 a0.size, true)) else (none)) else (if (bt a0 0) = 91 then (if 1 ≤ (a0.size : Int) then ((glob_class.f k (a0.extract 1 a0.size) a1).bind fun bt105 => (if bt105.2.2 = true then (some (bt105.2.1, bt105.1)) else (some (a0.extract 1 a0.size, ((bt a0 0) == a1))))) else (none)) else (if (bt a0 0) = 92 then (if (a0.size : Int) > 1 then (if 2 ≤ (a0.size : Int) then (if 1 < (a0.size : Int) then (some (a0.extract 2 a0.size, ((bt a0 1) == a1))) else (none)) else (none)) else (if 1 ≤ (a0.size : Int) then (some (a0.extract 1 a0.size, ((bt a0 0) == a1))) else (none))) else (if 1 ≤ (a0.size : Int) then (some (a0.extract 1 a0.size, ((bt a0 0) == a1))) else (none))))) else (none)) = some (r1, r2) := h
 clear h
 by_cases c3 : 0 < (a0.size : Int)
 ·rw [if_pos c3] at H
  have c3b0 : decide (0 < (a0.size : Int)) = true := decide_eq_true c3
  have c3b1 : decide (0 < a0.size) = true := decide_eq_true (by omega)
  clear c3
  by_cases c5 : (bt a0 0) = 63
  ·rw [if_pos c5] at H
   have c5b0 : ((bt a0 0) == 63) = true := beq_iff_eq.mpr c5
   have c5b1 : ((bt a0 0) != 63) = false := bne_eq_false_iff_eq.mpr c5
   clear c5
   by_cases c6 : 1 ≤ (a0.size : Int)
   ·rw [if_pos c6] at H
    have c6b0 := eq_true c6
    have c6b1 : decide (1 ≤ (a0.size : Int)) = true := decide_eq_true c6
    clear c6
    simp only [Option.some.injEq, Prod.mk.injEq] at H
    obtain ⟨rfl, rfl⟩ := H
    have p4 : 0 ≤ (0 : Int) := (by omega)
    have q4 : 0 < a0.size := (by have : (0 : Int) < (a0.size : Int) := of_decide_eq_true (by first | (with_reducible assumption) | assumption); omega)
    have hx4 : ∀ h : 0 < a0.size, ((a0[0]'h).toNat : Int) = bt a0 0 := bt_at a0 0
    clear p4
    have qi4 : (0 < (a0.size : Int)) = True := eq_true (of_decide_eq_true (by first | (with_reducible assumption) | assumption))
    replace q4 := eq_true q4
    go_enter Tryd.func90, Tryd.ntmps90
    go_wp2
    repeat (go_quiet (fail); try go_wp2)
    go_ret2
    exact ⟨by first | rfl | (simp; done) | (simp [*]; done), by repeat (first | exact Drawn0.refl _ | apply Drawn0.step)⟩
   ·rw [if_neg c6] at H
    exact absurd H (by simp)
  ·rw [if_neg c5] at H
   have c5b0 : ((bt a0 0) == 63) = false := beq_eq_false_iff_ne.mpr c5
   have c5b1 : ((bt a0 0) != 63) = true := bne_iff_ne.mpr c5
   by_cases c7 : (bt a0 0) = 91
   ·rw [if_pos c7] at H
    have c7b0 : ((bt a0 0) == 91) = true := beq_iff_eq.mpr c7
    have c7b1 : ((bt a0 0) != 91) = false := bne_eq_false_iff_eq.mpr c7
    clear c7
    by_cases c8 : 1 ≤ (a0.size : Int)
    ·rw [if_pos c8] at H
     have c8b0 := eq_true c8
     have c8b1 : decide (1 ≤ (a0.size : Int)) = true := decide_eq_true c8
     clear c8
     replace H := Option.bind_eq_some_iff.mp H
     obtain ⟨⟨t105, t106, t107⟩, A90, H⟩ := H
     replace H : (if t107 = true then (some (t106, t105)) else (some (a0.extract 1 a0.size, ((bt a0 0) == a1)))) = some (r1, r2) := H
     have A9 := Aside0.mk A90
     clear A90
     by_cases c10 : t107 = true
     ·subst c10
      have H1 : (some (t106, t105)) = some (r1, r2) := by rw [if_pos rfl] at H; exact H
      clear H
      have H := H1
      clear H1
      simp only [Option.some.injEq, Prod.mk.injEq] at H
      obtain ⟨rfl, rfl⟩ := H
      have p4 : 0 ≤ (0 : Int) := (by omega)
      have q4 : 0 < a0.size := (by have : (0 : Int) < (a0.size : Int) := of_decide_eq_true (by first | (with_reducible assumption) | assumption); omega)
      have hx4 : ∀ h : 0 < a0.size, ((a0[0]'h).toNat : Int) = bt a0 0 := bt_at a0 0
      clear p4
      have qi4 : (0 < (a0.size : Int)) = True := eq_true (of_decide_eq_true (by first | (with_reducible assumption) | assumption))
      replace q4 := eq_true q4
      go_enter Tryd.func90, Tryd.ntmps90
      go_wp2_with (first | (go_at_call 135; (with_reducible refine (glob_class.calls k (a0.extract 1 a0.size) a1 t105 t106 true _ A9.out).mono ?_); rintro e w' ⟨rfl, ⟨nd, rfl⟩⟩; (try first | exact ⟨rfl, _, World.drewN_drewN _ _ _⟩ | exact ⟨rfl, _, Eq.trans (World.drewN_drewN _ _ _) (congrArg (World.drewN _) (Nat.add_assoc _ _ _))⟩)))
      repeat (go_quiet (first | (go_at_call 135; (with_reducible refine (glob_class.calls k (a0.extract 1 a0.size) a1 t105 t106 true _ A9.out).mono ?_); rintro e w' ⟨rfl, ⟨nd, rfl⟩⟩; (try first | exact ⟨rfl, _, World.drewN_drewN _ _ _⟩ | exact ⟨rfl, _, Eq.trans (World.drewN_drewN _ _ _) (congrArg (World.drewN _) (Nat.add_assoc _ _ _))⟩))); try go_wp2_with (first | (go_at_call 135; (with_reducible refine (glob_class.calls k (a0.extract 1 a0.size) a1 t105 t106 true _ A9.out).mono ?_); rintro e w' ⟨rfl, ⟨nd, rfl⟩⟩; (try first | exact ⟨rfl, _, World.drewN_drewN _ _ _⟩ | exact ⟨rfl, _, Eq.trans (World.drewN_drewN _ _ _) (congrArg (World.drewN _) (Nat.add_assoc _ _ _))⟩))))
      go_ret2
      exact ⟨by first | rfl | (simp; done) | (simp [*]; done), by repeat (first | exact Drawn0.refl _ | apply Drawn0.step)⟩
     ·replace c10 := Bool.eq_false_iff.mpr c10
      subst c10
      have H1 : (some (a0.extract 1 a0.size, ((bt a0 0) == a1))) = some (r1, r2) := by rw [if_neg (show ¬ (false = true) by decide)] at H; exact H
      clear H
      have H := H1
      clear H1
      have c11b0 := eq_true (of_decide_eq_true (by first | (with_reducible assumption) | assumption) : 1 ≤ (a0.size : Int))
      simp only [Option.some.injEq, Prod.mk.injEq] at H
      obtain ⟨rfl, rfl⟩ := H
      have p4 : 0 ≤ (0 : Int) := (by omega)
      have q4 : 0 < a0.size := (by have : (0 : Int) < (a0.size : Int) := of_decide_eq_true (by first | (with_reducible assumption) | assumption); omega)
      have hx4 : ∀ h : 0 < a0.size, ((a0[0]'h).toNat : Int) = bt a0 0 := bt_at a0 0
      clear p4
      have qi4 : (0 < (a0.size : Int)) = True := eq_true (of_decide_eq_true (by first | (with_reducible assumption) | assumption))
      replace q4 := eq_true q4
      go_enter Tryd.func90, Tryd.ntmps90
      go_wp2_with (first | (go_at_call 135; (with_reducible refine (glob_class.calls k (a0.extract 1 a0.size) a1 t105 t106 false _ A9.out).mono ?_); rintro e w' ⟨rfl, ⟨nd, rfl⟩⟩; (try first | exact ⟨rfl, _, World.drewN_drewN _ _ _⟩ | exact ⟨rfl, _, Eq.trans (World.drewN_drewN _ _ _) (congrArg (World.drewN _) (Nat.add_assoc _ _ _))⟩); have p12 : 0 ≤ (0 : Int) := (by omega); have q12 : 0 < a0.size := (by have : (0 : Int) < (a0.size : Int) := of_decide_eq_true (by first | (with_reducible assumption) | assumption); omega); have hx12 : ∀ h : 0 < a0.size, ((a0[0]'h).toNat : Int) = bt a0 0 := bt_at a0 0; clear p12; have qi12 : (0 < (a0.size : Int)) = True := eq_true (of_decide_eq_true (by first | (with_reducible assumption) | assumption)); replace q12 := eq_true q12))
      repeat (go_quiet (first | (go_at_call 135; (with_reducible refine (glob_class.calls k (a0.extract 1 a0.size) a1 t105 t106 false _ A9.out).mono ?_); rintro e w' ⟨rfl, ⟨nd, rfl⟩⟩; (try first | exact ⟨rfl, _, World.drewN_drewN _ _ _⟩ | exact ⟨rfl, _, Eq.trans (World.drewN_drewN _ _ _) (congrArg (World.drewN _) (Nat.add_assoc _ _ _))⟩); have p12 : 0 ≤ (0 : Int) := (by omega); have q12 : 0 < a0.size := (by have : (0 : Int) < (a0.size : Int) := of_decide_eq_true (by first | (with_reducible assumption) | assumption); omega); have hx12 : ∀ h : 0 < a0.size, ((a0[0]'h).toNat : Int) = bt a0 0 := bt_at a0 0; clear p12; have qi12 : (0 < (a0.size : Int)) = True := eq_true (of_decide_eq_true (by first | (with_reducible assumption) | assumption)); replace q12 := eq_true q12)); try go_wp2_with (first | (go_at_call 135; (with_reducible refine (glob_class.calls k (a0.extract 1 a0.size) a1 t105 t106 false _ A9.out).mono ?_); rintro e w' ⟨rfl, ⟨nd, rfl⟩⟩; (try first | exact ⟨rfl, _, World.drewN_drewN _ _ _⟩ | exact ⟨rfl, _, Eq.trans (World.drewN_drewN _ _ _) (congrArg (World.drewN _) (Nat.add_assoc _ _ _))⟩); have p12 : 0 ≤ (0 : Int) := (by omega); have q12 : 0 < a0.size := (by have : (0 : Int) < (a0.size : Int) := of_decide_eq_true (by first | (with_reducible assumption) | assumption); omega); have hx12 : ∀ h : 0 < a0.size, ((a0[0]'h).toNat : Int) = bt a0 0 := bt_at a0 0; clear p12; have qi12 : (0 < (a0.size : Int)) = True := eq_true (of_decide_eq_true (by first | (with_reducible assumption) | assumption)); replace q12 := eq_true q12)))
      go_ret2
      exact ⟨by first | rfl | (simp; done) | (simp [*]; done), by repeat (first | exact Drawn0.refl _ | apply Drawn0.step)⟩
    ·rw [if_neg c8] at H
     exact absurd H (by simp)
   ·rw [if_neg c7] at H
    have c7b0 : ((bt a0 0) == 91) = false := beq_eq_false_iff_ne.mpr c7
    have c7b1 : ((bt a0 0) != 91) = true := bne_iff_ne.mpr c7
    by_cases c13 : (bt a0 0) = 92
    ·rw [if_pos c13] at H
     have c13b0 : ((bt a0 0) == 92) = true := beq_iff_eq.mpr c13
     have c13b1 : ((bt a0 0) != 92) = false := bne_eq_false_iff_eq.mpr c13
     clear c13
     by_cases c14 : (a0.size : Int) > 1
     ·rw [if_pos c14] at H
      have c14b0 : decide (1 < (a0.size : Int)) = true := decide_eq_true c14
      have c14b1 : decide (1 < a0.size) = true := decide_eq_true (by omega)
      clear c14
      by_cases c15 : 2 ≤ (a0.size : Int)
      ·rw [if_pos c15] at H
       have c15b0 := eq_true c15
       have c15b1 : decide (2 ≤ (a0.size : Int)) = true := decide_eq_true c15
       clear c15
       by_cases c16 : 1 < (a0.size : Int)
       ·rw [if_pos c16] at H
        have c16b0 : decide (1 < (a0.size : Int)) = true := decide_eq_true c16
        have c16b1 : decide (1 < a0.size) = true := decide_eq_true (by omega)
        clear c16
        simp only [Option.some.injEq, Prod.mk.injEq] at H
        obtain ⟨rfl, rfl⟩ := H
        have p4 : 0 ≤ (0 : Int) := (by omega)
        have q4 : 0 < a0.size := (by have : (0 : Int) < (a0.size : Int) := of_decide_eq_true (by first | (with_reducible assumption) | assumption); omega)
        have hx4 : ∀ h : 0 < a0.size, ((a0[0]'h).toNat : Int) = bt a0 0 := bt_at a0 0
        clear p4
        have qi4 : (0 < (a0.size : Int)) = True := eq_true (of_decide_eq_true (by first | (with_reducible assumption) | assumption))
        replace q4 := eq_true q4
        have p17 : 0 ≤ (1 : Int) := (by omega)
        have q17 : 1 < a0.size := (by have : (1 : Int) < (a0.size : Int) := of_decide_eq_true (by first | (with_reducible assumption) | assumption); omega)
        have hx17 : ∀ h : 1 < a0.size, ((a0[1]'h).toNat : Int) = bt a0 1 := bt_at a0 1
        clear p17
        have qi17 : (1 < (a0.size : Int)) = True := eq_true (of_decide_eq_true (by first | (with_reducible assumption) | assumption))
        replace q17 := eq_true q17
        go_enter Tryd.func90, Tryd.ntmps90
        go_wp2
        repeat (go_quiet (fail); try go_wp2)
        go_ret2
        exact ⟨by first | rfl | (simp; done) | (simp [*]; done), by repeat (first | exact Drawn0.refl _ | apply Drawn0.step)⟩
       ·rw [if_neg c16] at H
        exact absurd H (by simp)
      ·rw [if_neg c15] at H
       exact absurd H (by simp)
     ·rw [if_neg c14] at H
      have c14b0 : decide (1 < (a0.size : Int)) = false := decide_eq_false c14
      have c14b1 : decide (1 < a0.size) = false := decide_eq_false (by omega)
      clear c14
      by_cases c18 : 1 ≤ (a0.size : Int)
      ·rw [if_pos c18] at H
       have c18b0 := eq_true c18
       have c18b1 : decide (1 ≤ (a0.size : Int)) = true := decide_eq_true c18
       clear c18
       simp only [Option.some.injEq, Prod.mk.injEq] at H
       obtain ⟨rfl, rfl⟩ := H
       have p4 : 0 ≤ (0 : Int) := (by omega)
       have q4 : 0 < a0.size := (by have : (0 : Int) < (a0.size : Int) := of_decide_eq_true (by first | (with_reducible assumption) | assumption); omega)
       have hx4 : ∀ h : 0 < a0.size, ((a0[0]'h).toNat : Int) = bt a0 0 := bt_at a0 0
       clear p4
       have qi4 : (0 < (a0.size : Int)) = True := eq_true (of_decide_eq_true (by first | (with_reducible assumption) | assumption))
       replace q4 := eq_true q4
       have p19 : 0 ≤ (0 : Int) := (by omega)
       have q19 : 0 < a0.size := (by have : (0 : Int) < (a0.size : Int) := of_decide_eq_true (by first | (with_reducible assumption) | assumption); omega)
       have hx19 : ∀ h : 0 < a0.size, ((a0[0]'h).toNat : Int) = bt a0 0 := bt_at a0 0
       clear p19
       have qi19 : (0 < (a0.size : Int)) = True := eq_true (of_decide_eq_true (by first | (with_reducible assumption) | assumption))
       replace q19 := eq_true q19
       go_enter Tryd.func90, Tryd.ntmps90
       go_wp2
       repeat (go_quiet (fail); try go_wp2)
       go_ret2
       exact ⟨by first | rfl | (simp; done) | (simp [*]; done), by repeat (first | exact Drawn0.refl _ | apply Drawn0.step)⟩
      ·rw [if_neg c18] at H
       exact absurd H (by simp)
    ·rw [if_neg c13] at H
     have c13b0 : ((bt a0 0) == 92) = false := beq_eq_false_iff_ne.mpr c13
     have c13b1 : ((bt a0 0) != 92) = true := bne_iff_ne.mpr c13
     by_cases c20 : 1 ≤ (a0.size : Int)
     ·rw [if_pos c20] at H
      have c20b0 := eq_true c20
      have c20b1 : decide (1 ≤ (a0.size : Int)) = true := decide_eq_true c20
      clear c20
      simp only [Option.some.injEq, Prod.mk.injEq] at H
      obtain ⟨rfl, rfl⟩ := H
      have p4 : 0 ≤ (0 : Int) := (by omega)
      have q4 : 0 < a0.size := (by have : (0 : Int) < (a0.size : Int) := of_decide_eq_true (by first | (with_reducible assumption) | assumption); omega)
      have hx4 : ∀ h : 0 < a0.size, ((a0[0]'h).toNat : Int) = bt a0 0 := bt_at a0 0
      clear p4
      have qi4 : (0 < (a0.size : Int)) = True := eq_true (of_decide_eq_true (by first | (with_reducible assumption) | assumption))
      replace q4 := eq_true q4
      have p21 : 0 ≤ (0 : Int) := (by omega)
      have q21 : 0 < a0.size := (by have : (0 : Int) < (a0.size : Int) := of_decide_eq_true (by first | (with_reducible assumption) | assumption); omega)
      have hx21 : ∀ h : 0 < a0.size, ((a0[0]'h).toNat : Int) = bt a0 0 := bt_at a0 0
      clear p21
      have qi21 : (0 < (a0.size : Int)) = True := eq_true (of_decide_eq_true (by first | (with_reducible assumption) | assumption))
      replace q21 := eq_true q21
      go_enter Tryd.func90, Tryd.ntmps90
      go_wp2
      repeat (go_quiet (fail); try go_wp2)
      go_ret2
      exact ⟨by first | rfl | (simp; done) | (simp [*]; done), by repeat (first | exact Drawn0.refl _ | apply Drawn0.step)⟩
     ·rw [if_neg c20] at H
      exact absurd H (by simp)
 ·rw [if_neg c3] at H
  exact absurd H (by simp)

end Go.Proofs.YtgpabkdmagifjaaDoor.XW02
