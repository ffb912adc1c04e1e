-- compact
/- Laid for this claim by the session's own program xprint.py, over the print of the kit: functions of the program as plain Lean functions, each with a proof that a call comes to what its function says, or the row of a law out of these; no condition of its own. -/
import Derived.Test.YtgpabkdmagifjaaDoorXW02x0
import Derived.Test.YtgpabkdmagifjaaDoorXW02x3
import Derived.Test.YtgpabkdmagifjaaDoorXW02x4
import Derived.Test.YtgpabkdmagifjaaDoorXW02x9
namespace Go.Proofs.YtgpabkdmagifjaaDoor.XW02
open Go.Proofs.YtgpabkdmagifjaaDoor.X Go.RowKit Go.Proofs.YtgpabkdmagifjaaDoorW.PrintWords Go.Proofs.YtgpabkdmagifjaaDoorW.PrintLast Go.Proofs.YtgpabkdmagifjaaDoorW.PrintMore
attribute [local go_sem] cell4_1 cell4_1d max2_int min2_int max_two min_two max_three min_three max_four min_four   -- for this text's walks alone
set_option linter.unusedVariables false
set_option linter.unusedSimpArgs false

/-! ### flatironlaw02_GlobPaths: function 9 -/
def flatironlaw02_GlobPaths.j0 : Nat → ByteArray → ByteArray → Bool → Option (Bool)
 | 0, _, _, _ => none
 | k + 1, x0, x1, x16 => if x16 = true then ((flatironlaw02_lives.f k).bind fun t254 => (some t254)) else ((glob_Path.f k x0 x1).bind fun t255 => ((flatironref02_Path.f k x0 x1).bind fun t256 => (some (t255 == t256))))
def flatironlaw02_GlobPaths.f (k : Nat) (a0 : ByteArray) (a1 : ByteArray) : Option (Bool) := (flatironlaw02_lives.f k).bind fun t253 => (if t253 = true then (if (a0.size : Int) > 24 then (flatironlaw02_GlobPaths.j0 k a0 a1 true) else (flatironlaw02_GlobPaths.j0 k a0 a1 (decide ((a1.size : Int) > 40)))) else (flatironlaw02_GlobPaths.j0 k a0 a1 true))
theorem flatironlaw02_GlobPaths.mono_l : ∀ k, (∀ y0 y1 y2, LeO (flatironlaw02_GlobPaths.j0 k y0 y1 y2) (flatironlaw02_GlobPaths.j0 (k + 1) y0 y1 y2))
 | 0 => fun _ _ _ r h => by simp [flatironlaw02_GlobPaths.j0] at h
 | k + 1 => by
  have ih0 := flatironlaw02_GlobPaths.mono_l k
  ·intro y0 y1 y2
   unfold flatironlaw02_GlobPaths.j0
   repeat' first
   | (with_reducible exact ih0 _ _ _)
   | (with_reducible exact flatironlaw02_lives.mono _)
   | (with_reducible exact flatironref02_Path.mono _ _ _)
   | (with_reducible exact glob_Path.mono _ _ _)
   | (with_reducible exact LeO.refl _)
   | (with_reducible exact LeO.none _)
   | (with_reducible refine LeO.ite ?_ ?_)
   | (with_reducible refine LeO.bind ?_ (fun _ => ?_))
   | exact ih0 _ _ _
   | exact flatironlaw02_lives.mono _
   | exact flatironref02_Path.mono _ _ _
   | exact glob_Path.mono _ _ _
   | exact LeO.none _
   | refine LeO.ite ?_ ?_
   | refine LeO.bind ?_ (fun _ => ?_)
theorem flatironlaw02_GlobPaths.mono : ∀ a0 a1 k, LeO (flatironlaw02_GlobPaths.f k a0 a1) (flatironlaw02_GlobPaths.f (k + 1) a0 a1) := by
 intro a0 a1 k
 have ih0 := flatironlaw02_GlobPaths.mono_l k
 unfold flatironlaw02_GlobPaths.f
 repeat' first
   | (with_reducible exact ih0 _ _ _)
   | (with_reducible exact flatironlaw02_lives.mono _)
   | (with_reducible exact flatironref02_Path.mono _ _ _)
   | (with_reducible exact glob_Path.mono _ _ _)
   | (with_reducible exact LeO.refl _)
   | (with_reducible exact LeO.none _)
   | (with_reducible refine LeO.ite ?_ ?_)
   | (with_reducible refine LeO.bind ?_ (fun _ => ?_))
   | exact ih0 _ _ _
   | exact flatironlaw02_lives.mono _
   | exact flatironref02_Path.mono _ _ _
   | exact glob_Path.mono _ _ _
   | exact LeO.none _
   | refine LeO.ite ?_ ?_
   | refine LeO.bind ?_ (fun _ => ?_)
set_option maxHeartbeats 8000000 in
set_option maxRecDepth 100000 in
theorem flatironlaw02_GlobPaths.calls (k : Nat) (a0 : ByteArray) (a1 : ByteArray) (r : Bool) (w : World) (hSH : Shp w) (h : flatironlaw02_GlobPaths.f k a0 a1 = some r) :
  Calls Tryd.prog 9 #[.string a0, .string a1] w fun e w' => e = .returned (.bool r) ∧ Below w.heap.size w w' := by
 have HSH := Aside0.mk hSH
 clear hSH
 have HB := Aside0.mk (Below.refl w.heap.size w)
 have H : ((flatironlaw02_lives.f k).bind fun t253 => (if t253 = true then (if (a0.size : Int) > 24 then (flatironlaw02_GlobPaths.j0 k a0 a1 true) else (flatironlaw02_GlobPaths.j0 k a0 a1 (decide ((a1.size : Int) > 40)))) else (flatironlaw02_GlobPaths.j0 k a0 a1 true))) = some r := h
 clear h
 have HC3 := Aside0.mk H
 clear H
 go_enter Tryd.func9, Tryd.ntmps9
 go_upto_region 1 with (fail)
 go_cut [16] (fun v16 wc => ∃ (kq : Nat) (x16_2 : Bool), v16 = .bool x16_2 ∧ Aside0 (flatironlaw02_GlobPaths.j0 kq a0 a1 x16_2 = some r) ∧ Aside0 (kq ≤ k) ∧ Aside0 (Below w.heap.size w wc))
 case first =>
  have H := HC3.out
  clear HC3
  replace H := Option.bind_eq_some_iff.mp H
  obtain ⟨t253, A40, H⟩ := H
  replace H : (if t253 = true then (if (a0.size : Int) > 24 then (flatironlaw02_GlobPaths.j0 k a0 a1 true) else (flatironlaw02_GlobPaths.j0 k a0 a1 (decide ((a1.size : Int) > 40)))) else (flatironlaw02_GlobPaths.j0 k a0 a1 true)) = some r := H
  have A4 := Aside0.mk A40
  clear A40
  by_cases c5 : t253 = true
  ·subst c5
   have H1 : (if (a0.size : Int) > 24 then (flatironlaw02_GlobPaths.j0 k a0 a1 true) else (flatironlaw02_GlobPaths.j0 k a0 a1 (decide ((a1.size : Int) > 40)))) = some r := by rw [if_pos rfl] at H; exact H
   clear H
   have H := H1
   clear H1
   by_cases c6 : (a0.size : Int) > 24
   ·rw [if_pos c6] at H
    have c6b0 : decide (24 < (a0.size : Int)) = true := decide_eq_true c6
    have c6b1 : decide (24 < a0.size) = true := decide_eq_true (by omega)
    clear c6
    (first | rw [c6b0] | (simp only [i64_w, i32_w]; rw [c6b0]) | skip)
    have H' := Aside0.mk H
    clear H
    go_wp2_with (first | ((with_reducible refine gate_callee (f := 34) rfl ?_); refine goesL_ (some 5) rfl rfl Tryd.func34 (by kernel_rfl) rfl #[] rfl (by (try simp only [List.map_toArray, List.map_cons, List.map_nil]); first | done | rfl | (simp only [List.length_drop, List.length_take]; rfl)) ?_; (with_reducible refine (flatironlaw02_lives.calls k  true _ ?side1 A4.out).mono ?_); (case side1 => first | exact HSH.out | exact Shp.below HSH.out (by repeat (first | (with_reducible first | exact HB.out | apply below_alloc | apply pw_below_drewN | apply below_drew1) | exact HB.out))); rintro e w7 ⟨rfl, hb⟩; refine ⟨_, rfl, ?_⟩; have n0_ := Aside0.mk (below_step (by repeat (first | (with_reducible first | exact HB.out | apply below_alloc | apply pw_below_drewN | apply below_drew1) | exact HB.out)) hb); clear HB; have HB := n0_; clear n0_; (try clear hb); (try clear hb2); (try clear hk); (try clear hi)))
    go_meet
    case rel => exact ⟨_, (true), (by first | rfl | (simp; done) | (simp [*]; done)), H', ⟨by first | omega | exact Nat.le_refl _⟩, ⟨by repeat (first | (with_reducible first | exact HB.out | apply below_alloc | apply pw_below_drewN | apply below_drew1) | exact HB.out)⟩⟩
   ·rw [if_neg c6] at H
    have c6b0 : decide (24 < (a0.size : Int)) = false := decide_eq_false c6
    have c6b1 : decide (24 < a0.size) = false := decide_eq_false (by omega)
    clear c6
    (first | rw [c6b0] | (simp only [i64_w, i32_w]; rw [c6b0]) | skip)
    have H' := Aside0.mk H
    clear H
    go_wp2_with (first | ((with_reducible refine gate_callee (f := 34) rfl ?_); refine goesL_ (some 5) rfl rfl Tryd.func34 (by kernel_rfl) rfl #[] rfl (by (try simp only [List.map_toArray, List.map_cons, List.map_nil]); first | done | rfl | (simp only [List.length_drop, List.length_take]; rfl)) ?_; (with_reducible refine (flatironlaw02_lives.calls k  true _ ?side1 A4.out).mono ?_); (case side1 => first | exact HSH.out | exact Shp.below HSH.out (by repeat (first | (with_reducible first | exact HB.out | apply below_alloc | apply pw_below_drewN | apply below_drew1) | exact HB.out))); rintro e w8 ⟨rfl, hb⟩; refine ⟨_, rfl, ?_⟩; have n0_ := Aside0.mk (below_step (by repeat (first | (with_reducible first | exact HB.out | apply below_alloc | apply pw_below_drewN | apply below_drew1) | exact HB.out)) hb); clear HB; have HB := n0_; clear n0_; (try clear hb); (try clear hb2); (try clear hk); (try clear hi)))
    go_meet
    case rel => exact ⟨_, (decide ((a1.size : Int) > 40)), (by first | rfl | (simp; done) | (simp [*]; done)), H', ⟨by first | omega | exact Nat.le_refl _⟩, ⟨by repeat (first | (with_reducible first | exact HB.out | apply below_alloc | apply pw_below_drewN | apply below_drew1) | exact HB.out)⟩⟩
  ·replace c5 := Bool.eq_false_iff.mpr c5
   subst c5
   have H1 : (flatironlaw02_GlobPaths.j0 k a0 a1 true) = some r := by rw [if_neg (show ¬ (false = true) by decide)] at H; exact H
   clear H
   have H := H1
   clear H1
   have H' := Aside0.mk H
   clear H
   go_wp2_with (first | ((with_reducible refine gate_callee (f := 34) rfl ?_); refine goesL_ (some 5) rfl rfl Tryd.func34 (by kernel_rfl) rfl #[] rfl (by (try simp only [List.map_toArray, List.map_cons, List.map_nil]); first | done | rfl | (simp only [List.length_drop, List.length_take]; rfl)) ?_; (with_reducible refine (flatironlaw02_lives.calls k  false _ ?side1 A4.out).mono ?_); (case side1 => first | exact HSH.out | exact Shp.below HSH.out (by repeat (first | (with_reducible first | exact HB.out | apply below_alloc | apply pw_below_drewN | apply below_drew1) | exact HB.out))); rintro e w9 ⟨rfl, hb⟩; refine ⟨_, rfl, ?_⟩; have n0_ := Aside0.mk (below_step (by repeat (first | (with_reducible first | exact HB.out | apply below_alloc | apply pw_below_drewN | apply below_drew1) | exact HB.out)) hb); clear HB; have HB := n0_; clear n0_; (try clear hb); (try clear hb2); (try clear hk); (try clear hi)))
   go_meet
   case rel => exact ⟨_, (true), (by first | rfl | (simp; done) | (simp [*]; done)), H', ⟨by first | omega | exact Nat.le_refl _⟩, ⟨by repeat (first | (with_reducible first | exact HB.out | apply below_alloc | apply pw_below_drewN | apply below_drew1) | exact HB.out)⟩⟩
 case rest =>
  clear HC3
  try clear p2
  try clear c3
  try clear c5
  try clear c6
  try clear c6b0
  try clear c6b1
  try clear c9
  obtain ⟨kq, x16_2, rfl, HA, HJ2, HB⟩ := hcut
  cases kq with
  | zero => exact absurd HA.out (by simp [flatironlaw02_GlobPaths.j0])
  | succ kj2 =>
   have H := HA.out
   clear HA
   simp only [flatironlaw02_GlobPaths.j0] at H
   by_cases c10 : x16_2 = true
   ·subst c10
    have H1 : ((flatironlaw02_lives.f kj2).bind fun t254 => (some t254)) = some r := by rw [if_pos rfl] at H; exact H
    clear H
    have H := H1
    clear H1
    replace H := Option.bind_eq_some_iff.mp H
    obtain ⟨t254, A110, H⟩ := H
    replace H : (some t254) = some r := H
    have A11 := Aside0.mk A110
    clear A110
    obtain rfl := Option.some.inj H
    go_wp2_with (first | ((with_reducible refine gate_callee (f := 34) rfl ?_); refine goesL_ (some 17) rfl rfl Tryd.func34 (by kernel_rfl) rfl #[] rfl (by (try simp only [List.map_toArray, List.map_cons, List.map_nil]); first | done | rfl | (simp only [List.length_drop, List.length_take]; rfl)) ?_; (with_reducible refine (flatironlaw02_lives.calls kj2  t254 _ ?side1 A11.out).mono ?_); (case side1 => first | exact HSH.out | exact Shp.below HSH.out (by repeat (first | (with_reducible first | exact HB.out | apply below_alloc | apply pw_below_drewN | apply below_drew1) | exact HB.out))); rintro e w12 ⟨rfl, hb⟩; refine ⟨_, rfl, ?_⟩; have n0_ := Aside0.mk (below_step (by repeat (first | (with_reducible first | exact HB.out | apply below_alloc | apply pw_below_drewN | apply below_drew1) | exact HB.out)) hb); clear HB; have HB := n0_; clear n0_; (try clear hb); (try clear hb2); (try clear hk); (try clear hi)))
    go_ret
    exact ⟨by first | rfl | (simp [errW_none, errW_some] <;> rfl) | (simp [*, errW_none, errW_some] <;> rfl), by repeat (first | (with_reducible first | exact HB.out | apply below_alloc | apply pw_below_drewN | apply below_drew1) | exact HB.out)⟩
   ·replace c10 := Bool.eq_false_iff.mpr c10
    subst c10
    have H1 : ((glob_Path.f kj2 a0 a1).bind fun t255 => ((flatironref02_Path.f kj2 a0 a1).bind fun t256 => (some (t255 == t256)))) = some r := by rw [if_neg (show ¬ (false = true) by decide)] at H; exact H
    clear H
    have H := H1
    clear H1
    replace H := Option.bind_eq_some_iff.mp H
    obtain ⟨t255, A130, H⟩ := H
    replace H : ((flatironref02_Path.f kj2 a0 a1).bind fun t256 => (some (t255 == t256))) = some r := H
    have A13 := Aside0.mk A130
    clear A130
    replace H := Option.bind_eq_some_iff.mp H
    obtain ⟨t256, A140, H⟩ := H
    replace H : (some (t255 == t256)) = some r := H
    have A14 := Aside0.mk A140
    clear A140
    obtain rfl := Option.some.inj H
    go_wp2_with (first | ((with_reducible refine gate_callee (f := 38) rfl ?_); refine goesL_ (some 20) rfl rfl Tryd.func38 (by kernel_rfl) rfl #[.string a0, .string a1] rfl (by (try simp only [List.map_toArray, List.map_cons, List.map_nil]); first | done | rfl | (simp only [List.length_drop, List.length_take]; rfl)) ?_; (with_reducible refine (glob_Path.calls kj2 a0 a1 t255 _ ?side1 A13.out).mono ?_); (case side1 => first | exact HSH.out | exact Shp.below HSH.out (by repeat (first | (with_reducible first | exact HB.out | apply below_alloc | apply pw_below_drewN | apply below_drew1) | exact HB.out))); rintro e w15 ⟨rfl, hb⟩; refine ⟨_, rfl, ?_⟩; have n0_ := Aside0.mk (below_step (by repeat (first | (with_reducible first | exact HB.out | apply below_alloc | apply pw_below_drewN | apply below_drew1) | exact HB.out)) hb); clear HB; have HB := n0_; clear n0_; (try clear hb); (try clear hb2); (try clear hk); (try clear hi)) | ((with_reducible refine gate_callee (f := 39) rfl ?_); refine goesL_ (some 23) rfl rfl Tryd.func39 (by kernel_rfl) rfl #[.string a0, .string a1] rfl (by (try simp only [List.map_toArray, List.map_cons, List.map_nil]); first | done | rfl | (simp only [List.length_drop, List.length_take]; rfl)) ?_; (with_reducible refine (flatironref02_Path.calls kj2 a0 a1 t256 _ A14.out).mono ?_); rintro e w16 ⟨rfl, hb⟩; refine ⟨_, rfl, ?_⟩; have n0_ := Aside0.mk (below_step (by repeat (first | (with_reducible first | exact HB.out | apply below_alloc | apply pw_below_drewN | apply below_drew1) | exact HB.out)) hb); clear HB; have HB := n0_; clear n0_; (try clear hb); (try clear hb2); (try clear hk); (try clear hi)))
    go_ret
    exact ⟨by first | rfl | (simp [errW_none, errW_some] <;> rfl) | (simp [*, errW_none, errW_some] <;> rfl), by repeat (first | (with_reducible first | exact HB.out | apply below_alloc | apply pw_below_drewN | apply below_drew1) | exact HB.out)⟩

end Go.Proofs.YtgpabkdmagifjaaDoor.XW02
