-- compact
/- Laid for this claim by the session's own program xprint.py, over the print of the kit: functions of the program as plain Lean functions, each with a proof that a call comes to what its function says, or the row of a law out of these; no condition of its own. -/
import Derived.Test.YtgpabkdmagifjaaDoorXW02x0
import Derived.Test.YtgpabkdmagifjaaDoorXW02x6
import Derived.Test.YtgpabkdmagifjaaDoorXW02x7
import Derived.Test.YtgpabkdmagifjaaDoorXW02x8
namespace Go.Proofs.YtgpabkdmagifjaaDoor.XW02
open Go.Proofs.YtgpabkdmagifjaaDoor.X Go.RowKit Go.Proofs.YtgpabkdmagifjaaDoorW.PrintWords Go.Proofs.YtgpabkdmagifjaaDoorW.PrintLast Go.Proofs.YtgpabkdmagifjaaDoorW.PrintMore
attribute [local go_sem] cell4_1 cell4_1d max2_int min2_int max_two min_two max_three min_three max_four min_four   -- for this text's walks alone
set_option linter.unusedVariables false
set_option linter.unusedSimpArgs false

/-! ### flatironref02_Path: function 39 -/
mutual
def flatironref02_Path.j0 : Nat → List ByteArray → List ByteArray → Bool → Option (Bool)
 | 0, _, _, _ => none
 | k + 1, x7, x8, x35 => if x35 = true then (some false) else (flatironref02_Path.l0 k x7 x8 0)
def flatironref02_Path.l0 : Nat → List ByteArray → List ByteArray → Int → Option (Bool)
 | 0, _, _, _ => none
 | k + 1, x7, x8, x9 => if x9 < (x7.length : Int) then (if 0 ≤ x9 then (if x9 < (x8.length : Int) then (if ((rdOf ByteArray.empty x8 x9).size : Int) > 0 then (if 0 < ((rdOf ByteArray.empty x8 x9).size : Int) then (if (bt (rdOf ByteArray.empty x8 x9) 0) = 46 then (if (rdOf ByteArray.empty x7 x9).toList = ([] : List UInt8) then ((flatironref02_Match.f k (rdOf ByteArray.empty x7 x9) (rdOf ByteArray.empty x8 x9)).bind fun t242 => (some false)) else (if 0 < ((rdOf ByteArray.empty x7 x9).size : Int) then ((flatironref02_Match.f k (rdOf ByteArray.empty x7 x9) (rdOf ByteArray.empty x8 x9)).bind fun t246 => (if (bt (rdOf ByteArray.empty x7 x9) 0) = 46 then (if t246 = true then (flatironref02_Path.l0 k x7 x8 (wrap64 (x9 + 1))) else (some false)) else (some false))) else (none))) else ((flatironref02_Match.f k (rdOf ByteArray.empty x7 x9) (rdOf ByteArray.empty x8 x9)).bind fun t249 => (if t249 = true then (flatironref02_Path.l0 k x7 x8 (wrap64 (x9 + 1))) else (some false)))) else (none)) else ((flatironref02_Match.f k (rdOf ByteArray.empty x7 x9) (rdOf ByteArray.empty x8 x9)).bind fun t252 => (if t252 = true then (flatironref02_Path.l0 k x7 x8 (wrap64 (x9 + 1))) else (some false)))) else (none)) else (none)) else (some true)
end
def flatironref02_Path.f (k : Nat) (a0 : ByteArray) (a1 : ByteArray) : Option (Bool) := (flatironref01_Join.f k (([a1] : List ByteArray))).bind fun bt229 => ((flatironref02_Parts.f k a0).bind fun t231 => ((flatironref02_Parts.f k a1).bind fun t234 => (if bt229.2 = true then (if bt229.1.toList = a1.toList then (flatironref02_Path.j0 k t231 t234 ((t231.length : Int) != (t234.length : Int))) else (flatironref02_Path.j0 k t231 t234 true)) else (flatironref02_Path.j0 k t231 t234 true))))
theorem flatironref02_Path.mono_l : ∀ k, (∀ y0 y1 y2, LeO (flatironref02_Path.j0 k y0 y1 y2) (flatironref02_Path.j0 (k + 1) y0 y1 y2)) ∧ (∀ y0 y1 y2, LeO (flatironref02_Path.l0 k y0 y1 y2) (flatironref02_Path.l0 (k + 1) y0 y1 y2))
 | 0 => ⟨fun _ _ _ r h => by simp [flatironref02_Path.j0] at h, fun _ _ _ r h => by simp [flatironref02_Path.l0] at h⟩
 | k + 1 => by
  obtain ⟨ih0, ih1⟩ := flatironref02_Path.mono_l k
  refine ⟨?_, ?_⟩
  ·intro y0 y1 y2
   unfold flatironref02_Path.j0
   repeat' first
   | (with_reducible exact ih0 _ _ _)
   | (with_reducible exact ih1 _ _ _)
   | (with_reducible exact flatironref01_Join.mono _ _)
   | (with_reducible exact flatironref02_Match.mono _ _ _)
   | (with_reducible exact flatironref02_Parts.mono _ _)
   | (with_reducible exact LeO.refl _)
   | (with_reducible exact LeO.none _)
   | (with_reducible refine LeO.ite ?_ ?_)
   | (with_reducible refine LeO.bind ?_ (fun _ => ?_))
   | exact ih0 _ _ _
   | exact ih1 _ _ _
   | exact flatironref01_Join.mono _ _
   | exact flatironref02_Match.mono _ _ _
   | exact flatironref02_Parts.mono _ _
   | exact LeO.none _
   | refine LeO.ite ?_ ?_
   | refine LeO.bind ?_ (fun _ => ?_)
  ·intro y0 y1 y2
   unfold flatironref02_Path.l0
   repeat' first
   | (with_reducible exact ih0 _ _ _)
   | (with_reducible exact ih1 _ _ _)
   | (with_reducible exact flatironref01_Join.mono _ _)
   | (with_reducible exact flatironref02_Match.mono _ _ _)
   | (with_reducible exact flatironref02_Parts.mono _ _)
   | (with_reducible exact LeO.refl _)
   | (with_reducible exact LeO.none _)
   | (with_reducible refine LeO.ite ?_ ?_)
   | (with_reducible refine LeO.bind ?_ (fun _ => ?_))
   | exact ih0 _ _ _
   | exact ih1 _ _ _
   | exact flatironref01_Join.mono _ _
   | exact flatironref02_Match.mono _ _ _
   | exact flatironref02_Parts.mono _ _
   | exact LeO.none _
   | refine LeO.ite ?_ ?_
   | refine LeO.bind ?_ (fun _ => ?_)
theorem flatironref02_Path.mono : ∀ a0 a1 k, LeO (flatironref02_Path.f k a0 a1) (flatironref02_Path.f (k + 1) a0 a1) := by
 intro a0 a1 k
 obtain ⟨ih0, ih1⟩ := flatironref02_Path.mono_l k
 unfold flatironref02_Path.f
 repeat' first
   | (with_reducible exact ih0 _ _ _)
   | (with_reducible exact ih1 _ _ _)
   | (with_reducible exact flatironref01_Join.mono _ _)
   | (with_reducible exact flatironref02_Match.mono _ _ _)
   | (with_reducible exact flatironref02_Parts.mono _ _)
   | (with_reducible exact LeO.refl _)
   | (with_reducible exact LeO.none _)
   | (with_reducible refine LeO.ite ?_ ?_)
   | (with_reducible refine LeO.bind ?_ (fun _ => ?_))
   | exact ih0 _ _ _
   | exact ih1 _ _ _
   | exact flatironref01_Join.mono _ _
   | exact flatironref02_Match.mono _ _ _
   | exact flatironref02_Parts.mono _ _
   | exact LeO.none _
   | refine LeO.ite ?_ ?_
   | refine LeO.bind ?_ (fun _ => ?_)
def flatironref02_Path.T10 : Bool × List (List Nat × List Nat) := (true, [([], []), ([], []), ([0, 1], [0, 1]), ([2], [2]), ([], []), ([], []), ([4, 5], [4, 5]), ([6], [6]), ([3, 7], [3, 7]), ([8, 8, 0, 1, 2, 3, 4, 5, 6, 7, 8], [8])])
def flatironref02_Path.B10 : List Nat := [0, 0, 3, 7, 0, 0, 48, 112, 255, 511]
theorem flatironref02_Path.tab10 : rtab .any (opsOf Tryd.f39 10) = flatironref02_Path.T10 := by kernel_rfl
theorem flatironref02_Path.bits10 : waitsOk flatironref02_Path.T10.2 flatironref02_Path.B10 = true := by kernel_rfl
set_option maxHeartbeats 8000000 in
set_option maxRecDepth 100000 in
theorem flatironref02_Path.calls (k : Nat) (a0 : ByteArray) (a1 : ByteArray) (r : Bool) (w : World) (h : flatironref02_Path.f k a0 a1 = some r) :
  Calls Tryd.prog 39 #[.string a0, .string a1] w fun e w' => e = .returned (.bool r) ∧ Below w.heap.size w w' := by
 have HB := Aside0.mk (Below.refl w.heap.size w)
 have H : ((flatironref01_Join.f k (([a1] : List ByteArray))).bind fun bt229 => ((flatironref02_Parts.f k a0).bind fun t231 => ((flatironref02_Parts.f k a1).bind fun t234 => (if bt229.2 = true then (if bt229.1.toList = a1.toList then (flatironref02_Path.j0 k t231 t234 ((t231.length : Int) != (t234.length : Int))) else (flatironref02_Path.j0 k t231 t234 true)) else (flatironref02_Path.j0 k t231 t234 true))))) = some r := h
 clear h
 obtain ⟨y226, hy226⟩ : ∃ y_ : List ByteArray, y_ = (([a1] : List ByteArray)) := ⟨_, rfl⟩
 replace H : ((flatironref01_Join.f k y226).bind fun bt229 => ((flatironref02_Parts.f k a0).bind fun t231 => ((flatironref02_Parts.f k a1).bind fun t234 => (if bt229.2 = true then (if bt229.1.toList = a1.toList then (flatironref02_Path.j0 k t231 t234 ((t231.length : Int) != (t234.length : Int))) else (flatironref02_Path.j0 k t231 t234 true)) else (flatironref02_Path.j0 k t231 t234 true))))) = some r := by first | (rw [hy226]; with_reducible exact H) | (have H2_ := (Option.bind_some _ _).symm.trans H; rw [hy226]; with_reducible exact H2_) | (have H2_ := (Option.bind_some _ _).symm.trans H; with_reducible exact H2_) | with_reducible exact H | (rw [hy226]; exact H) | exact H
 have Ny226 := Aside0.mk hy226
 clear hy226
 replace H := Option.bind_eq_some_iff.mp H
 obtain ⟨⟨t229, t230⟩, A30, H⟩ := H
 replace H : ((flatironref02_Parts.f k a0).bind fun t231 => ((flatironref02_Parts.f k a1).bind fun t234 => (if t230 = true then (if t229.toList = a1.toList then (flatironref02_Path.j0 k t231 t234 ((t231.length : Int) != (t234.length : Int))) else (flatironref02_Path.j0 k t231 t234 true)) else (flatironref02_Path.j0 k t231 t234 true)))) = some r := H
 have A3 := Aside0.mk A30
 clear A30
 replace H := Option.bind_eq_some_iff.mp H
 obtain ⟨t231, A40, H⟩ := H
 replace H : ((flatironref02_Parts.f k a1).bind fun t234 => (if t230 = true then (if t229.toList = a1.toList then (flatironref02_Path.j0 k t231 t234 ((t231.length : Int) != (t234.length : Int))) else (flatironref02_Path.j0 k t231 t234 true)) else (flatironref02_Path.j0 k t231 t234 true))) = some r := H
 have A4 := Aside0.mk A40
 clear A40
 replace H := Option.bind_eq_some_iff.mp H
 obtain ⟨t234, A50, H⟩ := H
 replace H : (if t230 = true then (if t229.toList = a1.toList then (flatironref02_Path.j0 k t231 t234 ((t231.length : Int) != (t234.length : Int))) else (flatironref02_Path.j0 k t231 t234 true)) else (flatironref02_Path.j0 k t231 t234 true)) = some r := H
 have A5 := Aside0.mk A50
 clear A50
 have HC6 := Aside0.mk H
 clear H
 go_enter Tryd.func39, Tryd.ntmps39
 go_upto_region 4 with (first | ((with_reducible refine gate_dst (N := 14) rfl ?_); (try (refine gate_guard (by rfl) ?_; dsimp only)); refine Kd.R_lit Kd.string _ 9 ?hg (N := 14) ?hd (xs := ([a1] : List ByteArray)) (inner := [.string a1]) (ok := fun _ => True) (okp := fun _ => True) ?hr ?hp (fun _ hk => hk) trivial (Below.refl _ _) (Nat.le_refl _) (by simp) ?_; (case hd => rfl); (case hg => rfl); (case hr => first | (go_simp; done) | (go_simp; rfl)); (case hp => exact (Reps.one (show Kd.M Kd.string _ _ _ a1 [.string a1] from rfl) (Reps.none _ _))); intro v227 w7 ho8 hb hg_ hnew_; clear hg_ hnew_; (first | rw [← Ny226.out] at ho8 | (simp only [Int.reduceToNat] at ho8; rw [← Ny226.out] at ho8)); have n0_ := Aside0.mk (Kd.R_lower ho8 (below_size (by repeat (first | (with_reducible first | exact HB.out | apply below_alloc | apply pw_below_drewN | apply below_drew1) | exact HB.out)))); have n1_ := Aside0.mk (below_step (by repeat (first | (with_reducible first | exact HB.out | apply below_alloc | apply pw_below_drewN | apply below_drew1) | exact HB.out)) hb); clear HB; have HO228 := n0_; have HB := n1_; clear n0_ n1_; clear hb ho8; obtain ⟨Ao9, co9, eo9⟩ := Kd.R_slice HO228.out; subst eo9) | ((with_reducible refine gate_callee (f := 95) rfl ?_); refine goesL_ (some 15) rfl rfl Tryd.func95 (by kernel_rfl) rfl #[.slice Ao9 y226.length co9] rfl (by (try simp only [List.map_toArray, List.map_cons, List.map_nil]); first | done | rfl | (simp only [List.length_drop, List.length_take]; rfl)) ?_; (with_reducible refine (flatironref01_Join.calls k _ _ y226 t229 t230 _ ?side1 ?side2 A3.out).mono ?_); (case side1 => repeat (first | exact (Kd.R_reads' HO228.out).2.2 | (with_reducible refine Kd.C_alloc ?_ _) | (with_reducible refine Kd.C_drewN ?_ _) | (with_reducible refine Kd.C_drew ?_))); (case side2 => exact (Kd.R_reads' HO228.out).2.1); rintro e w10 ⟨rfl, hb⟩; refine ⟨_, rfl, ?_⟩; have n0_ := Aside0.mk (Kd.R_below (by (with_reducible repeat (first | apply Kd.R_alloc | apply Kd.R_drewN | apply Kd.R_drew)); (first | exact HO228.out | (first | refine Kd.R_mono HO228.out (fun _ hk => ?_) | refine Kd.S_mono HO228.out (fun _ hk => ?_) | refine Kd.Q_mono HO228.out (fun _ hk => ?_)); simp only [ownBlock_slice] at hk ⊢; exact hk)) hb); have n1_ := Aside0.mk (below_step (by repeat (first | (with_reducible first | exact HB.out | apply below_alloc | apply pw_below_drewN | apply below_drew1) | exact HB.out)) hb); clear HO228; clear HB; have HO228 := n0_; have HB := n1_; clear n0_ n1_; (try clear hb); (try clear hb2); (try clear hk); (try clear hi)) | ((with_reducible refine gate_callee (f := 96) rfl ?_); refine goesL_ (some 19) rfl rfl Tryd.func96 (by kernel_rfl) rfl #[.string a0] rfl (by (try simp only [List.map_toArray, List.map_cons, List.map_nil]); first | done | rfl | (simp only [List.length_drop, List.length_take]; rfl)) ?_; (with_reducible refine (flatironref02_Parts.calls k a0 t231 _ A4.out).mono ?_); rintro e w11 ⟨v232, rfl, ho0, hb⟩; refine ⟨_, rfl, ?_⟩; have n0_ := Aside0.mk (Kd.R_elder' (by (with_reducible repeat (first | apply Kd.R_alloc | apply Kd.R_drewN | apply Kd.R_drew)); (first | exact HO228.out | (first | refine Kd.R_mono HO228.out (fun _ hk => ?_) | refine Kd.S_mono HO228.out (fun _ hk => ?_) | refine Kd.Q_mono HO228.out (fun _ hk => ?_)); simp only [ownBlock_slice] at hk ⊢; exact hk)) (Kd.R_base ho0) hb); have n1_ := Aside0.mk (Kd.R_lower (Kd.R_new' ho0 (Kd.R_lt (by (with_reducible repeat (first | apply Kd.R_alloc | apply Kd.R_drewN | apply Kd.R_drew)); (first | exact HO228.out | (first | refine Kd.R_mono HO228.out (fun _ hk => ?_) | refine Kd.S_mono HO228.out (fun _ hk => ?_) | refine Kd.Q_mono HO228.out (fun _ hk => ?_)); simp only [ownBlock_slice] at hk ⊢; exact hk)))) (below_size (by repeat (first | (with_reducible first | exact HB.out | apply below_alloc | apply pw_below_drewN | apply below_drew1) | exact HB.out)))); have n2_ := Aside0.mk (below_step (by repeat (first | (with_reducible first | exact HB.out | apply below_alloc | apply pw_below_drewN | apply below_drew1) | exact HB.out)) hb); clear HO228; clear HB; have HO228 := n0_; have HO233 := n1_; have HB := n2_; clear n0_ n1_ n2_; (try clear hb); (try clear hb2); (try clear hk); (try clear hi); (try clear ho0)) | ((with_reducible refine gate_callee (f := 96) rfl ?_); refine goesL_ (some 21) rfl rfl Tryd.func96 (by kernel_rfl) rfl #[.string a1] rfl (by (try simp only [List.map_toArray, List.map_cons, List.map_nil]); first | done | rfl | (simp only [List.length_drop, List.length_take]; rfl)) ?_; (with_reducible refine (flatironref02_Parts.calls k a1 t234 _ A5.out).mono ?_); rintro e w12 ⟨v235, rfl, ho0, hb⟩; refine ⟨_, rfl, ?_⟩; have n0_ := Aside0.mk (Kd.R_elder' (by (with_reducible repeat (first | apply Kd.R_alloc | apply Kd.R_drewN | apply Kd.R_drew)); (first | exact HO228.out | (first | refine Kd.R_mono HO228.out (fun _ hk => ?_) | refine Kd.S_mono HO228.out (fun _ hk => ?_) | refine Kd.Q_mono HO228.out (fun _ hk => ?_)); simp only [ownBlock_slice] at hk ⊢; exact hk)) (Kd.R_base ho0) hb); have n1_ := Aside0.mk (Kd.R_elder' (by (with_reducible repeat (first | apply Kd.R_alloc | apply Kd.R_drewN | apply Kd.R_drew)); (first | exact HO233.out | (first | refine Kd.R_mono HO233.out (fun _ hk => ?_) | refine Kd.S_mono HO233.out (fun _ hk => ?_) | refine Kd.Q_mono HO233.out (fun _ hk => ?_)); simp only [ownBlock_slice] at hk ⊢; exact hk)) (Kd.R_base ho0) hb); have n2_ := Aside0.mk (Kd.R_lower (Kd.R_new' (Kd.R_new' ho0 (Kd.R_lt (by (with_reducible repeat (first | apply Kd.R_alloc | apply Kd.R_drewN | apply Kd.R_drew)); (first | exact HO228.out | (first | refine Kd.R_mono HO228.out (fun _ hk => ?_) | refine Kd.S_mono HO228.out (fun _ hk => ?_) | refine Kd.Q_mono HO228.out (fun _ hk => ?_)); simp only [ownBlock_slice] at hk ⊢; exact hk)))) (Kd.R_lt (by (with_reducible repeat (first | apply Kd.R_alloc | apply Kd.R_drewN | apply Kd.R_drew)); (first | exact HO233.out | (first | refine Kd.R_mono HO233.out (fun _ hk => ?_) | refine Kd.S_mono HO233.out (fun _ hk => ?_) | refine Kd.Q_mono HO233.out (fun _ hk => ?_)); simp only [ownBlock_slice] at hk ⊢; exact hk)))) (below_size (by repeat (first | (with_reducible first | exact HB.out | apply below_alloc | apply pw_below_drewN | apply below_drew1) | exact HB.out)))); have n3_ := Aside0.mk (below_step (by repeat (first | (with_reducible first | exact HB.out | apply below_alloc | apply pw_below_drewN | apply below_drew1) | exact HB.out)) hb); clear HO228; clear HO233; clear HB; have HO228 := n0_; have HO233 := n1_; have HO236 := n2_; have HB := n3_; clear n0_ n1_ n2_ n3_; (try clear hb); (try clear hb2); (try clear hk); (try clear hi); (try clear ho0)))
 (try simp only [Act.put, List.setIfInBounds_toArray, List.set_cons_zero, List.set_cons_succ])
 go_cut [35] (fun v35 wc => ∃ (kq : Nat) (x35_5 : Bool), v35 = .bool x35_5 ∧ Aside0 (flatironref02_Path.j0 kq t231 t234 x35_5 = some r) ∧ Aside0 (kq ≤ k) ∧ Aside0 (Kd.R Kd.string 9 wc w.heap.size (fun k_ => some k_ ≠ (v235 : Value).ownBlock) v232 t231) ∧ Aside0 (Kd.R Kd.string 9 wc w.heap.size (fun k_ => some k_ ≠ (v232 : Value).ownBlock) v235 t234) ∧ Aside0 (Below w.heap.size w wc))
 case first =>
  have H := HC6.out
  clear HC6
  by_cases c13 : t230 = true
  ·subst c13
   have H1 : (if t229.toList = a1.toList then (flatironref02_Path.j0 k t231 t234 ((t231.length : Int) != (t234.length : Int))) else (flatironref02_Path.j0 k t231 t234 true)) = some r := by rw [if_pos rfl] at H; exact H
   clear H
   have H := H1
   clear H1
   by_cases c14 : t229.toList = a1.toList
   ·rw [if_pos c14] at H
    have c14b0 : (t229.toList == a1.toList) = true := beq_iff_eq.mpr c14
    have c14b1 : (t229.toList != a1.toList) = false := bne_eq_false_iff_eq.mpr c14
    clear c14
    (first | rw [c14b0] | (simp only [i64_w, i32_w]; rw [c14b0]) | skip)
    have H' := Aside0.mk H
    clear H
    obtain ⟨Ao15, co15, eo15⟩ := Kd.R_slice HO233.out
    subst eo15
    obtain ⟨Ao16, co16, eo16⟩ := Kd.R_slice HO236.out
    subst eo16
    go_wp2
    go_meet
    case rel => exact ⟨_, (((t231.length : Int) != (t234.length : Int))), (by first | rfl | (simp; done) | (simp [*]; done)), H', ⟨by first | omega | exact Nat.le_refl _⟩, ⟨by (with_reducible repeat (first | apply Kd.R_alloc | apply Kd.R_drewN | apply Kd.R_drew)); exact Kd.R_mono HO233.out (fun _ hk => hk.2)⟩, ⟨by (with_reducible repeat (first | apply Kd.R_alloc | apply Kd.R_drewN | apply Kd.R_drew)); exact Kd.R_mono HO236.out (fun _ hk => hk.2)⟩, ⟨by repeat (first | (with_reducible first | exact HB.out | apply below_alloc | apply pw_below_drewN | apply below_drew1) | exact HB.out)⟩⟩
   ·rw [if_neg c14] at H
    have c14b0 : (t229.toList == a1.toList) = false := beq_eq_false_iff_ne.mpr c14
    have c14b1 : (t229.toList != a1.toList) = true := bne_iff_ne.mpr c14
    (first | rw [c14b0] | (simp only [i64_w, i32_w]; rw [c14b0]) | skip)
    have H' := Aside0.mk H
    clear H
    go_wp2
    go_meet
    case rel => exact ⟨_, (true), (by first | rfl | (simp; done) | (simp [*]; done)), H', ⟨by first | omega | exact Nat.le_refl _⟩, ⟨by (with_reducible repeat (first | apply Kd.R_alloc | apply Kd.R_drewN | apply Kd.R_drew)); exact Kd.R_mono HO233.out (fun _ hk => hk.2)⟩, ⟨by (with_reducible repeat (first | apply Kd.R_alloc | apply Kd.R_drewN | apply Kd.R_drew)); exact Kd.R_mono HO236.out (fun _ hk => hk.2)⟩, ⟨by repeat (first | (with_reducible first | exact HB.out | apply below_alloc | apply pw_below_drewN | apply below_drew1) | exact HB.out)⟩⟩
  ·replace c13 := Bool.eq_false_iff.mpr c13
   subst c13
   have H1 : (flatironref02_Path.j0 k t231 t234 true) = some r := by rw [if_neg (show ¬ (false = true) by decide)] at H; exact H
   clear H
   have H := H1
   clear H1
   have H' := Aside0.mk H
   clear H
   go_wp2
   go_meet
   case rel => exact ⟨_, (true), (by first | rfl | (simp; done) | (simp [*]; done)), H', ⟨by first | omega | exact Nat.le_refl _⟩, ⟨by (with_reducible repeat (first | apply Kd.R_alloc | apply Kd.R_drewN | apply Kd.R_drew)); exact Kd.R_mono HO233.out (fun _ hk => hk.2)⟩, ⟨by (with_reducible repeat (first | apply Kd.R_alloc | apply Kd.R_drewN | apply Kd.R_drew)); exact Kd.R_mono HO236.out (fun _ hk => hk.2)⟩, ⟨by repeat (first | (with_reducible first | exact HB.out | apply below_alloc | apply pw_below_drewN | apply below_drew1) | exact HB.out)⟩⟩
 case rest =>
  clear HC6
  try clear c1
  try clear p2
  try clear c3
  try clear c9
  try clear c13
  try clear c14
  try clear c14b0
  try clear c14b1
  obtain ⟨kq, x35_5, rfl, HA, HJ5, HO_7, HO_8, HB⟩ := hcut
  cases kq with
  | zero => exact absurd HA.out (by simp [flatironref02_Path.j0])
  | succ kj5 =>
   have H := HA.out
   clear HA
   simp only [flatironref02_Path.j0] at H
   by_cases c17 : x35_5 = true
   ·subst c17
    have H1 : (some false) = some r := by rw [if_pos rfl] at H; exact H
    clear H
    have H := H1
    clear H1
    obtain rfl := Option.some.inj H
    go_wp2
    go_ret
    exact ⟨by first | rfl | (simp [errW_none, errW_some] <;> rfl) | (simp [*, errW_none, errW_some] <;> rfl), by repeat (first | (with_reducible first | exact HB.out | apply below_alloc | apply pw_below_drewN | apply below_drew1) | exact HB.out)⟩
   ·replace c17 := Bool.eq_false_iff.mpr c17
    subst c17
    have H1 : (flatironref02_Path.l0 kj5 t231 t234 0) = some r := by rw [if_neg (show ¬ (false = true) by decide)] at H; exact H
    clear H
    have H := H1
    clear H1
    have H' := Aside0.mk H
    clear H
    go_wp2
    go_loopg [9] kj5 (fun kq v9 w' => ∃ (x9_2 : Int), v9 = .int .i64 x9_2 ∧ Aside0 (flatironref02_Path.l0 kq t231 t234 x9_2 = some r) ∧ Aside0 (kq ≤ kj5) ∧ Aside0 (Kd.R Kd.string 9 w' w.heap.size (fun k_ => some k_ ≠ (v235 : Value).ownBlock) v232 t231) ∧ Aside0 (Kd.R Kd.string 9 w' w.heap.size (fun k_ => some k_ ≠ (v232 : Value).ownBlock) v235 t234) ∧ Aside0 (Below w.heap.size w w'))
    case atStart => exact ⟨(0), (by first | rfl | (simp; done) | (simp [*]; done)), H', ⟨Nat.le_refl _⟩, ⟨by (with_reducible repeat (first | apply Kd.R_alloc | apply Kd.R_drewN | apply Kd.R_drew)); (first | exact HO_7.out | (first | refine Kd.R_mono HO_7.out (fun _ hk => ?_) | refine Kd.S_mono HO_7.out (fun _ hk => ?_) | refine Kd.Q_mono HO_7.out (fun _ hk => ?_)); simp only [ownBlock_slice] at hk ⊢; exact hk)⟩, ⟨by (with_reducible repeat (first | apply Kd.R_alloc | apply Kd.R_drewN | apply Kd.R_drew)); (first | exact HO_8.out | (first | refine Kd.R_mono HO_8.out (fun _ hk => ?_) | refine Kd.S_mono HO_8.out (fun _ hk => ?_) | refine Kd.Q_mono HO_8.out (fun _ hk => ?_)); simp only [ownBlock_slice] at hk ⊢; exact hk)⟩, ⟨by repeat (first | (with_reducible first | exact HB.out | apply below_alloc | apply pw_below_drewN | apply below_drew1) | exact HB.out)⟩⟩
    case round =>
     clear H'
     try clear c1
     try clear p2
     try clear c3
     try clear c9
     try clear c13
     try clear c14
     try clear c14b0
     try clear c14b1
     try clear c17
     try clear p2
     obtain ⟨x9_2, rfl, HA, HK2, HO_7, HO_8, HB⟩ := hrel
     cases gk with
     | zero => exact absurd HA.out (by simp [flatironref02_Path.l0])
     | succ k2 =>
      have H := HA.out
      clear HA
      simp only [flatironref02_Path.l0] at H
      by_cases c18 : x9_2 < (t231.length : Int)
      ·rw [if_pos c18] at H
       have c18b0 : decide (x9_2 < (t231.length : Int)) = true := decide_eq_true c18
       clear c18
       by_cases c19 : 0 ≤ x9_2
       ·rw [if_pos c19] at H
        have c19b0 : decide (0 ≤ x9_2) = true := decide_eq_true c19
        clear c19
        by_cases c20 : x9_2 < (t234.length : Int)
        ·rw [if_pos c20] at H
         have c20b0 : decide (x9_2 < (t234.length : Int)) = true := decide_eq_true c20
         clear c20
         by_cases c21 : ((rdOf ByteArray.empty t234 x9_2).size : Int) > 0
         ·rw [if_pos c21] at H
          have c21b0 : decide (0 < ((rdOf ByteArray.empty t234 x9_2).size : Int)) = true := decide_eq_true c21
          have c21b1 : decide (0 < (rdOf ByteArray.empty t234 x9_2).size) = true := decide_eq_true (by omega)
          clear c21
          by_cases c22 : 0 < ((rdOf ByteArray.empty t234 x9_2).size : Int)
          ·rw [if_pos c22] at H
           have c22b0 : decide (0 < ((rdOf ByteArray.empty t234 x9_2).size : Int)) = true := decide_eq_true c22
           have c22b1 : decide (0 < (rdOf ByteArray.empty t234 x9_2).size) = true := decide_eq_true (by omega)
           clear c22
           by_cases c24 : (bt (rdOf ByteArray.empty t234 x9_2) 0) = 46
           ·rw [if_pos c24] at H
            have c24b0 : ((bt (rdOf ByteArray.empty t234 x9_2) 0) == 46) = true := beq_iff_eq.mpr c24
            have c24b1 : ((bt (rdOf ByteArray.empty t234 x9_2) 0) != 46) = false := bne_eq_false_iff_eq.mpr c24
            clear c24
            by_cases c25 : (rdOf ByteArray.empty t231 x9_2).toList = ([] : List UInt8)
            ·rw [if_pos c25] at H
             have c25b0 : ((rdOf ByteArray.empty t231 x9_2).toList == ([] : List UInt8)) = true := beq_iff_eq.mpr c25
             have c25b1 : ((rdOf ByteArray.empty t231 x9_2).toList != ([] : List UInt8)) = false := bne_eq_false_iff_eq.mpr c25
             clear c25
             replace H := Option.bind_eq_some_iff.mp H
             obtain ⟨t242, A260, H⟩ := H
             replace H : (some false) = some r := H
             have A26 := Aside0.mk A260
             clear A260
             obtain rfl := Option.some.inj H
             obtain ⟨Ao27, co27, eo27⟩ := Kd.R_slice HO_7.out
             subst eo27
             obtain ⟨Ao28, co28, eo28⟩ := Kd.R_slice HO_8.out
             subst eo28
             have p237 : 0 ≤ (x9_2 : Int) := of_decide_eq_true (by first | (with_reducible assumption) | assumption)
             have q237 : x9_2 < (t234.length : Int) := of_decide_eq_true (by first | (with_reducible assumption) | assumption)
             obtain ⟨ad237, e237, hx237_0⟩ := Kd.at_string (Kd.R_reads' HO_8.out).2.2 x9_2 p237 q237
             cases e237
             replace p237 := eq_true p237
             replace q237 := eq_true q237
             have p238 : 0 ≤ (x9_2 : Int) := of_decide_eq_true (by first | (with_reducible assumption) | assumption)
             have q238 : x9_2 < (t234.length : Int) := of_decide_eq_true (by first | (with_reducible assumption) | assumption)
             obtain ⟨ad238, e238, hx238_0⟩ := Kd.at_string (Kd.R_reads' HO_8.out).2.2 x9_2 p238 q238
             obtain rfl : ad237 = ad238 := (by injection e238)
             replace p238 := eq_true p238
             replace q238 := eq_true q238
             have p23 : 0 ≤ (0 : Int) := (by omega)
             have q23 : 0 < (rdOf ByteArray.empty t234 x9_2).size := (by have : (0 : Int) < ((rdOf ByteArray.empty t234 x9_2).size : Int) := of_decide_eq_true (by first | (with_reducible assumption) | assumption); omega)
             have hx23 : ∀ h : 0 < (rdOf ByteArray.empty t234 x9_2).size, (((rdOf ByteArray.empty t234 x9_2)[0]'h).toNat : Int) = bt (rdOf ByteArray.empty t234 x9_2) 0 := bt_at (rdOf ByteArray.empty t234 x9_2) 0
             clear p23
             have qi23 : (0 < ((rdOf ByteArray.empty t234 x9_2).size : Int)) = True := eq_true (of_decide_eq_true (by first | (with_reducible assumption) | assumption))
             replace q23 := eq_true q23
             have p239 : 0 ≤ (x9_2 : Int) := of_decide_eq_true (by first | (with_reducible assumption) | assumption)
             have q239 : x9_2 < (t231.length : Int) := of_decide_eq_true (by first | (with_reducible assumption) | assumption)
             obtain ⟨ad239, e239, hx239_0⟩ := Kd.at_string (Kd.R_reads' HO_7.out).2.2 x9_2 p239 q239
             cases e239
             replace p239 := eq_true p239
             replace q239 := eq_true q239
             try go_wp2
             have n0_ := Aside0.mk (Kd.R_drew HO_7.out)
             have n1_ := Aside0.mk (Kd.R_drew HO_8.out)
             have n2_ := Aside0.mk (below_drew1 HB.out)
             clear HO_7
             clear HO_8
             clear HB
             have HO_7 := n0_
             have HO_8 := n1_
             have HB := n2_
             clear n0_ n1_ n2_
             have p240 : 0 ≤ (x9_2 : Int) := of_decide_eq_true (by first | (with_reducible assumption) | assumption)
             have q240 : x9_2 < (t231.length : Int) := of_decide_eq_true (by first | (with_reducible assumption) | assumption)
             obtain ⟨ad240, e240, hx240_0⟩ := Kd.at_string (Kd.R_reads' HO_7.out).2.2 x9_2 p240 q240
             obtain rfl : ad239 = ad240 := (by injection e240)
             replace p240 := eq_true p240
             replace q240 := eq_true q240
             have p241 : 0 ≤ (x9_2 : Int) := of_decide_eq_true (by first | (with_reducible assumption) | assumption)
             have q241 : x9_2 < (t234.length : Int) := of_decide_eq_true (by first | (with_reducible assumption) | assumption)
             obtain ⟨ad241, e241, hx241_0⟩ := Kd.at_string (Kd.R_reads' HO_8.out).2.2 x9_2 p241 q241
             obtain rfl : ad237 = ad241 := (by injection e241)
             replace p241 := eq_true p241
             replace q241 := eq_true q241
             refine start_ (n := 10) (S := fun w' => w'.cell? (ad239.add (x9_2).toNat) = some (.string (rdOf ByteArray.empty t231 x9_2)) ∧ w'.cell? (ad237.add (x9_2).toNat) = some (.string (rdOf ByteArray.empty t234 x9_2))) (ds := []) #[false, false, false, false, false, false, false, false, false, false] (by kernel_rfl) rfl rfl ⟨hx240_0, hx241_0⟩ (fun hHeld => ?_); refine with_tabW flatironref02_Path.tab10 flatironref02_Path.bits10 (fun HT_ HW_ => ?_)
             generalize wr.drew = w29 at HO_7 HO_8 HB hx240_0 hx241_0 hHeld ⊢
             refine pure_ (i := 0) (N := some 71) (v := ?_) (a' := ?_) #[true, false, false, false, false, false, false, false, false, false] rfl rfl (any_of HT_.out (by kernel_rfl)) (fun _ _ _ h => h) (Or.inl ⟨by rfl, ?_⟩) ?_ ?_
             rotate_left
             ·intro w'
              go_simp
              with_reducible rfl
             rotate_left
             ·simp only [Act.put, List.setIfInBounds_toArray, List.set_cons_zero, List.set_cons_succ, i64_w, i32_w]
              rfl
             refine pure_ (i := 1) (N := some 72) (v := ?_) (a' := ?_) #[true, true, false, false, false, false, false, false, false, false] rfl rfl (any_of HT_.out (by kernel_rfl)) (fun _ _ _ h => h) (Or.inl ⟨by rfl, ?_⟩) ?_ ?_
             rotate_left
             ·intro w'
              go_simp
              with_reducible rfl
             rotate_left
             ·simp only [Act.put, List.setIfInBounds_toArray, List.set_cons_zero, List.set_cons_succ, i64_w, i32_w]
              rfl
             refine pure_ (i := 2) (N := some 73) (v := ?_) (a' := ?_) #[true, true, true, false, false, false, false, false, false, false] rfl rfl (any_of HT_.out (by kernel_rfl)) (fun _ _ _ h => h) (Or.inl ⟨by rfl, ?_⟩) ?_ ?_
             rotate_left
             ·intro w'
              go_simp
              with_reducible rfl
             rotate_left
             ·simp only [Act.put, List.setIfInBounds_toArray, List.set_cons_zero, List.set_cons_succ, i64_w, i32_w]
              rfl
             refine pure_ (i := 4) (N := some 75) (v := ?_) (a' := ?_) #[true, true, true, false, true, false, false, false, false, false] rfl rfl (any_of HT_.out (by kernel_rfl)) (fun _ _ _ h => h) (Or.inl ⟨by rfl, ?_⟩) ?_ ?_
             rotate_left
             ·intro w'
              go_simp
              with_reducible rfl
             rotate_left
             ·simp only [Act.put, List.setIfInBounds_toArray, List.set_cons_zero, List.set_cons_succ, i64_w, i32_w]
              rfl
             refine pure_ (i := 5) (N := some 76) (v := ?_) (a' := ?_) #[true, true, true, false, true, true, false, false, false, false] rfl rfl (any_of HT_.out (by kernel_rfl)) (fun _ _ _ h => h) (Or.inl ⟨by rfl, ?_⟩) ?_ ?_
             rotate_left
             ·intro w'
              go_simp
              with_reducible rfl
             rotate_left
             ·simp only [Act.put, List.setIfInBounds_toArray, List.set_cons_zero, List.set_cons_succ, i64_w, i32_w]
              rfl
             refine pure_ (i := 6) (N := some 77) (v := ?_) (a' := ?_) #[true, true, true, false, true, true, true, false, false, false] rfl rfl (any_of HT_.out (by kernel_rfl)) (fun _ _ _ h => h) (Or.inl ⟨by rfl, ?_⟩) ?_ ?_
             rotate_left
             ·intro w'
              go_simp
              with_reducible rfl
             rotate_left
             ·simp only [Act.put, List.setIfInBounds_toArray, List.set_cons_zero, List.set_cons_succ, i64_w, i32_w]
              rfl
             refine take_ (i := 3) (N := some 74) (v := ?_) (a' := ?_) #[true, true, true, true, true, true, true, false, false, false] rfl rfl (take_ofW HT_.out HW_.out (by kernel_rfl)) (fun _ _ _ h => h) (Or.inl ⟨by rfl, ?_⟩) hHeld ?_ ?_
             rotate_left
             ·rintro w' ⟨s0, s1⟩
              go_simp
              with_reducible rfl
             rotate_left
             ·simp only [Act.put, List.setIfInBounds_toArray, List.set_cons_zero, List.set_cons_succ, i64_w, i32_w]
              rfl
             refine take_ (i := 7) (N := some 78) (v := ?_) (a' := ?_) #[true, true, true, true, true, true, true, true, false, false] rfl rfl (take_ofW HT_.out HW_.out (by kernel_rfl)) (fun _ _ _ h => h) (Or.inl ⟨by rfl, ?_⟩) hHeld ?_ ?_
             rotate_left
             ·rintro w' ⟨s0, s1⟩
              go_simp
              with_reducible rfl
             rotate_left
             ·simp only [Act.put, List.setIfInBounds_toArray, List.set_cons_zero, List.set_cons_succ, i64_w, i32_w]
              rfl
             refine one_ (i := 8) (N := some 79) #[true, true, true, true, true, true, true, true, true, false] rfl rfl (one_of HT_.out (by kernel_rfl)) (by decide) (fun K hK => ?_)
             refine goes_ Tryd.func36 (by kernel_rfl) rfl #[.string (rdOf ByteArray.empty t231 x9_2), .string (rdOf ByteArray.empty t234 x9_2)] (by rfl) rfl rfl (by (try simp only [List.map_toArray, List.map_cons, List.map_nil]); first | done | rfl | (simp only [List.length_drop, List.length_take]; rfl)) ?_
             with_reducible refine (flatironref02_Match.calls k2 (rdOf ByteArray.empty t231 x9_2) (rdOf ByteArray.empty t234 x9_2) t242 _ A26.out).mono ?_
             rintro e w30 ⟨rfl, hb⟩
             have HS0_ := (hb.cell (World.block_lt_of_cell? _ _ (hHeld.1))).trans (hHeld.1)
             have HS1_ := (hb.cell (World.block_lt_of_cell? _ _ (hHeld.2))).trans (hHeld.2)
             refine ⟨_, rfl, ?_⟩
             have n0_ := Aside0.mk (Kd.R_below (by (with_reducible repeat (first | apply Kd.R_alloc | apply Kd.R_drewN | apply Kd.R_drew)); (first | exact HO_7.out | (first | refine Kd.R_mono HO_7.out (fun _ hk => ?_) | refine Kd.S_mono HO_7.out (fun _ hk => ?_) | refine Kd.Q_mono HO_7.out (fun _ hk => ?_)); simp only [ownBlock_slice] at hk ⊢; exact hk)) hb)
             have n1_ := Aside0.mk (Kd.R_below (by (with_reducible repeat (first | apply Kd.R_alloc | apply Kd.R_drewN | apply Kd.R_drew)); (first | exact HO_8.out | (first | refine Kd.R_mono HO_8.out (fun _ hk => ?_) | refine Kd.S_mono HO_8.out (fun _ hk => ?_) | refine Kd.Q_mono HO_8.out (fun _ hk => ?_)); simp only [ownBlock_slice] at hk ⊢; exact hk)) hb)
             have n2_ := Aside0.mk (below_step (by repeat (first | (with_reducible first | exact HB.out | apply below_alloc | apply pw_below_drewN | apply below_drew1) | exact HB.out)) hb)
             clear HO_7
             clear HO_8
             clear HB
             have HO_7 := n0_
             have HO_8 := n1_
             have HB := n2_
             clear n0_ n1_ n2_
             (try clear hb)
             (try clear hb2)
             (try clear hk)
             (try clear hi)
             refine hK.out _ _ ⟨HS0_, HS1_⟩ (fun hHeld => ?_)
             clear hK K
             refine norm_ (a' := ?_) ?_ ?_
             rotate_left
             ·show Act.put _ (some 79) _ = _
              simp only [Act.put, List.setIfInBounds_toArray, List.set_cons_zero, List.set_cons_succ, i64_w, i32_w]
              rfl
             refine pure_ (i := 9) (N := some 11) (v := ?_) (a' := ?_) #[true, true, true, true, true, true, true, true, true, true] rfl rfl (any_of HT_.out (by kernel_rfl)) (fun _ _ _ h => h) (Or.inl ⟨by rfl, ?_⟩) ?_ ?_
             rotate_left
             ·intro w'
              go_simp
              with_reducible rfl
             rotate_left
             ·simp only [Act.put, List.setIfInBounds_toArray, List.set_cons_zero, List.set_cons_succ, i64_w, i32_w]
              rfl
             refine done_ (done_of HT_.out (by kernel_rfl)) ?_
             try go_wp2
             go_ret
             exact ⟨by first | rfl | (simp [errW_none, errW_some] <;> rfl) | (simp [*, errW_none, errW_some] <;> rfl), by repeat (first | (with_reducible first | exact HB.out | apply below_alloc | apply pw_below_drewN | apply below_drew1) | exact HB.out)⟩
            ·rw [if_neg c25] at H
             have c25b0 : ((rdOf ByteArray.empty t231 x9_2).toList == ([] : List UInt8)) = false := beq_eq_false_iff_ne.mpr c25
             have c25b1 : ((rdOf ByteArray.empty t231 x9_2).toList != ([] : List UInt8)) = true := bne_iff_ne.mpr c25
             by_cases c31 : 0 < ((rdOf ByteArray.empty t231 x9_2).size : Int)
             ·rw [if_pos c31] at H
              have c31b0 : decide (0 < ((rdOf ByteArray.empty t231 x9_2).size : Int)) = true := decide_eq_true c31
              have c31b1 : decide (0 < (rdOf ByteArray.empty t231 x9_2).size) = true := decide_eq_true (by omega)
              clear c31
              replace H := Option.bind_eq_some_iff.mp H
              obtain ⟨t246, A330, H⟩ := H
              replace H : (if (bt (rdOf ByteArray.empty t231 x9_2) 0) = 46 then (if t246 = true then (flatironref02_Path.l0 k2 t231 t234 (wrap64 (x9_2 + 1))) else (some false)) else (some false)) = some r := H
              have A33 := Aside0.mk A330
              clear A330
              by_cases c34 : (bt (rdOf ByteArray.empty t231 x9_2) 0) = 46
              ·rw [if_pos c34] at H
               have c34b0 : ((bt (rdOf ByteArray.empty t231 x9_2) 0) == 46) = true := beq_iff_eq.mpr c34
               have c34b1 : ((bt (rdOf ByteArray.empty t231 x9_2) 0) != 46) = false := bne_eq_false_iff_eq.mpr c34
               clear c34
               by_cases c35 : t246 = true
               ·subst c35
                have H1 : (flatironref02_Path.l0 k2 t231 t234 (wrap64 (x9_2 + 1))) = some r := by rw [if_pos rfl] at H; exact H
                clear H
                have H := H1
                clear H1
                have H' := Aside0.mk H
                clear H
                obtain ⟨Ao36, co36, eo36⟩ := Kd.R_slice HO_7.out
                subst eo36
                obtain ⟨Ao37, co37, eo37⟩ := Kd.R_slice HO_8.out
                subst eo37
                have p237 : 0 ≤ (x9_2 : Int) := of_decide_eq_true (by first | (with_reducible assumption) | assumption)
                have q237 : x9_2 < (t234.length : Int) := of_decide_eq_true (by first | (with_reducible assumption) | assumption)
                obtain ⟨ad237, e237, hx237_0⟩ := Kd.at_string (Kd.R_reads' HO_8.out).2.2 x9_2 p237 q237
                cases e237
                replace p237 := eq_true p237
                replace q237 := eq_true q237
                have p238 : 0 ≤ (x9_2 : Int) := of_decide_eq_true (by first | (with_reducible assumption) | assumption)
                have q238 : x9_2 < (t234.length : Int) := of_decide_eq_true (by first | (with_reducible assumption) | assumption)
                obtain ⟨ad238, e238, hx238_0⟩ := Kd.at_string (Kd.R_reads' HO_8.out).2.2 x9_2 p238 q238
                obtain rfl : ad237 = ad238 := (by injection e238)
                replace p238 := eq_true p238
                replace q238 := eq_true q238
                have p23 : 0 ≤ (0 : Int) := (by omega)
                have q23 : 0 < (rdOf ByteArray.empty t234 x9_2).size := (by have : (0 : Int) < ((rdOf ByteArray.empty t234 x9_2).size : Int) := of_decide_eq_true (by first | (with_reducible assumption) | assumption); omega)
                have hx23 : ∀ h : 0 < (rdOf ByteArray.empty t234 x9_2).size, (((rdOf ByteArray.empty t234 x9_2)[0]'h).toNat : Int) = bt (rdOf ByteArray.empty t234 x9_2) 0 := bt_at (rdOf ByteArray.empty t234 x9_2) 0
                clear p23
                have qi23 : (0 < ((rdOf ByteArray.empty t234 x9_2).size : Int)) = True := eq_true (of_decide_eq_true (by first | (with_reducible assumption) | assumption))
                replace q23 := eq_true q23
                have p239 : 0 ≤ (x9_2 : Int) := of_decide_eq_true (by first | (with_reducible assumption) | assumption)
                have q239 : x9_2 < (t231.length : Int) := of_decide_eq_true (by first | (with_reducible assumption) | assumption)
                obtain ⟨ad239, e239, hx239_0⟩ := Kd.at_string (Kd.R_reads' HO_7.out).2.2 x9_2 p239 q239
                cases e239
                replace p239 := eq_true p239
                replace q239 := eq_true q239
                have p243 : 0 ≤ (x9_2 : Int) := of_decide_eq_true (by first | (with_reducible assumption) | assumption)
                have q243 : x9_2 < (t231.length : Int) := of_decide_eq_true (by first | (with_reducible assumption) | assumption)
                obtain ⟨ad243, e243, hx243_0⟩ := Kd.at_string (Kd.R_reads' HO_7.out).2.2 x9_2 p243 q243
                obtain rfl : ad239 = ad243 := (by injection e243)
                replace p243 := eq_true p243
                replace q243 := eq_true q243
                have p32 : 0 ≤ (0 : Int) := (by omega)
                have q32 : 0 < (rdOf ByteArray.empty t231 x9_2).size := (by have : (0 : Int) < ((rdOf ByteArray.empty t231 x9_2).size : Int) := of_decide_eq_true (by first | (with_reducible assumption) | assumption); omega)
                have hx32 : ∀ h : 0 < (rdOf ByteArray.empty t231 x9_2).size, (((rdOf ByteArray.empty t231 x9_2)[0]'h).toNat : Int) = bt (rdOf ByteArray.empty t231 x9_2) 0 := bt_at (rdOf ByteArray.empty t231 x9_2) 0
                clear p32
                have qi32 : (0 < ((rdOf ByteArray.empty t231 x9_2).size : Int)) = True := eq_true (of_decide_eq_true (by first | (with_reducible assumption) | assumption))
                replace q32 := eq_true q32
                try go_wp2
                have n0_ := Aside0.mk (Kd.R_drew HO_7.out)
                have n1_ := Aside0.mk (Kd.R_drew HO_8.out)
                have n2_ := Aside0.mk (below_drew1 HB.out)
                clear HO_7
                clear HO_8
                clear HB
                have HO_7 := n0_
                have HO_8 := n1_
                have HB := n2_
                clear n0_ n1_ n2_
                have p244 : 0 ≤ (x9_2 : Int) := of_decide_eq_true (by first | (with_reducible assumption) | assumption)
                have q244 : x9_2 < (t231.length : Int) := of_decide_eq_true (by first | (with_reducible assumption) | assumption)
                obtain ⟨ad244, e244, hx244_0⟩ := Kd.at_string (Kd.R_reads' HO_7.out).2.2 x9_2 p244 q244
                obtain rfl : ad239 = ad244 := (by injection e244)
                replace p244 := eq_true p244
                replace q244 := eq_true q244
                have p245 : 0 ≤ (x9_2 : Int) := of_decide_eq_true (by first | (with_reducible assumption) | assumption)
                have q245 : x9_2 < (t234.length : Int) := of_decide_eq_true (by first | (with_reducible assumption) | assumption)
                obtain ⟨ad245, e245, hx245_0⟩ := Kd.at_string (Kd.R_reads' HO_8.out).2.2 x9_2 p245 q245
                obtain rfl : ad237 = ad245 := (by injection e245)
                replace p245 := eq_true p245
                replace q245 := eq_true q245
                refine start_ (n := 10) (S := fun w' => w'.cell? (ad239.add (x9_2).toNat) = some (.string (rdOf ByteArray.empty t231 x9_2)) ∧ w'.cell? (ad237.add (x9_2).toNat) = some (.string (rdOf ByteArray.empty t234 x9_2))) (ds := []) #[false, false, false, false, false, false, false, false, false, false] (by kernel_rfl) rfl rfl ⟨hx244_0, hx245_0⟩ (fun hHeld => ?_); refine with_tabW flatironref02_Path.tab10 flatironref02_Path.bits10 (fun HT_ HW_ => ?_)
                generalize wr.drew = w38 at HO_7 HO_8 HB hx244_0 hx245_0 hHeld ⊢
                refine pure_ (i := 0) (N := some 71) (v := ?_) (a' := ?_) #[true, false, false, false, false, false, false, false, false, false] rfl rfl (any_of HT_.out (by kernel_rfl)) (fun _ _ _ h => h) (Or.inl ⟨by rfl, ?_⟩) ?_ ?_
                rotate_left
                ·intro w'
                 go_simp
                 with_reducible rfl
                rotate_left
                ·simp only [Act.put, List.setIfInBounds_toArray, List.set_cons_zero, List.set_cons_succ, i64_w, i32_w]
                 rfl
                refine pure_ (i := 1) (N := some 72) (v := ?_) (a' := ?_) #[true, true, false, false, false, false, false, false, false, false] rfl rfl (any_of HT_.out (by kernel_rfl)) (fun _ _ _ h => h) (Or.inl ⟨by rfl, ?_⟩) ?_ ?_
                rotate_left
                ·intro w'
                 go_simp
                 with_reducible rfl
                rotate_left
                ·simp only [Act.put, List.setIfInBounds_toArray, List.set_cons_zero, List.set_cons_succ, i64_w, i32_w]
                 rfl
                refine pure_ (i := 2) (N := some 73) (v := ?_) (a' := ?_) #[true, true, true, false, false, false, false, false, false, false] rfl rfl (any_of HT_.out (by kernel_rfl)) (fun _ _ _ h => h) (Or.inl ⟨by rfl, ?_⟩) ?_ ?_
                rotate_left
                ·intro w'
                 go_simp
                 with_reducible rfl
                rotate_left
                ·simp only [Act.put, List.setIfInBounds_toArray, List.set_cons_zero, List.set_cons_succ, i64_w, i32_w]
                 rfl
                refine pure_ (i := 4) (N := some 75) (v := ?_) (a' := ?_) #[true, true, true, false, true, false, false, false, false, false] rfl rfl (any_of HT_.out (by kernel_rfl)) (fun _ _ _ h => h) (Or.inl ⟨by rfl, ?_⟩) ?_ ?_
                rotate_left
                ·intro w'
                 go_simp
                 with_reducible rfl
                rotate_left
                ·simp only [Act.put, List.setIfInBounds_toArray, List.set_cons_zero, List.set_cons_succ, i64_w, i32_w]
                 rfl
                refine pure_ (i := 5) (N := some 76) (v := ?_) (a' := ?_) #[true, true, true, false, true, true, false, false, false, false] rfl rfl (any_of HT_.out (by kernel_rfl)) (fun _ _ _ h => h) (Or.inl ⟨by rfl, ?_⟩) ?_ ?_
                rotate_left
                ·intro w'
                 go_simp
                 with_reducible rfl
                rotate_left
                ·simp only [Act.put, List.setIfInBounds_toArray, List.set_cons_zero, List.set_cons_succ, i64_w, i32_w]
                 rfl
                refine pure_ (i := 6) (N := some 77) (v := ?_) (a' := ?_) #[true, true, true, false, true, true, true, false, false, false] rfl rfl (any_of HT_.out (by kernel_rfl)) (fun _ _ _ h => h) (Or.inl ⟨by rfl, ?_⟩) ?_ ?_
                rotate_left
                ·intro w'
                 go_simp
                 with_reducible rfl
                rotate_left
                ·simp only [Act.put, List.setIfInBounds_toArray, List.set_cons_zero, List.set_cons_succ, i64_w, i32_w]
                 rfl
                refine take_ (i := 3) (N := some 74) (v := ?_) (a' := ?_) #[true, true, true, true, true, true, true, false, false, false] rfl rfl (take_ofW HT_.out HW_.out (by kernel_rfl)) (fun _ _ _ h => h) (Or.inl ⟨by rfl, ?_⟩) hHeld ?_ ?_
                rotate_left
                ·rintro w' ⟨s0, s1⟩
                 go_simp
                 with_reducible rfl
                rotate_left
                ·simp only [Act.put, List.setIfInBounds_toArray, List.set_cons_zero, List.set_cons_succ, i64_w, i32_w]
                 rfl
                refine take_ (i := 7) (N := some 78) (v := ?_) (a' := ?_) #[true, true, true, true, true, true, true, true, false, false] rfl rfl (take_ofW HT_.out HW_.out (by kernel_rfl)) (fun _ _ _ h => h) (Or.inl ⟨by rfl, ?_⟩) hHeld ?_ ?_
                rotate_left
                ·rintro w' ⟨s0, s1⟩
                 go_simp
                 with_reducible rfl
                rotate_left
                ·simp only [Act.put, List.setIfInBounds_toArray, List.set_cons_zero, List.set_cons_succ, i64_w, i32_w]
                 rfl
                refine one_ (i := 8) (N := some 79) #[true, true, true, true, true, true, true, true, true, false] rfl rfl (one_of HT_.out (by kernel_rfl)) (by decide) (fun K hK => ?_)
                refine goes_ Tryd.func36 (by kernel_rfl) rfl #[.string (rdOf ByteArray.empty t231 x9_2), .string (rdOf ByteArray.empty t234 x9_2)] (by rfl) rfl rfl (by (try simp only [List.map_toArray, List.map_cons, List.map_nil]); first | done | rfl | (simp only [List.length_drop, List.length_take]; rfl)) ?_
                with_reducible refine (flatironref02_Match.calls k2 (rdOf ByteArray.empty t231 x9_2) (rdOf ByteArray.empty t234 x9_2) true _ A33.out).mono ?_
                rintro e w39 ⟨rfl, hb⟩
                have HS0_ := (hb.cell (World.block_lt_of_cell? _ _ (hHeld.1))).trans (hHeld.1)
                have HS1_ := (hb.cell (World.block_lt_of_cell? _ _ (hHeld.2))).trans (hHeld.2)
                refine ⟨_, rfl, ?_⟩
                have n0_ := Aside0.mk (Kd.R_below (by (with_reducible repeat (first | apply Kd.R_alloc | apply Kd.R_drewN | apply Kd.R_drew)); (first | exact HO_7.out | (first | refine Kd.R_mono HO_7.out (fun _ hk => ?_) | refine Kd.S_mono HO_7.out (fun _ hk => ?_) | refine Kd.Q_mono HO_7.out (fun _ hk => ?_)); simp only [ownBlock_slice] at hk ⊢; exact hk)) hb)
                have n1_ := Aside0.mk (Kd.R_below (by (with_reducible repeat (first | apply Kd.R_alloc | apply Kd.R_drewN | apply Kd.R_drew)); (first | exact HO_8.out | (first | refine Kd.R_mono HO_8.out (fun _ hk => ?_) | refine Kd.S_mono HO_8.out (fun _ hk => ?_) | refine Kd.Q_mono HO_8.out (fun _ hk => ?_)); simp only [ownBlock_slice] at hk ⊢; exact hk)) hb)
                have n2_ := Aside0.mk (below_step (by repeat (first | (with_reducible first | exact HB.out | apply below_alloc | apply pw_below_drewN | apply below_drew1) | exact HB.out)) hb)
                clear HO_7
                clear HO_8
                clear HB
                have HO_7 := n0_
                have HO_8 := n1_
                have HB := n2_
                clear n0_ n1_ n2_
                (try clear hb)
                (try clear hb2)
                (try clear hk)
                (try clear hi)
                refine hK.out _ _ ⟨HS0_, HS1_⟩ (fun hHeld => ?_)
                clear hK K
                refine norm_ (a' := ?_) ?_ ?_
                rotate_left
                ·show Act.put _ (some 79) _ = _
                 simp only [Act.put, List.setIfInBounds_toArray, List.set_cons_zero, List.set_cons_succ, i64_w, i32_w]
                 rfl
                refine pure_ (i := 9) (N := some 11) (v := ?_) (a' := ?_) #[true, true, true, true, true, true, true, true, true, true] rfl rfl (any_of HT_.out (by kernel_rfl)) (fun _ _ _ h => h) (Or.inl ⟨by rfl, ?_⟩) ?_ ?_
                rotate_left
                ·intro w'
                 go_simp
                 with_reducible rfl
                rotate_left
                ·simp only [Act.put, List.setIfInBounds_toArray, List.set_cons_zero, List.set_cons_succ, i64_w, i32_w]
                 rfl
                refine done_ (done_of HT_.out (by kernel_rfl)) ?_
                try go_wp2
                go_roundg k2
                case measure => have := HJ5.out; have := HK2.out; omega
                case rel => exact ⟨(wrap64 (x9_2 + 1)), (by first | rfl | (simp; done) | (simp [*]; done)), H', ⟨by have := HJ5.out; have := HK2.out; omega⟩, ⟨by (with_reducible repeat (first | apply Kd.R_alloc | apply Kd.R_drewN | apply Kd.R_drew)); (first | exact HO_7.out | (first | refine Kd.R_mono HO_7.out (fun _ hk => ?_) | refine Kd.S_mono HO_7.out (fun _ hk => ?_) | refine Kd.Q_mono HO_7.out (fun _ hk => ?_)); simp only [ownBlock_slice] at hk ⊢; exact hk)⟩, ⟨by (with_reducible repeat (first | apply Kd.R_alloc | apply Kd.R_drewN | apply Kd.R_drew)); (first | exact HO_8.out | (first | refine Kd.R_mono HO_8.out (fun _ hk => ?_) | refine Kd.S_mono HO_8.out (fun _ hk => ?_) | refine Kd.Q_mono HO_8.out (fun _ hk => ?_)); simp only [ownBlock_slice] at hk ⊢; exact hk)⟩, ⟨by repeat (first | (with_reducible first | exact HB.out | apply below_alloc | apply pw_below_drewN | apply below_drew1) | exact HB.out)⟩⟩
               ·replace c35 := Bool.eq_false_iff.mpr c35
                subst c35
                have H1 : (some false) = some r := by rw [if_neg (show ¬ (false = true) by decide)] at H; exact H
                clear H
                have H := H1
                clear H1
                obtain rfl := Option.some.inj H
                obtain ⟨Ao40, co40, eo40⟩ := Kd.R_slice HO_7.out
                subst eo40
                obtain ⟨Ao41, co41, eo41⟩ := Kd.R_slice HO_8.out
                subst eo41
                have p237 : 0 ≤ (x9_2 : Int) := of_decide_eq_true (by first | (with_reducible assumption) | assumption)
                have q237 : x9_2 < (t234.length : Int) := of_decide_eq_true (by first | (with_reducible assumption) | assumption)
                obtain ⟨ad237, e237, hx237_0⟩ := Kd.at_string (Kd.R_reads' HO_8.out).2.2 x9_2 p237 q237
                cases e237
                replace p237 := eq_true p237
                replace q237 := eq_true q237
                have p238 : 0 ≤ (x9_2 : Int) := of_decide_eq_true (by first | (with_reducible assumption) | assumption)
                have q238 : x9_2 < (t234.length : Int) := of_decide_eq_true (by first | (with_reducible assumption) | assumption)
                obtain ⟨ad238, e238, hx238_0⟩ := Kd.at_string (Kd.R_reads' HO_8.out).2.2 x9_2 p238 q238
                obtain rfl : ad237 = ad238 := (by injection e238)
                replace p238 := eq_true p238
                replace q238 := eq_true q238
                have p23 : 0 ≤ (0 : Int) := (by omega)
                have q23 : 0 < (rdOf ByteArray.empty t234 x9_2).size := (by have : (0 : Int) < ((rdOf ByteArray.empty t234 x9_2).size : Int) := of_decide_eq_true (by first | (with_reducible assumption) | assumption); omega)
                have hx23 : ∀ h : 0 < (rdOf ByteArray.empty t234 x9_2).size, (((rdOf ByteArray.empty t234 x9_2)[0]'h).toNat : Int) = bt (rdOf ByteArray.empty t234 x9_2) 0 := bt_at (rdOf ByteArray.empty t234 x9_2) 0
                clear p23
                have qi23 : (0 < ((rdOf ByteArray.empty t234 x9_2).size : Int)) = True := eq_true (of_decide_eq_true (by first | (with_reducible assumption) | assumption))
                replace q23 := eq_true q23
                have p239 : 0 ≤ (x9_2 : Int) := of_decide_eq_true (by first | (with_reducible assumption) | assumption)
                have q239 : x9_2 < (t231.length : Int) := of_decide_eq_true (by first | (with_reducible assumption) | assumption)
                obtain ⟨ad239, e239, hx239_0⟩ := Kd.at_string (Kd.R_reads' HO_7.out).2.2 x9_2 p239 q239
                cases e239
                replace p239 := eq_true p239
                replace q239 := eq_true q239
                have p243 : 0 ≤ (x9_2 : Int) := of_decide_eq_true (by first | (with_reducible assumption) | assumption)
                have q243 : x9_2 < (t231.length : Int) := of_decide_eq_true (by first | (with_reducible assumption) | assumption)
                obtain ⟨ad243, e243, hx243_0⟩ := Kd.at_string (Kd.R_reads' HO_7.out).2.2 x9_2 p243 q243
                obtain rfl : ad239 = ad243 := (by injection e243)
                replace p243 := eq_true p243
                replace q243 := eq_true q243
                have p32 : 0 ≤ (0 : Int) := (by omega)
                have q32 : 0 < (rdOf ByteArray.empty t231 x9_2).size := (by have : (0 : Int) < ((rdOf ByteArray.empty t231 x9_2).size : Int) := of_decide_eq_true (by first | (with_reducible assumption) | assumption); omega)
                have hx32 : ∀ h : 0 < (rdOf ByteArray.empty t231 x9_2).size, (((rdOf ByteArray.empty t231 x9_2)[0]'h).toNat : Int) = bt (rdOf ByteArray.empty t231 x9_2) 0 := bt_at (rdOf ByteArray.empty t231 x9_2) 0
                clear p32
                have qi32 : (0 < ((rdOf ByteArray.empty t231 x9_2).size : Int)) = True := eq_true (of_decide_eq_true (by first | (with_reducible assumption) | assumption))
                replace q32 := eq_true q32
                try go_wp2
                have n0_ := Aside0.mk (Kd.R_drew HO_7.out)
                have n1_ := Aside0.mk (Kd.R_drew HO_8.out)
                have n2_ := Aside0.mk (below_drew1 HB.out)
                clear HO_7
                clear HO_8
                clear HB
                have HO_7 := n0_
                have HO_8 := n1_
                have HB := n2_
                clear n0_ n1_ n2_
                have p244 : 0 ≤ (x9_2 : Int) := of_decide_eq_true (by first | (with_reducible assumption) | assumption)
                have q244 : x9_2 < (t231.length : Int) := of_decide_eq_true (by first | (with_reducible assumption) | assumption)
                obtain ⟨ad244, e244, hx244_0⟩ := Kd.at_string (Kd.R_reads' HO_7.out).2.2 x9_2 p244 q244
                obtain rfl : ad239 = ad244 := (by injection e244)
                replace p244 := eq_true p244
                replace q244 := eq_true q244
                have p245 : 0 ≤ (x9_2 : Int) := of_decide_eq_true (by first | (with_reducible assumption) | assumption)
                have q245 : x9_2 < (t234.length : Int) := of_decide_eq_true (by first | (with_reducible assumption) | assumption)
                obtain ⟨ad245, e245, hx245_0⟩ := Kd.at_string (Kd.R_reads' HO_8.out).2.2 x9_2 p245 q245
                obtain rfl : ad237 = ad245 := (by injection e245)
                replace p245 := eq_true p245
                replace q245 := eq_true q245
                refine start_ (n := 10) (S := fun w' => w'.cell? (ad239.add (x9_2).toNat) = some (.string (rdOf ByteArray.empty t231 x9_2)) ∧ w'.cell? (ad237.add (x9_2).toNat) = some (.string (rdOf ByteArray.empty t234 x9_2))) (ds := []) #[false, false, false, false, false, false, false, false, false, false] (by kernel_rfl) rfl rfl ⟨hx244_0, hx245_0⟩ (fun hHeld => ?_); refine with_tabW flatironref02_Path.tab10 flatironref02_Path.bits10 (fun HT_ HW_ => ?_)
                generalize wr.drew = w42 at HO_7 HO_8 HB hx244_0 hx245_0 hHeld ⊢
                refine pure_ (i := 0) (N := some 71) (v := ?_) (a' := ?_) #[true, false, false, false, false, false, false, false, false, false] rfl rfl (any_of HT_.out (by kernel_rfl)) (fun _ _ _ h => h) (Or.inl ⟨by rfl, ?_⟩) ?_ ?_
                rotate_left
                ·intro w'
                 go_simp
                 with_reducible rfl
                rotate_left
                ·simp only [Act.put, List.setIfInBounds_toArray, List.set_cons_zero, List.set_cons_succ, i64_w, i32_w]
                 rfl
                refine pure_ (i := 1) (N := some 72) (v := ?_) (a' := ?_) #[true, true, false, false, false, false, false, false, false, false] rfl rfl (any_of HT_.out (by kernel_rfl)) (fun _ _ _ h => h) (Or.inl ⟨by rfl, ?_⟩) ?_ ?_
                rotate_left
                ·intro w'
                 go_simp
                 with_reducible rfl
                rotate_left
                ·simp only [Act.put, List.setIfInBounds_toArray, List.set_cons_zero, List.set_cons_succ, i64_w, i32_w]
                 rfl
                refine pure_ (i := 2) (N := some 73) (v := ?_) (a' := ?_) #[true, true, true, false, false, false, false, false, false, false] rfl rfl (any_of HT_.out (by kernel_rfl)) (fun _ _ _ h => h) (Or.inl ⟨by rfl, ?_⟩) ?_ ?_
                rotate_left
                ·intro w'
                 go_simp
                 with_reducible rfl
                rotate_left
                ·simp only [Act.put, List.setIfInBounds_toArray, List.set_cons_zero, List.set_cons_succ, i64_w, i32_w]
                 rfl
                refine pure_ (i := 4) (N := some 75) (v := ?_) (a' := ?_) #[true, true, true, false, true, false, false, false, false, false] rfl rfl (any_of HT_.out (by kernel_rfl)) (fun _ _ _ h => h) (Or.inl ⟨by rfl, ?_⟩) ?_ ?_
                rotate_left
                ·intro w'
                 go_simp
                 with_reducible rfl
                rotate_left
                ·simp only [Act.put, List.setIfInBounds_toArray, List.set_cons_zero, List.set_cons_succ, i64_w, i32_w]
                 rfl
                refine pure_ (i := 5) (N := some 76) (v := ?_) (a' := ?_) #[true, true, true, false, true, true, false, false, false, false] rfl rfl (any_of HT_.out (by kernel_rfl)) (fun _ _ _ h => h) (Or.inl ⟨by rfl, ?_⟩) ?_ ?_
                rotate_left
                ·intro w'
                 go_simp
                 with_reducible rfl
                rotate_left
                ·simp only [Act.put, List.setIfInBounds_toArray, List.set_cons_zero, List.set_cons_succ, i64_w, i32_w]
                 rfl
                refine pure_ (i := 6) (N := some 77) (v := ?_) (a' := ?_) #[true, true, true, false, true, true, true, false, false, false] rfl rfl (any_of HT_.out (by kernel_rfl)) (fun _ _ _ h => h) (Or.inl ⟨by rfl, ?_⟩) ?_ ?_
                rotate_left
                ·intro w'
                 go_simp
                 with_reducible rfl
                rotate_left
                ·simp only [Act.put, List.setIfInBounds_toArray, List.set_cons_zero, List.set_cons_succ, i64_w, i32_w]
                 rfl
                refine take_ (i := 3) (N := some 74) (v := ?_) (a' := ?_) #[true, true, true, true, true, true, true, false, false, false] rfl rfl (take_ofW HT_.out HW_.out (by kernel_rfl)) (fun _ _ _ h => h) (Or.inl ⟨by rfl, ?_⟩) hHeld ?_ ?_
                rotate_left
                ·rintro w' ⟨s0, s1⟩
                 go_simp
                 with_reducible rfl
                rotate_left
                ·simp only [Act.put, List.setIfInBounds_toArray, List.set_cons_zero, List.set_cons_succ, i64_w, i32_w]
                 rfl
                refine take_ (i := 7) (N := some 78) (v := ?_) (a' := ?_) #[true, true, true, true, true, true, true, true, false, false] rfl rfl (take_ofW HT_.out HW_.out (by kernel_rfl)) (fun _ _ _ h => h) (Or.inl ⟨by rfl, ?_⟩) hHeld ?_ ?_
                rotate_left
                ·rintro w' ⟨s0, s1⟩
                 go_simp
                 with_reducible rfl
                rotate_left
                ·simp only [Act.put, List.setIfInBounds_toArray, List.set_cons_zero, List.set_cons_succ, i64_w, i32_w]
                 rfl
                refine one_ (i := 8) (N := some 79) #[true, true, true, true, true, true, true, true, true, false] rfl rfl (one_of HT_.out (by kernel_rfl)) (by decide) (fun K hK => ?_)
                refine goes_ Tryd.func36 (by kernel_rfl) rfl #[.string (rdOf ByteArray.empty t231 x9_2), .string (rdOf ByteArray.empty t234 x9_2)] (by rfl) rfl rfl (by (try simp only [List.map_toArray, List.map_cons, List.map_nil]); first | done | rfl | (simp only [List.length_drop, List.length_take]; rfl)) ?_
                with_reducible refine (flatironref02_Match.calls k2 (rdOf ByteArray.empty t231 x9_2) (rdOf ByteArray.empty t234 x9_2) false _ A33.out).mono ?_
                rintro e w43 ⟨rfl, hb⟩
                have HS0_ := (hb.cell (World.block_lt_of_cell? _ _ (hHeld.1))).trans (hHeld.1)
                have HS1_ := (hb.cell (World.block_lt_of_cell? _ _ (hHeld.2))).trans (hHeld.2)
                refine ⟨_, rfl, ?_⟩
                have n0_ := Aside0.mk (Kd.R_below (by (with_reducible repeat (first | apply Kd.R_alloc | apply Kd.R_drewN | apply Kd.R_drew)); (first | exact HO_7.out | (first | refine Kd.R_mono HO_7.out (fun _ hk => ?_) | refine Kd.S_mono HO_7.out (fun _ hk => ?_) | refine Kd.Q_mono HO_7.out (fun _ hk => ?_)); simp only [ownBlock_slice] at hk ⊢; exact hk)) hb)
                have n1_ := Aside0.mk (Kd.R_below (by (with_reducible repeat (first | apply Kd.R_alloc | apply Kd.R_drewN | apply Kd.R_drew)); (first | exact HO_8.out | (first | refine Kd.R_mono HO_8.out (fun _ hk => ?_) | refine Kd.S_mono HO_8.out (fun _ hk => ?_) | refine Kd.Q_mono HO_8.out (fun _ hk => ?_)); simp only [ownBlock_slice] at hk ⊢; exact hk)) hb)
                have n2_ := Aside0.mk (below_step (by repeat (first | (with_reducible first | exact HB.out | apply below_alloc | apply pw_below_drewN | apply below_drew1) | exact HB.out)) hb)
                clear HO_7
                clear HO_8
                clear HB
                have HO_7 := n0_
                have HO_8 := n1_
                have HB := n2_
                clear n0_ n1_ n2_
                (try clear hb)
                (try clear hb2)
                (try clear hk)
                (try clear hi)
                refine hK.out _ _ ⟨HS0_, HS1_⟩ (fun hHeld => ?_)
                clear hK K
                refine norm_ (a' := ?_) ?_ ?_
                rotate_left
                ·show Act.put _ (some 79) _ = _
                 simp only [Act.put, List.setIfInBounds_toArray, List.set_cons_zero, List.set_cons_succ, i64_w, i32_w]
                 rfl
                refine pure_ (i := 9) (N := some 11) (v := ?_) (a' := ?_) #[true, true, true, true, true, true, true, true, true, true] rfl rfl (any_of HT_.out (by kernel_rfl)) (fun _ _ _ h => h) (Or.inl ⟨by rfl, ?_⟩) ?_ ?_
                rotate_left
                ·intro w'
                 go_simp
                 with_reducible rfl
                rotate_left
                ·simp only [Act.put, List.setIfInBounds_toArray, List.set_cons_zero, List.set_cons_succ, i64_w, i32_w]
                 rfl
                refine done_ (done_of HT_.out (by kernel_rfl)) ?_
                try go_wp2
                go_ret
                exact ⟨by first | rfl | (simp [errW_none, errW_some] <;> rfl) | (simp [*, errW_none, errW_some] <;> rfl), by repeat (first | (with_reducible first | exact HB.out | apply below_alloc | apply pw_below_drewN | apply below_drew1) | exact HB.out)⟩
              ·rw [if_neg c34] at H
               have c34b0 : ((bt (rdOf ByteArray.empty t231 x9_2) 0) == 46) = false := beq_eq_false_iff_ne.mpr c34
               have c34b1 : ((bt (rdOf ByteArray.empty t231 x9_2) 0) != 46) = true := bne_iff_ne.mpr c34
               obtain rfl := Option.some.inj H
               obtain ⟨Ao44, co44, eo44⟩ := Kd.R_slice HO_7.out
               subst eo44
               obtain ⟨Ao45, co45, eo45⟩ := Kd.R_slice HO_8.out
               subst eo45
               have p237 : 0 ≤ (x9_2 : Int) := of_decide_eq_true (by first | (with_reducible assumption) | assumption)
               have q237 : x9_2 < (t234.length : Int) := of_decide_eq_true (by first | (with_reducible assumption) | assumption)
               obtain ⟨ad237, e237, hx237_0⟩ := Kd.at_string (Kd.R_reads' HO_8.out).2.2 x9_2 p237 q237
               cases e237
               replace p237 := eq_true p237
               replace q237 := eq_true q237
               have p238 : 0 ≤ (x9_2 : Int) := of_decide_eq_true (by first | (with_reducible assumption) | assumption)
               have q238 : x9_2 < (t234.length : Int) := of_decide_eq_true (by first | (with_reducible assumption) | assumption)
               obtain ⟨ad238, e238, hx238_0⟩ := Kd.at_string (Kd.R_reads' HO_8.out).2.2 x9_2 p238 q238
               obtain rfl : ad237 = ad238 := (by injection e238)
               replace p238 := eq_true p238
               replace q238 := eq_true q238
               have p23 : 0 ≤ (0 : Int) := (by omega)
               have q23 : 0 < (rdOf ByteArray.empty t234 x9_2).size := (by have : (0 : Int) < ((rdOf ByteArray.empty t234 x9_2).size : Int) := of_decide_eq_true (by first | (with_reducible assumption) | assumption); omega)
               have hx23 : ∀ h : 0 < (rdOf ByteArray.empty t234 x9_2).size, (((rdOf ByteArray.empty t234 x9_2)[0]'h).toNat : Int) = bt (rdOf ByteArray.empty t234 x9_2) 0 := bt_at (rdOf ByteArray.empty t234 x9_2) 0
               clear p23
               have qi23 : (0 < ((rdOf ByteArray.empty t234 x9_2).size : Int)) = True := eq_true (of_decide_eq_true (by first | (with_reducible assumption) | assumption))
               replace q23 := eq_true q23
               have p239 : 0 ≤ (x9_2 : Int) := of_decide_eq_true (by first | (with_reducible assumption) | assumption)
               have q239 : x9_2 < (t231.length : Int) := of_decide_eq_true (by first | (with_reducible assumption) | assumption)
               obtain ⟨ad239, e239, hx239_0⟩ := Kd.at_string (Kd.R_reads' HO_7.out).2.2 x9_2 p239 q239
               cases e239
               replace p239 := eq_true p239
               replace q239 := eq_true q239
               have p243 : 0 ≤ (x9_2 : Int) := of_decide_eq_true (by first | (with_reducible assumption) | assumption)
               have q243 : x9_2 < (t231.length : Int) := of_decide_eq_true (by first | (with_reducible assumption) | assumption)
               obtain ⟨ad243, e243, hx243_0⟩ := Kd.at_string (Kd.R_reads' HO_7.out).2.2 x9_2 p243 q243
               obtain rfl : ad239 = ad243 := (by injection e243)
               replace p243 := eq_true p243
               replace q243 := eq_true q243
               have p32 : 0 ≤ (0 : Int) := (by omega)
               have q32 : 0 < (rdOf ByteArray.empty t231 x9_2).size := (by have : (0 : Int) < ((rdOf ByteArray.empty t231 x9_2).size : Int) := of_decide_eq_true (by first | (with_reducible assumption) | assumption); omega)
               have hx32 : ∀ h : 0 < (rdOf ByteArray.empty t231 x9_2).size, (((rdOf ByteArray.empty t231 x9_2)[0]'h).toNat : Int) = bt (rdOf ByteArray.empty t231 x9_2) 0 := bt_at (rdOf ByteArray.empty t231 x9_2) 0
               clear p32
               have qi32 : (0 < ((rdOf ByteArray.empty t231 x9_2).size : Int)) = True := eq_true (of_decide_eq_true (by first | (with_reducible assumption) | assumption))
               replace q32 := eq_true q32
               try go_wp2
               have n0_ := Aside0.mk (Kd.R_drew HO_7.out)
               have n1_ := Aside0.mk (Kd.R_drew HO_8.out)
               have n2_ := Aside0.mk (below_drew1 HB.out)
               clear HO_7
               clear HO_8
               clear HB
               have HO_7 := n0_
               have HO_8 := n1_
               have HB := n2_
               clear n0_ n1_ n2_
               have p244 : 0 ≤ (x9_2 : Int) := of_decide_eq_true (by first | (with_reducible assumption) | assumption)
               have q244 : x9_2 < (t231.length : Int) := of_decide_eq_true (by first | (with_reducible assumption) | assumption)
               obtain ⟨ad244, e244, hx244_0⟩ := Kd.at_string (Kd.R_reads' HO_7.out).2.2 x9_2 p244 q244
               obtain rfl : ad239 = ad244 := (by injection e244)
               replace p244 := eq_true p244
               replace q244 := eq_true q244
               have p245 : 0 ≤ (x9_2 : Int) := of_decide_eq_true (by first | (with_reducible assumption) | assumption)
               have q245 : x9_2 < (t234.length : Int) := of_decide_eq_true (by first | (with_reducible assumption) | assumption)
               obtain ⟨ad245, e245, hx245_0⟩ := Kd.at_string (Kd.R_reads' HO_8.out).2.2 x9_2 p245 q245
               obtain rfl : ad237 = ad245 := (by injection e245)
               replace p245 := eq_true p245
               replace q245 := eq_true q245
               refine start_ (n := 10) (S := fun w' => w'.cell? (ad239.add (x9_2).toNat) = some (.string (rdOf ByteArray.empty t231 x9_2)) ∧ w'.cell? (ad237.add (x9_2).toNat) = some (.string (rdOf ByteArray.empty t234 x9_2))) (ds := []) #[false, false, false, false, false, false, false, false, false, false] (by kernel_rfl) rfl rfl ⟨hx244_0, hx245_0⟩ (fun hHeld => ?_); refine with_tabW flatironref02_Path.tab10 flatironref02_Path.bits10 (fun HT_ HW_ => ?_)
               generalize wr.drew = w46 at HO_7 HO_8 HB hx244_0 hx245_0 hHeld ⊢
               refine pure_ (i := 0) (N := some 71) (v := ?_) (a' := ?_) #[true, false, false, false, false, false, false, false, false, false] rfl rfl (any_of HT_.out (by kernel_rfl)) (fun _ _ _ h => h) (Or.inl ⟨by rfl, ?_⟩) ?_ ?_
               rotate_left
               ·intro w'
                go_simp
                with_reducible rfl
               rotate_left
               ·simp only [Act.put, List.setIfInBounds_toArray, List.set_cons_zero, List.set_cons_succ, i64_w, i32_w]
                rfl
               refine pure_ (i := 1) (N := some 72) (v := ?_) (a' := ?_) #[true, true, false, false, false, false, false, false, false, false] rfl rfl (any_of HT_.out (by kernel_rfl)) (fun _ _ _ h => h) (Or.inl ⟨by rfl, ?_⟩) ?_ ?_
               rotate_left
               ·intro w'
                go_simp
                with_reducible rfl
               rotate_left
               ·simp only [Act.put, List.setIfInBounds_toArray, List.set_cons_zero, List.set_cons_succ, i64_w, i32_w]
                rfl
               refine pure_ (i := 2) (N := some 73) (v := ?_) (a' := ?_) #[true, true, true, false, false, false, false, false, false, false] rfl rfl (any_of HT_.out (by kernel_rfl)) (fun _ _ _ h => h) (Or.inl ⟨by rfl, ?_⟩) ?_ ?_
               rotate_left
               ·intro w'
                go_simp
                with_reducible rfl
               rotate_left
               ·simp only [Act.put, List.setIfInBounds_toArray, List.set_cons_zero, List.set_cons_succ, i64_w, i32_w]
                rfl
               refine pure_ (i := 4) (N := some 75) (v := ?_) (a' := ?_) #[true, true, true, false, true, false, false, false, false, false] rfl rfl (any_of HT_.out (by kernel_rfl)) (fun _ _ _ h => h) (Or.inl ⟨by rfl, ?_⟩) ?_ ?_
               rotate_left
               ·intro w'
                go_simp
                with_reducible rfl
               rotate_left
               ·simp only [Act.put, List.setIfInBounds_toArray, List.set_cons_zero, List.set_cons_succ, i64_w, i32_w]
                rfl
               refine pure_ (i := 5) (N := some 76) (v := ?_) (a' := ?_) #[true, true, true, false, true, true, false, false, false, false] rfl rfl (any_of HT_.out (by kernel_rfl)) (fun _ _ _ h => h) (Or.inl ⟨by rfl, ?_⟩) ?_ ?_
               rotate_left
               ·intro w'
                go_simp
                with_reducible rfl
               rotate_left
               ·simp only [Act.put, List.setIfInBounds_toArray, List.set_cons_zero, List.set_cons_succ, i64_w, i32_w]
                rfl
               refine pure_ (i := 6) (N := some 77) (v := ?_) (a' := ?_) #[true, true, true, false, true, true, true, false, false, false] rfl rfl (any_of HT_.out (by kernel_rfl)) (fun _ _ _ h => h) (Or.inl ⟨by rfl, ?_⟩) ?_ ?_
               rotate_left
               ·intro w'
                go_simp
                with_reducible rfl
               rotate_left
               ·simp only [Act.put, List.setIfInBounds_toArray, List.set_cons_zero, List.set_cons_succ, i64_w, i32_w]
                rfl
               refine take_ (i := 3) (N := some 74) (v := ?_) (a' := ?_) #[true, true, true, true, true, true, true, false, false, false] rfl rfl (take_ofW HT_.out HW_.out (by kernel_rfl)) (fun _ _ _ h => h) (Or.inl ⟨by rfl, ?_⟩) hHeld ?_ ?_
               rotate_left
               ·rintro w' ⟨s0, s1⟩
                go_simp
                with_reducible rfl
               rotate_left
               ·simp only [Act.put, List.setIfInBounds_toArray, List.set_cons_zero, List.set_cons_succ, i64_w, i32_w]
                rfl
               refine take_ (i := 7) (N := some 78) (v := ?_) (a' := ?_) #[true, true, true, true, true, true, true, true, false, false] rfl rfl (take_ofW HT_.out HW_.out (by kernel_rfl)) (fun _ _ _ h => h) (Or.inl ⟨by rfl, ?_⟩) hHeld ?_ ?_
               rotate_left
               ·rintro w' ⟨s0, s1⟩
                go_simp
                with_reducible rfl
               rotate_left
               ·simp only [Act.put, List.setIfInBounds_toArray, List.set_cons_zero, List.set_cons_succ, i64_w, i32_w]
                rfl
               refine one_ (i := 8) (N := some 79) #[true, true, true, true, true, true, true, true, true, false] rfl rfl (one_of HT_.out (by kernel_rfl)) (by decide) (fun K hK => ?_)
               refine goes_ Tryd.func36 (by kernel_rfl) rfl #[.string (rdOf ByteArray.empty t231 x9_2), .string (rdOf ByteArray.empty t234 x9_2)] (by rfl) rfl rfl (by (try simp only [List.map_toArray, List.map_cons, List.map_nil]); first | done | rfl | (simp only [List.length_drop, List.length_take]; rfl)) ?_
               with_reducible refine (flatironref02_Match.calls k2 (rdOf ByteArray.empty t231 x9_2) (rdOf ByteArray.empty t234 x9_2) t246 _ A33.out).mono ?_
               rintro e w47 ⟨rfl, hb⟩
               have HS0_ := (hb.cell (World.block_lt_of_cell? _ _ (hHeld.1))).trans (hHeld.1)
               have HS1_ := (hb.cell (World.block_lt_of_cell? _ _ (hHeld.2))).trans (hHeld.2)
               refine ⟨_, rfl, ?_⟩
               have n0_ := Aside0.mk (Kd.R_below (by (with_reducible repeat (first | apply Kd.R_alloc | apply Kd.R_drewN | apply Kd.R_drew)); (first | exact HO_7.out | (first | refine Kd.R_mono HO_7.out (fun _ hk => ?_) | refine Kd.S_mono HO_7.out (fun _ hk => ?_) | refine Kd.Q_mono HO_7.out (fun _ hk => ?_)); simp only [ownBlock_slice] at hk ⊢; exact hk)) hb)
               have n1_ := Aside0.mk (Kd.R_below (by (with_reducible repeat (first | apply Kd.R_alloc | apply Kd.R_drewN | apply Kd.R_drew)); (first | exact HO_8.out | (first | refine Kd.R_mono HO_8.out (fun _ hk => ?_) | refine Kd.S_mono HO_8.out (fun _ hk => ?_) | refine Kd.Q_mono HO_8.out (fun _ hk => ?_)); simp only [ownBlock_slice] at hk ⊢; exact hk)) hb)
               have n2_ := Aside0.mk (below_step (by repeat (first | (with_reducible first | exact HB.out | apply below_alloc | apply pw_below_drewN | apply below_drew1) | exact HB.out)) hb)
               clear HO_7
               clear HO_8
               clear HB
               have HO_7 := n0_
               have HO_8 := n1_
               have HB := n2_
               clear n0_ n1_ n2_
               (try clear hb)
               (try clear hb2)
               (try clear hk)
               (try clear hi)
               refine hK.out _ _ ⟨HS0_, HS1_⟩ (fun hHeld => ?_)
               clear hK K
               refine norm_ (a' := ?_) ?_ ?_
               rotate_left
               ·show Act.put _ (some 79) _ = _
                simp only [Act.put, List.setIfInBounds_toArray, List.set_cons_zero, List.set_cons_succ, i64_w, i32_w]
                rfl
               refine pure_ (i := 9) (N := some 11) (v := ?_) (a' := ?_) #[true, true, true, true, true, true, true, true, true, true] rfl rfl (any_of HT_.out (by kernel_rfl)) (fun _ _ _ h => h) (Or.inl ⟨by rfl, ?_⟩) ?_ ?_
               rotate_left
               ·intro w'
                go_simp
                with_reducible rfl
               rotate_left
               ·simp only [Act.put, List.setIfInBounds_toArray, List.set_cons_zero, List.set_cons_succ, i64_w, i32_w]
                rfl
               refine done_ (done_of HT_.out (by kernel_rfl)) ?_
               try go_wp2
               go_ret
               exact ⟨by first | rfl | (simp [errW_none, errW_some] <;> rfl) | (simp [*, errW_none, errW_some] <;> rfl), by repeat (first | (with_reducible first | exact HB.out | apply below_alloc | apply pw_below_drewN | apply below_drew1) | exact HB.out)⟩
             ·rw [if_neg c31] at H
              exact absurd H (by simp)
           ·rw [if_neg c24] at H
            have c24b0 : ((bt (rdOf ByteArray.empty t234 x9_2) 0) == 46) = false := beq_eq_false_iff_ne.mpr c24
            have c24b1 : ((bt (rdOf ByteArray.empty t234 x9_2) 0) != 46) = true := bne_iff_ne.mpr c24
            replace H := Option.bind_eq_some_iff.mp H
            obtain ⟨t249, A480, H⟩ := H
            replace H : (if t249 = true then (flatironref02_Path.l0 k2 t231 t234 (wrap64 (x9_2 + 1))) else (some false)) = some r := H
            have A48 := Aside0.mk A480
            clear A480
            by_cases c49 : t249 = true
            ·subst c49
             have H1 : (flatironref02_Path.l0 k2 t231 t234 (wrap64 (x9_2 + 1))) = some r := by rw [if_pos rfl] at H; exact H
             clear H
             have H := H1
             clear H1
             have H' := Aside0.mk H
             clear H
             obtain ⟨Ao50, co50, eo50⟩ := Kd.R_slice HO_7.out
             subst eo50
             obtain ⟨Ao51, co51, eo51⟩ := Kd.R_slice HO_8.out
             subst eo51
             have p237 : 0 ≤ (x9_2 : Int) := of_decide_eq_true (by first | (with_reducible assumption) | assumption)
             have q237 : x9_2 < (t234.length : Int) := of_decide_eq_true (by first | (with_reducible assumption) | assumption)
             obtain ⟨ad237, e237, hx237_0⟩ := Kd.at_string (Kd.R_reads' HO_8.out).2.2 x9_2 p237 q237
             cases e237
             replace p237 := eq_true p237
             replace q237 := eq_true q237
             have p238 : 0 ≤ (x9_2 : Int) := of_decide_eq_true (by first | (with_reducible assumption) | assumption)
             have q238 : x9_2 < (t234.length : Int) := of_decide_eq_true (by first | (with_reducible assumption) | assumption)
             obtain ⟨ad238, e238, hx238_0⟩ := Kd.at_string (Kd.R_reads' HO_8.out).2.2 x9_2 p238 q238
             obtain rfl : ad237 = ad238 := (by injection e238)
             replace p238 := eq_true p238
             replace q238 := eq_true q238
             have p23 : 0 ≤ (0 : Int) := (by omega)
             have q23 : 0 < (rdOf ByteArray.empty t234 x9_2).size := (by have : (0 : Int) < ((rdOf ByteArray.empty t234 x9_2).size : Int) := of_decide_eq_true (by first | (with_reducible assumption) | assumption); omega)
             have hx23 : ∀ h : 0 < (rdOf ByteArray.empty t234 x9_2).size, (((rdOf ByteArray.empty t234 x9_2)[0]'h).toNat : Int) = bt (rdOf ByteArray.empty t234 x9_2) 0 := bt_at (rdOf ByteArray.empty t234 x9_2) 0
             clear p23
             have qi23 : (0 < ((rdOf ByteArray.empty t234 x9_2).size : Int)) = True := eq_true (of_decide_eq_true (by first | (with_reducible assumption) | assumption))
             replace q23 := eq_true q23
             try go_wp2
             have n0_ := Aside0.mk (Kd.R_drew HO_7.out)
             have n1_ := Aside0.mk (Kd.R_drew HO_8.out)
             have n2_ := Aside0.mk (below_drew1 HB.out)
             clear HO_7
             clear HO_8
             clear HB
             have HO_7 := n0_
             have HO_8 := n1_
             have HB := n2_
             clear n0_ n1_ n2_
             have p247 : 0 ≤ (x9_2 : Int) := of_decide_eq_true (by first | (with_reducible assumption) | assumption)
             have q247 : x9_2 < (t231.length : Int) := of_decide_eq_true (by first | (with_reducible assumption) | assumption)
             obtain ⟨ad247, e247, hx247_0⟩ := Kd.at_string (Kd.R_reads' HO_7.out).2.2 x9_2 p247 q247
             cases e247
             replace p247 := eq_true p247
             replace q247 := eq_true q247
             have p248 : 0 ≤ (x9_2 : Int) := of_decide_eq_true (by first | (with_reducible assumption) | assumption)
             have q248 : x9_2 < (t234.length : Int) := of_decide_eq_true (by first | (with_reducible assumption) | assumption)
             obtain ⟨ad248, e248, hx248_0⟩ := Kd.at_string (Kd.R_reads' HO_8.out).2.2 x9_2 p248 q248
             obtain rfl : ad237 = ad248 := (by injection e248)
             replace p248 := eq_true p248
             replace q248 := eq_true q248
             refine start_ (n := 10) (S := fun w' => w'.cell? (ad247.add (x9_2).toNat) = some (.string (rdOf ByteArray.empty t231 x9_2)) ∧ w'.cell? (ad237.add (x9_2).toNat) = some (.string (rdOf ByteArray.empty t234 x9_2))) (ds := []) #[false, false, false, false, false, false, false, false, false, false] (by kernel_rfl) rfl rfl ⟨hx247_0, hx248_0⟩ (fun hHeld => ?_); refine with_tabW flatironref02_Path.tab10 flatironref02_Path.bits10 (fun HT_ HW_ => ?_)
             generalize wr.drew = w52 at HO_7 HO_8 HB hx247_0 hx248_0 hHeld ⊢
             refine pure_ (i := 0) (N := some 71) (v := ?_) (a' := ?_) #[true, false, false, false, false, false, false, false, false, false] rfl rfl (any_of HT_.out (by kernel_rfl)) (fun _ _ _ h => h) (Or.inl ⟨by rfl, ?_⟩) ?_ ?_
             rotate_left
             ·intro w'
              go_simp
              with_reducible rfl
             rotate_left
             ·simp only [Act.put, List.setIfInBounds_toArray, List.set_cons_zero, List.set_cons_succ, i64_w, i32_w]
              rfl
             refine pure_ (i := 1) (N := some 72) (v := ?_) (a' := ?_) #[true, true, false, false, false, false, false, false, false, false] rfl rfl (any_of HT_.out (by kernel_rfl)) (fun _ _ _ h => h) (Or.inl ⟨by rfl, ?_⟩) ?_ ?_
             rotate_left
             ·intro w'
              go_simp
              with_reducible rfl
             rotate_left
             ·simp only [Act.put, List.setIfInBounds_toArray, List.set_cons_zero, List.set_cons_succ, i64_w, i32_w]
              rfl
             refine pure_ (i := 2) (N := some 73) (v := ?_) (a' := ?_) #[true, true, true, false, false, false, false, false, false, false] rfl rfl (any_of HT_.out (by kernel_rfl)) (fun _ _ _ h => h) (Or.inl ⟨by rfl, ?_⟩) ?_ ?_
             rotate_left
             ·intro w'
              go_simp
              with_reducible rfl
             rotate_left
             ·simp only [Act.put, List.setIfInBounds_toArray, List.set_cons_zero, List.set_cons_succ, i64_w, i32_w]
              rfl
             refine pure_ (i := 4) (N := some 75) (v := ?_) (a' := ?_) #[true, true, true, false, true, false, false, false, false, false] rfl rfl (any_of HT_.out (by kernel_rfl)) (fun _ _ _ h => h) (Or.inl ⟨by rfl, ?_⟩) ?_ ?_
             rotate_left
             ·intro w'
              go_simp
              with_reducible rfl
             rotate_left
             ·simp only [Act.put, List.setIfInBounds_toArray, List.set_cons_zero, List.set_cons_succ, i64_w, i32_w]
              rfl
             refine pure_ (i := 5) (N := some 76) (v := ?_) (a' := ?_) #[true, true, true, false, true, true, false, false, false, false] rfl rfl (any_of HT_.out (by kernel_rfl)) (fun _ _ _ h => h) (Or.inl ⟨by rfl, ?_⟩) ?_ ?_
             rotate_left
             ·intro w'
              go_simp
              with_reducible rfl
             rotate_left
             ·simp only [Act.put, List.setIfInBounds_toArray, List.set_cons_zero, List.set_cons_succ, i64_w, i32_w]
              rfl
             refine pure_ (i := 6) (N := some 77) (v := ?_) (a' := ?_) #[true, true, true, false, true, true, true, false, false, false] rfl rfl (any_of HT_.out (by kernel_rfl)) (fun _ _ _ h => h) (Or.inl ⟨by rfl, ?_⟩) ?_ ?_
             rotate_left
             ·intro w'
              go_simp
              with_reducible rfl
             rotate_left
             ·simp only [Act.put, List.setIfInBounds_toArray, List.set_cons_zero, List.set_cons_succ, i64_w, i32_w]
              rfl
             refine take_ (i := 3) (N := some 74) (v := ?_) (a' := ?_) #[true, true, true, true, true, true, true, false, false, false] rfl rfl (take_ofW HT_.out HW_.out (by kernel_rfl)) (fun _ _ _ h => h) (Or.inl ⟨by rfl, ?_⟩) hHeld ?_ ?_
             rotate_left
             ·rintro w' ⟨s0, s1⟩
              go_simp
              with_reducible rfl
             rotate_left
             ·simp only [Act.put, List.setIfInBounds_toArray, List.set_cons_zero, List.set_cons_succ, i64_w, i32_w]
              rfl
             refine take_ (i := 7) (N := some 78) (v := ?_) (a' := ?_) #[true, true, true, true, true, true, true, true, false, false] rfl rfl (take_ofW HT_.out HW_.out (by kernel_rfl)) (fun _ _ _ h => h) (Or.inl ⟨by rfl, ?_⟩) hHeld ?_ ?_
             rotate_left
             ·rintro w' ⟨s0, s1⟩
              go_simp
              with_reducible rfl
             rotate_left
             ·simp only [Act.put, List.setIfInBounds_toArray, List.set_cons_zero, List.set_cons_succ, i64_w, i32_w]
              rfl
             refine one_ (i := 8) (N := some 79) #[true, true, true, true, true, true, true, true, true, false] rfl rfl (one_of HT_.out (by kernel_rfl)) (by decide) (fun K hK => ?_)
             refine goes_ Tryd.func36 (by kernel_rfl) rfl #[.string (rdOf ByteArray.empty t231 x9_2), .string (rdOf ByteArray.empty t234 x9_2)] (by rfl) rfl rfl (by (try simp only [List.map_toArray, List.map_cons, List.map_nil]); first | done | rfl | (simp only [List.length_drop, List.length_take]; rfl)) ?_
             with_reducible refine (flatironref02_Match.calls k2 (rdOf ByteArray.empty t231 x9_2) (rdOf ByteArray.empty t234 x9_2) true _ A48.out).mono ?_
             rintro e w53 ⟨rfl, hb⟩
             have HS0_ := (hb.cell (World.block_lt_of_cell? _ _ (hHeld.1))).trans (hHeld.1)
             have HS1_ := (hb.cell (World.block_lt_of_cell? _ _ (hHeld.2))).trans (hHeld.2)
             refine ⟨_, rfl, ?_⟩
             have n0_ := Aside0.mk (Kd.R_below (by (with_reducible repeat (first | apply Kd.R_alloc | apply Kd.R_drewN | apply Kd.R_drew)); (first | exact HO_7.out | (first | refine Kd.R_mono HO_7.out (fun _ hk => ?_) | refine Kd.S_mono HO_7.out (fun _ hk => ?_) | refine Kd.Q_mono HO_7.out (fun _ hk => ?_)); simp only [ownBlock_slice] at hk ⊢; exact hk)) hb)
             have n1_ := Aside0.mk (Kd.R_below (by (with_reducible repeat (first | apply Kd.R_alloc | apply Kd.R_drewN | apply Kd.R_drew)); (first | exact HO_8.out | (first | refine Kd.R_mono HO_8.out (fun _ hk => ?_) | refine Kd.S_mono HO_8.out (fun _ hk => ?_) | refine Kd.Q_mono HO_8.out (fun _ hk => ?_)); simp only [ownBlock_slice] at hk ⊢; exact hk)) hb)
             have n2_ := Aside0.mk (below_step (by repeat (first | (with_reducible first | exact HB.out | apply below_alloc | apply pw_below_drewN | apply below_drew1) | exact HB.out)) hb)
             clear HO_7
             clear HO_8
             clear HB
             have HO_7 := n0_
             have HO_8 := n1_
             have HB := n2_
             clear n0_ n1_ n2_
             (try clear hb)
             (try clear hb2)
             (try clear hk)
             (try clear hi)
             refine hK.out _ _ ⟨HS0_, HS1_⟩ (fun hHeld => ?_)
             clear hK K
             refine norm_ (a' := ?_) ?_ ?_
             rotate_left
             ·show Act.put _ (some 79) _ = _
              simp only [Act.put, List.setIfInBounds_toArray, List.set_cons_zero, List.set_cons_succ, i64_w, i32_w]
              rfl
             refine pure_ (i := 9) (N := some 11) (v := ?_) (a' := ?_) #[true, true, true, true, true, true, true, true, true, true] rfl rfl (any_of HT_.out (by kernel_rfl)) (fun _ _ _ h => h) (Or.inl ⟨by rfl, ?_⟩) ?_ ?_
             rotate_left
             ·intro w'
              go_simp
              with_reducible rfl
             rotate_left
             ·simp only [Act.put, List.setIfInBounds_toArray, List.set_cons_zero, List.set_cons_succ, i64_w, i32_w]
              rfl
             refine done_ (done_of HT_.out (by kernel_rfl)) ?_
             try go_wp2
             go_roundg k2
             case measure => have := HJ5.out; have := HK2.out; omega
             case rel => exact ⟨(wrap64 (x9_2 + 1)), (by first | rfl | (simp; done) | (simp [*]; done)), H', ⟨by have := HJ5.out; have := HK2.out; omega⟩, ⟨by (with_reducible repeat (first | apply Kd.R_alloc | apply Kd.R_drewN | apply Kd.R_drew)); (first | exact HO_7.out | (first | refine Kd.R_mono HO_7.out (fun _ hk => ?_) | refine Kd.S_mono HO_7.out (fun _ hk => ?_) | refine Kd.Q_mono HO_7.out (fun _ hk => ?_)); simp only [ownBlock_slice] at hk ⊢; exact hk)⟩, ⟨by (with_reducible repeat (first | apply Kd.R_alloc | apply Kd.R_drewN | apply Kd.R_drew)); (first | exact HO_8.out | (first | refine Kd.R_mono HO_8.out (fun _ hk => ?_) | refine Kd.S_mono HO_8.out (fun _ hk => ?_) | refine Kd.Q_mono HO_8.out (fun _ hk => ?_)); simp only [ownBlock_slice] at hk ⊢; exact hk)⟩, ⟨by repeat (first | (with_reducible first | exact HB.out | apply below_alloc | apply pw_below_drewN | apply below_drew1) | exact HB.out)⟩⟩
            ·replace c49 := Bool.eq_false_iff.mpr c49
             subst c49
             have H1 : (some false) = some r := by rw [if_neg (show ¬ (false = true) by decide)] at H; exact H
             clear H
             have H := H1
             clear H1
             obtain rfl := Option.some.inj H
             obtain ⟨Ao54, co54, eo54⟩ := Kd.R_slice HO_7.out
             subst eo54
             obtain ⟨Ao55, co55, eo55⟩ := Kd.R_slice HO_8.out
             subst eo55
             have p237 : 0 ≤ (x9_2 : Int) := of_decide_eq_true (by first | (with_reducible assumption) | assumption)
             have q237 : x9_2 < (t234.length : Int) := of_decide_eq_true (by first | (with_reducible assumption) | assumption)
             obtain ⟨ad237, e237, hx237_0⟩ := Kd.at_string (Kd.R_reads' HO_8.out).2.2 x9_2 p237 q237
             cases e237
             replace p237 := eq_true p237
             replace q237 := eq_true q237
             have p238 : 0 ≤ (x9_2 : Int) := of_decide_eq_true (by first | (with_reducible assumption) | assumption)
             have q238 : x9_2 < (t234.length : Int) := of_decide_eq_true (by first | (with_reducible assumption) | assumption)
             obtain ⟨ad238, e238, hx238_0⟩ := Kd.at_string (Kd.R_reads' HO_8.out).2.2 x9_2 p238 q238
             obtain rfl : ad237 = ad238 := (by injection e238)
             replace p238 := eq_true p238
             replace q238 := eq_true q238
             have p23 : 0 ≤ (0 : Int) := (by omega)
             have q23 : 0 < (rdOf ByteArray.empty t234 x9_2).size := (by have : (0 : Int) < ((rdOf ByteArray.empty t234 x9_2).size : Int) := of_decide_eq_true (by first | (with_reducible assumption) | assumption); omega)
             have hx23 : ∀ h : 0 < (rdOf ByteArray.empty t234 x9_2).size, (((rdOf ByteArray.empty t234 x9_2)[0]'h).toNat : Int) = bt (rdOf ByteArray.empty t234 x9_2) 0 := bt_at (rdOf ByteArray.empty t234 x9_2) 0
             clear p23
             have qi23 : (0 < ((rdOf ByteArray.empty t234 x9_2).size : Int)) = True := eq_true (of_decide_eq_true (by first | (with_reducible assumption) | assumption))
             replace q23 := eq_true q23
             try go_wp2
             have n0_ := Aside0.mk (Kd.R_drew HO_7.out)
             have n1_ := Aside0.mk (Kd.R_drew HO_8.out)
             have n2_ := Aside0.mk (below_drew1 HB.out)
             clear HO_7
             clear HO_8
             clear HB
             have HO_7 := n0_
             have HO_8 := n1_
             have HB := n2_
             clear n0_ n1_ n2_
             have p247 : 0 ≤ (x9_2 : Int) := of_decide_eq_true (by first | (with_reducible assumption) | assumption)
             have q247 : x9_2 < (t231.length : Int) := of_decide_eq_true (by first | (with_reducible assumption) | assumption)
             obtain ⟨ad247, e247, hx247_0⟩ := Kd.at_string (Kd.R_reads' HO_7.out).2.2 x9_2 p247 q247
             cases e247
             replace p247 := eq_true p247
             replace q247 := eq_true q247
             have p248 : 0 ≤ (x9_2 : Int) := of_decide_eq_true (by first | (with_reducible assumption) | assumption)
             have q248 : x9_2 < (t234.length : Int) := of_decide_eq_true (by first | (with_reducible assumption) | assumption)
             obtain ⟨ad248, e248, hx248_0⟩ := Kd.at_string (Kd.R_reads' HO_8.out).2.2 x9_2 p248 q248
             obtain rfl : ad237 = ad248 := (by injection e248)
             replace p248 := eq_true p248
             replace q248 := eq_true q248
             refine start_ (n := 10) (S := fun w' => w'.cell? (ad247.add (x9_2).toNat) = some (.string (rdOf ByteArray.empty t231 x9_2)) ∧ w'.cell? (ad237.add (x9_2).toNat) = some (.string (rdOf ByteArray.empty t234 x9_2))) (ds := []) #[false, false, false, false, false, false, false, false, false, false] (by kernel_rfl) rfl rfl ⟨hx247_0, hx248_0⟩ (fun hHeld => ?_); refine with_tabW flatironref02_Path.tab10 flatironref02_Path.bits10 (fun HT_ HW_ => ?_)
             generalize wr.drew = w56 at HO_7 HO_8 HB hx247_0 hx248_0 hHeld ⊢
             refine pure_ (i := 0) (N := some 71) (v := ?_) (a' := ?_) #[true, false, false, false, false, false, false, false, false, false] rfl rfl (any_of HT_.out (by kernel_rfl)) (fun _ _ _ h => h) (Or.inl ⟨by rfl, ?_⟩) ?_ ?_
             rotate_left
             ·intro w'
              go_simp
              with_reducible rfl
             rotate_left
             ·simp only [Act.put, List.setIfInBounds_toArray, List.set_cons_zero, List.set_cons_succ, i64_w, i32_w]
              rfl
             refine pure_ (i := 1) (N := some 72) (v := ?_) (a' := ?_) #[true, true, false, false, false, false, false, false, false, false] rfl rfl (any_of HT_.out (by kernel_rfl)) (fun _ _ _ h => h) (Or.inl ⟨by rfl, ?_⟩) ?_ ?_
             rotate_left
             ·intro w'
              go_simp
              with_reducible rfl
             rotate_left
             ·simp only [Act.put, List.setIfInBounds_toArray, List.set_cons_zero, List.set_cons_succ, i64_w, i32_w]
              rfl
             refine pure_ (i := 2) (N := some 73) (v := ?_) (a' := ?_) #[true, true, true, false, false, false, false, false, false, false] rfl rfl (any_of HT_.out (by kernel_rfl)) (fun _ _ _ h => h) (Or.inl ⟨by rfl, ?_⟩) ?_ ?_
             rotate_left
             ·intro w'
              go_simp
              with_reducible rfl
             rotate_left
             ·simp only [Act.put, List.setIfInBounds_toArray, List.set_cons_zero, List.set_cons_succ, i64_w, i32_w]
              rfl
             refine pure_ (i := 4) (N := some 75) (v := ?_) (a' := ?_) #[true, true, true, false, true, false, false, false, false, false] rfl rfl (any_of HT_.out (by kernel_rfl)) (fun _ _ _ h => h) (Or.inl ⟨by rfl, ?_⟩) ?_ ?_
             rotate_left
             ·intro w'
              go_simp
              with_reducible rfl
             rotate_left
             ·simp only [Act.put, List.setIfInBounds_toArray, List.set_cons_zero, List.set_cons_succ, i64_w, i32_w]
              rfl
             refine pure_ (i := 5) (N := some 76) (v := ?_) (a' := ?_) #[true, true, true, false, true, true, false, false, false, false] rfl rfl (any_of HT_.out (by kernel_rfl)) (fun _ _ _ h => h) (Or.inl ⟨by rfl, ?_⟩) ?_ ?_
             rotate_left
             ·intro w'
              go_simp
              with_reducible rfl
             rotate_left
             ·simp only [Act.put, List.setIfInBounds_toArray, List.set_cons_zero, List.set_cons_succ, i64_w, i32_w]
              rfl
             refine pure_ (i := 6) (N := some 77) (v := ?_) (a' := ?_) #[true, true, true, false, true, true, true, false, false, false] rfl rfl (any_of HT_.out (by kernel_rfl)) (fun _ _ _ h => h) (Or.inl ⟨by rfl, ?_⟩) ?_ ?_
             rotate_left
             ·intro w'
              go_simp
              with_reducible rfl
             rotate_left
             ·simp only [Act.put, List.setIfInBounds_toArray, List.set_cons_zero, List.set_cons_succ, i64_w, i32_w]
              rfl
             refine take_ (i := 3) (N := some 74) (v := ?_) (a' := ?_) #[true, true, true, true, true, true, true, false, false, false] rfl rfl (take_ofW HT_.out HW_.out (by kernel_rfl)) (fun _ _ _ h => h) (Or.inl ⟨by rfl, ?_⟩) hHeld ?_ ?_
             rotate_left
             ·rintro w' ⟨s0, s1⟩
              go_simp
              with_reducible rfl
             rotate_left
             ·simp only [Act.put, List.setIfInBounds_toArray, List.set_cons_zero, List.set_cons_succ, i64_w, i32_w]
              rfl
             refine take_ (i := 7) (N := some 78) (v := ?_) (a' := ?_) #[true, true, true, true, true, true, true, true, false, false] rfl rfl (take_ofW HT_.out HW_.out (by kernel_rfl)) (fun _ _ _ h => h) (Or.inl ⟨by rfl, ?_⟩) hHeld ?_ ?_
             rotate_left
             ·rintro w' ⟨s0, s1⟩
              go_simp
              with_reducible rfl
             rotate_left
             ·simp only [Act.put, List.setIfInBounds_toArray, List.set_cons_zero, List.set_cons_succ, i64_w, i32_w]
              rfl
             refine one_ (i := 8) (N := some 79) #[true, true, true, true, true, true, true, true, true, false] rfl rfl (one_of HT_.out (by kernel_rfl)) (by decide) (fun K hK => ?_)
             refine goes_ Tryd.func36 (by kernel_rfl) rfl #[.string (rdOf ByteArray.empty t231 x9_2), .string (rdOf ByteArray.empty t234 x9_2)] (by rfl) rfl rfl (by (try simp only [List.map_toArray, List.map_cons, List.map_nil]); first | done | rfl | (simp only [List.length_drop, List.length_take]; rfl)) ?_
             with_reducible refine (flatironref02_Match.calls k2 (rdOf ByteArray.empty t231 x9_2) (rdOf ByteArray.empty t234 x9_2) false _ A48.out).mono ?_
             rintro e w57 ⟨rfl, hb⟩
             have HS0_ := (hb.cell (World.block_lt_of_cell? _ _ (hHeld.1))).trans (hHeld.1)
             have HS1_ := (hb.cell (World.block_lt_of_cell? _ _ (hHeld.2))).trans (hHeld.2)
             refine ⟨_, rfl, ?_⟩
             have n0_ := Aside0.mk (Kd.R_below (by (with_reducible repeat (first | apply Kd.R_alloc | apply Kd.R_drewN | apply Kd.R_drew)); (first | exact HO_7.out | (first | refine Kd.R_mono HO_7.out (fun _ hk => ?_) | refine Kd.S_mono HO_7.out (fun _ hk => ?_) | refine Kd.Q_mono HO_7.out (fun _ hk => ?_)); simp only [ownBlock_slice] at hk ⊢; exact hk)) hb)
             have n1_ := Aside0.mk (Kd.R_below (by (with_reducible repeat (first | apply Kd.R_alloc | apply Kd.R_drewN | apply Kd.R_drew)); (first | exact HO_8.out | (first | refine Kd.R_mono HO_8.out (fun _ hk => ?_) | refine Kd.S_mono HO_8.out (fun _ hk => ?_) | refine Kd.Q_mono HO_8.out (fun _ hk => ?_)); simp only [ownBlock_slice] at hk ⊢; exact hk)) hb)
             have n2_ := Aside0.mk (below_step (by repeat (first | (with_reducible first | exact HB.out | apply below_alloc | apply pw_below_drewN | apply below_drew1) | exact HB.out)) hb)
             clear HO_7
             clear HO_8
             clear HB
             have HO_7 := n0_
             have HO_8 := n1_
             have HB := n2_
             clear n0_ n1_ n2_
             (try clear hb)
             (try clear hb2)
             (try clear hk)
             (try clear hi)
             refine hK.out _ _ ⟨HS0_, HS1_⟩ (fun hHeld => ?_)
             clear hK K
             refine norm_ (a' := ?_) ?_ ?_
             rotate_left
             ·show Act.put _ (some 79) _ = _
              simp only [Act.put, List.setIfInBounds_toArray, List.set_cons_zero, List.set_cons_succ, i64_w, i32_w]
              rfl
             refine pure_ (i := 9) (N := some 11) (v := ?_) (a' := ?_) #[true, true, true, true, true, true, true, true, true, true] rfl rfl (any_of HT_.out (by kernel_rfl)) (fun _ _ _ h => h) (Or.inl ⟨by rfl, ?_⟩) ?_ ?_
             rotate_left
             ·intro w'
              go_simp
              with_reducible rfl
             rotate_left
             ·simp only [Act.put, List.setIfInBounds_toArray, List.set_cons_zero, List.set_cons_succ, i64_w, i32_w]
              rfl
             refine done_ (done_of HT_.out (by kernel_rfl)) ?_
             try go_wp2
             go_ret
             exact ⟨by first | rfl | (simp [errW_none, errW_some] <;> rfl) | (simp [*, errW_none, errW_some] <;> rfl), by repeat (first | (with_reducible first | exact HB.out | apply below_alloc | apply pw_below_drewN | apply below_drew1) | exact HB.out)⟩
          ·rw [if_neg c22] at H
           exact absurd H (by simp)
         ·rw [if_neg c21] at H
          have c21b0 : decide (0 < ((rdOf ByteArray.empty t234 x9_2).size : Int)) = false := decide_eq_false c21
          have c21b1 : decide (0 < (rdOf ByteArray.empty t234 x9_2).size) = false := decide_eq_false (by omega)
          clear c21
          replace H := Option.bind_eq_some_iff.mp H
          obtain ⟨t252, A580, H⟩ := H
          replace H : (if t252 = true then (flatironref02_Path.l0 k2 t231 t234 (wrap64 (x9_2 + 1))) else (some false)) = some r := H
          have A58 := Aside0.mk A580
          clear A580
          by_cases c59 : t252 = true
          ·subst c59
           have H1 : (flatironref02_Path.l0 k2 t231 t234 (wrap64 (x9_2 + 1))) = some r := by rw [if_pos rfl] at H; exact H
           clear H
           have H := H1
           clear H1
           have H' := Aside0.mk H
           clear H
           obtain ⟨Ao60, co60, eo60⟩ := Kd.R_slice HO_7.out
           subst eo60
           obtain ⟨Ao61, co61, eo61⟩ := Kd.R_slice HO_8.out
           subst eo61
           have p237 : 0 ≤ (x9_2 : Int) := of_decide_eq_true (by first | (with_reducible assumption) | assumption)
           have q237 : x9_2 < (t234.length : Int) := of_decide_eq_true (by first | (with_reducible assumption) | assumption)
           obtain ⟨ad237, e237, hx237_0⟩ := Kd.at_string (Kd.R_reads' HO_8.out).2.2 x9_2 p237 q237
           cases e237
           replace p237 := eq_true p237
           replace q237 := eq_true q237
           try go_wp2
           have n0_ := Aside0.mk (Kd.R_drew HO_7.out)
           have n1_ := Aside0.mk (Kd.R_drew HO_8.out)
           have n2_ := Aside0.mk (below_drew1 HB.out)
           clear HO_7
           clear HO_8
           clear HB
           have HO_7 := n0_
           have HO_8 := n1_
           have HB := n2_
           clear n0_ n1_ n2_
           have p250 : 0 ≤ (x9_2 : Int) := of_decide_eq_true (by first | (with_reducible assumption) | assumption)
           have q250 : x9_2 < (t231.length : Int) := of_decide_eq_true (by first | (with_reducible assumption) | assumption)
           obtain ⟨ad250, e250, hx250_0⟩ := Kd.at_string (Kd.R_reads' HO_7.out).2.2 x9_2 p250 q250
           cases e250
           replace p250 := eq_true p250
           replace q250 := eq_true q250
           have p251 : 0 ≤ (x9_2 : Int) := of_decide_eq_true (by first | (with_reducible assumption) | assumption)
           have q251 : x9_2 < (t234.length : Int) := of_decide_eq_true (by first | (with_reducible assumption) | assumption)
           obtain ⟨ad251, e251, hx251_0⟩ := Kd.at_string (Kd.R_reads' HO_8.out).2.2 x9_2 p251 q251
           obtain rfl : ad237 = ad251 := (by injection e251)
           replace p251 := eq_true p251
           replace q251 := eq_true q251
           refine start_ (n := 10) (S := fun w' => w'.cell? (ad250.add (x9_2).toNat) = some (.string (rdOf ByteArray.empty t231 x9_2)) ∧ w'.cell? (ad237.add (x9_2).toNat) = some (.string (rdOf ByteArray.empty t234 x9_2))) (ds := []) #[false, false, false, false, false, false, false, false, false, false] (by kernel_rfl) rfl rfl ⟨hx250_0, hx251_0⟩ (fun hHeld => ?_); refine with_tabW flatironref02_Path.tab10 flatironref02_Path.bits10 (fun HT_ HW_ => ?_)
           generalize wr.drew = w62 at HO_7 HO_8 HB hx250_0 hx251_0 hHeld ⊢
           refine pure_ (i := 0) (N := some 71) (v := ?_) (a' := ?_) #[true, false, false, false, false, false, false, false, false, false] rfl rfl (any_of HT_.out (by kernel_rfl)) (fun _ _ _ h => h) (Or.inl ⟨by rfl, ?_⟩) ?_ ?_
           rotate_left
           ·intro w'
            go_simp
            with_reducible rfl
           rotate_left
           ·simp only [Act.put, List.setIfInBounds_toArray, List.set_cons_zero, List.set_cons_succ, i64_w, i32_w]
            rfl
           refine pure_ (i := 1) (N := some 72) (v := ?_) (a' := ?_) #[true, true, false, false, false, false, false, false, false, false] rfl rfl (any_of HT_.out (by kernel_rfl)) (fun _ _ _ h => h) (Or.inl ⟨by rfl, ?_⟩) ?_ ?_
           rotate_left
           ·intro w'
            go_simp
            with_reducible rfl
           rotate_left
           ·simp only [Act.put, List.setIfInBounds_toArray, List.set_cons_zero, List.set_cons_succ, i64_w, i32_w]
            rfl
           refine pure_ (i := 2) (N := some 73) (v := ?_) (a' := ?_) #[true, true, true, false, false, false, false, false, false, false] rfl rfl (any_of HT_.out (by kernel_rfl)) (fun _ _ _ h => h) (Or.inl ⟨by rfl, ?_⟩) ?_ ?_
           rotate_left
           ·intro w'
            go_simp
            with_reducible rfl
           rotate_left
           ·simp only [Act.put, List.setIfInBounds_toArray, List.set_cons_zero, List.set_cons_succ, i64_w, i32_w]
            rfl
           refine pure_ (i := 4) (N := some 75) (v := ?_) (a' := ?_) #[true, true, true, false, true, false, false, false, false, false] rfl rfl (any_of HT_.out (by kernel_rfl)) (fun _ _ _ h => h) (Or.inl ⟨by rfl, ?_⟩) ?_ ?_
           rotate_left
           ·intro w'
            go_simp
            with_reducible rfl
           rotate_left
           ·simp only [Act.put, List.setIfInBounds_toArray, List.set_cons_zero, List.set_cons_succ, i64_w, i32_w]
            rfl
           refine pure_ (i := 5) (N := some 76) (v := ?_) (a' := ?_) #[true, true, true, false, true, true, false, false, false, false] rfl rfl (any_of HT_.out (by kernel_rfl)) (fun _ _ _ h => h) (Or.inl ⟨by rfl, ?_⟩) ?_ ?_
           rotate_left
           ·intro w'
            go_simp
            with_reducible rfl
           rotate_left
           ·simp only [Act.put, List.setIfInBounds_toArray, List.set_cons_zero, List.set_cons_succ, i64_w, i32_w]
            rfl
           refine pure_ (i := 6) (N := some 77) (v := ?_) (a' := ?_) #[true, true, true, false, true, true, true, false, false, false] rfl rfl (any_of HT_.out (by kernel_rfl)) (fun _ _ _ h => h) (Or.inl ⟨by rfl, ?_⟩) ?_ ?_
           rotate_left
           ·intro w'
            go_simp
            with_reducible rfl
           rotate_left
           ·simp only [Act.put, List.setIfInBounds_toArray, List.set_cons_zero, List.set_cons_succ, i64_w, i32_w]
            rfl
           refine take_ (i := 3) (N := some 74) (v := ?_) (a' := ?_) #[true, true, true, true, true, true, true, false, false, false] rfl rfl (take_ofW HT_.out HW_.out (by kernel_rfl)) (fun _ _ _ h => h) (Or.inl ⟨by rfl, ?_⟩) hHeld ?_ ?_
           rotate_left
           ·rintro w' ⟨s0, s1⟩
            go_simp
            with_reducible rfl
           rotate_left
           ·simp only [Act.put, List.setIfInBounds_toArray, List.set_cons_zero, List.set_cons_succ, i64_w, i32_w]
            rfl
           refine take_ (i := 7) (N := some 78) (v := ?_) (a' := ?_) #[true, true, true, true, true, true, true, true, false, false] rfl rfl (take_ofW HT_.out HW_.out (by kernel_rfl)) (fun _ _ _ h => h) (Or.inl ⟨by rfl, ?_⟩) hHeld ?_ ?_
           rotate_left
           ·rintro w' ⟨s0, s1⟩
            go_simp
            with_reducible rfl
           rotate_left
           ·simp only [Act.put, List.setIfInBounds_toArray, List.set_cons_zero, List.set_cons_succ, i64_w, i32_w]
            rfl
           refine one_ (i := 8) (N := some 79) #[true, true, true, true, true, true, true, true, true, false] rfl rfl (one_of HT_.out (by kernel_rfl)) (by decide) (fun K hK => ?_)
           refine goes_ Tryd.func36 (by kernel_rfl) rfl #[.string (rdOf ByteArray.empty t231 x9_2), .string (rdOf ByteArray.empty t234 x9_2)] (by rfl) rfl rfl (by (try simp only [List.map_toArray, List.map_cons, List.map_nil]); first | done | rfl | (simp only [List.length_drop, List.length_take]; rfl)) ?_
           with_reducible refine (flatironref02_Match.calls k2 (rdOf ByteArray.empty t231 x9_2) (rdOf ByteArray.empty t234 x9_2) true _ A58.out).mono ?_
           rintro e w63 ⟨rfl, hb⟩
           have HS0_ := (hb.cell (World.block_lt_of_cell? _ _ (hHeld.1))).trans (hHeld.1)
           have HS1_ := (hb.cell (World.block_lt_of_cell? _ _ (hHeld.2))).trans (hHeld.2)
           refine ⟨_, rfl, ?_⟩
           have n0_ := Aside0.mk (Kd.R_below (by (with_reducible repeat (first | apply Kd.R_alloc | apply Kd.R_drewN | apply Kd.R_drew)); (first | exact HO_7.out | (first | refine Kd.R_mono HO_7.out (fun _ hk => ?_) | refine Kd.S_mono HO_7.out (fun _ hk => ?_) | refine Kd.Q_mono HO_7.out (fun _ hk => ?_)); simp only [ownBlock_slice] at hk ⊢; exact hk)) hb)
           have n1_ := Aside0.mk (Kd.R_below (by (with_reducible repeat (first | apply Kd.R_alloc | apply Kd.R_drewN | apply Kd.R_drew)); (first | exact HO_8.out | (first | refine Kd.R_mono HO_8.out (fun _ hk => ?_) | refine Kd.S_mono HO_8.out (fun _ hk => ?_) | refine Kd.Q_mono HO_8.out (fun _ hk => ?_)); simp only [ownBlock_slice] at hk ⊢; exact hk)) hb)
           have n2_ := Aside0.mk (below_step (by repeat (first | (with_reducible first | exact HB.out | apply below_alloc | apply pw_below_drewN | apply below_drew1) | exact HB.out)) hb)
           clear HO_7
           clear HO_8
           clear HB
           have HO_7 := n0_
           have HO_8 := n1_
           have HB := n2_
           clear n0_ n1_ n2_
           (try clear hb)
           (try clear hb2)
           (try clear hk)
           (try clear hi)
           refine hK.out _ _ ⟨HS0_, HS1_⟩ (fun hHeld => ?_)
           clear hK K
           refine norm_ (a' := ?_) ?_ ?_
           rotate_left
           ·show Act.put _ (some 79) _ = _
            simp only [Act.put, List.setIfInBounds_toArray, List.set_cons_zero, List.set_cons_succ, i64_w, i32_w]
            rfl
           refine pure_ (i := 9) (N := some 11) (v := ?_) (a' := ?_) #[true, true, true, true, true, true, true, true, true, true] rfl rfl (any_of HT_.out (by kernel_rfl)) (fun _ _ _ h => h) (Or.inl ⟨by rfl, ?_⟩) ?_ ?_
           rotate_left
           ·intro w'
            go_simp
            with_reducible rfl
           rotate_left
           ·simp only [Act.put, List.setIfInBounds_toArray, List.set_cons_zero, List.set_cons_succ, i64_w, i32_w]
            rfl
           refine done_ (done_of HT_.out (by kernel_rfl)) ?_
           try go_wp2
           go_roundg k2
           case measure => have := HJ5.out; have := HK2.out; omega
           case rel => exact ⟨(wrap64 (x9_2 + 1)), (by first | rfl | (simp; done) | (simp [*]; done)), H', ⟨by have := HJ5.out; have := HK2.out; omega⟩, ⟨by (with_reducible repeat (first | apply Kd.R_alloc | apply Kd.R_drewN | apply Kd.R_drew)); (first | exact HO_7.out | (first | refine Kd.R_mono HO_7.out (fun _ hk => ?_) | refine Kd.S_mono HO_7.out (fun _ hk => ?_) | refine Kd.Q_mono HO_7.out (fun _ hk => ?_)); simp only [ownBlock_slice] at hk ⊢; exact hk)⟩, ⟨by (with_reducible repeat (first | apply Kd.R_alloc | apply Kd.R_drewN | apply Kd.R_drew)); (first | exact HO_8.out | (first | refine Kd.R_mono HO_8.out (fun _ hk => ?_) | refine Kd.S_mono HO_8.out (fun _ hk => ?_) | refine Kd.Q_mono HO_8.out (fun _ hk => ?_)); simp only [ownBlock_slice] at hk ⊢; exact hk)⟩, ⟨by repeat (first | (with_reducible first | exact HB.out | apply below_alloc | apply pw_below_drewN | apply below_drew1) | exact HB.out)⟩⟩
          ·replace c59 := Bool.eq_false_iff.mpr c59
           subst c59
           have H1 : (some false) = some r := by rw [if_neg (show ¬ (false = true) by decide)] at H; exact H
           clear H
           have H := H1
           clear H1
           obtain rfl := Option.some.inj H
           obtain ⟨Ao64, co64, eo64⟩ := Kd.R_slice HO_7.out
           subst eo64
           obtain ⟨Ao65, co65, eo65⟩ := Kd.R_slice HO_8.out
           subst eo65
           have p237 : 0 ≤ (x9_2 : Int) := of_decide_eq_true (by first | (with_reducible assumption) | assumption)
           have q237 : x9_2 < (t234.length : Int) := of_decide_eq_true (by first | (with_reducible assumption) | assumption)
           obtain ⟨ad237, e237, hx237_0⟩ := Kd.at_string (Kd.R_reads' HO_8.out).2.2 x9_2 p237 q237
           cases e237
           replace p237 := eq_true p237
           replace q237 := eq_true q237
           try go_wp2
           have n0_ := Aside0.mk (Kd.R_drew HO_7.out)
           have n1_ := Aside0.mk (Kd.R_drew HO_8.out)
           have n2_ := Aside0.mk (below_drew1 HB.out)
           clear HO_7
           clear HO_8
           clear HB
           have HO_7 := n0_
           have HO_8 := n1_
           have HB := n2_
           clear n0_ n1_ n2_
           have p250 : 0 ≤ (x9_2 : Int) := of_decide_eq_true (by first | (with_reducible assumption) | assumption)
           have q250 : x9_2 < (t231.length : Int) := of_decide_eq_true (by first | (with_reducible assumption) | assumption)
           obtain ⟨ad250, e250, hx250_0⟩ := Kd.at_string (Kd.R_reads' HO_7.out).2.2 x9_2 p250 q250
           cases e250
           replace p250 := eq_true p250
           replace q250 := eq_true q250
           have p251 : 0 ≤ (x9_2 : Int) := of_decide_eq_true (by first | (with_reducible assumption) | assumption)
           have q251 : x9_2 < (t234.length : Int) := of_decide_eq_true (by first | (with_reducible assumption) | assumption)
           obtain ⟨ad251, e251, hx251_0⟩ := Kd.at_string (Kd.R_reads' HO_8.out).2.2 x9_2 p251 q251
           obtain rfl : ad237 = ad251 := (by injection e251)
           replace p251 := eq_true p251
           replace q251 := eq_true q251
           refine start_ (n := 10) (S := fun w' => w'.cell? (ad250.add (x9_2).toNat) = some (.string (rdOf ByteArray.empty t231 x9_2)) ∧ w'.cell? (ad237.add (x9_2).toNat) = some (.string (rdOf ByteArray.empty t234 x9_2))) (ds := []) #[false, false, false, false, false, false, false, false, false, false] (by kernel_rfl) rfl rfl ⟨hx250_0, hx251_0⟩ (fun hHeld => ?_); refine with_tabW flatironref02_Path.tab10 flatironref02_Path.bits10 (fun HT_ HW_ => ?_)
           generalize wr.drew = w66 at HO_7 HO_8 HB hx250_0 hx251_0 hHeld ⊢
           refine pure_ (i := 0) (N := some 71) (v := ?_) (a' := ?_) #[true, false, false, false, false, false, false, false, false, false] rfl rfl (any_of HT_.out (by kernel_rfl)) (fun _ _ _ h => h) (Or.inl ⟨by rfl, ?_⟩) ?_ ?_
           rotate_left
           ·intro w'
            go_simp
            with_reducible rfl
           rotate_left
           ·simp only [Act.put, List.setIfInBounds_toArray, List.set_cons_zero, List.set_cons_succ, i64_w, i32_w]
            rfl
           refine pure_ (i := 1) (N := some 72) (v := ?_) (a' := ?_) #[true, true, false, false, false, false, false, false, false, false] rfl rfl (any_of HT_.out (by kernel_rfl)) (fun _ _ _ h => h) (Or.inl ⟨by rfl, ?_⟩) ?_ ?_
           rotate_left
           ·intro w'
            go_simp
            with_reducible rfl
           rotate_left
           ·simp only [Act.put, List.setIfInBounds_toArray, List.set_cons_zero, List.set_cons_succ, i64_w, i32_w]
            rfl
           refine pure_ (i := 2) (N := some 73) (v := ?_) (a' := ?_) #[true, true, true, false, false, false, false, false, false, false] rfl rfl (any_of HT_.out (by kernel_rfl)) (fun _ _ _ h => h) (Or.inl ⟨by rfl, ?_⟩) ?_ ?_
           rotate_left
           ·intro w'
            go_simp
            with_reducible rfl
           rotate_left
           ·simp only [Act.put, List.setIfInBounds_toArray, List.set_cons_zero, List.set_cons_succ, i64_w, i32_w]
            rfl
           refine pure_ (i := 4) (N := some 75) (v := ?_) (a' := ?_) #[true, true, true, false, true, false, false, false, false, false] rfl rfl (any_of HT_.out (by kernel_rfl)) (fun _ _ _ h => h) (Or.inl ⟨by rfl, ?_⟩) ?_ ?_
           rotate_left
           ·intro w'
            go_simp
            with_reducible rfl
           rotate_left
           ·simp only [Act.put, List.setIfInBounds_toArray, List.set_cons_zero, List.set_cons_succ, i64_w, i32_w]
            rfl
           refine pure_ (i := 5) (N := some 76) (v := ?_) (a' := ?_) #[true, true, true, false, true, true, false, false, false, false] rfl rfl (any_of HT_.out (by kernel_rfl)) (fun _ _ _ h => h) (Or.inl ⟨by rfl, ?_⟩) ?_ ?_
           rotate_left
           ·intro w'
            go_simp
            with_reducible rfl
           rotate_left
           ·simp only [Act.put, List.setIfInBounds_toArray, List.set_cons_zero, List.set_cons_succ, i64_w, i32_w]
            rfl
           refine pure_ (i := 6) (N := some 77) (v := ?_) (a' := ?_) #[true, true, true, false, true, true, true, false, false, false] rfl rfl (any_of HT_.out (by kernel_rfl)) (fun _ _ _ h => h) (Or.inl ⟨by rfl, ?_⟩) ?_ ?_
           rotate_left
           ·intro w'
            go_simp
            with_reducible rfl
           rotate_left
           ·simp only [Act.put, List.setIfInBounds_toArray, List.set_cons_zero, List.set_cons_succ, i64_w, i32_w]
            rfl
           refine take_ (i := 3) (N := some 74) (v := ?_) (a' := ?_) #[true, true, true, true, true, true, true, false, false, false] rfl rfl (take_ofW HT_.out HW_.out (by kernel_rfl)) (fun _ _ _ h => h) (Or.inl ⟨by rfl, ?_⟩) hHeld ?_ ?_
           rotate_left
           ·rintro w' ⟨s0, s1⟩
            go_simp
            with_reducible rfl
           rotate_left
           ·simp only [Act.put, List.setIfInBounds_toArray, List.set_cons_zero, List.set_cons_succ, i64_w, i32_w]
            rfl
           refine take_ (i := 7) (N := some 78) (v := ?_) (a' := ?_) #[true, true, true, true, true, true, true, true, false, false] rfl rfl (take_ofW HT_.out HW_.out (by kernel_rfl)) (fun _ _ _ h => h) (Or.inl ⟨by rfl, ?_⟩) hHeld ?_ ?_
           rotate_left
           ·rintro w' ⟨s0, s1⟩
            go_simp
            with_reducible rfl
           rotate_left
           ·simp only [Act.put, List.setIfInBounds_toArray, List.set_cons_zero, List.set_cons_succ, i64_w, i32_w]
            rfl
           refine one_ (i := 8) (N := some 79) #[true, true, true, true, true, true, true, true, true, false] rfl rfl (one_of HT_.out (by kernel_rfl)) (by decide) (fun K hK => ?_)
           refine goes_ Tryd.func36 (by kernel_rfl) rfl #[.string (rdOf ByteArray.empty t231 x9_2), .string (rdOf ByteArray.empty t234 x9_2)] (by rfl) rfl rfl (by (try simp only [List.map_toArray, List.map_cons, List.map_nil]); first | done | rfl | (simp only [List.length_drop, List.length_take]; rfl)) ?_
           with_reducible refine (flatironref02_Match.calls k2 (rdOf ByteArray.empty t231 x9_2) (rdOf ByteArray.empty t234 x9_2) false _ A58.out).mono ?_
           rintro e w67 ⟨rfl, hb⟩
           have HS0_ := (hb.cell (World.block_lt_of_cell? _ _ (hHeld.1))).trans (hHeld.1)
           have HS1_ := (hb.cell (World.block_lt_of_cell? _ _ (hHeld.2))).trans (hHeld.2)
           refine ⟨_, rfl, ?_⟩
           have n0_ := Aside0.mk (Kd.R_below (by (with_reducible repeat (first | apply Kd.R_alloc | apply Kd.R_drewN | apply Kd.R_drew)); (first | exact HO_7.out | (first | refine Kd.R_mono HO_7.out (fun _ hk => ?_) | refine Kd.S_mono HO_7.out (fun _ hk => ?_) | refine Kd.Q_mono HO_7.out (fun _ hk => ?_)); simp only [ownBlock_slice] at hk ⊢; exact hk)) hb)
           have n1_ := Aside0.mk (Kd.R_below (by (with_reducible repeat (first | apply Kd.R_alloc | apply Kd.R_drewN | apply Kd.R_drew)); (first | exact HO_8.out | (first | refine Kd.R_mono HO_8.out (fun _ hk => ?_) | refine Kd.S_mono HO_8.out (fun _ hk => ?_) | refine Kd.Q_mono HO_8.out (fun _ hk => ?_)); simp only [ownBlock_slice] at hk ⊢; exact hk)) hb)
           have n2_ := Aside0.mk (below_step (by repeat (first | (with_reducible first | exact HB.out | apply below_alloc | apply pw_below_drewN | apply below_drew1) | exact HB.out)) hb)
           clear HO_7
           clear HO_8
           clear HB
           have HO_7 := n0_
           have HO_8 := n1_
           have HB := n2_
           clear n0_ n1_ n2_
           (try clear hb)
           (try clear hb2)
           (try clear hk)
           (try clear hi)
           refine hK.out _ _ ⟨HS0_, HS1_⟩ (fun hHeld => ?_)
           clear hK K
           refine norm_ (a' := ?_) ?_ ?_
           rotate_left
           ·show Act.put _ (some 79) _ = _
            simp only [Act.put, List.setIfInBounds_toArray, List.set_cons_zero, List.set_cons_succ, i64_w, i32_w]
            rfl
           refine pure_ (i := 9) (N := some 11) (v := ?_) (a' := ?_) #[true, true, true, true, true, true, true, true, true, true] rfl rfl (any_of HT_.out (by kernel_rfl)) (fun _ _ _ h => h) (Or.inl ⟨by rfl, ?_⟩) ?_ ?_
           rotate_left
           ·intro w'
            go_simp
            with_reducible rfl
           rotate_left
           ·simp only [Act.put, List.setIfInBounds_toArray, List.set_cons_zero, List.set_cons_succ, i64_w, i32_w]
            rfl
           refine done_ (done_of HT_.out (by kernel_rfl)) ?_
           try go_wp2
           go_ret
           exact ⟨by first | rfl | (simp [errW_none, errW_some] <;> rfl) | (simp [*, errW_none, errW_some] <;> rfl), by repeat (first | (with_reducible first | exact HB.out | apply below_alloc | apply pw_below_drewN | apply below_drew1) | exact HB.out)⟩
        ·rw [if_neg c20] at H
         exact absurd H (by simp)
       ·rw [if_neg c19] at H
        exact absurd H (by simp)
      ·rw [if_neg c18] at H
       have c18b0 : decide (x9_2 < (t231.length : Int)) = false := decide_eq_false c18
       clear c18
       obtain rfl := Option.some.inj H
       obtain ⟨Ao68, co68, eo68⟩ := Kd.R_slice HO_7.out
       subst eo68
       go_wp2
       go_ret
       exact ⟨by first | rfl | (simp [errW_none, errW_some] <;> rfl) | (simp [*, errW_none, errW_some] <;> rfl), by repeat (first | (with_reducible first | exact HB.out | apply below_alloc | apply pw_below_drewN | apply below_drew1) | exact HB.out)⟩

end Go.Proofs.YtgpabkdmagifjaaDoor.XW02
