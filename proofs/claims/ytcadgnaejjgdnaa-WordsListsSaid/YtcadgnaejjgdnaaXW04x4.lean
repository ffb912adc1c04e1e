/- Laid for this claim by the session's own program xprint.py, over the print of the kit: functions of the program as plain Lean functions, each with a proof that a call comes to what its function says, or the row of a law out of these; no condition of its own. -/
import Derived.Test.YtcadgnaejjgdnaaXW04x0
namespace Go.Proofs.Ytcadgnaejjgdnaa.XW04
open Go.Proofs.Ytcadgnaejjgdnaa.X Go.RowKit Go.Proofs.YtcadgnaejjgdnaaW.PrintWords Go.Proofs.YtcadgnaejjgdnaaW.PrintLast Go.Proofs.YtcadgnaejjgdnaaW.PrintMore
attribute [local go_sem] max2_int min2_int max_two min_two max_three min_three max_four min_four   -- for this text's walks alone
set_option linter.unusedVariables false
set_option linter.unusedSimpArgs false

/-! ### flatironref04_order: function 58 -/
mutual
def flatironref04_order.l0 : Nat → List ByteArray → List Int → List Int → List Int → Option (List Int)
  | 0, _, _, _, _ => none
  | k + 1, x0, x7, x8, x9 => if (x7.length : Int) > 0 then (flatironref04_order.j1 k x0 x7 x8 x9 (decide ((x8.length : Int) > 0))) else (flatironref04_order.j1 k x0 x7 x8 x9 false)
def flatironref04_order.j1 : Nat → List ByteArray → List Int → List Int → List Int → Bool → Option (List Int)
  | 0, _, _, _, _, _ => none
  | k + 1, x0, x7, x8, x9, x40 => if x40 = true then (if 0 < (x7.length : Int) then (if 0 ≤ (rd x7 0) then (if (rd x7 0) < (x0.length : Int) then (if 0 < (x8.length : Int) then (if 0 ≤ (rd x8 0) then (if (rd x8 0) < (x0.length : Int) then (if (Op.bytesLess ((rdOf ByteArray.empty x0 (rd x7 0)).toList) ((rdOf ByteArray.empty x0 (rd x8 0)).toList)) = true then (if x9.length < 17592186044416 then (if 1 ≤ (x7.length : Int) then (flatironref04_order.l0 k x0 (x7.drop (1 : Int).toNat) x8 (x9 ++ [rd x7 0])) else (none)) else (none)) else (if (rdOf ByteArray.empty x0 (rd x7 0)).toList = (rdOf ByteArray.empty x0 (rd x8 0)).toList then (if x9.length < 17592186044416 then (if 1 ≤ (x7.length : Int) then (flatironref04_order.l0 k x0 (x7.drop (1 : Int).toNat) x8 (x9 ++ [rd x7 0])) else (none)) else (none)) else (if x9.length < 17592186044416 then (if 1 ≤ (x8.length : Int) then (flatironref04_order.l0 k x0 x7 (x8.drop (1 : Int).toNat) (x9 ++ [rd x8 0])) else (none)) else (none)))) else (none)) else (none)) else (none)) else (none)) else (none)) else (none)) else (if x9.length + x7.length < 17592186044416 then ((some (x9 ++ x7 : List Int)).bind fun y179 => (if y179.length + x8.length < 17592186044416 then (some (y179 ++ x8)) else (none))) else (none))
def flatironref04_order.f : Nat → List ByteArray → Int → Int → Option (List Int)
  | 0, _, _, _ => none
  | k + 1, l0, a1, a2 => if (wrap64 (a2 - a1)) < 2 then (if a1 = a2 then (some ([] : List Int)) else (some (([a1] : List Int)))) else ((flatironref04_order.f k l0 a1 (wrap64 (Int.tdiv (wrap64 (a1 + a2)) 2))).bind fun t148 => ((flatironref04_order.f k l0 (wrap64 (Int.tdiv (wrap64 (a1 + a2)) 2)) a2).bind fun t151 => (flatironref04_order.l0 k l0 t148 t151 ([] : List Int))))
end
theorem flatironref04_order.mono_l : ∀ k, (∀ y0 y1 y2, LeO (flatironref04_order.f k y0 y1 y2) (flatironref04_order.f (k + 1) y0 y1 y2)) ∧ (∀ y0 y1 y2 y3, LeO (flatironref04_order.l0 k y0 y1 y2 y3) (flatironref04_order.l0 (k + 1) y0 y1 y2 y3)) ∧ (∀ y0 y1 y2 y3 y4, LeO (flatironref04_order.j1 k y0 y1 y2 y3 y4) (flatironref04_order.j1 (k + 1) y0 y1 y2 y3 y4))
  | 0 => ⟨fun _ _ _ r h => by simp [flatironref04_order.f] at h, fun _ _ _ _ r h => by simp [flatironref04_order.l0] at h, fun _ _ _ _ _ r h => by simp [flatironref04_order.j1] at h⟩
  | k + 1 => by
    obtain ⟨ih0, ih1, ih2⟩ := flatironref04_order.mono_l k
    refine ⟨?_, ?_, ?_⟩
    · intro y0 y1 y2
      unfold flatironref04_order.f
      repeat' first
      | (with_reducible exact ih0 _ _ _)
      | (with_reducible exact ih1 _ _ _ _)
      | (with_reducible exact ih2 _ _ _ _ _)
      | (with_reducible exact LeO.refl _)
      | (with_reducible exact LeO.none _)
      | (with_reducible refine LeO.ite ?_ ?_)
      | (with_reducible refine LeO.bind ?_ (fun _ => ?_))
      | exact ih0 _ _ _
      | exact ih1 _ _ _ _
      | exact ih2 _ _ _ _ _
      | exact LeO.none _
      | refine LeO.ite ?_ ?_
      | refine LeO.bind ?_ (fun _ => ?_)
    · intro y0 y1 y2 y3
      unfold flatironref04_order.l0
      repeat' first
      | (with_reducible exact ih0 _ _ _)
      | (with_reducible exact ih1 _ _ _ _)
      | (with_reducible exact ih2 _ _ _ _ _)
      | (with_reducible exact LeO.refl _)
      | (with_reducible exact LeO.none _)
      | (with_reducible refine LeO.ite ?_ ?_)
      | (with_reducible refine LeO.bind ?_ (fun _ => ?_))
      | exact ih0 _ _ _
      | exact ih1 _ _ _ _
      | exact ih2 _ _ _ _ _
      | exact LeO.none _
      | refine LeO.ite ?_ ?_
      | refine LeO.bind ?_ (fun _ => ?_)
    · intro y0 y1 y2 y3 y4
      unfold flatironref04_order.j1
      repeat' first
      | (with_reducible exact ih0 _ _ _)
      | (with_reducible exact ih1 _ _ _ _)
      | (with_reducible exact ih2 _ _ _ _ _)
      | (with_reducible exact LeO.refl _)
      | (with_reducible exact LeO.none _)
      | (with_reducible refine LeO.ite ?_ ?_)
      | (with_reducible refine LeO.bind ?_ (fun _ => ?_))
      | exact ih0 _ _ _
      | exact ih1 _ _ _ _
      | exact ih2 _ _ _ _ _
      | exact LeO.none _
      | refine LeO.ite ?_ ?_
      | refine LeO.bind ?_ (fun _ => ?_)
theorem flatironref04_order.mono : ∀ a0 a1 a2 k, LeO (flatironref04_order.f k a0 a1 a2) (flatironref04_order.f (k + 1) a0 a1 a2) := by
  intro a0 a1 a2 k
  obtain ⟨ih0, ih1, ih2⟩ := flatironref04_order.mono_l k
  exact ih0 a0 a1 a2
set_option maxHeartbeats 8000000 in
set_option maxRecDepth 100000 in
theorem flatironref04_order.calls (k : Nat) : ∀ (A0 : Option Addr) (c0 : Nat) (l0 : List ByteArray) (a1 : Int) (a2 : Int) (r : List Int) (w : World) (hr0 : Kd.C Kd.string w A0 l0.length l0) (hc0 : l0.length ≤ c0) (h : flatironref04_order.f k l0 a1 a2 = some r),
    Calls Try.prog 58 #[.slice A0 l0.length c0, .int .i64 a1, .int .i64 a2] w fun e w' => ∃ v0_ : Value, e = .returned (v0_) ∧ Kd.R (Kd.int .i64) 3 w' w.heap.size (fun _ => True) v0_ r ∧ Below w.heap.size w w' := by
  induction k using Nat.strongRecOn with
  | _ k ih =>
  intro A0 c0 l0 a1 a2 r w hr0 hc0 h
  cases k with
  | zero => exact absurd h (by simp [flatironref04_order.f])
  | succ k =>
  simp only [flatironref04_order.f] at h
  have HR0 := Aside0.mk hr0
  have HC0 := Aside0.mk hc0
  clear hr0 hc0
  have HB := Aside0.mk (Below.refl w.heap.size w)
  have H : (if (wrap64 (a2 - a1)) < 2 then (if a1 = a2 then (some ([] : List Int)) else (some (([a1] : List Int)))) else ((flatironref04_order.f k l0 a1 (wrap64 (Int.tdiv (wrap64 (a1 + a2)) 2))).bind fun t148 => ((flatironref04_order.f k l0 (wrap64 (Int.tdiv (wrap64 (a1 + a2)) 2)) a2).bind fun t151 => (flatironref04_order.l0 k l0 t148 t151 ([] : List Int))))) = some r := h
  clear h
  by_cases c4 : (wrap64 (a2 - a1)) < 2
  · rw [if_pos c4] at H
    have c4b0 : decide ((wrap64 (a2 - a1)) < 2) = true := decide_eq_true c4
    clear c4
    by_cases c5 : a1 = a2
    · rw [if_pos c5] at H
      have c5b0 : (a1 == a2) = true := beq_iff_eq.mpr c5
      have c5b1 : (a1 != a2) = false := bne_eq_false_iff_eq.mpr c5
      clear c5
      obtain rfl := Option.some.inj H
      go_enter Try.func58, Try.ntmps58
      go_wp2
      repeat (go_quiet (fail); try go_wp2)
      go_ret
      exact ⟨_, by first | rfl | (simp [errW_none, errW_some] <;> rfl) | (simp [*, errW_none, errW_some] <;> rfl), by first | exact Kd.R_nil _ _ _ _ _ | exact Kd.N_nil _ _ _ _ _ | exact Kd.V_nil _ _ _ _ _ | exact Kd.Q_nil _ _ _ _ _ | exact Kd.S_nil _ _ _ _ _, by repeat (first | (with_reducible first | exact HB.out | apply below_alloc | apply pw_below_drewN | apply below_drew1) | exact HB.out)⟩
    · rw [if_neg c5] at H
      have c5b0 : (a1 == a2) = false := beq_eq_false_iff_ne.mpr c5
      have c5b1 : (a1 != a2) = true := bne_iff_ne.mpr c5
      obtain ⟨y145, hy145⟩ : ∃ y_ : List Int, y_ = (([a1] : List Int)) := ⟨_, rfl⟩
      replace H : (some y145) = some r := by first | (rw [hy145]; with_reducible exact H) | (have H2_ := (Option.bind_some _ _).symm.trans H; rw [hy145]; with_reducible exact H2_) | (have H2_ := (Option.bind_some _ _).symm.trans H; with_reducible exact H2_) | with_reducible exact H | (rw [hy145]; exact H) | exact H
      have Ny145 := Aside0.mk hy145
      clear hy145
      obtain rfl := Option.some.inj H
      go_enter Try.func58, Try.ntmps58
      go_wp2_with (first | ((with_reducible refine gate_dst (N := 18) rfl ?_); (try (refine gate_guard (by rfl) ?_; dsimp only)); refine Kd.R_lit (Kd.int .i64) _ 3 ?hg (N := 18) ?hd (xs := ([a1] : List Int)) (inner := [.int .i64 a1]) (ok := fun _ => True) (okp := fun _ => True) ?hr ?hp (fun _ hk => hk) trivial (Below.refl _ _) (Nat.le_refl _) (by simp) ?_; (case hd => rfl); (case hg => rfl); (case hr => first | (go_simp; done) | (go_simp; rfl)); (case hp => exact (Reps.one (show Kd.M (Kd.int .i64) _ _ _ a1 [.int .i64 a1] from rfl) (Reps.none _ _))); intro v146 w6 ho7 hb hg_ hnew_; clear hg_ hnew_; (first | rw [← Ny145.out] at ho7 | (simp only [Int.reduceToNat] at ho7; rw [← Ny145.out] at ho7)); have n0_ := Aside0.mk (Kd.R_lower ho7 (below_size (by repeat (first | (with_reducible first | exact HB.out | apply below_alloc | apply pw_below_drewN | apply below_drew1) | exact HB.out)))); have n1_ := Aside0.mk (below_step (by repeat (first | (with_reducible first | exact HB.out | apply below_alloc | apply pw_below_drewN | apply below_drew1) | exact HB.out)) hb); clear HB; have HO147 := n0_; have HB := n1_; clear n0_ n1_; clear hb ho7))
      repeat (go_quiet (first | ((with_reducible refine gate_dst (N := 18) rfl ?_); (try (refine gate_guard (by rfl) ?_; dsimp only)); refine Kd.R_lit (Kd.int .i64) _ 3 ?hg (N := 18) ?hd (xs := ([a1] : List Int)) (inner := [.int .i64 a1]) (ok := fun _ => True) (okp := fun _ => True) ?hr ?hp (fun _ hk => hk) trivial (Below.refl _ _) (Nat.le_refl _) (by simp) ?_; (case hd => rfl); (case hg => rfl); (case hr => first | (go_simp; done) | (go_simp; rfl)); (case hp => exact (Reps.one (show Kd.M (Kd.int .i64) _ _ _ a1 [.int .i64 a1] from rfl) (Reps.none _ _))); intro v146 w6 ho7 hb hg_ hnew_; clear hg_ hnew_; (first | rw [← Ny145.out] at ho7 | (simp only [Int.reduceToNat] at ho7; rw [← Ny145.out] at ho7)); have n0_ := Aside0.mk (Kd.R_lower ho7 (below_size (by repeat (first | (with_reducible first | exact HB.out | apply below_alloc | apply pw_below_drewN | apply below_drew1) | exact HB.out)))); have n1_ := Aside0.mk (below_step (by repeat (first | (with_reducible first | exact HB.out | apply below_alloc | apply pw_below_drewN | apply below_drew1) | exact HB.out)) hb); clear HB; have HO147 := n0_; have HB := n1_; clear n0_ n1_; clear hb ho7)); try go_wp2_with (first | ((with_reducible refine gate_dst (N := 18) rfl ?_); (try (refine gate_guard (by rfl) ?_; dsimp only)); refine Kd.R_lit (Kd.int .i64) _ 3 ?hg (N := 18) ?hd (xs := ([a1] : List Int)) (inner := [.int .i64 a1]) (ok := fun _ => True) (okp := fun _ => True) ?hr ?hp (fun _ hk => hk) trivial (Below.refl _ _) (Nat.le_refl _) (by simp) ?_; (case hd => rfl); (case hg => rfl); (case hr => first | (go_simp; done) | (go_simp; rfl)); (case hp => exact (Reps.one (show Kd.M (Kd.int .i64) _ _ _ a1 [.int .i64 a1] from rfl) (Reps.none _ _))); intro v146 w6 ho7 hb hg_ hnew_; clear hg_ hnew_; (first | rw [← Ny145.out] at ho7 | (simp only [Int.reduceToNat] at ho7; rw [← Ny145.out] at ho7)); have n0_ := Aside0.mk (Kd.R_lower ho7 (below_size (by repeat (first | (with_reducible first | exact HB.out | apply below_alloc | apply pw_below_drewN | apply below_drew1) | exact HB.out)))); have n1_ := Aside0.mk (below_step (by repeat (first | (with_reducible first | exact HB.out | apply below_alloc | apply pw_below_drewN | apply below_drew1) | exact HB.out)) hb); clear HB; have HO147 := n0_; have HB := n1_; clear n0_ n1_; clear hb ho7)))
      go_ret
      exact ⟨_, by first | rfl | (simp [errW_none, errW_some] <;> rfl) | (simp [*, errW_none, errW_some] <;> rfl), by (with_reducible repeat (first | apply Kd.R_alloc | apply Kd.R_drewN | apply Kd.R_drew)); exact HO147.out, by repeat (first | (with_reducible first | exact HB.out | apply below_alloc | apply pw_below_drewN | apply below_drew1) | exact HB.out)⟩
  · rw [if_neg c4] at H
    have c4b0 : decide ((wrap64 (a2 - a1)) < 2) = false := decide_eq_false c4
    clear c4
    replace H := Option.bind_eq_some_iff.mp H
    obtain ⟨t148, A80, H⟩ := H
    replace H : ((flatironref04_order.f k l0 (wrap64 (Int.tdiv (wrap64 (a1 + a2)) 2)) a2).bind fun t151 => (flatironref04_order.l0 k l0 t148 t151 ([] : List Int))) = some r := H
    have A8 := Aside0.mk A80
    clear A80
    replace H := Option.bind_eq_some_iff.mp H
    obtain ⟨t151, A90, H⟩ := H
    replace H : (flatironref04_order.l0 k l0 t148 t151 ([] : List Int)) = some r := H
    have A9 := Aside0.mk A90
    clear A90
    have H' := Aside0.mk H
    clear H
    go_enter Try.func58, Try.ntmps58
    go_wp2_with (first | (go_at_call 58; (with_reducible refine (ih k (by omega) _ _ l0 a1 (wrap64 (Int.tdiv (wrap64 (a1 + a2)) 2)) t148 _ ?side1 ?side2 A8.out).mono ?_); (case side1 => repeat (first | exact HR0.out | (with_reducible refine Kd.C_alloc ?_ _) | (with_reducible refine Kd.C_drewN ?_ _) | (with_reducible refine Kd.C_drew ?_))); (case side2 => exact HC0.out); rintro e w10 ⟨v149, rfl, ho0, hb⟩; have n0_ := Aside0.mk (Kd.R_lower ho0 (below_size (by repeat (first | (with_reducible first | exact HB.out | apply below_alloc | apply pw_below_drewN | apply below_drew1) | exact HB.out)))); have n1_ := Aside0.mk (below_step (by repeat (first | (with_reducible first | exact HB.out | apply below_alloc | apply pw_below_drewN | apply below_drew1) | exact HB.out)) hb); clear HB; have HO150 := n0_; have HB := n1_; clear n0_ n1_; (try clear hb); (try clear hb2); (try clear hk); (try clear hi); (try clear ho0)) | (go_at_call 58; (with_reducible refine (ih k (by omega) _ _ l0 (wrap64 (Int.tdiv (wrap64 (a1 + a2)) 2)) a2 t151 _ ?side1 ?side2 A9.out).mono ?_); (case side1 => repeat (first | exact (Kd.C_below HR0.out HB.out) | (with_reducible refine Kd.C_alloc ?_ _) | (with_reducible refine Kd.C_drewN ?_ _) | (with_reducible refine Kd.C_drew ?_))); (case side2 => exact HC0.out); rintro e w11 ⟨v152, rfl, ho0, hb⟩; have n0_ := Aside0.mk (Kd.R_elder' (by (with_reducible repeat (first | apply Kd.R_alloc | apply Kd.R_drewN | apply Kd.R_drew)); exact HO150.out) (Kd.R_base ho0) hb); have n1_ := Aside0.mk (Kd.R_lower (Kd.R_new' ho0 (Kd.R_lt (by (with_reducible repeat (first | apply Kd.R_alloc | apply Kd.R_drewN | apply Kd.R_drew)); exact HO150.out))) (below_size (by repeat (first | (with_reducible first | exact HB.out | apply below_alloc | apply pw_below_drewN | apply below_drew1) | exact HB.out)))); have n2_ := Aside0.mk (below_step (by repeat (first | (with_reducible first | exact HB.out | apply below_alloc | apply pw_below_drewN | apply below_drew1) | exact HB.out)) hb); clear HO150; clear HB; have HO150 := n0_; have HO153 := n1_; have HB := n2_; clear n0_ n1_ n2_; (try clear hb); (try clear hb2); (try clear hk); (try clear hi); (try clear ho0)))
    repeat (go_quiet (first | (go_at_call 58; (with_reducible refine (ih k (by omega) _ _ l0 a1 (wrap64 (Int.tdiv (wrap64 (a1 + a2)) 2)) t148 _ ?side1 ?side2 A8.out).mono ?_); (case side1 => repeat (first | exact HR0.out | (with_reducible refine Kd.C_alloc ?_ _) | (with_reducible refine Kd.C_drewN ?_ _) | (with_reducible refine Kd.C_drew ?_))); (case side2 => exact HC0.out); rintro e w10 ⟨v149, rfl, ho0, hb⟩; have n0_ := Aside0.mk (Kd.R_lower ho0 (below_size (by repeat (first | (with_reducible first | exact HB.out | apply below_alloc | apply pw_below_drewN | apply below_drew1) | exact HB.out)))); have n1_ := Aside0.mk (below_step (by repeat (first | (with_reducible first | exact HB.out | apply below_alloc | apply pw_below_drewN | apply below_drew1) | exact HB.out)) hb); clear HB; have HO150 := n0_; have HB := n1_; clear n0_ n1_; (try clear hb); (try clear hb2); (try clear hk); (try clear hi); (try clear ho0)) | (go_at_call 58; (with_reducible refine (ih k (by omega) _ _ l0 (wrap64 (Int.tdiv (wrap64 (a1 + a2)) 2)) a2 t151 _ ?side1 ?side2 A9.out).mono ?_); (case side1 => repeat (first | exact (Kd.C_below HR0.out HB.out) | (with_reducible refine Kd.C_alloc ?_ _) | (with_reducible refine Kd.C_drewN ?_ _) | (with_reducible refine Kd.C_drew ?_))); (case side2 => exact HC0.out); rintro e w11 ⟨v152, rfl, ho0, hb⟩; have n0_ := Aside0.mk (Kd.R_elder' (by (with_reducible repeat (first | apply Kd.R_alloc | apply Kd.R_drewN | apply Kd.R_drew)); exact HO150.out) (Kd.R_base ho0) hb); have n1_ := Aside0.mk (Kd.R_lower (Kd.R_new' ho0 (Kd.R_lt (by (with_reducible repeat (first | apply Kd.R_alloc | apply Kd.R_drewN | apply Kd.R_drew)); exact HO150.out))) (below_size (by repeat (first | (with_reducible first | exact HB.out | apply below_alloc | apply pw_below_drewN | apply below_drew1) | exact HB.out)))); have n2_ := Aside0.mk (below_step (by repeat (first | (with_reducible first | exact HB.out | apply below_alloc | apply pw_below_drewN | apply below_drew1) | exact HB.out)) hb); clear HO150; clear HB; have HO150 := n0_; have HO153 := n1_; have HB := n2_; clear n0_ n1_ n2_; (try clear hb); (try clear hb2); (try clear hk); (try clear hi); (try clear ho0))); try go_wp2_with (first | (go_at_call 58; (with_reducible refine (ih k (by omega) _ _ l0 a1 (wrap64 (Int.tdiv (wrap64 (a1 + a2)) 2)) t148 _ ?side1 ?side2 A8.out).mono ?_); (case side1 => repeat (first | exact HR0.out | (with_reducible refine Kd.C_alloc ?_ _) | (with_reducible refine Kd.C_drewN ?_ _) | (with_reducible refine Kd.C_drew ?_))); (case side2 => exact HC0.out); rintro e w10 ⟨v149, rfl, ho0, hb⟩; have n0_ := Aside0.mk (Kd.R_lower ho0 (below_size (by repeat (first | (with_reducible first | exact HB.out | apply below_alloc | apply pw_below_drewN | apply below_drew1) | exact HB.out)))); have n1_ := Aside0.mk (below_step (by repeat (first | (with_reducible first | exact HB.out | apply below_alloc | apply pw_below_drewN | apply below_drew1) | exact HB.out)) hb); clear HB; have HO150 := n0_; have HB := n1_; clear n0_ n1_; (try clear hb); (try clear hb2); (try clear hk); (try clear hi); (try clear ho0)) | (go_at_call 58; (with_reducible refine (ih k (by omega) _ _ l0 (wrap64 (Int.tdiv (wrap64 (a1 + a2)) 2)) a2 t151 _ ?side1 ?side2 A9.out).mono ?_); (case side1 => repeat (first | exact (Kd.C_below HR0.out HB.out) | (with_reducible refine Kd.C_alloc ?_ _) | (with_reducible refine Kd.C_drewN ?_ _) | (with_reducible refine Kd.C_drew ?_))); (case side2 => exact HC0.out); rintro e w11 ⟨v152, rfl, ho0, hb⟩; have n0_ := Aside0.mk (Kd.R_elder' (by (with_reducible repeat (first | apply Kd.R_alloc | apply Kd.R_drewN | apply Kd.R_drew)); exact HO150.out) (Kd.R_base ho0) hb); have n1_ := Aside0.mk (Kd.R_lower (Kd.R_new' ho0 (Kd.R_lt (by (with_reducible repeat (first | apply Kd.R_alloc | apply Kd.R_drewN | apply Kd.R_drew)); exact HO150.out))) (below_size (by repeat (first | (with_reducible first | exact HB.out | apply below_alloc | apply pw_below_drewN | apply below_drew1) | exact HB.out)))); have n2_ := Aside0.mk (below_step (by repeat (first | (with_reducible first | exact HB.out | apply below_alloc | apply pw_below_drewN | apply below_drew1) | exact HB.out)) hb); clear HO150; clear HB; have HO150 := n0_; have HO153 := n1_; have HB := n2_; clear n0_ n1_ n2_; (try clear hb); (try clear hb2); (try clear hk); (try clear hi); (try clear ho0))))
    go_loopg [7, 8, 9] k (fun kq v7 v8 v9 w' => ∃ (x7_1 : List Int) (x8_1 : List Int) (x9_1 : List Int), Aside0 (flatironref04_order.l0 kq l0 x7_1 x8_1 x9_1 = some r) ∧ Aside0 (kq ≤ k) ∧ Aside0 (Kd.Q (Kd.int .i64) 3 w' w.heap.size (fun k_ => some k_ ≠ (v8 : Value).ownBlock ∧ some k_ ≠ (v9 : Value).ownBlock) v7 x7_1) ∧ Aside0 (Kd.Q (Kd.int .i64) 3 w' w.heap.size (fun k_ => some k_ ≠ (v7 : Value).ownBlock ∧ some k_ ≠ (v9 : Value).ownBlock) v8 x8_1) ∧ Aside0 (Kd.R (Kd.int .i64) 3 w' w.heap.size (fun k_ => some k_ ≠ (v7 : Value).ownBlock ∧ some k_ ≠ (v8 : Value).ownBlock) v9 x9_1) ∧ Aside0 (Below w.heap.size w w'))
    case atStart => exact ⟨(t148), (t151), (([] : List Int)), H', ⟨Nat.le_refl _⟩, ⟨Kd.Q_of_R (by (with_reducible repeat (first | apply Kd.R_alloc | apply Kd.R_drewN | apply Kd.R_drew)); exact Kd.R_mono HO150.out (fun _ hk => ⟨hk.2, (by simp [Value.ownBlock])⟩))⟩, ⟨Kd.Q_of_R (by (with_reducible repeat (first | apply Kd.R_alloc | apply Kd.R_drewN | apply Kd.R_drew)); exact Kd.R_mono HO153.out (fun _ hk => ⟨hk.2, (by simp [Value.ownBlock])⟩))⟩, ⟨by first | exact Kd.R_nil _ _ _ _ _ | exact Kd.N_nil _ _ _ _ _ | exact Kd.V_nil _ _ _ _ _ | exact Kd.Q_nil _ _ _ _ _ | exact Kd.S_nil _ _ _ _ _⟩, ⟨by repeat (first | (with_reducible first | exact HB.out | apply below_alloc | apply pw_below_drewN | apply below_drew1) | exact HB.out)⟩⟩
    case round =>
      clear H'
      try clear p2
      try clear c4
      try clear c4b0
      try clear c5
      try clear c5b0
      try clear c5b1
      try clear p6
      obtain ⟨x7_1, x8_1, x9_1, HA, HK1, HO_7, HO_8, HO_9, HB⟩ := hrel
      cases gk with
      | zero => exact absurd HA.out (by simp [flatironref04_order.l0])
      | succ k1 =>
        have H := HA.out
        clear HA
        simp only [flatironref04_order.l0] at H
        have HC12 := Aside0.mk H
        clear H
        go_upto_region 8 with (fail)
        repeat (go_quiet (fail); go_upto_region 8 with (fail))
        go_cut [40] (fun v40 wc => ∃ (kq : Nat) (x40_11 : Bool), v40 = .bool x40_11 ∧ Aside0 (flatironref04_order.j1 kq l0 x7_1 x8_1 x9_1 x40_11 = some r) ∧ Aside0 (kq ≤ k1) ∧ Aside0 (Kd.Q (Kd.int .i64) 3 wc w.heap.size (fun k_ => some k_ ≠ (u8 : Value).ownBlock ∧ some k_ ≠ (u9 : Value).ownBlock) u7 x7_1) ∧ Aside0 (Kd.Q (Kd.int .i64) 3 wc w.heap.size (fun k_ => some k_ ≠ (u7 : Value).ownBlock ∧ some k_ ≠ (u9 : Value).ownBlock) u8 x8_1) ∧ Aside0 (Kd.R (Kd.int .i64) 3 wc w.heap.size (fun k_ => some k_ ≠ (u7 : Value).ownBlock ∧ some k_ ≠ (u8 : Value).ownBlock) u9 x9_1) ∧ Aside0 (Below w.heap.size w wc))
        case first =>
          have H := HC12.out
          clear HC12
          by_cases c13 : (x7_1.length : Int) > 0
          · rw [if_pos c13] at H
            have c13b0 : decide (0 < (x7_1.length : Int)) = true := decide_eq_true c13
            have c13b1 : decide (0 < x7_1.length) = true := decide_eq_true (by omega)
            clear c13
            (first | rw [c13b0] | (simp only [i64_w, i32_w]; rw [c13b0]) | skip)
            have H' := Aside0.mk H
            clear H
            obtain ⟨Ao14, co14, eo14, _⟩ := Kd.Q_slice HO_7.out
            subst eo14
            obtain ⟨Ao15, co15, eo15, _⟩ := Kd.Q_slice HO_8.out
            subst eo15
            go_wp2
            repeat (go_quiet (fail); try go_wp2)
            go_meet
            case rel => exact ⟨_, (decide ((x8_1.length : Int) > 0)), (by first | rfl | (simp; done) | (simp [*]; done)), H', ⟨by have := HK1.out; first | omega | exact Nat.le_refl _⟩, ⟨by (with_reducible repeat (first | apply Kd.Q_alloc | apply Kd.Q_drewN | apply Kd.Q_drew)); exact HO_7.out⟩, ⟨by (with_reducible repeat (first | apply Kd.Q_alloc | apply Kd.Q_drewN | apply Kd.Q_drew)); exact HO_8.out⟩, ⟨by (with_reducible repeat (first | apply Kd.R_alloc | apply Kd.R_drewN | apply Kd.R_drew)); exact HO_9.out⟩, ⟨by repeat (first | (with_reducible first | exact HB.out | apply below_alloc | apply pw_below_drewN | apply below_drew1) | exact HB.out)⟩⟩
          · rw [if_neg c13] at H
            have c13b0 : decide (0 < (x7_1.length : Int)) = false := decide_eq_false c13
            have c13b1 : decide (0 < x7_1.length) = false := decide_eq_false (by omega)
            clear c13
            (first | rw [c13b0] | (simp only [i64_w, i32_w]; rw [c13b0]) | skip)
            have H' := Aside0.mk H
            clear H
            obtain ⟨Ao16, co16, eo16, _⟩ := Kd.Q_slice HO_7.out
            subst eo16
            go_wp2
            repeat (go_quiet (fail); try go_wp2)
            go_meet
            case rel => exact ⟨_, (false), (by first | rfl | (simp; done) | (simp [*]; done)), H', ⟨by have := HK1.out; first | omega | exact Nat.le_refl _⟩, ⟨by (with_reducible repeat (first | apply Kd.Q_alloc | apply Kd.Q_drewN | apply Kd.Q_drew)); exact HO_7.out⟩, ⟨by (with_reducible repeat (first | apply Kd.Q_alloc | apply Kd.Q_drewN | apply Kd.Q_drew)); exact HO_8.out⟩, ⟨by (with_reducible repeat (first | apply Kd.R_alloc | apply Kd.R_drewN | apply Kd.R_drew)); exact HO_9.out⟩, ⟨by repeat (first | (with_reducible first | exact HB.out | apply below_alloc | apply pw_below_drewN | apply below_drew1) | exact HB.out)⟩⟩
        case rest =>
          clear HC12
          try clear c1
          try clear p2
          try clear c4
          try clear c4b0
          try clear c5
          try clear c5b0
          try clear c5b1
          try clear p6
          try clear c13
          try clear c13b0
          try clear c13b1
          try clear p2
          try clear p6
          obtain ⟨kq, x40_11, rfl, HA, HJ11, HO_7, HO_8, HO_9, HB⟩ := hcut
          cases kq with
          | zero => exact absurd HA.out (by simp [flatironref04_order.j1])
          | succ kj11 =>
            have H := HA.out
            clear HA
            simp only [flatironref04_order.j1] at H
            by_cases c17 : x40_11 = true
            · subst c17
              have H1 : (if 0 < (x7_1.length : Int) then (if 0 ≤ (rd x7_1 0) then (if (rd x7_1 0) < (l0.length : Int) then (if 0 < (x8_1.length : Int) then (if 0 ≤ (rd x8_1 0) then (if (rd x8_1 0) < (l0.length : Int) then (if (Op.bytesLess ((rdOf ByteArray.empty l0 (rd x7_1 0)).toList) ((rdOf ByteArray.empty l0 (rd x8_1 0)).toList)) = true then (if x9_1.length < 17592186044416 then (if 1 ≤ (x7_1.length : Int) then (flatironref04_order.l0 kj11 l0 (x7_1.drop (1 : Int).toNat) x8_1 (x9_1 ++ [rd x7_1 0])) else (none)) else (none)) else (if (rdOf ByteArray.empty l0 (rd x7_1 0)).toList = (rdOf ByteArray.empty l0 (rd x8_1 0)).toList then (if x9_1.length < 17592186044416 then (if 1 ≤ (x7_1.length : Int) then (flatironref04_order.l0 kj11 l0 (x7_1.drop (1 : Int).toNat) x8_1 (x9_1 ++ [rd x7_1 0])) else (none)) else (none)) else (if x9_1.length < 17592186044416 then (if 1 ≤ (x8_1.length : Int) then (flatironref04_order.l0 kj11 l0 x7_1 (x8_1.drop (1 : Int).toNat) (x9_1 ++ [rd x8_1 0])) else (none)) else (none)))) else (none)) else (none)) else (none)) else (none)) else (none)) else (none)) = some r := by rw [if_pos rfl] at H; exact H
              clear H
              have H := H1
              clear H1
              by_cases c18 : 0 < (x7_1.length : Int)
              · rw [if_pos c18] at H
                have c18b0 : decide (0 < (x7_1.length : Int)) = true := decide_eq_true c18
                have c18b1 : decide (0 < x7_1.length) = true := decide_eq_true (by omega)
                clear c18
                by_cases c19 : 0 ≤ (rd x7_1 0)
                · rw [if_pos c19] at H
                  have c19b0 : decide (0 ≤ (rd x7_1 0)) = true := decide_eq_true c19
                  clear c19
                  by_cases c20 : (rd x7_1 0) < (l0.length : Int)
                  · rw [if_pos c20] at H
                    have c20b0 : decide ((rd x7_1 0) < (l0.length : Int)) = true := decide_eq_true c20
                    clear c20
                    by_cases c21 : 0 < (x8_1.length : Int)
                    · rw [if_pos c21] at H
                      have c21b0 : decide (0 < (x8_1.length : Int)) = true := decide_eq_true c21
                      have c21b1 : decide (0 < x8_1.length) = true := decide_eq_true (by omega)
                      clear c21
                      by_cases c22 : 0 ≤ (rd x8_1 0)
                      · rw [if_pos c22] at H
                        have c22b0 : decide (0 ≤ (rd x8_1 0)) = true := decide_eq_true c22
                        clear c22
                        by_cases c23 : (rd x8_1 0) < (l0.length : Int)
                        · rw [if_pos c23] at H
                          have c23b0 : decide ((rd x8_1 0) < (l0.length : Int)) = true := decide_eq_true c23
                          clear c23
                          by_cases c24 : (Op.bytesLess ((rdOf ByteArray.empty l0 (rd x7_1 0)).toList) ((rdOf ByteArray.empty l0 (rd x8_1 0)).toList)) = true
                          · rw [if_pos c24] at H
                            have c24b0 : (Op.bytesLess ((rdOf ByteArray.empty l0 (rd x7_1 0)).toList) ((rdOf ByteArray.empty l0 (rd x8_1 0)).toList)) = true := c24
                            clear c24
                            by_cases c25 : x9_1.length < 17592186044416
                            · rw [if_pos c25] at H
                              have LMc25 := Aside0.mk c25
                              clear c25
                              obtain ⟨y159, hy159⟩ : ∃ y_ : List Int, y_ = (x9_1 ++ [rd x7_1 0]) := ⟨_, rfl⟩
                              replace H : (if 1 ≤ (x7_1.length : Int) then (flatironref04_order.l0 kj11 l0 (x7_1.drop (1 : Int).toNat) x8_1 y159) else (none)) = some r := by first | (rw [hy159]; with_reducible exact H) | (have H2_ := (Option.bind_some _ _).symm.trans H; rw [hy159]; with_reducible exact H2_) | (have H2_ := (Option.bind_some _ _).symm.trans H; with_reducible exact H2_) | with_reducible exact H | (rw [hy159]; exact H) | exact H
                              have Ny159 := Aside0.mk hy159
                              clear hy159
                              by_cases c26 : 1 ≤ (x7_1.length : Int)
                              · rw [if_pos c26] at H
                                have c26b0 := eq_true c26
                                have c26b1 : decide (1 ≤ (x7_1.length : Int)) = true := decide_eq_true c26
                                clear c26
                                obtain ⟨y162, hy162⟩ : ∃ y_ : List Int, y_ = (x7_1.drop (1 : Int).toNat) := ⟨_, rfl⟩
                                replace H : (flatironref04_order.l0 kj11 l0 y162 x8_1 y159) = some r := by first | (rw [hy162]; with_reducible exact H) | (have H2_ := (Option.bind_some _ _).symm.trans H; rw [hy162]; with_reducible exact H2_) | (have H2_ := (Option.bind_some _ _).symm.trans H; with_reducible exact H2_) | with_reducible exact H | (rw [hy162]; exact H) | exact H
                                have Ny162 := Aside0.mk hy162
                                clear hy162
                                have H' := Aside0.mk H
                                clear H
                                obtain ⟨Ao27, co27, eo27, _⟩ := Kd.Q_slice HO_7.out
                                subst eo27
                                have p154 : 0 ≤ (0 : Int) := (by omega)
                                have q154 : 0 < (x7_1.length : Int) := of_decide_eq_true (by first | (with_reducible assumption) | assumption)
                                obtain ⟨ad154, e154, hx154_0⟩ := Kd.at_int (Kd.Q_reads' HO_7.out).2.2 0 p154 q154
                                cases e154
                                have qi154 : (0 < x7_1.length) = True := eq_true (by omega)
                                (try rw [show ((0 : Int)).toNat = 0 from rfl] at hx154_0)
                                (try rw [Addr.add_zero'] at hx154_0)
                                replace p154 := eq_true p154
                                replace q154 := eq_true q154
                                have p155 : 0 ≤ ((rd x7_1 0) : Int) := of_decide_eq_true (by first | (with_reducible assumption) | assumption)
                                have q155 : (rd x7_1 0) < (l0.length : Int) := of_decide_eq_true (by first | (with_reducible assumption) | assumption)
                                obtain ⟨ad155, e155, hx155_0⟩ := Kd.at_string HR0.out (rd x7_1 0) p155 q155
                                cases e155
                                replace hx155_0 := (HB.out.cell (World.block_lt_of_cell? w _ hx155_0)).trans hx155_0
                                replace p155 := eq_true p155
                                replace q155 := eq_true q155
                                obtain ⟨Ao28, co28, eo28, _⟩ := Kd.Q_slice HO_8.out
                                subst eo28
                                have p156 : 0 ≤ (0 : Int) := (by omega)
                                have q156 : 0 < (x8_1.length : Int) := of_decide_eq_true (by first | (with_reducible assumption) | assumption)
                                obtain ⟨ad156, e156, hx156_0⟩ := Kd.at_int (Kd.Q_reads' HO_8.out).2.2 0 p156 q156
                                cases e156
                                have qi156 : (0 < x8_1.length) = True := eq_true (by omega)
                                (try rw [show ((0 : Int)).toNat = 0 from rfl] at hx156_0)
                                (try rw [Addr.add_zero'] at hx156_0)
                                replace p156 := eq_true p156
                                replace q156 := eq_true q156
                                have p157 : 0 ≤ ((rd x8_1 0) : Int) := of_decide_eq_true (by first | (with_reducible assumption) | assumption)
                                have q157 : (rd x8_1 0) < (l0.length : Int) := of_decide_eq_true (by first | (with_reducible assumption) | assumption)
                                obtain ⟨ad157, e157, hx157_0⟩ := Kd.at_string HR0.out (rd x8_1 0) p157 q157
                                obtain rfl : ad155 = ad157 := (by injection e157)
                                replace hx157_0 := (HB.out.cell (World.block_lt_of_cell? w _ hx157_0)).trans hx157_0
                                replace p157 := eq_true p157
                                replace q157 := eq_true q157
                                have p158 : 0 ≤ (0 : Int) := (by omega)
                                have q158 : 0 < (x7_1.length : Int) := of_decide_eq_true (by first | (with_reducible assumption) | assumption)
                                obtain ⟨ad158, e158, hx158_0⟩ := Kd.at_int (Kd.Q_reads' HO_7.out).2.2 0 p158 q158
                                obtain rfl : ad154 = ad158 := (by injection e158)
                                have qi158 : (0 < x7_1.length) = True := eq_true (by omega)
                                (try rw [show ((0 : Int)).toNat = 0 from rfl] at hx158_0)
                                (try rw [Addr.add_zero'] at hx158_0)
                                replace p158 := eq_true p158
                                replace q158 := eq_true q158
                                go_wp2_with (first | ((with_reducible refine gate_builtin (b := .append) (xs := #[.tmp 54, .tmp 58]) rfl ?_); (try (refine gate_guard (by rfl) ?_; dsimp only)); at_builtin; refine Kd.R_append (Kd.int .i64) (w0 := w) w.heap.size rfl (.tmp 54) (.tmp 58) 125 3 (.int .i64 0) 8 rfl Try.underlying125 info3 rfl (by decide) (by omega) u9 x9_1 (rd x7_1 0) [.int .i64 (rd x7_1 0)] (fun k_ => some k_ ≠ (.slice (some ad154) x7_1.length co27 : Value).ownBlock ∧ some k_ ≠ (.slice (some ad156) x8_1.length co28 : Value).ownBlock) (fun _ => False) rfl rfl ?aP (fun _ hk => hk.elim) ?aF ?aO ?aB ?aS ?aL ?_; (case aP => exact rfl); (case aB => exact (by repeat (first | (with_reducible first | exact HB.out | apply below_alloc | apply pw_below_drewN | apply below_drew1) | exact HB.out))); (case aF => exact (fun k_ hk => ⟨Kd.fresh' (Kd.Q_lt (by (with_reducible repeat (first | apply Kd.Q_alloc | apply Kd.Q_drewN | apply Kd.Q_drew)); exact HO_7.out)) k_ hk, Kd.fresh' (Kd.Q_lt (by (with_reducible repeat (first | apply Kd.Q_alloc | apply Kd.Q_drewN | apply Kd.Q_drew)); exact HO_8.out)) k_ hk⟩)); (case aO => exact (by (with_reducible repeat (first | apply Kd.R_alloc | apply Kd.R_drewN | apply Kd.R_drew)); exact HO_9.out)); (case aS => exact (below_size (by repeat (first | (with_reducible first | exact HB.out | apply below_alloc | apply pw_below_drewN | apply below_drew1) | exact HB.out)))); (case aL => have := LMc25.out; omega); intro v160 w29 ho hb hg hat; rw [← Ny159.out] at ho; have n0_ := Aside0.mk (Kd.Q_after (ok := (fun k_ => some k_ ≠ (.slice (some ad156) x8_1.length co28 : Value).ownBlock)) (by (with_reducible repeat (first | apply Kd.Q_alloc | apply Kd.Q_drewN | apply Kd.Q_drew)); exact HO_7.out) hg hat); have n1_ := Aside0.mk (Kd.Q_after (ok := (fun k_ => some k_ ≠ (.slice (some ad154) x7_1.length co27 : Value).ownBlock)) (by (with_reducible repeat (first | apply Kd.Q_alloc | apply Kd.Q_drewN | apply Kd.Q_drew)); exact HO_8.out) hg hat); have n2_ := Aside0.mk (hb); have n3_ := Aside0.mk (ho); clear HO_7; clear HO_8; clear HB; clear HO_9; have HO_7 := n0_; have HO_8 := n1_; have HB := n2_; have HO161 := n3_; clear n0_ n1_ n2_ n3_; clear ho hb hg hat; have q30 : (1 : Int) ≤ ((x7_1.length : Int) : Int) := of_decide_eq_true (by first | (with_reducible assumption) | assumption); obtain ⟨i030, hi030, _, hsz30, _⟩ := info_parts info3; have hcut30 := cut_from (P := Try.prog) 125 3 .i64 Try.underlying125 hi030 1 hsz30 (some ad154) x7_1.length co27 1 (by omega) q30; have hr30 := Kd.Q_drop (k := (1 : Int).toNat) HO_7.out (by omega); obtain ⟨A30, hA30⟩ : ∃ A1, A1 = (if co27 = (1 : Int).toNat then (some ad154) else ((some ad154) : Option Addr).map (·.add ((1 : Int).toNat * 1))) := ⟨_, rfl⟩; obtain ⟨c30, hc30⟩ : ∃ c1, c1 = co27 - (1 : Int).toNat := ⟨_, rfl⟩; have hy30 : y162.length = x7_1.length - (1 : Int).toNat := (by rw [Ny162.out, List.length_drop]); rw [← Ny162.out] at hr30; rw [← hy30, ← hA30, ← hc30] at hcut30; replace hr30 : Kd.Q (Kd.int .i64) 3 w29 w.heap.size (fun k_ => some k_ ≠ (.slice (some ad156) x8_1.length co28 : Value).ownBlock ∧ some k_ ≠ (v160 : Value).ownBlock) (.slice A30 y162.length c30) y162 := (by rw [hA30, hc30, hy30]; exact hr30); have HE30 : Aside0 ((Value.slice A30 y162.length c30).ownBlock = (.slice (some ad154) x7_1.length co27 : Value).ownBlock) := ⟨by rw [hA30]; split <;> (cases ((some ad154) : Option Addr) <;> rfl)⟩; clear hy30 hi030 hsz30 HO_7 hA30 hc30; have HO164 := Aside0.mk hr30; clear hr30; replace q30 := eq_true q30; have n_ := Aside0.mk (Kd.Q_mono (ok' := fun k_ => (some k_ ≠ (.slice A30 y162.length c30 : Value).ownBlock ∧ some k_ ≠ (v160 : Value).ownBlock)) HO_8.out (fun k_ hk => ⟨(by rw [HE30.out]; exact hk.1), hk.2⟩)); clear HO_8; have HO_8 := n_; clear n_; have n_ := Aside0.mk (Kd.R_mono (ok' := fun k_ => (some k_ ≠ (.slice A30 y162.length c30 : Value).ownBlock ∧ some k_ ≠ (.slice (some ad156) x8_1.length co28 : Value).ownBlock)) HO161.out (fun k_ hk => ⟨(by rw [HE30.out]; exact hk.1), hk.2⟩)); clear HO161; have HO161 := n_; clear n_))
                                repeat (go_quiet (first | ((with_reducible refine gate_builtin (b := .append) (xs := #[.tmp 54, .tmp 58]) rfl ?_); (try (refine gate_guard (by rfl) ?_; dsimp only)); at_builtin; refine Kd.R_append (Kd.int .i64) (w0 := w) w.heap.size rfl (.tmp 54) (.tmp 58) 125 3 (.int .i64 0) 8 rfl Try.underlying125 info3 rfl (by decide) (by omega) u9 x9_1 (rd x7_1 0) [.int .i64 (rd x7_1 0)] (fun k_ => some k_ ≠ (.slice (some ad154) x7_1.length co27 : Value).ownBlock ∧ some k_ ≠ (.slice (some ad156) x8_1.length co28 : Value).ownBlock) (fun _ => False) rfl rfl ?aP (fun _ hk => hk.elim) ?aF ?aO ?aB ?aS ?aL ?_; (case aP => exact rfl); (case aB => exact (by repeat (first | (with_reducible first | exact HB.out | apply below_alloc | apply pw_below_drewN | apply below_drew1) | exact HB.out))); (case aF => exact (fun k_ hk => ⟨Kd.fresh' (Kd.Q_lt (by (with_reducible repeat (first | apply Kd.Q_alloc | apply Kd.Q_drewN | apply Kd.Q_drew)); exact HO_7.out)) k_ hk, Kd.fresh' (Kd.Q_lt (by (with_reducible repeat (first | apply Kd.Q_alloc | apply Kd.Q_drewN | apply Kd.Q_drew)); exact HO_8.out)) k_ hk⟩)); (case aO => exact (by (with_reducible repeat (first | apply Kd.R_alloc | apply Kd.R_drewN | apply Kd.R_drew)); exact HO_9.out)); (case aS => exact (below_size (by repeat (first | (with_reducible first | exact HB.out | apply below_alloc | apply pw_below_drewN | apply below_drew1) | exact HB.out)))); (case aL => have := LMc25.out; omega); intro v160 w29 ho hb hg hat; rw [← Ny159.out] at ho; have n0_ := Aside0.mk (Kd.Q_after (ok := (fun k_ => some k_ ≠ (.slice (some ad156) x8_1.length co28 : Value).ownBlock)) (by (with_reducible repeat (first | apply Kd.Q_alloc | apply Kd.Q_drewN | apply Kd.Q_drew)); exact HO_7.out) hg hat); have n1_ := Aside0.mk (Kd.Q_after (ok := (fun k_ => some k_ ≠ (.slice (some ad154) x7_1.length co27 : Value).ownBlock)) (by (with_reducible repeat (first | apply Kd.Q_alloc | apply Kd.Q_drewN | apply Kd.Q_drew)); exact HO_8.out) hg hat); have n2_ := Aside0.mk (hb); have n3_ := Aside0.mk (ho); clear HO_7; clear HO_8; clear HB; clear HO_9; have HO_7 := n0_; have HO_8 := n1_; have HB := n2_; have HO161 := n3_; clear n0_ n1_ n2_ n3_; clear ho hb hg hat; have q30 : (1 : Int) ≤ ((x7_1.length : Int) : Int) := of_decide_eq_true (by first | (with_reducible assumption) | assumption); obtain ⟨i030, hi030, _, hsz30, _⟩ := info_parts info3; have hcut30 := cut_from (P := Try.prog) 125 3 .i64 Try.underlying125 hi030 1 hsz30 (some ad154) x7_1.length co27 1 (by omega) q30; have hr30 := Kd.Q_drop (k := (1 : Int).toNat) HO_7.out (by omega); obtain ⟨A30, hA30⟩ : ∃ A1, A1 = (if co27 = (1 : Int).toNat then (some ad154) else ((some ad154) : Option Addr).map (·.add ((1 : Int).toNat * 1))) := ⟨_, rfl⟩; obtain ⟨c30, hc30⟩ : ∃ c1, c1 = co27 - (1 : Int).toNat := ⟨_, rfl⟩; have hy30 : y162.length = x7_1.length - (1 : Int).toNat := (by rw [Ny162.out, List.length_drop]); rw [← Ny162.out] at hr30; rw [← hy30, ← hA30, ← hc30] at hcut30; replace hr30 : Kd.Q (Kd.int .i64) 3 w29 w.heap.size (fun k_ => some k_ ≠ (.slice (some ad156) x8_1.length co28 : Value).ownBlock ∧ some k_ ≠ (v160 : Value).ownBlock) (.slice A30 y162.length c30) y162 := (by rw [hA30, hc30, hy30]; exact hr30); have HE30 : Aside0 ((Value.slice A30 y162.length c30).ownBlock = (.slice (some ad154) x7_1.length co27 : Value).ownBlock) := ⟨by rw [hA30]; split <;> (cases ((some ad154) : Option Addr) <;> rfl)⟩; clear hy30 hi030 hsz30 HO_7 hA30 hc30; have HO164 := Aside0.mk hr30; clear hr30; replace q30 := eq_true q30; have n_ := Aside0.mk (Kd.Q_mono (ok' := fun k_ => (some k_ ≠ (.slice A30 y162.length c30 : Value).ownBlock ∧ some k_ ≠ (v160 : Value).ownBlock)) HO_8.out (fun k_ hk => ⟨(by rw [HE30.out]; exact hk.1), hk.2⟩)); clear HO_8; have HO_8 := n_; clear n_; have n_ := Aside0.mk (Kd.R_mono (ok' := fun k_ => (some k_ ≠ (.slice A30 y162.length c30 : Value).ownBlock ∧ some k_ ≠ (.slice (some ad156) x8_1.length co28 : Value).ownBlock)) HO161.out (fun k_ hk => ⟨(by rw [HE30.out]; exact hk.1), hk.2⟩)); clear HO161; have HO161 := n_; clear n_)); try go_wp2_with (first | ((with_reducible refine gate_builtin (b := .append) (xs := #[.tmp 54, .tmp 58]) rfl ?_); (try (refine gate_guard (by rfl) ?_; dsimp only)); at_builtin; refine Kd.R_append (Kd.int .i64) (w0 := w) w.heap.size rfl (.tmp 54) (.tmp 58) 125 3 (.int .i64 0) 8 rfl Try.underlying125 info3 rfl (by decide) (by omega) u9 x9_1 (rd x7_1 0) [.int .i64 (rd x7_1 0)] (fun k_ => some k_ ≠ (.slice (some ad154) x7_1.length co27 : Value).ownBlock ∧ some k_ ≠ (.slice (some ad156) x8_1.length co28 : Value).ownBlock) (fun _ => False) rfl rfl ?aP (fun _ hk => hk.elim) ?aF ?aO ?aB ?aS ?aL ?_; (case aP => exact rfl); (case aB => exact (by repeat (first | (with_reducible first | exact HB.out | apply below_alloc | apply pw_below_drewN | apply below_drew1) | exact HB.out))); (case aF => exact (fun k_ hk => ⟨Kd.fresh' (Kd.Q_lt (by (with_reducible repeat (first | apply Kd.Q_alloc | apply Kd.Q_drewN | apply Kd.Q_drew)); exact HO_7.out)) k_ hk, Kd.fresh' (Kd.Q_lt (by (with_reducible repeat (first | apply Kd.Q_alloc | apply Kd.Q_drewN | apply Kd.Q_drew)); exact HO_8.out)) k_ hk⟩)); (case aO => exact (by (with_reducible repeat (first | apply Kd.R_alloc | apply Kd.R_drewN | apply Kd.R_drew)); exact HO_9.out)); (case aS => exact (below_size (by repeat (first | (with_reducible first | exact HB.out | apply below_alloc | apply pw_below_drewN | apply below_drew1) | exact HB.out)))); (case aL => have := LMc25.out; omega); intro v160 w29 ho hb hg hat; rw [← Ny159.out] at ho; have n0_ := Aside0.mk (Kd.Q_after (ok := (fun k_ => some k_ ≠ (.slice (some ad156) x8_1.length co28 : Value).ownBlock)) (by (with_reducible repeat (first | apply Kd.Q_alloc | apply Kd.Q_drewN | apply Kd.Q_drew)); exact HO_7.out) hg hat); have n1_ := Aside0.mk (Kd.Q_after (ok := (fun k_ => some k_ ≠ (.slice (some ad154) x7_1.length co27 : Value).ownBlock)) (by (with_reducible repeat (first | apply Kd.Q_alloc | apply Kd.Q_drewN | apply Kd.Q_drew)); exact HO_8.out) hg hat); have n2_ := Aside0.mk (hb); have n3_ := Aside0.mk (ho); clear HO_7; clear HO_8; clear HB; clear HO_9; have HO_7 := n0_; have HO_8 := n1_; have HB := n2_; have HO161 := n3_; clear n0_ n1_ n2_ n3_; clear ho hb hg hat; have q30 : (1 : Int) ≤ ((x7_1.length : Int) : Int) := of_decide_eq_true (by first | (with_reducible assumption) | assumption); obtain ⟨i030, hi030, _, hsz30, _⟩ := info_parts info3; have hcut30 := cut_from (P := Try.prog) 125 3 .i64 Try.underlying125 hi030 1 hsz30 (some ad154) x7_1.length co27 1 (by omega) q30; have hr30 := Kd.Q_drop (k := (1 : Int).toNat) HO_7.out (by omega); obtain ⟨A30, hA30⟩ : ∃ A1, A1 = (if co27 = (1 : Int).toNat then (some ad154) else ((some ad154) : Option Addr).map (·.add ((1 : Int).toNat * 1))) := ⟨_, rfl⟩; obtain ⟨c30, hc30⟩ : ∃ c1, c1 = co27 - (1 : Int).toNat := ⟨_, rfl⟩; have hy30 : y162.length = x7_1.length - (1 : Int).toNat := (by rw [Ny162.out, List.length_drop]); rw [← Ny162.out] at hr30; rw [← hy30, ← hA30, ← hc30] at hcut30; replace hr30 : Kd.Q (Kd.int .i64) 3 w29 w.heap.size (fun k_ => some k_ ≠ (.slice (some ad156) x8_1.length co28 : Value).ownBlock ∧ some k_ ≠ (v160 : Value).ownBlock) (.slice A30 y162.length c30) y162 := (by rw [hA30, hc30, hy30]; exact hr30); have HE30 : Aside0 ((Value.slice A30 y162.length c30).ownBlock = (.slice (some ad154) x7_1.length co27 : Value).ownBlock) := ⟨by rw [hA30]; split <;> (cases ((some ad154) : Option Addr) <;> rfl)⟩; clear hy30 hi030 hsz30 HO_7 hA30 hc30; have HO164 := Aside0.mk hr30; clear hr30; replace q30 := eq_true q30; have n_ := Aside0.mk (Kd.Q_mono (ok' := fun k_ => (some k_ ≠ (.slice A30 y162.length c30 : Value).ownBlock ∧ some k_ ≠ (v160 : Value).ownBlock)) HO_8.out (fun k_ hk => ⟨(by rw [HE30.out]; exact hk.1), hk.2⟩)); clear HO_8; have HO_8 := n_; clear n_; have n_ := Aside0.mk (Kd.R_mono (ok' := fun k_ => (some k_ ≠ (.slice A30 y162.length c30 : Value).ownBlock ∧ some k_ ≠ (.slice (some ad156) x8_1.length co28 : Value).ownBlock)) HO161.out (fun k_ hk => ⟨(by rw [HE30.out]; exact hk.1), hk.2⟩)); clear HO161; have HO161 := n_; clear n_)))
                                go_roundg kj11
                                case measure => have := HK1.out; have := HJ11.out; omega
                                case rel => exact ⟨(y162), (x8_1), (y159), H', ⟨by have := HK1.out; have := HJ11.out; omega⟩, ⟨by (with_reducible repeat (first | apply Kd.Q_alloc | apply Kd.Q_drewN | apply Kd.Q_drew)); exact HO164.out⟩, ⟨by (with_reducible repeat (first | apply Kd.Q_alloc | apply Kd.Q_drewN | apply Kd.Q_drew)); exact HO_8.out⟩, ⟨by (with_reducible repeat (first | apply Kd.R_alloc | apply Kd.R_drewN | apply Kd.R_drew)); exact HO161.out⟩, ⟨by repeat (first | (with_reducible first | exact HB.out | apply below_alloc | apply pw_below_drewN | apply below_drew1) | exact HB.out)⟩⟩
                              · rw [if_neg c26] at H
                                exact absurd H (by simp)
                            · rw [if_neg c25] at H
                              exact absurd H (by simp)
                          · rw [if_neg c24] at H
                            have c24b0 : (Op.bytesLess ((rdOf ByteArray.empty l0 (rd x7_1 0)).toList) ((rdOf ByteArray.empty l0 (rd x8_1 0)).toList)) = false := by simpa using c24
                            clear c24
                            by_cases c31 : (rdOf ByteArray.empty l0 (rd x7_1 0)).toList = (rdOf ByteArray.empty l0 (rd x8_1 0)).toList
                            · rw [if_pos c31] at H
                              have c31b0 : ((rdOf ByteArray.empty l0 (rd x7_1 0)).toList == (rdOf ByteArray.empty l0 (rd x8_1 0)).toList) = true := beq_iff_eq.mpr c31
                              have c31b1 : ((rdOf ByteArray.empty l0 (rd x7_1 0)).toList != (rdOf ByteArray.empty l0 (rd x8_1 0)).toList) = false := bne_eq_false_iff_eq.mpr c31
                              clear c31
                              by_cases c32 : x9_1.length < 17592186044416
                              · rw [if_pos c32] at H
                                have LMc32 := Aside0.mk c32
                                clear c32
                                obtain ⟨y166, hy166⟩ : ∃ y_ : List Int, y_ = (x9_1 ++ [rd x7_1 0]) := ⟨_, rfl⟩
                                replace H : (if 1 ≤ (x7_1.length : Int) then (flatironref04_order.l0 kj11 l0 (x7_1.drop (1 : Int).toNat) x8_1 y166) else (none)) = some r := by first | (rw [hy166]; with_reducible exact H) | (have H2_ := (Option.bind_some _ _).symm.trans H; rw [hy166]; with_reducible exact H2_) | (have H2_ := (Option.bind_some _ _).symm.trans H; with_reducible exact H2_) | with_reducible exact H | (rw [hy166]; exact H) | exact H
                                have Ny166 := Aside0.mk hy166
                                clear hy166
                                by_cases c33 : 1 ≤ (x7_1.length : Int)
                                · rw [if_pos c33] at H
                                  have c33b0 := eq_true c33
                                  have c33b1 : decide (1 ≤ (x7_1.length : Int)) = true := decide_eq_true c33
                                  clear c33
                                  obtain ⟨y169, hy169⟩ : ∃ y_ : List Int, y_ = (x7_1.drop (1 : Int).toNat) := ⟨_, rfl⟩
                                  replace H : (flatironref04_order.l0 kj11 l0 y169 x8_1 y166) = some r := by first | (rw [hy169]; with_reducible exact H) | (have H2_ := (Option.bind_some _ _).symm.trans H; rw [hy169]; with_reducible exact H2_) | (have H2_ := (Option.bind_some _ _).symm.trans H; with_reducible exact H2_) | with_reducible exact H | (rw [hy169]; exact H) | exact H
                                  have Ny169 := Aside0.mk hy169
                                  clear hy169
                                  have H' := Aside0.mk H
                                  clear H
                                  obtain ⟨Ao34, co34, eo34, _⟩ := Kd.Q_slice HO_7.out
                                  subst eo34
                                  have p154 : 0 ≤ (0 : Int) := (by omega)
                                  have q154 : 0 < (x7_1.length : Int) := of_decide_eq_true (by first | (with_reducible assumption) | assumption)
                                  obtain ⟨ad154, e154, hx154_0⟩ := Kd.at_int (Kd.Q_reads' HO_7.out).2.2 0 p154 q154
                                  cases e154
                                  have qi154 : (0 < x7_1.length) = True := eq_true (by omega)
                                  (try rw [show ((0 : Int)).toNat = 0 from rfl] at hx154_0)
                                  (try rw [Addr.add_zero'] at hx154_0)
                                  replace p154 := eq_true p154
                                  replace q154 := eq_true q154
                                  have p155 : 0 ≤ ((rd x7_1 0) : Int) := of_decide_eq_true (by first | (with_reducible assumption) | assumption)
                                  have q155 : (rd x7_1 0) < (l0.length : Int) := of_decide_eq_true (by first | (with_reducible assumption) | assumption)
                                  obtain ⟨ad155, e155, hx155_0⟩ := Kd.at_string HR0.out (rd x7_1 0) p155 q155
                                  cases e155
                                  replace hx155_0 := (HB.out.cell (World.block_lt_of_cell? w _ hx155_0)).trans hx155_0
                                  replace p155 := eq_true p155
                                  replace q155 := eq_true q155
                                  obtain ⟨Ao35, co35, eo35, _⟩ := Kd.Q_slice HO_8.out
                                  subst eo35
                                  have p156 : 0 ≤ (0 : Int) := (by omega)
                                  have q156 : 0 < (x8_1.length : Int) := of_decide_eq_true (by first | (with_reducible assumption) | assumption)
                                  obtain ⟨ad156, e156, hx156_0⟩ := Kd.at_int (Kd.Q_reads' HO_8.out).2.2 0 p156 q156
                                  cases e156
                                  have qi156 : (0 < x8_1.length) = True := eq_true (by omega)
                                  (try rw [show ((0 : Int)).toNat = 0 from rfl] at hx156_0)
                                  (try rw [Addr.add_zero'] at hx156_0)
                                  replace p156 := eq_true p156
                                  replace q156 := eq_true q156
                                  have p157 : 0 ≤ ((rd x8_1 0) : Int) := of_decide_eq_true (by first | (with_reducible assumption) | assumption)
                                  have q157 : (rd x8_1 0) < (l0.length : Int) := of_decide_eq_true (by first | (with_reducible assumption) | assumption)
                                  obtain ⟨ad157, e157, hx157_0⟩ := Kd.at_string HR0.out (rd x8_1 0) p157 q157
                                  obtain rfl : ad155 = ad157 := (by injection e157)
                                  replace hx157_0 := (HB.out.cell (World.block_lt_of_cell? w _ hx157_0)).trans hx157_0
                                  replace p157 := eq_true p157
                                  replace q157 := eq_true q157
                                  have p165 : 0 ≤ (0 : Int) := (by omega)
                                  have q165 : 0 < (x7_1.length : Int) := of_decide_eq_true (by first | (with_reducible assumption) | assumption)
                                  obtain ⟨ad165, e165, hx165_0⟩ := Kd.at_int (Kd.Q_reads' HO_7.out).2.2 0 p165 q165
                                  obtain rfl : ad154 = ad165 := (by injection e165)
                                  have qi165 : (0 < x7_1.length) = True := eq_true (by omega)
                                  (try rw [show ((0 : Int)).toNat = 0 from rfl] at hx165_0)
                                  (try rw [Addr.add_zero'] at hx165_0)
                                  replace p165 := eq_true p165
                                  replace q165 := eq_true q165
                                  go_wp2_with (first | ((with_reducible refine gate_builtin (b := .append) (xs := #[.tmp 54, .tmp 58]) rfl ?_); (try (refine gate_guard (by rfl) ?_; dsimp only)); at_builtin; refine Kd.R_append (Kd.int .i64) (w0 := w) w.heap.size rfl (.tmp 54) (.tmp 58) 125 3 (.int .i64 0) 8 rfl Try.underlying125 info3 rfl (by decide) (by omega) u9 x9_1 (rd x7_1 0) [.int .i64 (rd x7_1 0)] (fun k_ => some k_ ≠ (.slice (some ad154) x7_1.length co34 : Value).ownBlock ∧ some k_ ≠ (.slice (some ad156) x8_1.length co35 : Value).ownBlock) (fun _ => False) rfl rfl ?aP (fun _ hk => hk.elim) ?aF ?aO ?aB ?aS ?aL ?_; (case aP => exact rfl); (case aB => exact (by repeat (first | (with_reducible first | exact HB.out | apply below_alloc | apply pw_below_drewN | apply below_drew1) | exact HB.out))); (case aF => exact (fun k_ hk => ⟨Kd.fresh' (Kd.Q_lt (by (with_reducible repeat (first | apply Kd.Q_alloc | apply Kd.Q_drewN | apply Kd.Q_drew)); exact HO_7.out)) k_ hk, Kd.fresh' (Kd.Q_lt (by (with_reducible repeat (first | apply Kd.Q_alloc | apply Kd.Q_drewN | apply Kd.Q_drew)); exact HO_8.out)) k_ hk⟩)); (case aO => exact (by (with_reducible repeat (first | apply Kd.R_alloc | apply Kd.R_drewN | apply Kd.R_drew)); exact HO_9.out)); (case aS => exact (below_size (by repeat (first | (with_reducible first | exact HB.out | apply below_alloc | apply pw_below_drewN | apply below_drew1) | exact HB.out)))); (case aL => have := LMc32.out; omega); intro v167 w36 ho hb hg hat; rw [← Ny166.out] at ho; have n0_ := Aside0.mk (Kd.Q_after (ok := (fun k_ => some k_ ≠ (.slice (some ad156) x8_1.length co35 : Value).ownBlock)) (by (with_reducible repeat (first | apply Kd.Q_alloc | apply Kd.Q_drewN | apply Kd.Q_drew)); exact HO_7.out) hg hat); have n1_ := Aside0.mk (Kd.Q_after (ok := (fun k_ => some k_ ≠ (.slice (some ad154) x7_1.length co34 : Value).ownBlock)) (by (with_reducible repeat (first | apply Kd.Q_alloc | apply Kd.Q_drewN | apply Kd.Q_drew)); exact HO_8.out) hg hat); have n2_ := Aside0.mk (hb); have n3_ := Aside0.mk (ho); clear HO_7; clear HO_8; clear HB; clear HO_9; have HO_7 := n0_; have HO_8 := n1_; have HB := n2_; have HO168 := n3_; clear n0_ n1_ n2_ n3_; clear ho hb hg hat; have q37 : (1 : Int) ≤ ((x7_1.length : Int) : Int) := of_decide_eq_true (by first | (with_reducible assumption) | assumption); obtain ⟨i037, hi037, _, hsz37, _⟩ := info_parts info3; have hcut37 := cut_from (P := Try.prog) 125 3 .i64 Try.underlying125 hi037 1 hsz37 (some ad154) x7_1.length co34 1 (by omega) q37; have hr37 := Kd.Q_drop (k := (1 : Int).toNat) HO_7.out (by omega); obtain ⟨A37, hA37⟩ : ∃ A1, A1 = (if co34 = (1 : Int).toNat then (some ad154) else ((some ad154) : Option Addr).map (·.add ((1 : Int).toNat * 1))) := ⟨_, rfl⟩; obtain ⟨c37, hc37⟩ : ∃ c1, c1 = co34 - (1 : Int).toNat := ⟨_, rfl⟩; have hy37 : y169.length = x7_1.length - (1 : Int).toNat := (by rw [Ny169.out, List.length_drop]); rw [← Ny169.out] at hr37; rw [← hy37, ← hA37, ← hc37] at hcut37; replace hr37 : Kd.Q (Kd.int .i64) 3 w36 w.heap.size (fun k_ => some k_ ≠ (.slice (some ad156) x8_1.length co35 : Value).ownBlock ∧ some k_ ≠ (v167 : Value).ownBlock) (.slice A37 y169.length c37) y169 := (by rw [hA37, hc37, hy37]; exact hr37); have HE37 : Aside0 ((Value.slice A37 y169.length c37).ownBlock = (.slice (some ad154) x7_1.length co34 : Value).ownBlock) := ⟨by rw [hA37]; split <;> (cases ((some ad154) : Option Addr) <;> rfl)⟩; clear hy37 hi037 hsz37 HO_7 hA37 hc37; have HO171 := Aside0.mk hr37; clear hr37; replace q37 := eq_true q37; have n_ := Aside0.mk (Kd.Q_mono (ok' := fun k_ => (some k_ ≠ (.slice A37 y169.length c37 : Value).ownBlock ∧ some k_ ≠ (v167 : Value).ownBlock)) HO_8.out (fun k_ hk => ⟨(by rw [HE37.out]; exact hk.1), hk.2⟩)); clear HO_8; have HO_8 := n_; clear n_; have n_ := Aside0.mk (Kd.R_mono (ok' := fun k_ => (some k_ ≠ (.slice A37 y169.length c37 : Value).ownBlock ∧ some k_ ≠ (.slice (some ad156) x8_1.length co35 : Value).ownBlock)) HO168.out (fun k_ hk => ⟨(by rw [HE37.out]; exact hk.1), hk.2⟩)); clear HO168; have HO168 := n_; clear n_))
                                  repeat (go_quiet (first | ((with_reducible refine gate_builtin (b := .append) (xs := #[.tmp 54, .tmp 58]) rfl ?_); (try (refine gate_guard (by rfl) ?_; dsimp only)); at_builtin; refine Kd.R_append (Kd.int .i64) (w0 := w) w.heap.size rfl (.tmp 54) (.tmp 58) 125 3 (.int .i64 0) 8 rfl Try.underlying125 info3 rfl (by decide) (by omega) u9 x9_1 (rd x7_1 0) [.int .i64 (rd x7_1 0)] (fun k_ => some k_ ≠ (.slice (some ad154) x7_1.length co34 : Value).ownBlock ∧ some k_ ≠ (.slice (some ad156) x8_1.length co35 : Value).ownBlock) (fun _ => False) rfl rfl ?aP (fun _ hk => hk.elim) ?aF ?aO ?aB ?aS ?aL ?_; (case aP => exact rfl); (case aB => exact (by repeat (first | (with_reducible first | exact HB.out | apply below_alloc | apply pw_below_drewN | apply below_drew1) | exact HB.out))); (case aF => exact (fun k_ hk => ⟨Kd.fresh' (Kd.Q_lt (by (with_reducible repeat (first | apply Kd.Q_alloc | apply Kd.Q_drewN | apply Kd.Q_drew)); exact HO_7.out)) k_ hk, Kd.fresh' (Kd.Q_lt (by (with_reducible repeat (first | apply Kd.Q_alloc | apply Kd.Q_drewN | apply Kd.Q_drew)); exact HO_8.out)) k_ hk⟩)); (case aO => exact (by (with_reducible repeat (first | apply Kd.R_alloc | apply Kd.R_drewN | apply Kd.R_drew)); exact HO_9.out)); (case aS => exact (below_size (by repeat (first | (with_reducible first | exact HB.out | apply below_alloc | apply pw_below_drewN | apply below_drew1) | exact HB.out)))); (case aL => have := LMc32.out; omega); intro v167 w36 ho hb hg hat; rw [← Ny166.out] at ho; have n0_ := Aside0.mk (Kd.Q_after (ok := (fun k_ => some k_ ≠ (.slice (some ad156) x8_1.length co35 : Value).ownBlock)) (by (with_reducible repeat (first | apply Kd.Q_alloc | apply Kd.Q_drewN | apply Kd.Q_drew)); exact HO_7.out) hg hat); have n1_ := Aside0.mk (Kd.Q_after (ok := (fun k_ => some k_ ≠ (.slice (some ad154) x7_1.length co34 : Value).ownBlock)) (by (with_reducible repeat (first | apply Kd.Q_alloc | apply Kd.Q_drewN | apply Kd.Q_drew)); exact HO_8.out) hg hat); have n2_ := Aside0.mk (hb); have n3_ := Aside0.mk (ho); clear HO_7; clear HO_8; clear HB; clear HO_9; have HO_7 := n0_; have HO_8 := n1_; have HB := n2_; have HO168 := n3_; clear n0_ n1_ n2_ n3_; clear ho hb hg hat; have q37 : (1 : Int) ≤ ((x7_1.length : Int) : Int) := of_decide_eq_true (by first | (with_reducible assumption) | assumption); obtain ⟨i037, hi037, _, hsz37, _⟩ := info_parts info3; have hcut37 := cut_from (P := Try.prog) 125 3 .i64 Try.underlying125 hi037 1 hsz37 (some ad154) x7_1.length co34 1 (by omega) q37; have hr37 := Kd.Q_drop (k := (1 : Int).toNat) HO_7.out (by omega); obtain ⟨A37, hA37⟩ : ∃ A1, A1 = (if co34 = (1 : Int).toNat then (some ad154) else ((some ad154) : Option Addr).map (·.add ((1 : Int).toNat * 1))) := ⟨_, rfl⟩; obtain ⟨c37, hc37⟩ : ∃ c1, c1 = co34 - (1 : Int).toNat := ⟨_, rfl⟩; have hy37 : y169.length = x7_1.length - (1 : Int).toNat := (by rw [Ny169.out, List.length_drop]); rw [← Ny169.out] at hr37; rw [← hy37, ← hA37, ← hc37] at hcut37; replace hr37 : Kd.Q (Kd.int .i64) 3 w36 w.heap.size (fun k_ => some k_ ≠ (.slice (some ad156) x8_1.length co35 : Value).ownBlock ∧ some k_ ≠ (v167 : Value).ownBlock) (.slice A37 y169.length c37) y169 := (by rw [hA37, hc37, hy37]; exact hr37); have HE37 : Aside0 ((Value.slice A37 y169.length c37).ownBlock = (.slice (some ad154) x7_1.length co34 : Value).ownBlock) := ⟨by rw [hA37]; split <;> (cases ((some ad154) : Option Addr) <;> rfl)⟩; clear hy37 hi037 hsz37 HO_7 hA37 hc37; have HO171 := Aside0.mk hr37; clear hr37; replace q37 := eq_true q37; have n_ := Aside0.mk (Kd.Q_mono (ok' := fun k_ => (some k_ ≠ (.slice A37 y169.length c37 : Value).ownBlock ∧ some k_ ≠ (v167 : Value).ownBlock)) HO_8.out (fun k_ hk => ⟨(by rw [HE37.out]; exact hk.1), hk.2⟩)); clear HO_8; have HO_8 := n_; clear n_; have n_ := Aside0.mk (Kd.R_mono (ok' := fun k_ => (some k_ ≠ (.slice A37 y169.length c37 : Value).ownBlock ∧ some k_ ≠ (.slice (some ad156) x8_1.length co35 : Value).ownBlock)) HO168.out (fun k_ hk => ⟨(by rw [HE37.out]; exact hk.1), hk.2⟩)); clear HO168; have HO168 := n_; clear n_)); try go_wp2_with (first | ((with_reducible refine gate_builtin (b := .append) (xs := #[.tmp 54, .tmp 58]) rfl ?_); (try (refine gate_guard (by rfl) ?_; dsimp only)); at_builtin; refine Kd.R_append (Kd.int .i64) (w0 := w) w.heap.size rfl (.tmp 54) (.tmp 58) 125 3 (.int .i64 0) 8 rfl Try.underlying125 info3 rfl (by decide) (by omega) u9 x9_1 (rd x7_1 0) [.int .i64 (rd x7_1 0)] (fun k_ => some k_ ≠ (.slice (some ad154) x7_1.length co34 : Value).ownBlock ∧ some k_ ≠ (.slice (some ad156) x8_1.length co35 : Value).ownBlock) (fun _ => False) rfl rfl ?aP (fun _ hk => hk.elim) ?aF ?aO ?aB ?aS ?aL ?_; (case aP => exact rfl); (case aB => exact (by repeat (first | (with_reducible first | exact HB.out | apply below_alloc | apply pw_below_drewN | apply below_drew1) | exact HB.out))); (case aF => exact (fun k_ hk => ⟨Kd.fresh' (Kd.Q_lt (by (with_reducible repeat (first | apply Kd.Q_alloc | apply Kd.Q_drewN | apply Kd.Q_drew)); exact HO_7.out)) k_ hk, Kd.fresh' (Kd.Q_lt (by (with_reducible repeat (first | apply Kd.Q_alloc | apply Kd.Q_drewN | apply Kd.Q_drew)); exact HO_8.out)) k_ hk⟩)); (case aO => exact (by (with_reducible repeat (first | apply Kd.R_alloc | apply Kd.R_drewN | apply Kd.R_drew)); exact HO_9.out)); (case aS => exact (below_size (by repeat (first | (with_reducible first | exact HB.out | apply below_alloc | apply pw_below_drewN | apply below_drew1) | exact HB.out)))); (case aL => have := LMc32.out; omega); intro v167 w36 ho hb hg hat; rw [← Ny166.out] at ho; have n0_ := Aside0.mk (Kd.Q_after (ok := (fun k_ => some k_ ≠ (.slice (some ad156) x8_1.length co35 : Value).ownBlock)) (by (with_reducible repeat (first | apply Kd.Q_alloc | apply Kd.Q_drewN | apply Kd.Q_drew)); exact HO_7.out) hg hat); have n1_ := Aside0.mk (Kd.Q_after (ok := (fun k_ => some k_ ≠ (.slice (some ad154) x7_1.length co34 : Value).ownBlock)) (by (with_reducible repeat (first | apply Kd.Q_alloc | apply Kd.Q_drewN | apply Kd.Q_drew)); exact HO_8.out) hg hat); have n2_ := Aside0.mk (hb); have n3_ := Aside0.mk (ho); clear HO_7; clear HO_8; clear HB; clear HO_9; have HO_7 := n0_; have HO_8 := n1_; have HB := n2_; have HO168 := n3_; clear n0_ n1_ n2_ n3_; clear ho hb hg hat; have q37 : (1 : Int) ≤ ((x7_1.length : Int) : Int) := of_decide_eq_true (by first | (with_reducible assumption) | assumption); obtain ⟨i037, hi037, _, hsz37, _⟩ := info_parts info3; have hcut37 := cut_from (P := Try.prog) 125 3 .i64 Try.underlying125 hi037 1 hsz37 (some ad154) x7_1.length co34 1 (by omega) q37; have hr37 := Kd.Q_drop (k := (1 : Int).toNat) HO_7.out (by omega); obtain ⟨A37, hA37⟩ : ∃ A1, A1 = (if co34 = (1 : Int).toNat then (some ad154) else ((some ad154) : Option Addr).map (·.add ((1 : Int).toNat * 1))) := ⟨_, rfl⟩; obtain ⟨c37, hc37⟩ : ∃ c1, c1 = co34 - (1 : Int).toNat := ⟨_, rfl⟩; have hy37 : y169.length = x7_1.length - (1 : Int).toNat := (by rw [Ny169.out, List.length_drop]); rw [← Ny169.out] at hr37; rw [← hy37, ← hA37, ← hc37] at hcut37; replace hr37 : Kd.Q (Kd.int .i64) 3 w36 w.heap.size (fun k_ => some k_ ≠ (.slice (some ad156) x8_1.length co35 : Value).ownBlock ∧ some k_ ≠ (v167 : Value).ownBlock) (.slice A37 y169.length c37) y169 := (by rw [hA37, hc37, hy37]; exact hr37); have HE37 : Aside0 ((Value.slice A37 y169.length c37).ownBlock = (.slice (some ad154) x7_1.length co34 : Value).ownBlock) := ⟨by rw [hA37]; split <;> (cases ((some ad154) : Option Addr) <;> rfl)⟩; clear hy37 hi037 hsz37 HO_7 hA37 hc37; have HO171 := Aside0.mk hr37; clear hr37; replace q37 := eq_true q37; have n_ := Aside0.mk (Kd.Q_mono (ok' := fun k_ => (some k_ ≠ (.slice A37 y169.length c37 : Value).ownBlock ∧ some k_ ≠ (v167 : Value).ownBlock)) HO_8.out (fun k_ hk => ⟨(by rw [HE37.out]; exact hk.1), hk.2⟩)); clear HO_8; have HO_8 := n_; clear n_; have n_ := Aside0.mk (Kd.R_mono (ok' := fun k_ => (some k_ ≠ (.slice A37 y169.length c37 : Value).ownBlock ∧ some k_ ≠ (.slice (some ad156) x8_1.length co35 : Value).ownBlock)) HO168.out (fun k_ hk => ⟨(by rw [HE37.out]; exact hk.1), hk.2⟩)); clear HO168; have HO168 := n_; clear n_)))
                                  go_roundg kj11
                                  case measure => have := HK1.out; have := HJ11.out; omega
                                  case rel => exact ⟨(y169), (x8_1), (y166), H', ⟨by have := HK1.out; have := HJ11.out; omega⟩, ⟨by (with_reducible repeat (first | apply Kd.Q_alloc | apply Kd.Q_drewN | apply Kd.Q_drew)); exact HO171.out⟩, ⟨by (with_reducible repeat (first | apply Kd.Q_alloc | apply Kd.Q_drewN | apply Kd.Q_drew)); exact HO_8.out⟩, ⟨by (with_reducible repeat (first | apply Kd.R_alloc | apply Kd.R_drewN | apply Kd.R_drew)); exact HO168.out⟩, ⟨by repeat (first | (with_reducible first | exact HB.out | apply below_alloc | apply pw_below_drewN | apply below_drew1) | exact HB.out)⟩⟩
                                · rw [if_neg c33] at H
                                  exact absurd H (by simp)
                              · rw [if_neg c32] at H
                                exact absurd H (by simp)
                            · rw [if_neg c31] at H
                              have c31b0 : ((rdOf ByteArray.empty l0 (rd x7_1 0)).toList == (rdOf ByteArray.empty l0 (rd x8_1 0)).toList) = false := beq_eq_false_iff_ne.mpr c31
                              have c31b1 : ((rdOf ByteArray.empty l0 (rd x7_1 0)).toList != (rdOf ByteArray.empty l0 (rd x8_1 0)).toList) = true := bne_iff_ne.mpr c31
                              by_cases c38 : x9_1.length < 17592186044416
                              · rw [if_pos c38] at H
                                have LMc38 := Aside0.mk c38
                                clear c38
                                obtain ⟨y173, hy173⟩ : ∃ y_ : List Int, y_ = (x9_1 ++ [rd x8_1 0]) := ⟨_, rfl⟩
                                replace H : (if 1 ≤ (x8_1.length : Int) then (flatironref04_order.l0 kj11 l0 x7_1 (x8_1.drop (1 : Int).toNat) y173) else (none)) = some r := by first | (rw [hy173]; with_reducible exact H) | (have H2_ := (Option.bind_some _ _).symm.trans H; rw [hy173]; with_reducible exact H2_) | (have H2_ := (Option.bind_some _ _).symm.trans H; with_reducible exact H2_) | with_reducible exact H | (rw [hy173]; exact H) | exact H
                                have Ny173 := Aside0.mk hy173
                                clear hy173
                                by_cases c39 : 1 ≤ (x8_1.length : Int)
                                · rw [if_pos c39] at H
                                  have c39b0 := eq_true c39
                                  have c39b1 : decide (1 ≤ (x8_1.length : Int)) = true := decide_eq_true c39
                                  clear c39
                                  obtain ⟨y176, hy176⟩ : ∃ y_ : List Int, y_ = (x8_1.drop (1 : Int).toNat) := ⟨_, rfl⟩
                                  replace H : (flatironref04_order.l0 kj11 l0 x7_1 y176 y173) = some r := by first | (rw [hy176]; with_reducible exact H) | (have H2_ := (Option.bind_some _ _).symm.trans H; rw [hy176]; with_reducible exact H2_) | (have H2_ := (Option.bind_some _ _).symm.trans H; with_reducible exact H2_) | with_reducible exact H | (rw [hy176]; exact H) | exact H
                                  have Ny176 := Aside0.mk hy176
                                  clear hy176
                                  have H' := Aside0.mk H
                                  clear H
                                  obtain ⟨Ao40, co40, eo40, _⟩ := Kd.Q_slice HO_7.out
                                  subst eo40
                                  have p154 : 0 ≤ (0 : Int) := (by omega)
                                  have q154 : 0 < (x7_1.length : Int) := of_decide_eq_true (by first | (with_reducible assumption) | assumption)
                                  obtain ⟨ad154, e154, hx154_0⟩ := Kd.at_int (Kd.Q_reads' HO_7.out).2.2 0 p154 q154
                                  cases e154
                                  have qi154 : (0 < x7_1.length) = True := eq_true (by omega)
                                  (try rw [show ((0 : Int)).toNat = 0 from rfl] at hx154_0)
                                  (try rw [Addr.add_zero'] at hx154_0)
                                  replace p154 := eq_true p154
                                  replace q154 := eq_true q154
                                  have p155 : 0 ≤ ((rd x7_1 0) : Int) := of_decide_eq_true (by first | (with_reducible assumption) | assumption)
                                  have q155 : (rd x7_1 0) < (l0.length : Int) := of_decide_eq_true (by first | (with_reducible assumption) | assumption)
                                  obtain ⟨ad155, e155, hx155_0⟩ := Kd.at_string HR0.out (rd x7_1 0) p155 q155
                                  cases e155
                                  replace hx155_0 := (HB.out.cell (World.block_lt_of_cell? w _ hx155_0)).trans hx155_0
                                  replace p155 := eq_true p155
                                  replace q155 := eq_true q155
                                  obtain ⟨Ao41, co41, eo41, _⟩ := Kd.Q_slice HO_8.out
                                  subst eo41
                                  have p156 : 0 ≤ (0 : Int) := (by omega)
                                  have q156 : 0 < (x8_1.length : Int) := of_decide_eq_true (by first | (with_reducible assumption) | assumption)
                                  obtain ⟨ad156, e156, hx156_0⟩ := Kd.at_int (Kd.Q_reads' HO_8.out).2.2 0 p156 q156
                                  cases e156
                                  have qi156 : (0 < x8_1.length) = True := eq_true (by omega)
                                  (try rw [show ((0 : Int)).toNat = 0 from rfl] at hx156_0)
                                  (try rw [Addr.add_zero'] at hx156_0)
                                  replace p156 := eq_true p156
                                  replace q156 := eq_true q156
                                  have p157 : 0 ≤ ((rd x8_1 0) : Int) := of_decide_eq_true (by first | (with_reducible assumption) | assumption)
                                  have q157 : (rd x8_1 0) < (l0.length : Int) := of_decide_eq_true (by first | (with_reducible assumption) | assumption)
                                  obtain ⟨ad157, e157, hx157_0⟩ := Kd.at_string HR0.out (rd x8_1 0) p157 q157
                                  obtain rfl : ad155 = ad157 := (by injection e157)
                                  replace hx157_0 := (HB.out.cell (World.block_lt_of_cell? w _ hx157_0)).trans hx157_0
                                  replace p157 := eq_true p157
                                  replace q157 := eq_true q157
                                  have p172 : 0 ≤ (0 : Int) := (by omega)
                                  have q172 : 0 < (x8_1.length : Int) := of_decide_eq_true (by first | (with_reducible assumption) | assumption)
                                  obtain ⟨ad172, e172, hx172_0⟩ := Kd.at_int (Kd.Q_reads' HO_8.out).2.2 0 p172 q172
                                  obtain rfl : ad156 = ad172 := (by injection e172)
                                  have qi172 : (0 < x8_1.length) = True := eq_true (by omega)
                                  (try rw [show ((0 : Int)).toNat = 0 from rfl] at hx172_0)
                                  (try rw [Addr.add_zero'] at hx172_0)
                                  replace p172 := eq_true p172
                                  replace q172 := eq_true q172
                                  go_wp2_with (first | ((with_reducible refine gate_builtin (b := .append) (xs := #[.tmp 62, .tmp 66]) rfl ?_); (try (refine gate_guard (by rfl) ?_; dsimp only)); at_builtin; refine Kd.R_append (Kd.int .i64) (w0 := w) w.heap.size rfl (.tmp 62) (.tmp 66) 125 3 (.int .i64 0) 8 rfl Try.underlying125 info3 rfl (by decide) (by omega) u9 x9_1 (rd x8_1 0) [.int .i64 (rd x8_1 0)] (fun k_ => some k_ ≠ (.slice (some ad154) x7_1.length co40 : Value).ownBlock ∧ some k_ ≠ (.slice (some ad156) x8_1.length co41 : Value).ownBlock) (fun _ => False) rfl rfl ?aP (fun _ hk => hk.elim) ?aF ?aO ?aB ?aS ?aL ?_; (case aP => exact rfl); (case aB => exact (by repeat (first | (with_reducible first | exact HB.out | apply below_alloc | apply pw_below_drewN | apply below_drew1) | exact HB.out))); (case aF => exact (fun k_ hk => ⟨Kd.fresh' (Kd.Q_lt (by (with_reducible repeat (first | apply Kd.Q_alloc | apply Kd.Q_drewN | apply Kd.Q_drew)); exact HO_7.out)) k_ hk, Kd.fresh' (Kd.Q_lt (by (with_reducible repeat (first | apply Kd.Q_alloc | apply Kd.Q_drewN | apply Kd.Q_drew)); exact HO_8.out)) k_ hk⟩)); (case aO => exact (by (with_reducible repeat (first | apply Kd.R_alloc | apply Kd.R_drewN | apply Kd.R_drew)); exact HO_9.out)); (case aS => exact (below_size (by repeat (first | (with_reducible first | exact HB.out | apply below_alloc | apply pw_below_drewN | apply below_drew1) | exact HB.out)))); (case aL => have := LMc38.out; omega); intro v174 w42 ho hb hg hat; rw [← Ny173.out] at ho; have n0_ := Aside0.mk (Kd.Q_after (ok := (fun k_ => some k_ ≠ (.slice (some ad156) x8_1.length co41 : Value).ownBlock)) (by (with_reducible repeat (first | apply Kd.Q_alloc | apply Kd.Q_drewN | apply Kd.Q_drew)); exact HO_7.out) hg hat); have n1_ := Aside0.mk (Kd.Q_after (ok := (fun k_ => some k_ ≠ (.slice (some ad154) x7_1.length co40 : Value).ownBlock)) (by (with_reducible repeat (first | apply Kd.Q_alloc | apply Kd.Q_drewN | apply Kd.Q_drew)); exact HO_8.out) hg hat); have n2_ := Aside0.mk (hb); have n3_ := Aside0.mk (ho); clear HO_7; clear HO_8; clear HB; clear HO_9; have HO_7 := n0_; have HO_8 := n1_; have HB := n2_; have HO175 := n3_; clear n0_ n1_ n2_ n3_; clear ho hb hg hat; have q43 : (1 : Int) ≤ ((x8_1.length : Int) : Int) := of_decide_eq_true (by first | (with_reducible assumption) | assumption); obtain ⟨i043, hi043, _, hsz43, _⟩ := info_parts info3; have hcut43 := cut_from (P := Try.prog) 125 3 .i64 Try.underlying125 hi043 1 hsz43 (some ad156) x8_1.length co41 1 (by omega) q43; have hr43 := Kd.Q_drop (k := (1 : Int).toNat) HO_8.out (by omega); obtain ⟨A43, hA43⟩ : ∃ A1, A1 = (if co41 = (1 : Int).toNat then (some ad156) else ((some ad156) : Option Addr).map (·.add ((1 : Int).toNat * 1))) := ⟨_, rfl⟩; obtain ⟨c43, hc43⟩ : ∃ c1, c1 = co41 - (1 : Int).toNat := ⟨_, rfl⟩; have hy43 : y176.length = x8_1.length - (1 : Int).toNat := (by rw [Ny176.out, List.length_drop]); rw [← Ny176.out] at hr43; rw [← hy43, ← hA43, ← hc43] at hcut43; replace hr43 : Kd.Q (Kd.int .i64) 3 w42 w.heap.size (fun k_ => some k_ ≠ (.slice (some ad154) x7_1.length co40 : Value).ownBlock ∧ some k_ ≠ (v174 : Value).ownBlock) (.slice A43 y176.length c43) y176 := (by rw [hA43, hc43, hy43]; exact hr43); have HE43 : Aside0 ((Value.slice A43 y176.length c43).ownBlock = (.slice (some ad156) x8_1.length co41 : Value).ownBlock) := ⟨by rw [hA43]; split <;> (cases ((some ad156) : Option Addr) <;> rfl)⟩; clear hy43 hi043 hsz43 HO_8 hA43 hc43; have HO178 := Aside0.mk hr43; clear hr43; replace q43 := eq_true q43; have n_ := Aside0.mk (Kd.Q_mono (ok' := fun k_ => (some k_ ≠ (.slice A43 y176.length c43 : Value).ownBlock ∧ some k_ ≠ (v174 : Value).ownBlock)) HO_7.out (fun k_ hk => ⟨(by rw [HE43.out]; exact hk.1), hk.2⟩)); clear HO_7; have HO_7 := n_; clear n_; have n_ := Aside0.mk (Kd.R_mono (ok' := fun k_ => (some k_ ≠ (.slice (some ad154) x7_1.length co40 : Value).ownBlock ∧ some k_ ≠ (.slice A43 y176.length c43 : Value).ownBlock)) HO175.out (fun k_ hk => ⟨hk.1, (by rw [HE43.out]; exact hk.2)⟩)); clear HO175; have HO175 := n_; clear n_))
                                  repeat (go_quiet (first | ((with_reducible refine gate_builtin (b := .append) (xs := #[.tmp 62, .tmp 66]) rfl ?_); (try (refine gate_guard (by rfl) ?_; dsimp only)); at_builtin; refine Kd.R_append (Kd.int .i64) (w0 := w) w.heap.size rfl (.tmp 62) (.tmp 66) 125 3 (.int .i64 0) 8 rfl Try.underlying125 info3 rfl (by decide) (by omega) u9 x9_1 (rd x8_1 0) [.int .i64 (rd x8_1 0)] (fun k_ => some k_ ≠ (.slice (some ad154) x7_1.length co40 : Value).ownBlock ∧ some k_ ≠ (.slice (some ad156) x8_1.length co41 : Value).ownBlock) (fun _ => False) rfl rfl ?aP (fun _ hk => hk.elim) ?aF ?aO ?aB ?aS ?aL ?_; (case aP => exact rfl); (case aB => exact (by repeat (first | (with_reducible first | exact HB.out | apply below_alloc | apply pw_below_drewN | apply below_drew1) | exact HB.out))); (case aF => exact (fun k_ hk => ⟨Kd.fresh' (Kd.Q_lt (by (with_reducible repeat (first | apply Kd.Q_alloc | apply Kd.Q_drewN | apply Kd.Q_drew)); exact HO_7.out)) k_ hk, Kd.fresh' (Kd.Q_lt (by (with_reducible repeat (first | apply Kd.Q_alloc | apply Kd.Q_drewN | apply Kd.Q_drew)); exact HO_8.out)) k_ hk⟩)); (case aO => exact (by (with_reducible repeat (first | apply Kd.R_alloc | apply Kd.R_drewN | apply Kd.R_drew)); exact HO_9.out)); (case aS => exact (below_size (by repeat (first | (with_reducible first | exact HB.out | apply below_alloc | apply pw_below_drewN | apply below_drew1) | exact HB.out)))); (case aL => have := LMc38.out; omega); intro v174 w42 ho hb hg hat; rw [← Ny173.out] at ho; have n0_ := Aside0.mk (Kd.Q_after (ok := (fun k_ => some k_ ≠ (.slice (some ad156) x8_1.length co41 : Value).ownBlock)) (by (with_reducible repeat (first | apply Kd.Q_alloc | apply Kd.Q_drewN | apply Kd.Q_drew)); exact HO_7.out) hg hat); have n1_ := Aside0.mk (Kd.Q_after (ok := (fun k_ => some k_ ≠ (.slice (some ad154) x7_1.length co40 : Value).ownBlock)) (by (with_reducible repeat (first | apply Kd.Q_alloc | apply Kd.Q_drewN | apply Kd.Q_drew)); exact HO_8.out) hg hat); have n2_ := Aside0.mk (hb); have n3_ := Aside0.mk (ho); clear HO_7; clear HO_8; clear HB; clear HO_9; have HO_7 := n0_; have HO_8 := n1_; have HB := n2_; have HO175 := n3_; clear n0_ n1_ n2_ n3_; clear ho hb hg hat; have q43 : (1 : Int) ≤ ((x8_1.length : Int) : Int) := of_decide_eq_true (by first | (with_reducible assumption) | assumption); obtain ⟨i043, hi043, _, hsz43, _⟩ := info_parts info3; have hcut43 := cut_from (P := Try.prog) 125 3 .i64 Try.underlying125 hi043 1 hsz43 (some ad156) x8_1.length co41 1 (by omega) q43; have hr43 := Kd.Q_drop (k := (1 : Int).toNat) HO_8.out (by omega); obtain ⟨A43, hA43⟩ : ∃ A1, A1 = (if co41 = (1 : Int).toNat then (some ad156) else ((some ad156) : Option Addr).map (·.add ((1 : Int).toNat * 1))) := ⟨_, rfl⟩; obtain ⟨c43, hc43⟩ : ∃ c1, c1 = co41 - (1 : Int).toNat := ⟨_, rfl⟩; have hy43 : y176.length = x8_1.length - (1 : Int).toNat := (by rw [Ny176.out, List.length_drop]); rw [← Ny176.out] at hr43; rw [← hy43, ← hA43, ← hc43] at hcut43; replace hr43 : Kd.Q (Kd.int .i64) 3 w42 w.heap.size (fun k_ => some k_ ≠ (.slice (some ad154) x7_1.length co40 : Value).ownBlock ∧ some k_ ≠ (v174 : Value).ownBlock) (.slice A43 y176.length c43) y176 := (by rw [hA43, hc43, hy43]; exact hr43); have HE43 : Aside0 ((Value.slice A43 y176.length c43).ownBlock = (.slice (some ad156) x8_1.length co41 : Value).ownBlock) := ⟨by rw [hA43]; split <;> (cases ((some ad156) : Option Addr) <;> rfl)⟩; clear hy43 hi043 hsz43 HO_8 hA43 hc43; have HO178 := Aside0.mk hr43; clear hr43; replace q43 := eq_true q43; have n_ := Aside0.mk (Kd.Q_mono (ok' := fun k_ => (some k_ ≠ (.slice A43 y176.length c43 : Value).ownBlock ∧ some k_ ≠ (v174 : Value).ownBlock)) HO_7.out (fun k_ hk => ⟨(by rw [HE43.out]; exact hk.1), hk.2⟩)); clear HO_7; have HO_7 := n_; clear n_; have n_ := Aside0.mk (Kd.R_mono (ok' := fun k_ => (some k_ ≠ (.slice (some ad154) x7_1.length co40 : Value).ownBlock ∧ some k_ ≠ (.slice A43 y176.length c43 : Value).ownBlock)) HO175.out (fun k_ hk => ⟨hk.1, (by rw [HE43.out]; exact hk.2)⟩)); clear HO175; have HO175 := n_; clear n_)); try go_wp2_with (first | ((with_reducible refine gate_builtin (b := .append) (xs := #[.tmp 62, .tmp 66]) rfl ?_); (try (refine gate_guard (by rfl) ?_; dsimp only)); at_builtin; refine Kd.R_append (Kd.int .i64) (w0 := w) w.heap.size rfl (.tmp 62) (.tmp 66) 125 3 (.int .i64 0) 8 rfl Try.underlying125 info3 rfl (by decide) (by omega) u9 x9_1 (rd x8_1 0) [.int .i64 (rd x8_1 0)] (fun k_ => some k_ ≠ (.slice (some ad154) x7_1.length co40 : Value).ownBlock ∧ some k_ ≠ (.slice (some ad156) x8_1.length co41 : Value).ownBlock) (fun _ => False) rfl rfl ?aP (fun _ hk => hk.elim) ?aF ?aO ?aB ?aS ?aL ?_; (case aP => exact rfl); (case aB => exact (by repeat (first | (with_reducible first | exact HB.out | apply below_alloc | apply pw_below_drewN | apply below_drew1) | exact HB.out))); (case aF => exact (fun k_ hk => ⟨Kd.fresh' (Kd.Q_lt (by (with_reducible repeat (first | apply Kd.Q_alloc | apply Kd.Q_drewN | apply Kd.Q_drew)); exact HO_7.out)) k_ hk, Kd.fresh' (Kd.Q_lt (by (with_reducible repeat (first | apply Kd.Q_alloc | apply Kd.Q_drewN | apply Kd.Q_drew)); exact HO_8.out)) k_ hk⟩)); (case aO => exact (by (with_reducible repeat (first | apply Kd.R_alloc | apply Kd.R_drewN | apply Kd.R_drew)); exact HO_9.out)); (case aS => exact (below_size (by repeat (first | (with_reducible first | exact HB.out | apply below_alloc | apply pw_below_drewN | apply below_drew1) | exact HB.out)))); (case aL => have := LMc38.out; omega); intro v174 w42 ho hb hg hat; rw [← Ny173.out] at ho; have n0_ := Aside0.mk (Kd.Q_after (ok := (fun k_ => some k_ ≠ (.slice (some ad156) x8_1.length co41 : Value).ownBlock)) (by (with_reducible repeat (first | apply Kd.Q_alloc | apply Kd.Q_drewN | apply Kd.Q_drew)); exact HO_7.out) hg hat); have n1_ := Aside0.mk (Kd.Q_after (ok := (fun k_ => some k_ ≠ (.slice (some ad154) x7_1.length co40 : Value).ownBlock)) (by (with_reducible repeat (first | apply Kd.Q_alloc | apply Kd.Q_drewN | apply Kd.Q_drew)); exact HO_8.out) hg hat); have n2_ := Aside0.mk (hb); have n3_ := Aside0.mk (ho); clear HO_7; clear HO_8; clear HB; clear HO_9; have HO_7 := n0_; have HO_8 := n1_; have HB := n2_; have HO175 := n3_; clear n0_ n1_ n2_ n3_; clear ho hb hg hat; have q43 : (1 : Int) ≤ ((x8_1.length : Int) : Int) := of_decide_eq_true (by first | (with_reducible assumption) | assumption); obtain ⟨i043, hi043, _, hsz43, _⟩ := info_parts info3; have hcut43 := cut_from (P := Try.prog) 125 3 .i64 Try.underlying125 hi043 1 hsz43 (some ad156) x8_1.length co41 1 (by omega) q43; have hr43 := Kd.Q_drop (k := (1 : Int).toNat) HO_8.out (by omega); obtain ⟨A43, hA43⟩ : ∃ A1, A1 = (if co41 = (1 : Int).toNat then (some ad156) else ((some ad156) : Option Addr).map (·.add ((1 : Int).toNat * 1))) := ⟨_, rfl⟩; obtain ⟨c43, hc43⟩ : ∃ c1, c1 = co41 - (1 : Int).toNat := ⟨_, rfl⟩; have hy43 : y176.length = x8_1.length - (1 : Int).toNat := (by rw [Ny176.out, List.length_drop]); rw [← Ny176.out] at hr43; rw [← hy43, ← hA43, ← hc43] at hcut43; replace hr43 : Kd.Q (Kd.int .i64) 3 w42 w.heap.size (fun k_ => some k_ ≠ (.slice (some ad154) x7_1.length co40 : Value).ownBlock ∧ some k_ ≠ (v174 : Value).ownBlock) (.slice A43 y176.length c43) y176 := (by rw [hA43, hc43, hy43]; exact hr43); have HE43 : Aside0 ((Value.slice A43 y176.length c43).ownBlock = (.slice (some ad156) x8_1.length co41 : Value).ownBlock) := ⟨by rw [hA43]; split <;> (cases ((some ad156) : Option Addr) <;> rfl)⟩; clear hy43 hi043 hsz43 HO_8 hA43 hc43; have HO178 := Aside0.mk hr43; clear hr43; replace q43 := eq_true q43; have n_ := Aside0.mk (Kd.Q_mono (ok' := fun k_ => (some k_ ≠ (.slice A43 y176.length c43 : Value).ownBlock ∧ some k_ ≠ (v174 : Value).ownBlock)) HO_7.out (fun k_ hk => ⟨(by rw [HE43.out]; exact hk.1), hk.2⟩)); clear HO_7; have HO_7 := n_; clear n_; have n_ := Aside0.mk (Kd.R_mono (ok' := fun k_ => (some k_ ≠ (.slice (some ad154) x7_1.length co40 : Value).ownBlock ∧ some k_ ≠ (.slice A43 y176.length c43 : Value).ownBlock)) HO175.out (fun k_ hk => ⟨hk.1, (by rw [HE43.out]; exact hk.2)⟩)); clear HO175; have HO175 := n_; clear n_)))
                                  go_roundg kj11
                                  case measure => have := HK1.out; have := HJ11.out; omega
                                  case rel => exact ⟨(x7_1), (y176), (y173), H', ⟨by have := HK1.out; have := HJ11.out; omega⟩, ⟨by (with_reducible repeat (first | apply Kd.Q_alloc | apply Kd.Q_drewN | apply Kd.Q_drew)); exact HO_7.out⟩, ⟨by (with_reducible repeat (first | apply Kd.Q_alloc | apply Kd.Q_drewN | apply Kd.Q_drew)); exact HO178.out⟩, ⟨by (with_reducible repeat (first | apply Kd.R_alloc | apply Kd.R_drewN | apply Kd.R_drew)); exact HO175.out⟩, ⟨by repeat (first | (with_reducible first | exact HB.out | apply below_alloc | apply pw_below_drewN | apply below_drew1) | exact HB.out)⟩⟩
                                · rw [if_neg c39] at H
                                  exact absurd H (by simp)
                              · rw [if_neg c38] at H
                                exact absurd H (by simp)
                        · rw [if_neg c23] at H
                          exact absurd H (by simp)
                      · rw [if_neg c22] at H
                        exact absurd H (by simp)
                    · rw [if_neg c21] at H
                      exact absurd H (by simp)
                  · rw [if_neg c20] at H
                    exact absurd H (by simp)
                · rw [if_neg c19] at H
                  exact absurd H (by simp)
              · rw [if_neg c18] at H
                exact absurd H (by simp)
            · replace c17 := Bool.eq_false_iff.mpr c17
              subst c17
              have H1 : (if x9_1.length + x7_1.length < 17592186044416 then ((some (x9_1 ++ x7_1 : List Int)).bind fun y179 => (if y179.length + x8_1.length < 17592186044416 then (some (y179 ++ x8_1)) else (none))) else (none)) = some r := by rw [if_neg (show ¬ (false = true) by decide)] at H; exact H
              clear H
              have H := H1
              clear H1
              by_cases c44 : x9_1.length + x7_1.length < 17592186044416
              · rw [if_pos c44] at H
                have LMc44 := Aside0.mk c44
                clear c44
                obtain ⟨y179, hy179⟩ : ∃ y_ : List Int, y_ = (x9_1 ++ x7_1) := ⟨_, rfl⟩
                replace H : (if y179.length + x8_1.length < 17592186044416 then (some (y179 ++ x8_1)) else (none)) = some r := by first | (rw [hy179]; with_reducible exact H) | (have H2_ := (Option.bind_some _ _).symm.trans H; rw [hy179]; with_reducible exact H2_) | (have H2_ := (Option.bind_some _ _).symm.trans H; with_reducible exact H2_) | with_reducible exact H | (rw [hy179]; exact H) | exact H
                have Ny179 := Aside0.mk hy179
                clear hy179
                by_cases c45 : y179.length + x8_1.length < 17592186044416
                · rw [if_pos c45] at H
                  have LMc45 := Aside0.mk c45
                  clear c45
                  obtain ⟨y182, hy182⟩ : ∃ y_ : List Int, y_ = (y179 ++ x8_1) := ⟨_, rfl⟩
                  replace H : (some y182) = some r := by first | (rw [hy182]; with_reducible exact H) | (have H2_ := (Option.bind_some _ _).symm.trans H; rw [hy182]; with_reducible exact H2_) | (have H2_ := (Option.bind_some _ _).symm.trans H; with_reducible exact H2_) | with_reducible exact H | (rw [hy182]; exact H) | exact H
                  have Ny182 := Aside0.mk hy182
                  clear hy182
                  obtain rfl := Option.some.inj H
                  obtain ⟨Ao47, co47, eo47, _⟩ := Kd.Q_slice HO_7.out
                  subst eo47
                  go_wp2_with (first | ((with_reducible refine gate_builtin (b := .append) (xs := #[.tmp 70, .tmp 71]) rfl ?_); (try (refine gate_guard (by rfl) ?_; dsimp only)); at_builtin; refine Kd.R_append_rows (Kd.int .i64) (w0 := w) w.heap.size rfl (.tmp 70) (.tmp 71) 125 3 (.int .i64 0) 8 rfl Try.underlying125 info3 rfl (by decide) (by omega) u9 x9_1 x7_1 _ _ _ (fun k_ => some k_ ≠ (.slice Ao47 x7_1.length co47 : Value).ownBlock ∧ some k_ ≠ (u8 : Value).ownBlock) (fun _ => False) rfl rfl ?aO ?aR (fun _ _ h => h) (fun _ h => h.elim) ?aF ?aB ?aS ?aL ?_; (case aR => repeat (first | exact (Kd.Q_reads' HO_7.out).2.2 | (with_reducible refine Kd.C_alloc ?_ _) | (with_reducible refine Kd.C_drewN ?_ _) | (with_reducible refine Kd.C_drew ?_))); (case aB => exact (by repeat (first | (with_reducible first | exact HB.out | apply below_alloc | apply pw_below_drewN | apply below_drew1) | exact HB.out))); (case aF => exact (fun k_ hk => ⟨Kd.fresh' (Kd.Q_lt (by (with_reducible repeat (first | apply Kd.Q_alloc | apply Kd.Q_drewN | apply Kd.Q_drew)); exact HO_7.out)) k_ hk, Kd.fresh' (Kd.Q_lt (by (with_reducible repeat (first | apply Kd.Q_alloc | apply Kd.Q_drewN | apply Kd.Q_drew)); exact HO_8.out)) k_ hk⟩)); (case aO => exact (by (with_reducible repeat (first | apply Kd.R_alloc | apply Kd.R_drewN | apply Kd.R_drew)); exact HO_9.out)); (case aS => exact (below_size (by repeat (first | (with_reducible first | exact HB.out | apply below_alloc | apply pw_below_drewN | apply below_drew1) | exact HB.out)))); (case aL => have := LMc44.out; omega); intro v180 w46 ho hb hg hat; rw [← Ny179.out] at ho; have n0_ := Aside0.mk (Kd.Q_after (ok := (fun k_ => some k_ ≠ (u8 : Value).ownBlock)) (by (with_reducible repeat (first | apply Kd.Q_alloc | apply Kd.Q_drewN | apply Kd.Q_drew)); exact HO_7.out) hg hat); have n1_ := Aside0.mk (Kd.Q_after (ok := (fun k_ => some k_ ≠ (.slice Ao47 x7_1.length co47 : Value).ownBlock)) (by (with_reducible repeat (first | apply Kd.Q_alloc | apply Kd.Q_drewN | apply Kd.Q_drew)); exact HO_8.out) hg hat); have n2_ := Aside0.mk (hb); have n3_ := Aside0.mk (ho); clear HO_7; clear HO_8; clear HB; clear HO_9; have HO_7 := n0_; have HO_8 := n1_; have HB := n2_; have HO181 := n3_; clear n0_ n1_ n2_ n3_; clear ho hb hg hat; obtain ⟨Ao49, co49, eo49, _⟩ := Kd.Q_slice HO_8.out; subst eo49) | ((with_reducible refine gate_builtin (b := .append) (xs := #[.tmp 73, .tmp 74]) rfl ?_); (try (refine gate_guard (by rfl) ?_; dsimp only)); at_builtin; refine Kd.R_append_rows (Kd.int .i64) (w0 := w) w.heap.size rfl (.tmp 73) (.tmp 74) 125 3 (.int .i64 0) 8 rfl Try.underlying125 info3 rfl (by decide) (by omega) v180 y179 x8_1 _ _ _ (fun k_ => some k_ ≠ (.slice Ao47 x7_1.length co47 : Value).ownBlock ∧ some k_ ≠ (.slice Ao49 x8_1.length co49 : Value).ownBlock) (fun _ => False) rfl rfl ?aO ?aR (fun _ _ h => h) (fun _ h => h.elim) ?aF ?aB ?aS ?aL ?_; (case aR => repeat (first | exact (Kd.Q_reads' HO_8.out).2.2 | (with_reducible refine Kd.C_alloc ?_ _) | (with_reducible refine Kd.C_drewN ?_ _) | (with_reducible refine Kd.C_drew ?_))); (case aB => exact (by repeat (first | (with_reducible first | exact HB.out | apply below_alloc | apply pw_below_drewN | apply below_drew1) | exact HB.out))); (case aF => exact (fun k_ hk => ⟨Kd.fresh' (Kd.Q_lt (by (with_reducible repeat (first | apply Kd.Q_alloc | apply Kd.Q_drewN | apply Kd.Q_drew)); exact HO_7.out)) k_ hk, Kd.fresh' (Kd.Q_lt (by (with_reducible repeat (first | apply Kd.Q_alloc | apply Kd.Q_drewN | apply Kd.Q_drew)); exact HO_8.out)) k_ hk⟩)); (case aO => exact (by (with_reducible repeat (first | apply Kd.R_alloc | apply Kd.R_drewN | apply Kd.R_drew)); exact HO181.out)); (case aS => exact (below_size (by repeat (first | (with_reducible first | exact HB.out | apply below_alloc | apply pw_below_drewN | apply below_drew1) | exact HB.out)))); (case aL => have := LMc45.out; omega); intro v183 w48 ho hb hg hat; rw [← Ny182.out] at ho; have n0_ := Aside0.mk (Kd.Q_after (ok := (fun k_ => some k_ ≠ (.slice Ao49 x8_1.length co49 : Value).ownBlock)) (by (with_reducible repeat (first | apply Kd.Q_alloc | apply Kd.Q_drewN | apply Kd.Q_drew)); exact HO_7.out) hg hat); have n1_ := Aside0.mk (Kd.Q_after (ok := (fun k_ => some k_ ≠ (.slice Ao47 x7_1.length co47 : Value).ownBlock)) (by (with_reducible repeat (first | apply Kd.Q_alloc | apply Kd.Q_drewN | apply Kd.Q_drew)); exact HO_8.out) hg hat); have n2_ := Aside0.mk (hb); have n3_ := Aside0.mk (ho); clear HO_7; clear HO_8; clear HB; clear HO181; have HO_7 := n0_; have HO_8 := n1_; have HB := n2_; have HO184 := n3_; clear n0_ n1_ n2_ n3_; clear ho hb hg hat))
                  repeat (go_quiet (first | ((with_reducible refine gate_builtin (b := .append) (xs := #[.tmp 70, .tmp 71]) rfl ?_); (try (refine gate_guard (by rfl) ?_; dsimp only)); at_builtin; refine Kd.R_append_rows (Kd.int .i64) (w0 := w) w.heap.size rfl (.tmp 70) (.tmp 71) 125 3 (.int .i64 0) 8 rfl Try.underlying125 info3 rfl (by decide) (by omega) u9 x9_1 x7_1 _ _ _ (fun k_ => some k_ ≠ (.slice Ao47 x7_1.length co47 : Value).ownBlock ∧ some k_ ≠ (u8 : Value).ownBlock) (fun _ => False) rfl rfl ?aO ?aR (fun _ _ h => h) (fun _ h => h.elim) ?aF ?aB ?aS ?aL ?_; (case aR => repeat (first | exact (Kd.Q_reads' HO_7.out).2.2 | (with_reducible refine Kd.C_alloc ?_ _) | (with_reducible refine Kd.C_drewN ?_ _) | (with_reducible refine Kd.C_drew ?_))); (case aB => exact (by repeat (first | (with_reducible first | exact HB.out | apply below_alloc | apply pw_below_drewN | apply below_drew1) | exact HB.out))); (case aF => exact (fun k_ hk => ⟨Kd.fresh' (Kd.Q_lt (by (with_reducible repeat (first | apply Kd.Q_alloc | apply Kd.Q_drewN | apply Kd.Q_drew)); exact HO_7.out)) k_ hk, Kd.fresh' (Kd.Q_lt (by (with_reducible repeat (first | apply Kd.Q_alloc | apply Kd.Q_drewN | apply Kd.Q_drew)); exact HO_8.out)) k_ hk⟩)); (case aO => exact (by (with_reducible repeat (first | apply Kd.R_alloc | apply Kd.R_drewN | apply Kd.R_drew)); exact HO_9.out)); (case aS => exact (below_size (by repeat (first | (with_reducible first | exact HB.out | apply below_alloc | apply pw_below_drewN | apply below_drew1) | exact HB.out)))); (case aL => have := LMc44.out; omega); intro v180 w46 ho hb hg hat; rw [← Ny179.out] at ho; have n0_ := Aside0.mk (Kd.Q_after (ok := (fun k_ => some k_ ≠ (u8 : Value).ownBlock)) (by (with_reducible repeat (first | apply Kd.Q_alloc | apply Kd.Q_drewN | apply Kd.Q_drew)); exact HO_7.out) hg hat); have n1_ := Aside0.mk (Kd.Q_after (ok := (fun k_ => some k_ ≠ (.slice Ao47 x7_1.length co47 : Value).ownBlock)) (by (with_reducible repeat (first | apply Kd.Q_alloc | apply Kd.Q_drewN | apply Kd.Q_drew)); exact HO_8.out) hg hat); have n2_ := Aside0.mk (hb); have n3_ := Aside0.mk (ho); clear HO_7; clear HO_8; clear HB; clear HO_9; have HO_7 := n0_; have HO_8 := n1_; have HB := n2_; have HO181 := n3_; clear n0_ n1_ n2_ n3_; clear ho hb hg hat; obtain ⟨Ao49, co49, eo49, _⟩ := Kd.Q_slice HO_8.out; subst eo49) | ((with_reducible refine gate_builtin (b := .append) (xs := #[.tmp 73, .tmp 74]) rfl ?_); (try (refine gate_guard (by rfl) ?_; dsimp only)); at_builtin; refine Kd.R_append_rows (Kd.int .i64) (w0 := w) w.heap.size rfl (.tmp 73) (.tmp 74) 125 3 (.int .i64 0) 8 rfl Try.underlying125 info3 rfl (by decide) (by omega) v180 y179 x8_1 _ _ _ (fun k_ => some k_ ≠ (.slice Ao47 x7_1.length co47 : Value).ownBlock ∧ some k_ ≠ (.slice Ao49 x8_1.length co49 : Value).ownBlock) (fun _ => False) rfl rfl ?aO ?aR (fun _ _ h => h) (fun _ h => h.elim) ?aF ?aB ?aS ?aL ?_; (case aR => repeat (first | exact (Kd.Q_reads' HO_8.out).2.2 | (with_reducible refine Kd.C_alloc ?_ _) | (with_reducible refine Kd.C_drewN ?_ _) | (with_reducible refine Kd.C_drew ?_))); (case aB => exact (by repeat (first | (with_reducible first | exact HB.out | apply below_alloc | apply pw_below_drewN | apply below_drew1) | exact HB.out))); (case aF => exact (fun k_ hk => ⟨Kd.fresh' (Kd.Q_lt (by (with_reducible repeat (first | apply Kd.Q_alloc | apply Kd.Q_drewN | apply Kd.Q_drew)); exact HO_7.out)) k_ hk, Kd.fresh' (Kd.Q_lt (by (with_reducible repeat (first | apply Kd.Q_alloc | apply Kd.Q_drewN | apply Kd.Q_drew)); exact HO_8.out)) k_ hk⟩)); (case aO => exact (by (with_reducible repeat (first | apply Kd.R_alloc | apply Kd.R_drewN | apply Kd.R_drew)); exact HO181.out)); (case aS => exact (below_size (by repeat (first | (with_reducible first | exact HB.out | apply below_alloc | apply pw_below_drewN | apply below_drew1) | exact HB.out)))); (case aL => have := LMc45.out; omega); intro v183 w48 ho hb hg hat; rw [← Ny182.out] at ho; have n0_ := Aside0.mk (Kd.Q_after (ok := (fun k_ => some k_ ≠ (.slice Ao49 x8_1.length co49 : Value).ownBlock)) (by (with_reducible repeat (first | apply Kd.Q_alloc | apply Kd.Q_drewN | apply Kd.Q_drew)); exact HO_7.out) hg hat); have n1_ := Aside0.mk (Kd.Q_after (ok := (fun k_ => some k_ ≠ (.slice Ao47 x7_1.length co47 : Value).ownBlock)) (by (with_reducible repeat (first | apply Kd.Q_alloc | apply Kd.Q_drewN | apply Kd.Q_drew)); exact HO_8.out) hg hat); have n2_ := Aside0.mk (hb); have n3_ := Aside0.mk (ho); clear HO_7; clear HO_8; clear HB; clear HO181; have HO_7 := n0_; have HO_8 := n1_; have HB := n2_; have HO184 := n3_; clear n0_ n1_ n2_ n3_; clear ho hb hg hat)); try go_wp2_with (first | ((with_reducible refine gate_builtin (b := .append) (xs := #[.tmp 70, .tmp 71]) rfl ?_); (try (refine gate_guard (by rfl) ?_; dsimp only)); at_builtin; refine Kd.R_append_rows (Kd.int .i64) (w0 := w) w.heap.size rfl (.tmp 70) (.tmp 71) 125 3 (.int .i64 0) 8 rfl Try.underlying125 info3 rfl (by decide) (by omega) u9 x9_1 x7_1 _ _ _ (fun k_ => some k_ ≠ (.slice Ao47 x7_1.length co47 : Value).ownBlock ∧ some k_ ≠ (u8 : Value).ownBlock) (fun _ => False) rfl rfl ?aO ?aR (fun _ _ h => h) (fun _ h => h.elim) ?aF ?aB ?aS ?aL ?_; (case aR => repeat (first | exact (Kd.Q_reads' HO_7.out).2.2 | (with_reducible refine Kd.C_alloc ?_ _) | (with_reducible refine Kd.C_drewN ?_ _) | (with_reducible refine Kd.C_drew ?_))); (case aB => exact (by repeat (first | (with_reducible first | exact HB.out | apply below_alloc | apply pw_below_drewN | apply below_drew1) | exact HB.out))); (case aF => exact (fun k_ hk => ⟨Kd.fresh' (Kd.Q_lt (by (with_reducible repeat (first | apply Kd.Q_alloc | apply Kd.Q_drewN | apply Kd.Q_drew)); exact HO_7.out)) k_ hk, Kd.fresh' (Kd.Q_lt (by (with_reducible repeat (first | apply Kd.Q_alloc | apply Kd.Q_drewN | apply Kd.Q_drew)); exact HO_8.out)) k_ hk⟩)); (case aO => exact (by (with_reducible repeat (first | apply Kd.R_alloc | apply Kd.R_drewN | apply Kd.R_drew)); exact HO_9.out)); (case aS => exact (below_size (by repeat (first | (with_reducible first | exact HB.out | apply below_alloc | apply pw_below_drewN | apply below_drew1) | exact HB.out)))); (case aL => have := LMc44.out; omega); intro v180 w46 ho hb hg hat; rw [← Ny179.out] at ho; have n0_ := Aside0.mk (Kd.Q_after (ok := (fun k_ => some k_ ≠ (u8 : Value).ownBlock)) (by (with_reducible repeat (first | apply Kd.Q_alloc | apply Kd.Q_drewN | apply Kd.Q_drew)); exact HO_7.out) hg hat); have n1_ := Aside0.mk (Kd.Q_after (ok := (fun k_ => some k_ ≠ (.slice Ao47 x7_1.length co47 : Value).ownBlock)) (by (with_reducible repeat (first | apply Kd.Q_alloc | apply Kd.Q_drewN | apply Kd.Q_drew)); exact HO_8.out) hg hat); have n2_ := Aside0.mk (hb); have n3_ := Aside0.mk (ho); clear HO_7; clear HO_8; clear HB; clear HO_9; have HO_7 := n0_; have HO_8 := n1_; have HB := n2_; have HO181 := n3_; clear n0_ n1_ n2_ n3_; clear ho hb hg hat; obtain ⟨Ao49, co49, eo49, _⟩ := Kd.Q_slice HO_8.out; subst eo49) | ((with_reducible refine gate_builtin (b := .append) (xs := #[.tmp 73, .tmp 74]) rfl ?_); (try (refine gate_guard (by rfl) ?_; dsimp only)); at_builtin; refine Kd.R_append_rows (Kd.int .i64) (w0 := w) w.heap.size rfl (.tmp 73) (.tmp 74) 125 3 (.int .i64 0) 8 rfl Try.underlying125 info3 rfl (by decide) (by omega) v180 y179 x8_1 _ _ _ (fun k_ => some k_ ≠ (.slice Ao47 x7_1.length co47 : Value).ownBlock ∧ some k_ ≠ (.slice Ao49 x8_1.length co49 : Value).ownBlock) (fun _ => False) rfl rfl ?aO ?aR (fun _ _ h => h) (fun _ h => h.elim) ?aF ?aB ?aS ?aL ?_; (case aR => repeat (first | exact (Kd.Q_reads' HO_8.out).2.2 | (with_reducible refine Kd.C_alloc ?_ _) | (with_reducible refine Kd.C_drewN ?_ _) | (with_reducible refine Kd.C_drew ?_))); (case aB => exact (by repeat (first | (with_reducible first | exact HB.out | apply below_alloc | apply pw_below_drewN | apply below_drew1) | exact HB.out))); (case aF => exact (fun k_ hk => ⟨Kd.fresh' (Kd.Q_lt (by (with_reducible repeat (first | apply Kd.Q_alloc | apply Kd.Q_drewN | apply Kd.Q_drew)); exact HO_7.out)) k_ hk, Kd.fresh' (Kd.Q_lt (by (with_reducible repeat (first | apply Kd.Q_alloc | apply Kd.Q_drewN | apply Kd.Q_drew)); exact HO_8.out)) k_ hk⟩)); (case aO => exact (by (with_reducible repeat (first | apply Kd.R_alloc | apply Kd.R_drewN | apply Kd.R_drew)); exact HO181.out)); (case aS => exact (below_size (by repeat (first | (with_reducible first | exact HB.out | apply below_alloc | apply pw_below_drewN | apply below_drew1) | exact HB.out)))); (case aL => have := LMc45.out; omega); intro v183 w48 ho hb hg hat; rw [← Ny182.out] at ho; have n0_ := Aside0.mk (Kd.Q_after (ok := (fun k_ => some k_ ≠ (.slice Ao49 x8_1.length co49 : Value).ownBlock)) (by (with_reducible repeat (first | apply Kd.Q_alloc | apply Kd.Q_drewN | apply Kd.Q_drew)); exact HO_7.out) hg hat); have n1_ := Aside0.mk (Kd.Q_after (ok := (fun k_ => some k_ ≠ (.slice Ao47 x7_1.length co47 : Value).ownBlock)) (by (with_reducible repeat (first | apply Kd.Q_alloc | apply Kd.Q_drewN | apply Kd.Q_drew)); exact HO_8.out) hg hat); have n2_ := Aside0.mk (hb); have n3_ := Aside0.mk (ho); clear HO_7; clear HO_8; clear HB; clear HO181; have HO_7 := n0_; have HO_8 := n1_; have HB := n2_; have HO184 := n3_; clear n0_ n1_ n2_ n3_; clear ho hb hg hat)))
                  go_ret
                  exact ⟨_, by first | rfl | (simp [errW_none, errW_some] <;> rfl) | (simp [*, errW_none, errW_some] <;> rfl), by (with_reducible repeat (first | apply Kd.R_alloc | apply Kd.R_drewN | apply Kd.R_drew)); exact Kd.R_mono HO184.out (fun _ hk => trivial), by repeat (first | (with_reducible first | exact HB.out | apply below_alloc | apply pw_below_drewN | apply below_drew1) | exact HB.out)⟩
                · rw [if_neg c45] at H
                  exact absurd H (by simp)
              · rw [if_neg c44] at H
                exact absurd H (by simp)

end Go.Proofs.Ytcadgnaejjgdnaa.XW04
