/- Laid for this claim by the session's own program xprint.py, over the print of the kit: functions of the program as plain Lean functions, each with a proof that a call comes to what its function says, or the row of a law out of these; no condition of its own. -/
import Derived.Test.YtgpabkdmagifjaaDoorXW05x0
import Derived.Test.YtgpabkdmagifjaaDoorXW05x2
namespace Go.Proofs.YtgpabkdmagifjaaDoor.XW05
open Go.Proofs.YtgpabkdmagifjaaDoor.X Go.RowKit Go.Proofs.YtgpabkdmagifjaaDoorW.PrintWords Go.Proofs.YtgpabkdmagifjaaDoorW.PrintLast Go.Proofs.YtgpabkdmagifjaaDoorW.PrintMore
attribute [local go_sem] cell4_1 cell4_1d max2_int min2_int max_two min_two max_three min_three max_four min_four   -- for this text's walks alone
set_option linter.unusedVariables false
set_option linter.unusedSimpArgs false

/-! ### flatironlaw05_lives: function 12 -/
def flatironlaw05_lives.f (k : Nat)  : Option (Bool) := (lex_Tokens.f k (⟨#[97, 39, 98, 32, 99, 39, 34, 100, 34, 62, 101]⟩ : ByteArray)).bind fun bt128 => (if bt128.2 = 0 then ((flatironlaw05_of.f k bt128.1).bind fun t132 => ((flatironlaw05_same.f k t132 (([(⟨0, (⟨#[97, 98, 32, 99, 100]⟩ : ByteArray)⟩ : S78), (⟨4, (⟨#[]⟩ : ByteArray)⟩ : S78), (⟨0, (⟨#[101]⟩ : ByteArray)⟩ : S78)] : List (S78)))).bind fun t138 => (if t138 = true then (some true) else (some false)))) else (some false))
theorem flatironlaw05_lives.mono : ∀ k, LeO (flatironlaw05_lives.f k ) (flatironlaw05_lives.f (k + 1) ) := by
  intro  k
  unfold flatironlaw05_lives.f
  repeat' first
      | (with_reducible exact flatironlaw05_of.mono _ _)
      | (with_reducible exact flatironlaw05_same.mono _ _ _)
      | (with_reducible exact lex_Tokens.mono _ _)
      | (with_reducible exact LeO.refl _)
      | (with_reducible exact LeO.none _)
      | (with_reducible refine LeO.ite ?_ ?_)
      | (with_reducible refine LeO.bind ?_ (fun _ => ?_))
      | exact flatironlaw05_of.mono _ _
      | exact flatironlaw05_same.mono _ _ _
      | exact lex_Tokens.mono _ _
      | exact LeO.none _
      | refine LeO.ite ?_ ?_
      | refine LeO.bind ?_ (fun _ => ?_)
set_option maxHeartbeats 8000000 in
set_option maxRecDepth 100000 in
theorem flatironlaw05_lives.calls (k : Nat)  (r : Bool) (w : World) (h : flatironlaw05_lives.f k  = some r) :
    Calls Tryd.prog 12 #[] w fun e w' => e = .returned (.bool r) ∧ Below w.heap.size w w' := by
  have hu78 := Tryd.underlying78
  have HB := Aside0.mk (Below.refl w.heap.size w)
  have H : ((lex_Tokens.f k (⟨#[97, 39, 98, 32, 99, 39, 34, 100, 34, 62, 101]⟩ : ByteArray)).bind fun bt128 => (if bt128.2 = 0 then ((flatironlaw05_of.f k bt128.1).bind fun t132 => ((flatironlaw05_same.f k t132 (([(⟨0, (⟨#[97, 98, 32, 99, 100]⟩ : ByteArray)⟩ : S78), (⟨4, (⟨#[]⟩ : ByteArray)⟩ : S78), (⟨0, (⟨#[101]⟩ : ByteArray)⟩ : S78)] : List (S78)))).bind fun t138 => (if t138 = true then (some true) else (some false)))) else (some false))) = some r := h
  clear h
  replace H := Option.bind_eq_some_iff.mp H
  obtain ⟨⟨t128, t129⟩, A10, H⟩ := H
  replace H : (if t129 = 0 then ((flatironlaw05_of.f k t128).bind fun t132 => ((flatironlaw05_same.f k t132 (([(⟨0, (⟨#[97, 98, 32, 99, 100]⟩ : ByteArray)⟩ : S78), (⟨4, (⟨#[]⟩ : ByteArray)⟩ : S78), (⟨0, (⟨#[101]⟩ : ByteArray)⟩ : S78)] : List (S78)))).bind fun t138 => (if t138 = true then (some true) else (some false)))) else (some false)) = some r := H
  have A1 := Aside0.mk A10
  clear A10
  by_cases c2 : t129 = 0
  · rw [if_pos c2] at H
    have c2b0 : (t129 == 0) = true := beq_iff_eq.mpr c2
    have c2b1 : (t129 != 0) = false := bne_eq_false_iff_eq.mpr c2
    clear c2
    replace H := Option.bind_eq_some_iff.mp H
    obtain ⟨t132, A30, H⟩ := H
    replace H : ((flatironlaw05_same.f k t132 (([(⟨0, (⟨#[97, 98, 32, 99, 100]⟩ : ByteArray)⟩ : S78), (⟨4, (⟨#[]⟩ : ByteArray)⟩ : S78), (⟨0, (⟨#[101]⟩ : ByteArray)⟩ : S78)] : List (S78)))).bind fun t138 => (if t138 = true then (some true) else (some false))) = some r := H
    have A3 := Aside0.mk A30
    clear A30
    obtain ⟨y135, hy135⟩ : ∃ y_ : List (S78), y_ = (([(⟨0, (⟨#[97, 98, 32, 99, 100]⟩ : ByteArray)⟩ : S78), (⟨4, (⟨#[]⟩ : ByteArray)⟩ : S78), (⟨0, (⟨#[101]⟩ : ByteArray)⟩ : S78)] : List (S78))) := ⟨_, rfl⟩
    replace H : ((flatironlaw05_same.f k t132 y135).bind fun t138 => (if t138 = true then (some true) else (some false))) = some r := by first | (rw [hy135]; with_reducible exact H) | (have H2_ := (Option.bind_some _ _).symm.trans H; rw [hy135]; with_reducible exact H2_) | (have H2_ := (Option.bind_some _ _).symm.trans H; with_reducible exact H2_) | with_reducible exact H | (rw [hy135]; exact H) | exact H
    have Ny135 := Aside0.mk hy135
    clear hy135
    replace H := Option.bind_eq_some_iff.mp H
    obtain ⟨t138, A40, H⟩ := H
    replace H : (if t138 = true then (some true) else (some false)) = some r := H
    have A4 := Aside0.mk A40
    clear A40
    by_cases c5 : t138 = true
    · subst c5
      have H1 : (some true) = some r := by rw [if_pos rfl] at H; exact H
      clear H
      have H := H1
      clear H1
      obtain rfl := Option.some.inj H
      go_enter Tryd.func12, Tryd.ntmps12
      go_wp2_with (first | ((with_reducible refine gate_callee (f := 13) rfl ?_); refine goesL_ (some 4) rfl rfl Tryd.func13 (by kernel_rfl) rfl #[.string (⟨#[97, 39, 98, 32, 99, 39, 34, 100, 34, 62, 101]⟩ : ByteArray)] rfl (by (try simp only [List.map_toArray, List.map_cons, List.map_nil]); first | done | rfl | (simp only [List.length_drop, List.length_take]; rfl)) ?_; (with_reducible refine (lex_Tokens.calls k (⟨#[97, 39, 98, 32, 99, 39, 34, 100, 34, 62, 101]⟩ : ByteArray) t128 t129 _ A1.out).mono ?_); rintro e w6 ⟨v130, rfl, ho0, hb⟩; refine ⟨_, rfl, ?_⟩; have n0_ := Aside0.mk (Kd.R_lower ho0 (below_size (by repeat (first | (with_reducible first | exact HB.out | apply below_alloc | apply pw_below_drewN | apply below_drew1) | exact HB.out)))); have n1_ := Aside0.mk (below_step (by repeat (first | (with_reducible first | exact HB.out | apply below_alloc | apply pw_below_drewN | apply below_drew1) | exact HB.out)) hb); clear HB; have HO131 := n0_; have HB := n1_; clear n0_ n1_; (try clear hb); (try clear hb2); (try clear hk); (try clear hi); (try clear ho0); obtain ⟨Ao7, co7, eo7⟩ := Kd.R_slice HO131.out; subst eo7) | (go_at_call 17; (with_reducible refine (flatironlaw05_of.calls k _ _ t128 t132 _ ?side1 ?side2 A3.out).mono ?_); (case side1 => repeat (first | exact (Kd.R_reads' HO131.out).2.2 | (with_reducible refine Kd.C_alloc ?_ _) | (with_reducible refine Kd.C_drewN ?_ _) | (with_reducible refine Kd.C_drew ?_))); (case side2 => exact (Kd.R_reads' HO131.out).2.1); rintro e w8 ⟨v133, rfl, ho0, hb⟩; have n0_ := Aside0.mk (Kd.R_below (by (with_reducible repeat (first | apply Kd.R_alloc | apply Kd.R_drewN | apply Kd.R_drew)); (first | exact HO131.out | (first | refine Kd.R_mono HO131.out (fun _ hk => ?_) | refine Kd.S_mono HO131.out (fun _ hk => ?_) | refine Kd.Q_mono HO131.out (fun _ hk => ?_)); simp only [ownBlock_slice] at hk ⊢; exact hk)) hb); have n1_ := Aside0.mk (Kd.R_lower ho0 (below_size (by repeat (first | (with_reducible first | exact HB.out | apply below_alloc | apply pw_below_drewN | apply below_drew1) | exact HB.out)))); have n2_ := Aside0.mk (below_step (by repeat (first | (with_reducible first | exact HB.out | apply below_alloc | apply pw_below_drewN | apply below_drew1) | exact HB.out)) hb); clear HO131; clear HB; have HO131 := n0_; have HO134 := n1_; have HB := n2_; clear n0_ n1_ n2_; (try clear hb); (try clear hb2); (try clear hk); (try clear hi); (try clear ho0)) | ((with_reducible refine gate_dst (N := 15) rfl ?_); (try (refine gate_guard (by rfl) ?_; dsimp only)); refine Kd.R_lit k78 _ 78 ?hg (N := 15) ?hd (xs := ([(⟨0, (⟨#[97, 98, 32, 99, 100]⟩ : ByteArray)⟩ : S78), (⟨4, (⟨#[]⟩ : ByteArray)⟩ : S78), (⟨0, (⟨#[101]⟩ : ByteArray)⟩ : S78)] : List (S78))) (inner := [.int .i64 0, .string (⟨#[97, 98, 32, 99, 100]⟩ : ByteArray), .int .i64 4, .string (⟨#[]⟩ : ByteArray), .int .i64 0, .string (⟨#[101]⟩ : ByteArray)]) (ok := fun _ => True) (okp := fun _ => True) ?hr ?hp (fun _ hk => hk) trivial (Below.refl _ _) (Nat.le_refl _) (by simp) ?_; (case hd => rfl); (case hg => rfl); (case hr => first | (go_simp; done) | (go_simp; rfl)); (case hp => exact (Reps.c2 (show Kd.M k78 _ _ _ (⟨0, (⟨#[97, 98, 32, 99, 100]⟩ : ByteArray)⟩ : S78) [.int .i64 0, .string (⟨#[97, 98, 32, 99, 100]⟩ : ByteArray)] from (k78_mkM _ _ _ (⟨0, (⟨#[97, 98, 32, 99, 100]⟩ : ByteArray)⟩ : S78) )) (Reps.c2 (show Kd.M k78 _ _ _ (⟨4, (⟨#[]⟩ : ByteArray)⟩ : S78) [.int .i64 4, .string (⟨#[]⟩ : ByteArray)] from (k78_mkM _ _ _ (⟨4, (⟨#[]⟩ : ByteArray)⟩ : S78) )) (Reps.c2 (show Kd.M k78 _ _ _ (⟨0, (⟨#[101]⟩ : ByteArray)⟩ : S78) [.int .i64 0, .string (⟨#[101]⟩ : ByteArray)] from (k78_mkM _ _ _ (⟨0, (⟨#[101]⟩ : ByteArray)⟩ : S78) )) (Reps.none _ _))))); intro v136 w9 ho10 hb hg_ hnew_; clear hg_ hnew_; (first | rw [← Ny135.out] at ho10 | (simp only [Int.reduceToNat] at ho10; rw [← Ny135.out] at ho10)); have n0_ := Aside0.mk (Kd.R_below (by (with_reducible repeat (first | apply Kd.R_alloc | apply Kd.R_drewN | apply Kd.R_drew)); (first | exact HO131.out | (first | refine Kd.R_mono HO131.out (fun _ hk => ?_) | refine Kd.S_mono HO131.out (fun _ hk => ?_) | refine Kd.Q_mono HO131.out (fun _ hk => ?_)); simp only [ownBlock_slice] at hk ⊢; exact hk)) hb); have n1_ := Aside0.mk (Kd.R_elder' (by (with_reducible repeat (first | apply Kd.R_alloc | apply Kd.R_drewN | apply Kd.R_drew)); (first | exact HO134.out | (first | refine Kd.R_mono HO134.out (fun _ hk => ?_) | refine Kd.S_mono HO134.out (fun _ hk => ?_) | refine Kd.Q_mono HO134.out (fun _ hk => ?_)); simp only [ownBlock_slice] at hk ⊢; exact hk)) (Kd.R_base ho10) hb); have n2_ := Aside0.mk (Kd.R_lower (Kd.R_new' ho10 (Kd.R_lt (by (with_reducible repeat (first | apply Kd.R_alloc | apply Kd.R_drewN | apply Kd.R_drew)); (first | exact HO134.out | (first | refine Kd.R_mono HO134.out (fun _ hk => ?_) | refine Kd.S_mono HO134.out (fun _ hk => ?_) | refine Kd.Q_mono HO134.out (fun _ hk => ?_)); simp only [ownBlock_slice] at hk ⊢; exact hk)))) (below_size (by repeat (first | (with_reducible first | exact HB.out | apply below_alloc | apply pw_below_drewN | apply below_drew1) | exact HB.out)))); have n3_ := Aside0.mk (below_step (by repeat (first | (with_reducible first | exact HB.out | apply below_alloc | apply pw_below_drewN | apply below_drew1) | exact HB.out)) hb); clear HO131; clear HO134; clear HB; have HO131 := n0_; have HO134 := n1_; have HO137 := n2_; have HB := n3_; clear n0_ n1_ n2_ n3_; clear hb ho10; obtain ⟨Ao11, co11, eo11⟩ := Kd.R_slice HO134.out; subst eo11; obtain ⟨Ao12, co12, eo12⟩ := Kd.R_slice HO137.out; subst eo12) | (go_at_call 16; (with_reducible refine (flatironlaw05_same.calls k _ _ t132 _ _ y135 true _ ?side1 ?side2 ?side3 ?side4 A4.out).mono ?_); (case side1 => repeat (first | exact (Kd.R_reads' HO134.out).2.2 | (with_reducible refine Kd.C_alloc ?_ _) | (with_reducible refine Kd.C_drewN ?_ _) | (with_reducible refine Kd.C_drew ?_))); (case side2 => exact (Kd.R_reads' HO134.out).2.1); (case side3 => repeat (first | exact (Kd.R_reads' HO137.out).2.2 | (with_reducible refine Kd.C_alloc ?_ _) | (with_reducible refine Kd.C_drewN ?_ _) | (with_reducible refine Kd.C_drew ?_))); (case side4 => exact (Kd.R_reads' HO137.out).2.1); rintro e w' ⟨rfl, ⟨nd, rfl⟩⟩))
      go_ret
      exact ⟨by first | rfl | (simp [errW_none, errW_some] <;> rfl) | (simp [*, errW_none, errW_some] <;> rfl), by repeat (first | (with_reducible first | exact HB.out | apply below_alloc | apply pw_below_drewN | apply below_drew1) | exact HB.out)⟩
    · replace c5 := Bool.eq_false_iff.mpr c5
      subst c5
      have H1 : (some false) = some r := by rw [if_neg (show ¬ (false = true) by decide)] at H; exact H
      clear H
      have H := H1
      clear H1
      obtain rfl := Option.some.inj H
      go_enter Tryd.func12, Tryd.ntmps12
      go_wp2_with (first | ((with_reducible refine gate_callee (f := 13) rfl ?_); refine goesL_ (some 4) rfl rfl Tryd.func13 (by kernel_rfl) rfl #[.string (⟨#[97, 39, 98, 32, 99, 39, 34, 100, 34, 62, 101]⟩ : ByteArray)] rfl (by (try simp only [List.map_toArray, List.map_cons, List.map_nil]); first | done | rfl | (simp only [List.length_drop, List.length_take]; rfl)) ?_; (with_reducible refine (lex_Tokens.calls k (⟨#[97, 39, 98, 32, 99, 39, 34, 100, 34, 62, 101]⟩ : ByteArray) t128 t129 _ A1.out).mono ?_); rintro e w13 ⟨v130, rfl, ho0, hb⟩; refine ⟨_, rfl, ?_⟩; have n0_ := Aside0.mk (Kd.R_lower ho0 (below_size (by repeat (first | (with_reducible first | exact HB.out | apply below_alloc | apply pw_below_drewN | apply below_drew1) | exact HB.out)))); have n1_ := Aside0.mk (below_step (by repeat (first | (with_reducible first | exact HB.out | apply below_alloc | apply pw_below_drewN | apply below_drew1) | exact HB.out)) hb); clear HB; have HO131 := n0_; have HB := n1_; clear n0_ n1_; (try clear hb); (try clear hb2); (try clear hk); (try clear hi); (try clear ho0); obtain ⟨Ao14, co14, eo14⟩ := Kd.R_slice HO131.out; subst eo14) | (go_at_call 17; (with_reducible refine (flatironlaw05_of.calls k _ _ t128 t132 _ ?side1 ?side2 A3.out).mono ?_); (case side1 => repeat (first | exact (Kd.R_reads' HO131.out).2.2 | (with_reducible refine Kd.C_alloc ?_ _) | (with_reducible refine Kd.C_drewN ?_ _) | (with_reducible refine Kd.C_drew ?_))); (case side2 => exact (Kd.R_reads' HO131.out).2.1); rintro e w15 ⟨v133, rfl, ho0, hb⟩; have n0_ := Aside0.mk (Kd.R_below (by (with_reducible repeat (first | apply Kd.R_alloc | apply Kd.R_drewN | apply Kd.R_drew)); (first | exact HO131.out | (first | refine Kd.R_mono HO131.out (fun _ hk => ?_) | refine Kd.S_mono HO131.out (fun _ hk => ?_) | refine Kd.Q_mono HO131.out (fun _ hk => ?_)); simp only [ownBlock_slice] at hk ⊢; exact hk)) hb); have n1_ := Aside0.mk (Kd.R_lower ho0 (below_size (by repeat (first | (with_reducible first | exact HB.out | apply below_alloc | apply pw_below_drewN | apply below_drew1) | exact HB.out)))); have n2_ := Aside0.mk (below_step (by repeat (first | (with_reducible first | exact HB.out | apply below_alloc | apply pw_below_drewN | apply below_drew1) | exact HB.out)) hb); clear HO131; clear HB; have HO131 := n0_; have HO134 := n1_; have HB := n2_; clear n0_ n1_ n2_; (try clear hb); (try clear hb2); (try clear hk); (try clear hi); (try clear ho0)) | ((with_reducible refine gate_dst (N := 15) rfl ?_); (try (refine gate_guard (by rfl) ?_; dsimp only)); refine Kd.R_lit k78 _ 78 ?hg (N := 15) ?hd (xs := ([(⟨0, (⟨#[97, 98, 32, 99, 100]⟩ : ByteArray)⟩ : S78), (⟨4, (⟨#[]⟩ : ByteArray)⟩ : S78), (⟨0, (⟨#[101]⟩ : ByteArray)⟩ : S78)] : List (S78))) (inner := [.int .i64 0, .string (⟨#[97, 98, 32, 99, 100]⟩ : ByteArray), .int .i64 4, .string (⟨#[]⟩ : ByteArray), .int .i64 0, .string (⟨#[101]⟩ : ByteArray)]) (ok := fun _ => True) (okp := fun _ => True) ?hr ?hp (fun _ hk => hk) trivial (Below.refl _ _) (Nat.le_refl _) (by simp) ?_; (case hd => rfl); (case hg => rfl); (case hr => first | (go_simp; done) | (go_simp; rfl)); (case hp => exact (Reps.c2 (show Kd.M k78 _ _ _ (⟨0, (⟨#[97, 98, 32, 99, 100]⟩ : ByteArray)⟩ : S78) [.int .i64 0, .string (⟨#[97, 98, 32, 99, 100]⟩ : ByteArray)] from (k78_mkM _ _ _ (⟨0, (⟨#[97, 98, 32, 99, 100]⟩ : ByteArray)⟩ : S78) )) (Reps.c2 (show Kd.M k78 _ _ _ (⟨4, (⟨#[]⟩ : ByteArray)⟩ : S78) [.int .i64 4, .string (⟨#[]⟩ : ByteArray)] from (k78_mkM _ _ _ (⟨4, (⟨#[]⟩ : ByteArray)⟩ : S78) )) (Reps.c2 (show Kd.M k78 _ _ _ (⟨0, (⟨#[101]⟩ : ByteArray)⟩ : S78) [.int .i64 0, .string (⟨#[101]⟩ : ByteArray)] from (k78_mkM _ _ _ (⟨0, (⟨#[101]⟩ : ByteArray)⟩ : S78) )) (Reps.none _ _))))); intro v136 w16 ho17 hb hg_ hnew_; clear hg_ hnew_; (first | rw [← Ny135.out] at ho17 | (simp only [Int.reduceToNat] at ho17; rw [← Ny135.out] at ho17)); have n0_ := Aside0.mk (Kd.R_below (by (with_reducible repeat (first | apply Kd.R_alloc | apply Kd.R_drewN | apply Kd.R_drew)); (first | exact HO131.out | (first | refine Kd.R_mono HO131.out (fun _ hk => ?_) | refine Kd.S_mono HO131.out (fun _ hk => ?_) | refine Kd.Q_mono HO131.out (fun _ hk => ?_)); simp only [ownBlock_slice] at hk ⊢; exact hk)) hb); have n1_ := Aside0.mk (Kd.R_elder' (by (with_reducible repeat (first | apply Kd.R_alloc | apply Kd.R_drewN | apply Kd.R_drew)); (first | exact HO134.out | (first | refine Kd.R_mono HO134.out (fun _ hk => ?_) | refine Kd.S_mono HO134.out (fun _ hk => ?_) | refine Kd.Q_mono HO134.out (fun _ hk => ?_)); simp only [ownBlock_slice] at hk ⊢; exact hk)) (Kd.R_base ho17) hb); have n2_ := Aside0.mk (Kd.R_lower (Kd.R_new' ho17 (Kd.R_lt (by (with_reducible repeat (first | apply Kd.R_alloc | apply Kd.R_drewN | apply Kd.R_drew)); (first | exact HO134.out | (first | refine Kd.R_mono HO134.out (fun _ hk => ?_) | refine Kd.S_mono HO134.out (fun _ hk => ?_) | refine Kd.Q_mono HO134.out (fun _ hk => ?_)); simp only [ownBlock_slice] at hk ⊢; exact hk)))) (below_size (by repeat (first | (with_reducible first | exact HB.out | apply below_alloc | apply pw_below_drewN | apply below_drew1) | exact HB.out)))); have n3_ := Aside0.mk (below_step (by repeat (first | (with_reducible first | exact HB.out | apply below_alloc | apply pw_below_drewN | apply below_drew1) | exact HB.out)) hb); clear HO131; clear HO134; clear HB; have HO131 := n0_; have HO134 := n1_; have HO137 := n2_; have HB := n3_; clear n0_ n1_ n2_ n3_; clear hb ho17; obtain ⟨Ao18, co18, eo18⟩ := Kd.R_slice HO134.out; subst eo18; obtain ⟨Ao19, co19, eo19⟩ := Kd.R_slice HO137.out; subst eo19) | (go_at_call 16; (with_reducible refine (flatironlaw05_same.calls k _ _ t132 _ _ y135 false _ ?side1 ?side2 ?side3 ?side4 A4.out).mono ?_); (case side1 => repeat (first | exact (Kd.R_reads' HO134.out).2.2 | (with_reducible refine Kd.C_alloc ?_ _) | (with_reducible refine Kd.C_drewN ?_ _) | (with_reducible refine Kd.C_drew ?_))); (case side2 => exact (Kd.R_reads' HO134.out).2.1); (case side3 => repeat (first | exact (Kd.R_reads' HO137.out).2.2 | (with_reducible refine Kd.C_alloc ?_ _) | (with_reducible refine Kd.C_drewN ?_ _) | (with_reducible refine Kd.C_drew ?_))); (case side4 => exact (Kd.R_reads' HO137.out).2.1); rintro e w' ⟨rfl, ⟨nd, rfl⟩⟩))
      go_ret
      exact ⟨by first | rfl | (simp [errW_none, errW_some] <;> rfl) | (simp [*, errW_none, errW_some] <;> rfl), by repeat (first | (with_reducible first | exact HB.out | apply below_alloc | apply pw_below_drewN | apply below_drew1) | exact HB.out)⟩
  · rw [if_neg c2] at H
    have c2b0 : (t129 == 0) = false := beq_eq_false_iff_ne.mpr c2
    have c2b1 : (t129 != 0) = true := bne_iff_ne.mpr c2
    obtain rfl := Option.some.inj H
    go_enter Tryd.func12, Tryd.ntmps12
    go_wp2_with (first | ((with_reducible refine gate_callee (f := 13) rfl ?_); refine goesL_ (some 4) rfl rfl Tryd.func13 (by kernel_rfl) rfl #[.string (⟨#[97, 39, 98, 32, 99, 39, 34, 100, 34, 62, 101]⟩ : ByteArray)] rfl (by (try simp only [List.map_toArray, List.map_cons, List.map_nil]); first | done | rfl | (simp only [List.length_drop, List.length_take]; rfl)) ?_; (with_reducible refine (lex_Tokens.calls k (⟨#[97, 39, 98, 32, 99, 39, 34, 100, 34, 62, 101]⟩ : ByteArray) t128 t129 _ A1.out).mono ?_); rintro e w20 ⟨v130, rfl, ho0, hb⟩; refine ⟨_, rfl, ?_⟩; have n0_ := Aside0.mk (Kd.R_lower ho0 (below_size (by repeat (first | (with_reducible first | exact HB.out | apply below_alloc | apply pw_below_drewN | apply below_drew1) | exact HB.out)))); have n1_ := Aside0.mk (below_step (by repeat (first | (with_reducible first | exact HB.out | apply below_alloc | apply pw_below_drewN | apply below_drew1) | exact HB.out)) hb); clear HB; have HO131 := n0_; have HB := n1_; clear n0_ n1_; (try clear hb); (try clear hb2); (try clear hk); (try clear hi); (try clear ho0)))
    go_ret
    exact ⟨by first | rfl | (simp [errW_none, errW_some] <;> rfl) | (simp [*, errW_none, errW_some] <;> rfl), by repeat (first | (with_reducible first | exact HB.out | apply below_alloc | apply pw_below_drewN | apply below_drew1) | exact HB.out)⟩

/-! ### flatironref05_has: function 51 -/
def flatironref05_has.l0 : Nat → ByteArray → Int → Int → Option (Bool)
  | 0, _, _, _ => none
  | k + 1, x0, x1, x5 => if x5 < (x0.size : Int) then (if 0 ≤ x5 then (if (bt x0 x5) = x1 then (some true) else (flatironref05_has.l0 k x0 x1 (wrap64 (x5 + 1)))) else (none)) else (some false)
def flatironref05_has.f (k : Nat) (a0 : ByteArray) (a1 : Int) : Option (Bool) := flatironref05_has.l0 k a0 a1 0
theorem flatironref05_has.mono_l : ∀ k, (∀ y0 y1 y2, LeO (flatironref05_has.l0 k y0 y1 y2) (flatironref05_has.l0 (k + 1) y0 y1 y2))
  | 0 => fun _ _ _ r h => by simp [flatironref05_has.l0] at h
  | k + 1 => by
    have ih0 := flatironref05_has.mono_l k
    · intro y0 y1 y2
      unfold flatironref05_has.l0
      repeat' first
      | (with_reducible exact ih0 _ _ _)
      | (with_reducible exact LeO.refl _)
      | (with_reducible exact LeO.none _)
      | (with_reducible refine LeO.ite ?_ ?_)
      | (with_reducible refine LeO.bind ?_ (fun _ => ?_))
      | exact ih0 _ _ _
      | exact LeO.none _
      | refine LeO.ite ?_ ?_
      | refine LeO.bind ?_ (fun _ => ?_)
theorem flatironref05_has.mono : ∀ a0 a1 k, LeO (flatironref05_has.f k a0 a1) (flatironref05_has.f (k + 1) a0 a1) := by
  intro a0 a1 k
  have ih0 := flatironref05_has.mono_l k
  unfold flatironref05_has.f
  repeat' first
      | (with_reducible exact ih0 _ _ _)
      | (with_reducible exact LeO.refl _)
      | (with_reducible exact LeO.none _)
      | (with_reducible refine LeO.ite ?_ ?_)
      | (with_reducible refine LeO.bind ?_ (fun _ => ?_))
      | exact ih0 _ _ _
      | exact LeO.none _
      | refine LeO.ite ?_ ?_
      | refine LeO.bind ?_ (fun _ => ?_)
set_option maxHeartbeats 8000000 in
set_option maxRecDepth 100000 in
theorem flatironref05_has.calls (k : Nat) (a0 : ByteArray) (a1 : Int) (r : Bool) (w : World) (h : flatironref05_has.f k a0 a1 = some r) :
    Calls Tryd.prog 51 #[.string a0, .int .u8 a1] w fun e w' => e = .returned (.bool r) ∧ Drawn0 w w' := by
  have H : (flatironref05_has.l0 k a0 a1 0) = some r := h
  clear h
  have H' := Aside0.mk H
  clear H
  go_enter Tryd.func51, Tryd.ntmps51
  go_wp2
  go_loopg [5] k (fun kq v5 w' => ∃ (x5_1 : Int), v5 = .int .i64 x5_1 ∧ Aside0 (flatironref05_has.l0 kq a0 a1 x5_1 = some r) ∧ Aside0 (kq ≤ k) ∧ Drawn0 w w')
  case atStart => exact ⟨(0), (by first | rfl | (simp; done) | (simp [*]; done)), H', ⟨Nat.le_refl _⟩, by repeat (first | exact Drawn0.refl _ | apply Drawn0.step)⟩
  case round =>
    clear H'
    try clear p2
    obtain ⟨x5_1, rfl, HA, HK1, ⟨m1, rfl⟩⟩ := hrel
    cases gk with
    | zero => exact absurd HA.out (by simp [flatironref05_has.l0])
    | succ k1 =>
      have H := HA.out
      clear HA
      simp only [flatironref05_has.l0] at H
      by_cases c3 : x5_1 < (a0.size : Int)
      · rw [if_pos c3] at H
        have c3b0 : decide (x5_1 < (a0.size : Int)) = true := decide_eq_true c3
        clear c3
        by_cases c4 : 0 ≤ x5_1
        · rw [if_pos c4] at H
          have c4b0 : decide (0 ≤ x5_1) = true := decide_eq_true c4
          clear c4
          by_cases c6 : (bt a0 x5_1) = a1
          · rw [if_pos c6] at H
            have c6b0 : ((bt a0 x5_1) == a1) = true := beq_iff_eq.mpr c6
            have c6b1 : ((bt a0 x5_1) != a1) = false := bne_eq_false_iff_eq.mpr c6
            clear c6
            obtain rfl := Option.some.inj H
            have p5 : 0 ≤ (x5_1 : Int) := of_decide_eq_true (by first | (with_reducible assumption) | assumption)
            have q5 : x5_1 < (a0.size : Int) := of_decide_eq_true (by first | (with_reducible assumption) | assumption)
            have hx5 := bt_at a0 x5_1
            replace p5 := eq_true p5
            replace q5 := eq_true q5
            go_wp2
            go_ret
            exact ⟨by first | rfl | (simp; done) | (simp [*]; done), by repeat (first | exact Drawn0.refl _ | apply Drawn0.step)⟩
          · rw [if_neg c6] at H
            have c6b0 : ((bt a0 x5_1) == a1) = false := beq_eq_false_iff_ne.mpr c6
            have c6b1 : ((bt a0 x5_1) != a1) = true := bne_iff_ne.mpr c6
            have H' := Aside0.mk H
            clear H
            have p5 : 0 ≤ (x5_1 : Int) := of_decide_eq_true (by first | (with_reducible assumption) | assumption)
            have q5 : x5_1 < (a0.size : Int) := of_decide_eq_true (by first | (with_reducible assumption) | assumption)
            have hx5 := bt_at a0 x5_1
            replace p5 := eq_true p5
            replace q5 := eq_true q5
            go_wp2
            go_roundg k1
            case measure => have := HK1.out; omega
            case rel => exact ⟨(wrap64 (x5_1 + 1)), (by first | rfl | (simp; done) | (simp [*]; done)), H', ⟨by have := HK1.out; omega⟩, by repeat (first | exact Drawn0.refl _ | apply Drawn0.step)⟩
        · rw [if_neg c4] at H
          exact absurd H (by simp)
      · rw [if_neg c3] at H
        have c3b0 : decide (x5_1 < (a0.size : Int)) = false := decide_eq_false c3
        clear c3
        obtain rfl := Option.some.inj H
        go_wp2
        go_ret
        exact ⟨by first | rfl | (simp; done) | (simp [*]; done), by repeat (first | exact Drawn0.refl _ | apply Drawn0.step)⟩

/-! ### flatironref05_Marks: function 53 -/
def flatironref05_Marks.f  : Option (List ByteArray) := some (([(⟨#[59]⟩ : ByteArray), (⟨#[38, 38]⟩ : ByteArray), (⟨#[124, 124]⟩ : ByteArray), (⟨#[62]⟩ : ByteArray), (⟨#[62, 62]⟩ : ByteArray), (⟨#[60]⟩ : ByteArray)] : List ByteArray))
set_option maxHeartbeats 8000000 in
set_option maxRecDepth 100000 in
theorem flatironref05_Marks.calls  (r : List ByteArray) (w : World) (h : flatironref05_Marks.f  = some r) :
    Calls Tryd.prog 53 #[] w fun e w' => ∃ v0_ : Value, e = .returned (v0_) ∧ Kd.R Kd.string 9 w' w.heap.size (fun _ => True) v0_ r ∧ Below w.heap.size w w' := by
  have HB := Aside0.mk (Below.refl w.heap.size w)
  have H : (some (([(⟨#[59]⟩ : ByteArray), (⟨#[38, 38]⟩ : ByteArray), (⟨#[124, 124]⟩ : ByteArray), (⟨#[62]⟩ : ByteArray), (⟨#[62, 62]⟩ : ByteArray), (⟨#[60]⟩ : ByteArray)] : List ByteArray))) = some r := h
  clear h
  obtain ⟨y139, hy139⟩ : ∃ y_ : List ByteArray, y_ = (([(⟨#[59]⟩ : ByteArray), (⟨#[38, 38]⟩ : ByteArray), (⟨#[124, 124]⟩ : ByteArray), (⟨#[62]⟩ : ByteArray), (⟨#[62, 62]⟩ : ByteArray), (⟨#[60]⟩ : ByteArray)] : List ByteArray)) := ⟨_, rfl⟩
  replace H : (some y139) = some r := by first | (rw [hy139]; with_reducible exact H) | (have H2_ := (Option.bind_some _ _).symm.trans H; rw [hy139]; with_reducible exact H2_) | (have H2_ := (Option.bind_some _ _).symm.trans H; with_reducible exact H2_) | with_reducible exact H | (rw [hy139]; exact H) | exact H
  have Ny139 := Aside0.mk hy139
  clear hy139
  obtain rfl := Option.some.inj H
  go_enter Tryd.func53, Tryd.ntmps53
  go_wp2_with (first | ((with_reducible refine gate_dst (N := 1) rfl ?_); refine Kd.R_lit Kd.string _ 9 ?hg (N := 1) ?hd (xs := ([(⟨#[59]⟩ : ByteArray), (⟨#[38, 38]⟩ : ByteArray), (⟨#[124, 124]⟩ : ByteArray), (⟨#[62]⟩ : ByteArray), (⟨#[62, 62]⟩ : ByteArray), (⟨#[60]⟩ : ByteArray)] : List ByteArray)) (inner := [.string (⟨#[59]⟩ : ByteArray), .string (⟨#[38, 38]⟩ : ByteArray), .string (⟨#[124, 124]⟩ : ByteArray), .string (⟨#[62]⟩ : ByteArray), .string (⟨#[62, 62]⟩ : ByteArray), .string (⟨#[60]⟩ : ByteArray)]) (ok := fun _ => True) (okp := fun _ => True) ?hr ?hp (fun _ hk => hk) trivial (Below.refl _ _) (Nat.le_refl _) (by simp) ?_; (case hd => rfl); (case hg => rfl); (case hr => first | (go_simp; done) | (go_simp; rfl)); (case hp => exact (Reps.one (show Kd.M Kd.string _ _ _ (⟨#[59]⟩ : ByteArray) [.string (⟨#[59]⟩ : ByteArray)] from rfl) (Reps.one (show Kd.M Kd.string _ _ _ (⟨#[38, 38]⟩ : ByteArray) [.string (⟨#[38, 38]⟩ : ByteArray)] from rfl) (Reps.one (show Kd.M Kd.string _ _ _ (⟨#[124, 124]⟩ : ByteArray) [.string (⟨#[124, 124]⟩ : ByteArray)] from rfl) (Reps.one (show Kd.M Kd.string _ _ _ (⟨#[62]⟩ : ByteArray) [.string (⟨#[62]⟩ : ByteArray)] from rfl) (Reps.one (show Kd.M Kd.string _ _ _ (⟨#[62, 62]⟩ : ByteArray) [.string (⟨#[62, 62]⟩ : ByteArray)] from rfl) (Reps.one (show Kd.M Kd.string _ _ _ (⟨#[60]⟩ : ByteArray) [.string (⟨#[60]⟩ : ByteArray)] from rfl) (Reps.none _ _)))))))); intro v140 w1 ho2 hb hg_ hnew_; clear hg_ hnew_; (first | rw [← Ny139.out] at ho2 | (simp only [Int.reduceToNat] at ho2; rw [← Ny139.out] at ho2)); have n0_ := Aside0.mk (Kd.R_lower ho2 (below_size (by repeat (first | (with_reducible first | exact HB.out | apply below_alloc | apply pw_below_drewN | apply below_drew1) | exact HB.out)))); have n1_ := Aside0.mk (below_step (by repeat (first | (with_reducible first | exact HB.out | apply below_alloc | apply pw_below_drewN | apply below_drew1) | exact HB.out)) hb); clear HB; have HO141 := n0_; have HB := n1_; clear n0_ n1_; clear hb ho2))
  go_ret
  exact ⟨_, by first | rfl | (simp [errW_none, errW_some] <;> rfl) | (simp [*, errW_none, errW_some] <;> rfl), by (with_reducible repeat (first | apply Kd.R_alloc | apply Kd.R_drewN | apply Kd.R_drew)); exact HO141.out, by repeat (first | (with_reducible first | exact HB.out | apply below_alloc | apply pw_below_drewN | apply below_drew1) | exact HB.out)⟩

/-! ### flatironref05_mark: function 52 -/
def flatironref05_mark.l0 : Nat → ByteArray → List ByteArray → Int → Int → Option (Int)
  | 0, _, _, _, _ => none
  | k + 1, x0, x3, x4, x5 => if x5 < (x3.length : Int) then (if 0 ≤ x5 then (if (x0.size : Int) ≥ ((rdOf ByteArray.empty x3 x5).size : Int) then (if 0 ≤ ((rdOf ByteArray.empty x3 x5).size : Int) then (if ((rdOf ByteArray.empty x3 x5).size : Int) ≤ (x0.size : Int) then (if (x0.extract 0 (((rdOf ByteArray.empty x3 x5).size : Int) : Int).toNat).toList = (rdOf ByteArray.empty x3 x5).toList then (if x4 = 0 then (flatironref05_mark.l0 k x0 x3 (wrap64 (x5 + 1)) (wrap64 (x5 + 1))) else (if 0 ≤ (wrap64 (x4 - 1)) then (if (wrap64 (x4 - 1)) < (x3.length : Int) then (if ((rdOf ByteArray.empty x3 x5).size : Int) > ((rdOf ByteArray.empty x3 (wrap64 (x4 - 1))).size : Int) then (flatironref05_mark.l0 k x0 x3 (wrap64 (x5 + 1)) (wrap64 (x5 + 1))) else (flatironref05_mark.l0 k x0 x3 x4 (wrap64 (x5 + 1)))) else (none)) else (none))) else (flatironref05_mark.l0 k x0 x3 x4 (wrap64 (x5 + 1)))) else (none)) else (none)) else (flatironref05_mark.l0 k x0 x3 x4 (wrap64 (x5 + 1)))) else (none)) else (some x4)
def flatironref05_mark.f (k : Nat) (a0 : ByteArray) : Option (Int) := (flatironref05_Marks.f).bind fun t142 => (flatironref05_mark.l0 k a0 t142 0 0)
theorem flatironref05_mark.mono_l : ∀ k, (∀ y0 y1 y2 y3, LeO (flatironref05_mark.l0 k y0 y1 y2 y3) (flatironref05_mark.l0 (k + 1) y0 y1 y2 y3))
  | 0 => fun _ _ _ _ r h => by simp [flatironref05_mark.l0] at h
  | k + 1 => by
    have ih0 := flatironref05_mark.mono_l k
    · intro y0 y1 y2 y3
      unfold flatironref05_mark.l0
      repeat' first
      | (with_reducible exact ih0 _ _ _ _)
      | (with_reducible exact LeO.refl _)
      | (with_reducible exact LeO.none _)
      | (with_reducible refine LeO.ite ?_ ?_)
      | (with_reducible refine LeO.bind ?_ (fun _ => ?_))
      | exact ih0 _ _ _ _
      | exact LeO.none _
      | refine LeO.ite ?_ ?_
      | refine LeO.bind ?_ (fun _ => ?_)
theorem flatironref05_mark.mono : ∀ a0 k, LeO (flatironref05_mark.f k a0) (flatironref05_mark.f (k + 1) a0) := by
  intro a0 k
  have ih0 := flatironref05_mark.mono_l k
  unfold flatironref05_mark.f
  repeat' first
      | (with_reducible exact ih0 _ _ _ _)
      | (with_reducible exact LeO.refl _)
      | (with_reducible exact LeO.none _)
      | (with_reducible refine LeO.ite ?_ ?_)
      | (with_reducible refine LeO.bind ?_ (fun _ => ?_))
      | exact ih0 _ _ _ _
      | exact LeO.none _
      | refine LeO.ite ?_ ?_
      | refine LeO.bind ?_ (fun _ => ?_)
set_option maxHeartbeats 8000000 in
set_option maxRecDepth 100000 in
theorem flatironref05_mark.calls (k : Nat) (a0 : ByteArray) (r : Int) (w : World) (h : flatironref05_mark.f k a0 = some r) :
    Calls Tryd.prog 52 #[.string a0] w fun e w' => e = .returned (.int .i64 r) ∧ Below w.heap.size w w' := by
  have HB := Aside0.mk (Below.refl w.heap.size w)
  have H : ((flatironref05_Marks.f).bind fun t142 => (flatironref05_mark.l0 k a0 t142 0 0)) = some r := h
  clear h
  replace H := Option.bind_eq_some_iff.mp H
  obtain ⟨t142, A20, H⟩ := H
  replace H : (flatironref05_mark.l0 k a0 t142 0 0) = some r := H
  have A2 := Aside0.mk A20
  clear A20
  have H' := Aside0.mk H
  clear H
  go_enter Tryd.func52, Tryd.ntmps52
  go_wp2_with (first | (go_at_call 53; (with_reducible refine (flatironref05_Marks.calls  t142 _ A2.out).mono ?_); rintro e w3 ⟨v143, rfl, ho0, hb⟩; have n0_ := Aside0.mk (Kd.R_lower ho0 (below_size (by repeat (first | (with_reducible first | exact HB.out | apply below_alloc | apply pw_below_drewN | apply below_drew1) | exact HB.out)))); have n1_ := Aside0.mk (below_step (by repeat (first | (with_reducible first | exact HB.out | apply below_alloc | apply pw_below_drewN | apply below_drew1) | exact HB.out)) hb); clear HB; have HO144 := n0_; have HB := n1_; clear n0_ n1_; (try clear hb); (try clear hb2); (try clear hk); (try clear hi); (try clear ho0)))
  repeat (go_quiet (first | (go_at_call 53; (with_reducible refine (flatironref05_Marks.calls  t142 _ A2.out).mono ?_); rintro e w3 ⟨v143, rfl, ho0, hb⟩; have n0_ := Aside0.mk (Kd.R_lower ho0 (below_size (by repeat (first | (with_reducible first | exact HB.out | apply below_alloc | apply pw_below_drewN | apply below_drew1) | exact HB.out)))); have n1_ := Aside0.mk (below_step (by repeat (first | (with_reducible first | exact HB.out | apply below_alloc | apply pw_below_drewN | apply below_drew1) | exact HB.out)) hb); clear HB; have HO144 := n0_; have HB := n1_; clear n0_ n1_; (try clear hb); (try clear hb2); (try clear hk); (try clear hi); (try clear ho0))); try go_wp2_with (first | (go_at_call 53; (with_reducible refine (flatironref05_Marks.calls  t142 _ A2.out).mono ?_); rintro e w3 ⟨v143, rfl, ho0, hb⟩; have n0_ := Aside0.mk (Kd.R_lower ho0 (below_size (by repeat (first | (with_reducible first | exact HB.out | apply below_alloc | apply pw_below_drewN | apply below_drew1) | exact HB.out)))); have n1_ := Aside0.mk (below_step (by repeat (first | (with_reducible first | exact HB.out | apply below_alloc | apply pw_below_drewN | apply below_drew1) | exact HB.out)) hb); clear HB; have HO144 := n0_; have HB := n1_; clear n0_ n1_; (try clear hb); (try clear hb2); (try clear hk); (try clear hi); (try clear ho0))))
  go_loopg [4, 5] k (fun kq v4 v5 w' => ∃ (x4_1 : Int) (x5_1 : Int), v4 = .int .i64 x4_1 ∧ v5 = .int .i64 x5_1 ∧ Aside0 (flatironref05_mark.l0 kq a0 t142 x4_1 x5_1 = some r) ∧ Aside0 (kq ≤ k) ∧ Aside0 (Kd.R Kd.string 9 w' w.heap.size (fun _ => True) v143 t142) ∧ Aside0 (Below w.heap.size w w'))
  case atStart => exact ⟨(0), (0), (by first | rfl | (simp; done) | (simp [*]; done)), (by first | rfl | (simp; done) | (simp [*]; done)), H', ⟨Nat.le_refl _⟩, ⟨by (with_reducible repeat (first | apply Kd.R_alloc | apply Kd.R_drewN | apply Kd.R_drew)); (first | exact HO144.out | (first | refine Kd.R_mono HO144.out (fun _ hk => ?_) | refine Kd.S_mono HO144.out (fun _ hk => ?_) | refine Kd.Q_mono HO144.out (fun _ hk => ?_)); simp only [ownBlock_slice] at hk ⊢; exact hk)⟩, ⟨by repeat (first | (with_reducible first | exact HB.out | apply below_alloc | apply pw_below_drewN | apply below_drew1) | exact HB.out)⟩⟩
  case round =>
    clear H'
    try clear p2
    obtain ⟨x4_1, x5_1, rfl, rfl, HA, HK1, HO_3, HB⟩ := hrel
    cases gk with
    | zero => exact absurd HA.out (by simp [flatironref05_mark.l0])
    | succ k1 =>
      have H := HA.out
      clear HA
      simp only [flatironref05_mark.l0] at H
      by_cases c4 : x5_1 < (t142.length : Int)
      · rw [if_pos c4] at H
        have c4b0 : decide (x5_1 < (t142.length : Int)) = true := decide_eq_true c4
        clear c4
        by_cases c5 : 0 ≤ x5_1
        · rw [if_pos c5] at H
          have c5b0 : decide (0 ≤ x5_1) = true := decide_eq_true c5
          clear c5
          by_cases c6 : (a0.size : Int) ≥ ((rdOf ByteArray.empty t142 x5_1).size : Int)
          · rw [if_pos c6] at H
            have c6b0 : decide (((rdOf ByteArray.empty t142 x5_1).size : Int) ≤ (a0.size : Int)) = true := decide_eq_true c6
            have c6b1 : decide ((rdOf ByteArray.empty t142 x5_1).size ≤ a0.size) = true := decide_eq_true (Int.ofNat_le.mp c6)
            clear c6
            by_cases c7 : 0 ≤ ((rdOf ByteArray.empty t142 x5_1).size : Int)
            · rw [if_pos c7] at H
              have c7b0 := eq_true c7
              have c7b1 : decide (0 ≤ ((rdOf ByteArray.empty t142 x5_1).size : Int)) = true := decide_eq_true c7
              clear c7
              by_cases c8 : ((rdOf ByteArray.empty t142 x5_1).size : Int) ≤ (a0.size : Int)
              · rw [if_pos c8] at H
                have c8b0 := eq_true c8
                have c8b1 : decide (((rdOf ByteArray.empty t142 x5_1).size : Int) ≤ (a0.size : Int)) = true := decide_eq_true c8
                clear c8
                by_cases c9 : (a0.extract 0 (((rdOf ByteArray.empty t142 x5_1).size : Int) : Int).toNat).toList = (rdOf ByteArray.empty t142 x5_1).toList
                · rw [if_pos c9] at H
                  have c9b0 : ((a0.extract 0 (((rdOf ByteArray.empty t142 x5_1).size : Int) : Int).toNat).toList == (rdOf ByteArray.empty t142 x5_1).toList) = true := beq_iff_eq.mpr c9
                  have c9b0n : ((a0.extract 0 ((rdOf ByteArray.empty t142 x5_1).size)).toList == (rdOf ByteArray.empty t142 x5_1).toList) = true := c9b0
                  have c9b1 : ((a0.extract 0 (((rdOf ByteArray.empty t142 x5_1).size : Int) : Int).toNat).toList != (rdOf ByteArray.empty t142 x5_1).toList) = false := bne_eq_false_iff_eq.mpr c9
                  have c9b1n : ((a0.extract 0 ((rdOf ByteArray.empty t142 x5_1).size)).toList != (rdOf ByteArray.empty t142 x5_1).toList) = false := c9b1
                  clear c9
                  by_cases c10 : x4_1 = 0
                  · rw [if_pos c10] at H
                    have c10b0 : (x4_1 == 0) = true := beq_iff_eq.mpr c10
                    have c10b1 : (x4_1 != 0) = false := bne_eq_false_iff_eq.mpr c10
                    clear c10
                    have H' := Aside0.mk H
                    clear H
                    obtain ⟨Ao11, co11, eo11⟩ := Kd.R_slice HO_3.out
                    subst eo11
                    have p145 : 0 ≤ (x5_1 : Int) := of_decide_eq_true (by first | (with_reducible assumption) | assumption)
                    have q145 : x5_1 < (t142.length : Int) := of_decide_eq_true (by first | (with_reducible assumption) | assumption)
                    obtain ⟨ad145, e145, hx145_0⟩ := Kd.at_string (Kd.R_reads' HO_3.out).2.2 x5_1 p145 q145
                    cases e145
                    replace p145 := eq_true p145
                    replace q145 := eq_true q145
                    have p146 : 0 ≤ (x5_1 : Int) := of_decide_eq_true (by first | (with_reducible assumption) | assumption)
                    have q146 : x5_1 < (t142.length : Int) := of_decide_eq_true (by first | (with_reducible assumption) | assumption)
                    obtain ⟨ad146, e146, hx146_0⟩ := Kd.at_string (Kd.R_reads' HO_3.out).2.2 x5_1 p146 q146
                    obtain rfl : ad145 = ad146 := (by injection e146)
                    replace p146 := eq_true p146
                    replace q146 := eq_true q146
                    go_wp2
                    repeat (go_quiet (fail); try go_wp2)
                    go_roundg k1
                    case measure => have := HK1.out; omega
                    case rel => exact ⟨(wrap64 (x5_1 + 1)), (wrap64 (x5_1 + 1)), (by first | rfl | (simp; done) | (simp [*]; done)), (by first | rfl | (simp; done) | (simp [*]; done)), H', ⟨by have := HK1.out; omega⟩, ⟨by (with_reducible repeat (first | apply Kd.R_alloc | apply Kd.R_drewN | apply Kd.R_drew)); (first | exact HO_3.out | (first | refine Kd.R_mono HO_3.out (fun _ hk => ?_) | refine Kd.S_mono HO_3.out (fun _ hk => ?_) | refine Kd.Q_mono HO_3.out (fun _ hk => ?_)); simp only [ownBlock_slice] at hk ⊢; exact hk)⟩, ⟨by repeat (first | (with_reducible first | exact HB.out | apply below_alloc | apply pw_below_drewN | apply below_drew1) | exact HB.out)⟩⟩
                  · rw [if_neg c10] at H
                    have c10b0 : (x4_1 == 0) = false := beq_eq_false_iff_ne.mpr c10
                    have c10b1 : (x4_1 != 0) = true := bne_iff_ne.mpr c10
                    obtain ⟨ji12, hji12⟩ : ∃ j_ : Int, (wrap64 (x4_1 - 1)) = j_ := ⟨_, rfl⟩
                    replace H : (if 0 ≤ (ji12) then (if (ji12) < (t142.length : Int) then (if ((rdOf ByteArray.empty t142 x5_1).size : Int) > ((rdOf ByteArray.empty t142 (ji12)).size : Int) then (flatironref05_mark.l0 k1 a0 t142 (wrap64 (x5_1 + 1)) (wrap64 (x5_1 + 1))) else (flatironref05_mark.l0 k1 a0 t142 x4_1 (wrap64 (x5_1 + 1)))) else (none)) else (none)) = some r := by first | (rw [hji12] at H; exact H) | (simp only [hji12] at H ⊢; exact H)
                    have hji12w : (IntKind.i64.wrap (x4_1 - 1)) = ji12 := (i64_w _).trans hji12
                    by_cases c13 : 0 ≤ (ji12)
                    · rw [if_pos c13] at H
                      have c13b0 : decide (0 ≤ (ji12)) = true := decide_eq_true c13
                      clear c13
                      by_cases c14 : (ji12) < (t142.length : Int)
                      · rw [if_pos c14] at H
                        have c14b0 : decide ((ji12) < (t142.length : Int)) = true := decide_eq_true c14
                        clear c14
                        by_cases c15 : ((rdOf ByteArray.empty t142 x5_1).size : Int) > ((rdOf ByteArray.empty t142 (ji12)).size : Int)
                        · rw [if_pos c15] at H
                          have c15b0 : decide (((rdOf ByteArray.empty t142 (ji12)).size : Int) < ((rdOf ByteArray.empty t142 x5_1).size : Int)) = true := decide_eq_true c15
                          have c15b1 : decide ((rdOf ByteArray.empty t142 (ji12)).size < (rdOf ByteArray.empty t142 x5_1).size) = true := decide_eq_true (Int.ofNat_lt.mp c15)
                          clear c15
                          have H' := Aside0.mk H
                          clear H
                          obtain ⟨Ao16, co16, eo16⟩ := Kd.R_slice HO_3.out
                          subst eo16
                          have p145 : 0 ≤ (x5_1 : Int) := of_decide_eq_true (by first | (with_reducible assumption) | assumption)
                          have q145 : x5_1 < (t142.length : Int) := of_decide_eq_true (by first | (with_reducible assumption) | assumption)
                          obtain ⟨ad145, e145, hx145_0⟩ := Kd.at_string (Kd.R_reads' HO_3.out).2.2 x5_1 p145 q145
                          cases e145
                          replace p145 := eq_true p145
                          replace q145 := eq_true q145
                          have p146 : 0 ≤ (x5_1 : Int) := of_decide_eq_true (by first | (with_reducible assumption) | assumption)
                          have q146 : x5_1 < (t142.length : Int) := of_decide_eq_true (by first | (with_reducible assumption) | assumption)
                          obtain ⟨ad146, e146, hx146_0⟩ := Kd.at_string (Kd.R_reads' HO_3.out).2.2 x5_1 p146 q146
                          obtain rfl : ad145 = ad146 := (by injection e146)
                          replace p146 := eq_true p146
                          replace q146 := eq_true q146
                          have p147 : 0 ≤ ((ji12) : Int) := of_decide_eq_true (by first | (with_reducible assumption) | assumption)
                          have q147 : (ji12) < (t142.length : Int) := of_decide_eq_true (by first | (with_reducible assumption) | assumption)
                          obtain ⟨ad147, e147, hx147_0⟩ := Kd.at_string (Kd.R_reads' HO_3.out).2.2 (ji12) p147 q147
                          obtain rfl : ad145 = ad147 := (by injection e147)
                          replace p147 := eq_true p147
                          replace q147 := eq_true q147
                          go_wp2
                          repeat (go_quiet (fail); try go_wp2)
                          go_roundg k1
                          case measure => have := HK1.out; omega
                          case rel => exact ⟨(wrap64 (x5_1 + 1)), (wrap64 (x5_1 + 1)), (by first | rfl | (simp; done) | (simp [*]; done)), (by first | rfl | (simp; done) | (simp [*]; done)), H', ⟨by have := HK1.out; omega⟩, ⟨by (with_reducible repeat (first | apply Kd.R_alloc | apply Kd.R_drewN | apply Kd.R_drew)); (first | exact HO_3.out | (first | refine Kd.R_mono HO_3.out (fun _ hk => ?_) | refine Kd.S_mono HO_3.out (fun _ hk => ?_) | refine Kd.Q_mono HO_3.out (fun _ hk => ?_)); simp only [ownBlock_slice] at hk ⊢; exact hk)⟩, ⟨by repeat (first | (with_reducible first | exact HB.out | apply below_alloc | apply pw_below_drewN | apply below_drew1) | exact HB.out)⟩⟩
                        · rw [if_neg c15] at H
                          have c15b0 : decide (((rdOf ByteArray.empty t142 (ji12)).size : Int) < ((rdOf ByteArray.empty t142 x5_1).size : Int)) = false := decide_eq_false c15
                          have c15b1 : decide ((rdOf ByteArray.empty t142 (ji12)).size < (rdOf ByteArray.empty t142 x5_1).size) = false := decide_eq_false (fun h => c15 (Int.ofNat_lt.mpr h))
                          clear c15
                          have H' := Aside0.mk H
                          clear H
                          obtain ⟨Ao17, co17, eo17⟩ := Kd.R_slice HO_3.out
                          subst eo17
                          have p145 : 0 ≤ (x5_1 : Int) := of_decide_eq_true (by first | (with_reducible assumption) | assumption)
                          have q145 : x5_1 < (t142.length : Int) := of_decide_eq_true (by first | (with_reducible assumption) | assumption)
                          obtain ⟨ad145, e145, hx145_0⟩ := Kd.at_string (Kd.R_reads' HO_3.out).2.2 x5_1 p145 q145
                          cases e145
                          replace p145 := eq_true p145
                          replace q145 := eq_true q145
                          have p146 : 0 ≤ (x5_1 : Int) := of_decide_eq_true (by first | (with_reducible assumption) | assumption)
                          have q146 : x5_1 < (t142.length : Int) := of_decide_eq_true (by first | (with_reducible assumption) | assumption)
                          obtain ⟨ad146, e146, hx146_0⟩ := Kd.at_string (Kd.R_reads' HO_3.out).2.2 x5_1 p146 q146
                          obtain rfl : ad145 = ad146 := (by injection e146)
                          replace p146 := eq_true p146
                          replace q146 := eq_true q146
                          have p147 : 0 ≤ ((ji12) : Int) := of_decide_eq_true (by first | (with_reducible assumption) | assumption)
                          have q147 : (ji12) < (t142.length : Int) := of_decide_eq_true (by first | (with_reducible assumption) | assumption)
                          obtain ⟨ad147, e147, hx147_0⟩ := Kd.at_string (Kd.R_reads' HO_3.out).2.2 (ji12) p147 q147
                          obtain rfl : ad145 = ad147 := (by injection e147)
                          replace p147 := eq_true p147
                          replace q147 := eq_true q147
                          go_wp2
                          repeat (go_quiet (fail); try go_wp2)
                          go_roundg k1
                          case measure => have := HK1.out; omega
                          case rel => exact ⟨(x4_1), (wrap64 (x5_1 + 1)), (by first | rfl | (simp; done) | (simp [*]; done)), (by first | rfl | (simp; done) | (simp [*]; done)), H', ⟨by have := HK1.out; omega⟩, ⟨by (with_reducible repeat (first | apply Kd.R_alloc | apply Kd.R_drewN | apply Kd.R_drew)); (first | exact HO_3.out | (first | refine Kd.R_mono HO_3.out (fun _ hk => ?_) | refine Kd.S_mono HO_3.out (fun _ hk => ?_) | refine Kd.Q_mono HO_3.out (fun _ hk => ?_)); simp only [ownBlock_slice] at hk ⊢; exact hk)⟩, ⟨by repeat (first | (with_reducible first | exact HB.out | apply below_alloc | apply pw_below_drewN | apply below_drew1) | exact HB.out)⟩⟩
                      · rw [if_neg c14] at H
                        exact absurd H (by simp)
                    · rw [if_neg c13] at H
                      exact absurd H (by simp)
                · rw [if_neg c9] at H
                  have c9b0 : ((a0.extract 0 (((rdOf ByteArray.empty t142 x5_1).size : Int) : Int).toNat).toList == (rdOf ByteArray.empty t142 x5_1).toList) = false := beq_eq_false_iff_ne.mpr c9
                  have c9b0n : ((a0.extract 0 ((rdOf ByteArray.empty t142 x5_1).size)).toList == (rdOf ByteArray.empty t142 x5_1).toList) = false := c9b0
                  have c9b1 : ((a0.extract 0 (((rdOf ByteArray.empty t142 x5_1).size : Int) : Int).toNat).toList != (rdOf ByteArray.empty t142 x5_1).toList) = true := bne_iff_ne.mpr c9
                  have c9b1n : ((a0.extract 0 ((rdOf ByteArray.empty t142 x5_1).size)).toList != (rdOf ByteArray.empty t142 x5_1).toList) = true := c9b1
                  have H' := Aside0.mk H
                  clear H
                  obtain ⟨Ao18, co18, eo18⟩ := Kd.R_slice HO_3.out
                  subst eo18
                  have p145 : 0 ≤ (x5_1 : Int) := of_decide_eq_true (by first | (with_reducible assumption) | assumption)
                  have q145 : x5_1 < (t142.length : Int) := of_decide_eq_true (by first | (with_reducible assumption) | assumption)
                  obtain ⟨ad145, e145, hx145_0⟩ := Kd.at_string (Kd.R_reads' HO_3.out).2.2 x5_1 p145 q145
                  cases e145
                  replace p145 := eq_true p145
                  replace q145 := eq_true q145
                  have p146 : 0 ≤ (x5_1 : Int) := of_decide_eq_true (by first | (with_reducible assumption) | assumption)
                  have q146 : x5_1 < (t142.length : Int) := of_decide_eq_true (by first | (with_reducible assumption) | assumption)
                  obtain ⟨ad146, e146, hx146_0⟩ := Kd.at_string (Kd.R_reads' HO_3.out).2.2 x5_1 p146 q146
                  obtain rfl : ad145 = ad146 := (by injection e146)
                  replace p146 := eq_true p146
                  replace q146 := eq_true q146
                  go_wp2
                  repeat (go_quiet (fail); try go_wp2)
                  go_roundg k1
                  case measure => have := HK1.out; omega
                  case rel => exact ⟨(x4_1), (wrap64 (x5_1 + 1)), (by first | rfl | (simp; done) | (simp [*]; done)), (by first | rfl | (simp; done) | (simp [*]; done)), H', ⟨by have := HK1.out; omega⟩, ⟨by (with_reducible repeat (first | apply Kd.R_alloc | apply Kd.R_drewN | apply Kd.R_drew)); (first | exact HO_3.out | (first | refine Kd.R_mono HO_3.out (fun _ hk => ?_) | refine Kd.S_mono HO_3.out (fun _ hk => ?_) | refine Kd.Q_mono HO_3.out (fun _ hk => ?_)); simp only [ownBlock_slice] at hk ⊢; exact hk)⟩, ⟨by repeat (first | (with_reducible first | exact HB.out | apply below_alloc | apply pw_below_drewN | apply below_drew1) | exact HB.out)⟩⟩
              · rw [if_neg c8] at H
                exact absurd H (by simp)
            · rw [if_neg c7] at H
              exact absurd H (by simp)
          · rw [if_neg c6] at H
            have c6b0 : decide (((rdOf ByteArray.empty t142 x5_1).size : Int) ≤ (a0.size : Int)) = false := decide_eq_false c6
            have c6b1 : decide ((rdOf ByteArray.empty t142 x5_1).size ≤ a0.size) = false := decide_eq_false (fun h => c6 (Int.ofNat_le.mpr h))
            clear c6
            have H' := Aside0.mk H
            clear H
            obtain ⟨Ao19, co19, eo19⟩ := Kd.R_slice HO_3.out
            subst eo19
            have p145 : 0 ≤ (x5_1 : Int) := of_decide_eq_true (by first | (with_reducible assumption) | assumption)
            have q145 : x5_1 < (t142.length : Int) := of_decide_eq_true (by first | (with_reducible assumption) | assumption)
            obtain ⟨ad145, e145, hx145_0⟩ := Kd.at_string (Kd.R_reads' HO_3.out).2.2 x5_1 p145 q145
            cases e145
            replace p145 := eq_true p145
            replace q145 := eq_true q145
            go_wp2
            repeat (go_quiet (fail); try go_wp2)
            go_roundg k1
            case measure => have := HK1.out; omega
            case rel => exact ⟨(x4_1), (wrap64 (x5_1 + 1)), (by first | rfl | (simp; done) | (simp [*]; done)), (by first | rfl | (simp; done) | (simp [*]; done)), H', ⟨by have := HK1.out; omega⟩, ⟨by (with_reducible repeat (first | apply Kd.R_alloc | apply Kd.R_drewN | apply Kd.R_drew)); (first | exact HO_3.out | (first | refine Kd.R_mono HO_3.out (fun _ hk => ?_) | refine Kd.S_mono HO_3.out (fun _ hk => ?_) | refine Kd.Q_mono HO_3.out (fun _ hk => ?_)); simp only [ownBlock_slice] at hk ⊢; exact hk)⟩, ⟨by repeat (first | (with_reducible first | exact HB.out | apply below_alloc | apply pw_below_drewN | apply below_drew1) | exact HB.out)⟩⟩
        · rw [if_neg c5] at H
          exact absurd H (by simp)
      · rw [if_neg c4] at H
        have c4b0 : decide (x5_1 < (t142.length : Int)) = false := decide_eq_false c4
        clear c4
        obtain rfl := Option.some.inj H
        obtain ⟨Ao20, co20, eo20⟩ := Kd.R_slice HO_3.out
        subst eo20
        go_wp2
        repeat (go_quiet (fail); try go_wp2)
        go_ret
        exact ⟨by first | rfl | (simp [errW_none, errW_some] <;> rfl) | (simp [*, errW_none, errW_some] <;> rfl), by repeat (first | (with_reducible first | exact HB.out | apply below_alloc | apply pw_below_drewN | apply below_drew1) | exact HB.out)⟩

/-! ### flatironref05_step: function 54 -/
def flatironref05_step.f (a0 : ByteArray) : Option (Int × Int × Bool) := if 0 < (a0.size : Int) then (if (bt a0 0) = 39 then (some (1, 2, true)) else (if (bt a0 0) = 34 then (some (1, 3, true)) else (if (bt a0 0) = 92 then (some (2, 1, decide ((a0.size : Int) > 1))) else (some (1, 1, true))))) else (none)
set_option maxHeartbeats 8000000 in
set_option maxRecDepth 100000 in
theorem flatironref05_step.calls (a0 : ByteArray) (r1 : Int) (r2 : Int) (r3 : Bool) (w : World) (h : flatironref05_step.f a0 = some (r1, r2, r3)) :
    Calls Tryd.prog 54 #[.string a0] w fun e w' => e = .returned (.tuple #[.int .i64 r1, .int .i64 r2, .bool r3]) ∧ Drawn0 w w' := by
  have H : (if 0 < (a0.size : Int) then (if (bt a0 0) = 39 then (some (1, 2, true)) else (if (bt a0 0) = 34 then (some (1, 3, true)) else (if (bt a0 0) = 92 then (some (2, 1, decide ((a0.size : Int) > 1))) else (some (1, 1, true))))) else (none)) = some (r1, r2, r3) := h
  clear h
  by_cases c2 : 0 < (a0.size : Int)
  · rw [if_pos c2] at H
    have c2b0 : decide (0 < (a0.size : Int)) = true := decide_eq_true c2
    have c2b1 : decide (0 < a0.size) = true := decide_eq_true (by omega)
    clear c2
    by_cases c4 : (bt a0 0) = 39
    · rw [if_pos c4] at H
      have c4b0 : ((bt a0 0) == 39) = true := beq_iff_eq.mpr c4
      have c4b1 : ((bt a0 0) != 39) = false := bne_eq_false_iff_eq.mpr c4
      clear c4
      simp only [Option.some.injEq, Prod.mk.injEq] at H
      obtain ⟨rfl, rfl, rfl⟩ := H
      have p3 : 0 ≤ (0 : Int) := (by omega)
      have q3 : 0 < a0.size := (by have : (0 : Int) < (a0.size : Int) := of_decide_eq_true (by first | (with_reducible assumption) | assumption); omega)
      have hx3 : ∀ h : 0 < a0.size, ((a0[0]'h).toNat : Int) = bt a0 0 := bt_at a0 0
      clear p3
      have qi3 : (0 < (a0.size : Int)) = True := eq_true (of_decide_eq_true (by first | (with_reducible assumption) | assumption))
      replace q3 := eq_true q3
      go_enter Tryd.func54, Tryd.ntmps54
      go_wp2
      go_ret3
      exact ⟨by first | rfl | (simp; done) | (simp [*]; done), by repeat (first | exact Drawn0.refl _ | apply Drawn0.step)⟩
    · rw [if_neg c4] at H
      have c4b0 : ((bt a0 0) == 39) = false := beq_eq_false_iff_ne.mpr c4
      have c4b1 : ((bt a0 0) != 39) = true := bne_iff_ne.mpr c4
      by_cases c5 : (bt a0 0) = 34
      · rw [if_pos c5] at H
        have c5b0 : ((bt a0 0) == 34) = true := beq_iff_eq.mpr c5
        have c5b1 : ((bt a0 0) != 34) = false := bne_eq_false_iff_eq.mpr c5
        clear c5
        simp only [Option.some.injEq, Prod.mk.injEq] at H
        obtain ⟨rfl, rfl, rfl⟩ := H
        have p3 : 0 ≤ (0 : Int) := (by omega)
        have q3 : 0 < a0.size := (by have : (0 : Int) < (a0.size : Int) := of_decide_eq_true (by first | (with_reducible assumption) | assumption); omega)
        have hx3 : ∀ h : 0 < a0.size, ((a0[0]'h).toNat : Int) = bt a0 0 := bt_at a0 0
        clear p3
        have qi3 : (0 < (a0.size : Int)) = True := eq_true (of_decide_eq_true (by first | (with_reducible assumption) | assumption))
        replace q3 := eq_true q3
        go_enter Tryd.func54, Tryd.ntmps54
        go_wp2
        go_ret3
        exact ⟨by first | rfl | (simp; done) | (simp [*]; done), by repeat (first | exact Drawn0.refl _ | apply Drawn0.step)⟩
      · rw [if_neg c5] at H
        have c5b0 : ((bt a0 0) == 34) = false := beq_eq_false_iff_ne.mpr c5
        have c5b1 : ((bt a0 0) != 34) = true := bne_iff_ne.mpr c5
        by_cases c6 : (bt a0 0) = 92
        · rw [if_pos c6] at H
          have c6b0 : ((bt a0 0) == 92) = true := beq_iff_eq.mpr c6
          have c6b1 : ((bt a0 0) != 92) = false := bne_eq_false_iff_eq.mpr c6
          clear c6
          simp only [Option.some.injEq, Prod.mk.injEq] at H
          obtain ⟨rfl, rfl, rfl⟩ := H
          have p3 : 0 ≤ (0 : Int) := (by omega)
          have q3 : 0 < a0.size := (by have : (0 : Int) < (a0.size : Int) := of_decide_eq_true (by first | (with_reducible assumption) | assumption); omega)
          have hx3 : ∀ h : 0 < a0.size, ((a0[0]'h).toNat : Int) = bt a0 0 := bt_at a0 0
          clear p3
          have qi3 : (0 < (a0.size : Int)) = True := eq_true (of_decide_eq_true (by first | (with_reducible assumption) | assumption))
          replace q3 := eq_true q3
          go_enter Tryd.func54, Tryd.ntmps54
          go_wp2
          go_ret3
          exact ⟨by first | rfl | (simp; done) | (simp [*]; done), by repeat (first | exact Drawn0.refl _ | apply Drawn0.step)⟩
        · rw [if_neg c6] at H
          have c6b0 : ((bt a0 0) == 92) = false := beq_eq_false_iff_ne.mpr c6
          have c6b1 : ((bt a0 0) != 92) = true := bne_iff_ne.mpr c6
          simp only [Option.some.injEq, Prod.mk.injEq] at H
          obtain ⟨rfl, rfl, rfl⟩ := H
          have p3 : 0 ≤ (0 : Int) := (by omega)
          have q3 : 0 < a0.size := (by have : (0 : Int) < (a0.size : Int) := of_decide_eq_true (by first | (with_reducible assumption) | assumption); omega)
          have hx3 : ∀ h : 0 < a0.size, ((a0[0]'h).toNat : Int) = bt a0 0 := bt_at a0 0
          clear p3
          have qi3 : (0 < (a0.size : Int)) = True := eq_true (of_decide_eq_true (by first | (with_reducible assumption) | assumption))
          replace q3 := eq_true q3
          go_enter Tryd.func54, Tryd.ntmps54
          go_wp2
          go_ret3
          exact ⟨by first | rfl | (simp; done) | (simp [*]; done), by repeat (first | exact Drawn0.refl _ | apply Drawn0.step)⟩
  · rw [if_neg c2] at H
    exact absurd H (by simp)

end Go.Proofs.YtgpabkdmagifjaaDoor.XW05
