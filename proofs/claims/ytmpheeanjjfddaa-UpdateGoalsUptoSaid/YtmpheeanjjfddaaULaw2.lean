/- The law UpdateGoals: it answers true. -/
import Derived.Test.YtmpheeanjjfddaaULaw1
namespace Go.Proofs.Ytmpheeanjjfddaa.S
open Go Go.RowKit Go.Proofs Go.Proofs.Ytmpheeanjjfddaa.SM Go.Proofs.Ytmpheeanjjfddaa.Upd
set_option linter.unusedVariables false
set_option linter.unusedSimpArgs false
set_option maxRecDepth 100000
theorem goals_total (n C : Nat) : ∀ (l : List Bs) (s : Upd.St), Upd.Inv C s → s.begun = [] → (paths s).length + 1 ≤ n → ∃ s' k a, goals n s l = some (s', k, a) ∧ Weak C s' ∧ s'.l.length = s.l.length
  | [], s, hi, hb, hn => ⟨s, 0, [], rfl, hi.weak, rfl⟩
  | p :: r, s, hi, hb, hn => by
    have hp : p ∉ s.begun := by rw [hb]; simp
    obtain ⟨s1, k, a, h1, h2, h3⟩ := total n s p ⟨by rw [hb]; simp, by rw [hb]; simp, by rw [hb]; simpa using hn⟩ hp
    have haf := upd_after n C s p s1 k a h1 hi hp
    have hln : s1.l.length = s.l.length := by have := congrArg List.length h2; simpa [paths] using this
    simp only [goals, h1]
    split
    · exact ⟨s1, k, a, rfl, haf.weak, hln⟩
    · rename_i hk
      have hk : k = 0 := Classical.not_not.1 hk
      subst hk
      obtain ⟨s', k', a', g1, g2, g3⟩ := goals_total n C r s1 haf.ok (by rw [haf.beg, hb]) (by rw [h2]; exact hn)
      exact ⟨s', k', a', g1, g2, g3.trans hln⟩
def st0 (l : List AI) : Upd.St := ⟨ofL [] l, 1000, [], [], [], [], []⟩
theorem inv0 (l : List AI) (C : Nat) (h : sumW l ≤ C) : Upd.Inv C (st0 l) :=
  ⟨by simp [st0], ofL_nodup l [] (by simp), by simp [st0], by simp [st0], by simp [st0], by simp [st0], by
    have := ofL_rest l []
    show 0 + restL [] [] (ofL [] l) ≤ C
    simp [restL] at this
    omega, by simp [st0], ofL_time l [] (by simp), by simp [st0]⟩
section
variable {b : Nat} {w0 : World} {H : Hp}
theorem res_boxes {J : Hp} {ψ : Nat → Nat} (cl : Cl J ψ) {vM vD z1 z2 z3 z4 z5 : V} {t t' : Nat} {k : Int} {a : Bs} {K : Nat → Nat → Hp → Prop} (h1 : oneV vM = true) (h2 : oneV vD = true)
    (hk : ∀ a1 a2 J' φ, Bx J' φ 20 a1 [vM, vD] t → Bx J' φ 21 a2 [.int .i64 k, .str a, .int .i64 0] t' → Cl J' φ → (∀ S : Nat → Prop, S 20 → S 21 → Keep S J J' ψ φ) → K a1 a2 J') :
    newE J (O.box [z1, z2] t) fun a1 J1 => newE J1 (O.box [z3, z4, z5] t') fun a2 J2 => stE (.ptr a1 0) [vM, vD] J2 fun J3 => stE (.ptr a2 0) [.int .i64 k, .str a, .int .i64 0] J3 fun J4 => K a1 a2 J4 := by
  refine newB 20 cl ?_
  intro a1 J1 ψ1 hB1 cl1 k1
  refine newB 21 cl1 ?_
  intro a2 J2 ψ2 hB2 cl2 k2
  refine (hB1.keep (k2 (fun _ => False)) id).stw cl2 rfl (by simp only [List.all_cons, List.all_nil, h1, h2]; rfl) ?_
  intro J3 hB3 cl3 k3
  refine (hB2.keep (k3 (fun c => c = 20) rfl) (by decide)).stw cl3 rfl rfl ?_
  intro J4 hB4 cl4 k4
  exact hk a1 a2 J4 ψ2 (hB3.keep (k4 (fun c => c = 21) rfl) (by decide)) hB4 cl4 (fun S s20 s21 => (((k1 S).trans (k2 S)).trans (k3 S s20)).trans (k4 S s21))
def ia : AI := ⟨[97], [[98]], [], true, true, false, 0, false, true⟩
def ib : AI := ⟨[98], [[97]], [], true, true, false, 0, false, true⟩
def sL : Upd.St := ⟨[⟨[97], [[98]], [], true, true, false, 1002, false, true⟩, ⟨[98], [[97]], [], true, true, false, 1001, false, true⟩], 1002, [[98], [97]], [([98], [97])], [[98], [97]], [], [[98], [97]]⟩
theorem runs_lives : goals 10 (st0 [ia, ib]) [[97]] = some (sL, 0, []) := by
  simp [goals, upd, needs, close, make, Upd.get, st0, ofL, toIt, ia, ib, clip, setT, none_, sL, List.find?]
theorem lives_spec : Ac (cx b w0) 8 [] H (fun r J => r = .ret (.bool true) ∧ Ext H J) := by
  refine flatironlaw18_lives.s b w0 H _ ?_
  refine newX (Cl.none H) ?_
  intro a1 J1 cl1 k1
  refine newX cl1 ?_
  intro a2 J2 cl2 k2
  refine newX cl2 ?_
  intro a3 J3 cl3 k3
  have k03 : Keep (fun c => c ≠ 0) H J3 noCol noCol := ((k1 _).trans (k2 _)).trans (k3 _)
  refine Ac.sub (a' := [.vsl 9 ([ia, ib].map aiV)]) (fun E l hl => ?_) ?_
  · have one : ∀ (n : Nat) (s : Bs) (v : Value), VR E (.osl n 1 [.str s]) v → VR E (strs [s]) v := fun n s v h => vr_osl h (fun m hm => hm)
    have item : ∀ (n : Nat) (p s : Bs) (v : Value), VR E (.agg [.str p, .osl n 1 [.str s], .nilsl, .bool true, .bool true, .bool false, .int .i64 0, .bool false, .bool true]) v → VR E (aiV ⟨p, [s], [], true, true, false, 0, false, true⟩) v := fun n p s v h =>
      vr_agg (vrs_sub (fun _ h => h) (vrs_sub (one n s) (vrs_sub (fun _ h => vr_nil h) (fun _ h => h)))) h
    exact vrs_sub (fun v h => vr_osl h (vrs_sub (item _ _ _) (vrs_sub (item _ _ _) (fun _ h => h)))) (fun _ h => h) l hl
  refine (of_spec (q := 1) (D := 20) (χ := noCol) [ia, ib] (by decide) cl3 (by decide)).mono ?_
  rintro r J4 ⟨n, nL, ψ4, rfl, hW, k4⟩
  refine ret_i (one_i rfl ?_)
  refine newX hW.cl ?_
  intro a5 J5 cl5 k5
  refine (files_spec (.osl a5 1 ([[97]].map V.str)) [[97]] (by decide) J5 (TV.osl J5 a5 [[97]]) (fun J _ => TV.osl J a5 [[97]])).mono ?_
  rintro r J6 ⟨gv, rfl, hgv, he6⟩
  have k46 : ∀ S : Nat → Prop, Keep S J4 J6 ψ4 ψ4 := fun S => (k5 S).trans (Keep.ext he6)
  refine ret_i ?_
  have h6 := hW.keep (k46 (fun _ => False)) (cl5.ext he6) id id
  refine (pgoals_spec (q := 1) (D := 30) (by decide) 10 200 (by decide) [[97]] (by decide) hgv (st0 [ia, ib]) sL 0 [] _ (by decide) (by decide) runs_lives h6 (inv0 _ _ (by decide)) ⟨rfl, rfl, rfl, rfl, rfl⟩).mono ?_
  rintro r J7 ⟨ψ7, cs, vM, vD, rfl, g0, g1, g2, k7⟩
  refine ret_i (tup_i (head_i (openR (head_i (open_fault (end_i ?_))))))
  refine res_boxes g0.cl g1.one g2.one ?_
  intro b1 b2 J8 ψ8 hB1 hB2 cl8 k8
  refine hB2.ldw rfl (open_fault ?_)
  refine cndT_i (hB1.ld rfl ?_)
  have k78 := k8 (fun c => c = 20 ∨ c = 21) (.inl rfl) (.inr rfl)
  refine newX cl8 ?_
  intro a9 J9 cl9 k9
  have k79 : Keep (fun c => c = 20 ∨ c = 21) J7 J9 ψ7 ψ8 := k78.trans (k9 _)
  refine (eqS_spec sL.made [[98], [97]] _ _ (by decide) ((g1.keep k79 (by decide)).tv) (TV.osl J9 a9 [[98], [97]])).mono ?_
  rintro r K1 ⟨rfl, rfl⟩
  refine ret_i (bool_i (cndT_i ((hB1.keep (k9 (fun _ => False)) id).ld rfl ?_)))
  refine newX cl9 ?_
  intro a10 J10 cl10 k10
  have k7x : Keep (fun c => c = 20 ∨ c = 21) J7 J10 ψ7 ψ8 := k79.trans (k10 _)
  refine (eqP_spec sL.dropped [([98], [97])] _ (.osl a10 2 ([([98], [97])].map prV)) (by decide) ((g2.keep k7x (by decide)).pv) ⟨fun K k => k, fun i hi K k => idx_osl (x := prV [([98], [97])][i]) (by match i, hi with | 0, _ => rfl) k⟩).mono ?_
  rintro r K2 ⟨rfl, rfl⟩
  refine ret_i (bool_i ⟨rfl, ?_⟩)
  have kall : Keep (fun c => c ≠ 0) H K2 noCol ψ8 := ((((k03.trans (k4.mono (fun c h => by omega))).trans (k46 _)).trans (k7.mono (fun c h => by unfold colS at h; omega)))).trans (k7x.mono (fun c h => by omega))
  exact kall.toExt (by decide)
theorem law_spec (l : List AI) (gs : List Bs) (hl : l.length ≤ 4294967295) (hs : gs.length + sumW l ≤ 4294967295) : Ac (cx b w0) 3 [.vsl 9 (l.map aiV), strs gs] H (fun r J => r = .ret (.bool true) ∧ Ext H J) := by
  refine flatironlaw18_UpdateGoals.s b w0 _ _ H _ ?_
  refine lives_spec.mono ?_
  rintro r H1 ⟨rfl, e1⟩
  refine ret_i (bool_i (cndT_i ?_))
  refine (small_spec l gs hl hs).mono ?_
  rintro r H2 ⟨rfl, e2⟩
  refine ret_i (bool_i ?_)
  rw [cnd_not]
  refine cnd_dec (fun hsm => ?_) (fun _ => ?_)
  · refine flatironlaw18_UpdateGoals.j3s _ _ _ _ _ _ ?_
    have hlen : l.length ≤ 200 := by
      have : ∀ m : List AI, m.length ≤ sumW m := fun m => by
        induction m with
        | nil => simp
        | cons x r ih => have : sumW (x :: r) = wtA x + sumW r := by simp [sumW]
                         simp only [List.length_cons]; unfold wtA at this; omega
      have := this l
      omega
    refine (of_spec (q := 1) (D := 18) (χ := noCol) l (by omega) (Cl.none H2) (by decide)).mono ?_
    rintro r J1 ⟨n, nL, ψ1, rfl, hW1, k1⟩
    refine ret_i ?_
    refine (of_spec (q := 11) (D := 19) l (by omega) hW1.cl (by decide)).mono ?_
    rintro r J2 ⟨n', nL', ψ2, rfl, hW2, k2⟩
    refine ret_i (one_i rfl ?_)
    refine (files_spec (strs gs) gs (by omega) J2 (TV.vsl J2 gs) (fun J _ => TV.vsl J gs)).mono ?_
    rintro r J3 ⟨gv, rfl, hgv, he3⟩
    refine ret_i ?_
    obtain ⟨s', k, a, hg, hwk, hln⟩ := goals_total 1001 200 gs (st0 l) (inv0 l 200 (by omega)) rfl (by have := ofL_len l []; simp [paths, st0] at this ⊢; omega)
    have hl0 : (st0 l).l.length ≤ 1000 := by have := ofL_len l []; simp [st0] at this ⊢; omega
    have hW1' := (hW1.keep k2 hW2.cl (by decide) (by decide)).keep (Keep.ext (S := fun _ => False) he3) (hW2.cl.ext he3) id id
    have hW2' := hW2.keep (Keep.ext (S := fun _ => False) he3) (hW2.cl.ext he3) id id
    refine (pgoals_spec (q := 1) (D := 30) (by decide) 1001 200 (by decide) gs (by omega) hgv (st0 l) s' k a _ hl0 (by decide) hg hW1' (inv0 l 200 (by omega)) ⟨rfl, rfl, rfl, rfl, rfl⟩).mono ?_
    rintro r J4 ⟨ψ4, cs, vM, vD, rfl, g0, g1, g2, k4⟩
    refine ret_i (tup_i (head_i (openR (head_i (open_fault (end_i ?_))))))
    refine res_boxes g0.cl g1.one g2.one ?_
    intro b1 b2 J5 ψ5 hB1 hB2 cl5 k5
    have k5' := k5 (fun c => c = 20 ∨ c = 21) (.inl rfl) (.inr rfl)
    have hR : RW J5 ψ5 11 n' nL' (st0 l) := ⟨.nilsl, .nilsl, .nilsl, .nilsl, .nilsl, (hW2'.keep k4 g0.cl (by unfold colS; omega) (by unfold colS; omega)).keep k5' cl5 (by omega) (by omega), GS.nil .., GS.nil .., GS.nil .., .inl ⟨rfl, rfl⟩, GS.nil ..⟩
    refine (goals_spec (q := 11) (D := 30) (by decide) 1001 200 (by decide) gs (by omega) (st0 l) s' k a J5 ψ5 hl0 (by decide) hg hR (inv0 l 200 (by omega)) rfl).mono ?_
    rintro r J6 ⟨ψ6, rfl, hR6, k6⟩
    refine ret_i (tup_i (head_i (intK_i (head_i (str_i (end_i ?_))))))
    have hB1' := hB1.keep k6 (by unfold colS; omega)
    have hB2' := hB2.keep k6 (by unfold colS; omega)
    refine hB2'.ldw rfl (open_fault ?_)
    rw [decide_eq_true (show (k : Int) = k from rfl), decide_eq_true (show a = a from rfl)]
    refine cndT_i (hB1'.ld rfl ?_)
    obtain ⟨wM, wD, wO, wB, wS, q0, q1, q2, q3, q4, q5⟩ := hR6.ex
    obtain ⟨tw, hBm⟩ := q0.box
    refine nf (hBm.ld rfl ?_)
    have p0 := (g0.keep k5' cl5 (by omega) (by omega)).keep k6 q0.cl (by unfold colS; omega) (by unfold colS; omega)
    have p1 := (g1.keep k5' (by omega)).keep k6 (by unfold colS; omega)
    have p2 := (g2.keep k5' (by omega)).keep k6 (by unfold colS; omega)
    have hpl : (paths s').length ≤ 1000 := by simp [paths]; omega
    refine (eqS_spec s'.made s'.made _ _ (by have := hwk.made; omega) p1.tv q1.tv).mono ?_
    rintro r K1 ⟨rfl, rfl⟩
    rw [decide_eq_true (show s'.made = s'.made from rfl)]
    refine ret_i (bool_i (cndT_i (hB1'.ld rfl (nf (hBm.ld rfl ?_)))))
    refine (eqP_spec s'.dropped s'.dropped _ _ (by have := hwk.drop; omega) p2.pv q2.pv).mono ?_
    rintro r K2 ⟨rfl, rfl⟩
    rw [decide_eq_true (show s'.dropped = s'.dropped from rfl)]
    obtain ⟨tp, hBp⟩ := p0.box
    refine ret_i (bool_i (cndT_i (nf (hBp.ld rfl (intK_i (nf (hBm.ld rfl (intK_i ?_))))))))
    rw [decide_eq_true (show (s'.now : Int) = s'.now from rfl)]
    refine cndF_i ?_
    refine flatironlaw18_UpdateGoals.j8s _ _ _ _ _ _ ?_
    refine nf (hBm.ld rfl (lenE_lV ?_))
    have kall : Keep (fun c => c ≠ 0) H2 K2 noCol ψ6 := (((((k1.mono (fun c h => by omega)).trans (k2.mono (fun c h => by omega))).trans (Keep.ext he3)).trans (k4.mono (fun c h => by unfold colS at h; omega))).trans (k5'.mono (fun c h => by omega))).trans (k6.mono (fun c h => by unfold colS at h; omega))
    have key : ∀ i, i ≤ s'.l.length → flatironlaw18_UpdateGoals.l9 b w0 (.ptr n 0) (.ptr n' 0) (s'.l.length : Int) (i : Int) K2 (fun r J => r = .ret (.bool true) ∧ Ext H J) := by
      refine upto ?_ ?_
      · refine flatironlaw18_UpdateGoals.l9s _ _ _ _ _ _ _ _ (cnd_dec (fun h => by omega) (fun _ => ⟨rfl, (e1.trans e2).trans (kall.toExt (by decide))⟩))
      · intro i hi ih
        refine flatironlaw18_UpdateGoals.l9s _ _ _ _ _ _ _ _ (cnd_dec (fun _ => ?_) (fun h => by omega))
        refine nf (hBp.ld rfl (idx_lV hi (fa_p (row_part p0.wl hi (j := 6) (by omega) (intK_i ?_)))))
        refine nf (hBm.ld rfl (idx_lV hi (fa_p (row_part q0.wl hi (j := 6) (by omega) (intK_i ?_)))))
        rw [decide_eq_true (show (s'.l[i].time : Int) = s'.l[i].time from rfl)]
        refine cndF_i ?_
        rw [wrap1 i (by omega)]
        exact ih
    exact key 0 (Nat.zero_le _)
  · refine lives_spec.mono ?_
    rintro r H3 ⟨rfl, e3⟩
    exact ret_i (bool_i ⟨rfl, (e1.trans e2).trans e3⟩)
end
end Go.Proofs.Ytmpheeanjjfddaa.S
