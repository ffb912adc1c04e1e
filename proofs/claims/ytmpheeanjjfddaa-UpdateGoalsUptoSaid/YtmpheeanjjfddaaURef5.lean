/- The reference's Update: its loops. -/
import Derived.Test.YtmpheeanjjfddaaURef4
namespace Go.Proofs.Ytmpheeanjjfddaa.S
open Go Go.RowKit Go.Proofs Go.Proofs.Ytmpheeanjjfddaa.SM Go.Proofs.Ytmpheeanjjfddaa.Upd
set_option linter.unusedVariables false
set_option linter.unusedSimpArgs false
theorem Ext.set2 {H : Hp} {a : Nat} {o o' : O} (h : H a = none) : Ext H ((H.set a o).set a o') := fun m p hm => by
  have : m ≠ a := by rintro rfl; rw [h] at hm; cases hm
  rw [Hp.set_ne _ _ this, Hp.set_ne _ _ this]; exact hm
section
variable {b : Nat} {w0 : World} {q n nL D : Nat} {H0 H : Hp} {χ0 χ : Nat → Nat}
/-- All that stands while a path's needs are gone through. -/
structure LH (q n nL D : Nat) (H0 : Hp) (χ0 : Nat → Nat) (H : Hp) (χ : Nat → Nat) (s : Upd.St) (a : Nat) (x : It) (v : V) (count : List Bs) : Prop where
  rw_ : RW H χ q n nL s
  keep : Keep (colS q D) H0 H χ0 χ
  count : GS H χ (D + 1) v 1 9 (count.map .str)
  box : XB H χ D a x
theorem LH.ext {J : Hp} {s : Upd.St} {a : Nat} {x : It} {v : V} {count : List Bs} (h : LH q n nL D H0 χ0 H χ s a x v count) (he : Ext H J) : LH q n nL D H0 χ0 J χ s a x v count :=
  ⟨h.rw_.keep (Keep.ext (S := fun _ => False) he) (h.rw_.cl.ext he) (fun _ _ _ h => h), h.keep.trans (Keep.ext he), h.count.keep (Keep.ext (S := fun _ => False) he) id, h.box.keep (Keep.ext (S := fun _ => False) he) id⟩
theorem j33_spec {s : Upd.St} {p : Bs} {a : Nat} {x : It} {v : V} {count : List Bs} (st : Bool) (h : LH q n nL D H0 χ0 H χ s a x v count) {C : Nat} (hi : Inv C s) (hl : s.l.length ≤ 1000) (h3 : s.begun ≠ []) :
    flatironref18_Update.j33 b w0 (.ptr n 0) p (.ptr a 0) st H (CloQ q n nL D H0 χ0 (clo s p st x.recipe)) := by
  refine flatironref18_Update.j33s _ _ _ _ _ _ _ _ ?_
  obtain ⟨nv, ov, t, hn, ho, hB⟩ := h.box
  cases st with
  | true =>
    refine cndT_i (fa0 (hB.ld rfl (bool_i ?_)))
    exact j34_spec true x.recipe h.rw_ h.keep hi hl h3
  | false => exact j34_spec false x.recipe h.rw_ h.keep hi hl h3
theorem l27_spec {s : Upd.St} {p : Bs} {a : Nat} {x : It} {v : V} {count : List Bs} (base : Bool) {C : Nat} (hi : Inv C s) (hl : s.l.length ≤ 1000) (h3 : s.begun ≠ []) (hc : count.length ≤ 1000) :
    ∀ i, i ≤ count.length → ∀ H χ, LH q n nL D H0 χ0 H χ s a x v count →
      flatironref18_Update.l27 b w0 (.ptr n 0) p (.ptr a 0) v (base || (count.take i).any (cnt s x)) (i : Int) H (CloQ q n nL D H0 χ0 (clo s p ((base || count.any (cnt s x)) && x.rule) x.recipe)) := by
  have hst : s.stale.length ≤ 1000 := by have := hi.stale; have := hi.done_le; have : (paths s).length = s.l.length := by simp [paths]
                                         omega
  refine upto ?_ ?_
  · intro H χ h
    refine flatironref18_Update.l27s _ _ _ _ _ _ _ _ _ _ ?_
    refine h.count.len ?_
    refine cnd_dec (fun h => by simp at h) fun _ => ?_
    rw [List.take_of_length_le (Nat.le_refl _)]
    obtain ⟨nv, ov, t, hn, ho, hB⟩ := h.box
    cases hs : (base || count.any (cnt s x)) with
    | true =>
      refine cndT_i (fa0 (hB.ld rfl (bool_i ?_)))
      rw [Bool.true_and]
      exact j33_spec x.rule h hi hl h3
    | false => exact j33_spec false h hi hl h3
  · intro i hil ih H χ h
    refine flatironref18_Update.l27s _ _ _ _ _ _ _ _ _ _ ?_
    refine h.count.len ?_
    refine cnd_dec (fun _ => ?_) (fun hh => by rw [List.length_map] at hh; omega)
    obtain ⟨vM, vD, vO, vB, vS, g0, g1, g2, g3, g4, g5⟩ := h.rw_.ex
    obtain ⟨t0, hB0⟩ := g0.box
    refine nf (hB0.ld rfl ?_)
    refine h.count.tv.at_ i hil _ (str_i ?_)
    refine (has_spec b w0 vS s.stale (by omega) count[i] H g5.tv).mono ?_
    rintro r J ⟨rfl, rfl⟩
    refine ret_i (bool_i ?_)
    have take1 : (count.take (i + 1)).any (cnt s x) = ((count.take i).any (cnt s x) || cnt s x count[i]) := by
      rw [List.take_succ_eq_append_getElem hil, List.any_append]; simp
    have ei : IntKind.i64.wrap ((i : Int) + 1) = ((i + 1 : Nat) : Int) := by rw [show ((i : Int) + 1) = ((i + 1 : Nat) : Int) from rfl, wrap_nat _ (by omega)]
    refine flatironref18_Update.j30s _ _ _ _ _ _ _ _ _ _ _ ?_
    unfold flatironref18_Update.j30p
    by_cases hm : count[i] ∈ s.stale
    · rw [decide_eq_true hm]
      show flatironref18_Update.l27 ..
      rw [ei]
      have := ih J χ h
      rw [take1] at this
      simp only [cnt, decide_eq_true hm, Bool.true_or, Bool.or_true] at this ⊢
      exact this
    · rw [decide_eq_false hm, show (false == false) = true from rfl, cndT]
      refine h.count.tv.at_ i hil _ (str_i ?_)
      obtain ⟨nv, ov, t, hn, ho, hB⟩ := h.box
      refine fa0 (hB.ld rfl (intK_i ?_))
      refine (get_spec b w0 n nL s.l hl count[i] J h.rw_.wl).mono ?_
      rintro r J1 ⟨vs, rfl, hv, he⟩
      refine ret_i (open_it hv ?_)
      intro nv' ov' _ _
      have h1 := h.ext he
      obtain ⟨nv1, ov1, t1, hn1, ho1, hB1⟩ := h1.box
      refine ⟨hB1.ld rfl (intK_i rfl), ?_⟩
      rw [ei]
      have := ih J1 χ h1
      rw [take1] at this
      refine cnd_dec (fun ht => ?_) (fun ht => ?_)
      · simp only [cnt, decide_eq_false hm, decide_eq_true (show x.time < (Upd.get s.l count[i]).time by omega), Bool.false_or, Bool.or_true] at this ⊢
        exact this
      · simp only [cnt, decide_eq_false hm, decide_eq_false (show ¬ x.time < (Upd.get s.l count[i]).time by omega), Bool.or_false] at this ⊢
        exact this
/-- Behind the needs. -/
theorem end_spec {s : Upd.St} {p : Bs} {a : Nat} {x : It} {v : V} {count : List Bs} {C : Nat} (hi : Inv C s) (hl : s.l.length ≤ 1000) (h3 : s.begun ≠ []) (hc : count.length ≤ 1000) (h : LH q n nL D H0 χ0 H χ s a x v count) (hq : 0 < q) (hD : q + 7 ≤ D) {i : Int} (hi1 : ¬ i < ((x.needs.length + x.order.length : Nat) : Int)) (hx : x.needs.length + x.order.length ≤ 1000) :
    flatironref18_Update.l10 b w0 (.ptr n 0) p (.ptr a 0) v i H (CloQ q n nL D H0 χ0 (close s p count)) := by
  refine flatironref18_Update.l10s _ _ _ _ _ _ _ _ _ ?_
  obtain ⟨nv, ov, t, hn, ho, hB⟩ := h.box
  refine fa0 (hB.ld rfl (hn.tv (H := H) |>.len _ ?_))
  refine fa0 (hB.ld rfl (ho.tv (H := H) |>.len _ ?_))
  rw [show ((x.needs.length : Int) + (x.order.length : Int)) = ((x.needs.length + x.order.length : Nat) : Int) from rfl, wrap_nat _ (by omega)]
  refine cnd_dec (fun h => absurd h hi1) fun _ => ?_
  refine (get_spec b w0 n nL s.l hl p H h.rw_.wl).mono ?_
  rintro r J1 ⟨vs, rfl, hv, he⟩
  refine ret_i (open_it hv ?_)
  intro nv' ov' hn' ho'
  have h1 := h.ext he
  obtain ⟨nv1, ov1, t1, hn1, ho1, hB1⟩ := h1.box
  rw [stE_box hB1.at_]
  refine ⟨by simp, by simp only [List.all_cons, List.all_nil, hn'.one, ho'.one]; rfl, ?_⟩
  have hkS : ∀ o (S : Nat → Prop), S D → Keep S J1 (J1.set a o) χ χ := fun o S hS => Keep.set hB1.col hS
  have hc1 : ∀ o, Cl (J1.set a o) χ := fun o => Cl.set h1.rw_.cl a o
  have h2 : LH q n nL D H0 χ0 (J1.set a (O.box [V.str (Upd.get s.l p).path, nv', ov', V.bool (Upd.get s.l p).rule, V.bool (Upd.get s.l p).recipe, V.bool (Upd.get s.l p).phony, V.int .i64 ((Upd.get s.l p).time : Int), V.bool (Upd.get s.l p).fails, V.bool (Upd.get s.l p).writes] t1)) χ s a (Upd.get s.l p) v count :=
    ⟨h1.rw_.keep (hkS _ (fun c => c = D) rfl) (hc1 _) (fun c _ _ => by omega), h1.keep.trans (hkS _ _ (.inr (Nat.le_refl _))), h1.count.keep (hkS _ (fun c => c = D) rfl) (by omega), nv', ov', t1, hn', ho', Hp.set_same .., hB1.col⟩
  have fin : ∀ base : Bool, base = ((Upd.get s.l p).phony || decide ((Upd.get s.l p).time = 0)) → ∀ J2, LH q n nL D H0 χ0 J2 χ s a (Upd.get s.l p) v count → flatironref18_Update.j26 b w0 (.ptr n 0) p (.ptr a 0) v base J2 (CloQ q n nL D H0 χ0 (close s p count)) := by
    rintro base rfl J2 h2
    refine flatironref18_Update.j26s _ _ _ _ _ _ _ _ _ ?_
    rw [close_clo]
    have := l27_spec (b := b) (w0 := w0) (q := q) (n := n) (nL := nL) (D := D) (H0 := H0) (χ0 := χ0) (p := p) (a := a) (x := Upd.get s.l p) (v := v) ((Upd.get s.l p).phony || decide ((Upd.get s.l p).time = 0)) hi hl h3 hc 0 (Nat.zero_le _) J2 χ h2
    simp only [List.take_zero, List.any_nil, Bool.or_false] at this
    exact this
  obtain ⟨nv2, ov2, t2, hn2, ho2, hB2⟩ := h2.box
  refine fa0 ?_
  refine hB2.ld rfl (bool_i ?_)
  refine cnd_of (fun hp => ?_) (fun hp => ?_)
  · refine fa0 (hB2.ld rfl ?_)
    refine intK_i ?_
    have e : (decide (((Upd.get s.l p).time : Int) = 0)) = decide ((Upd.get s.l p).time = 0) := by simp
    rw [e]
    exact fin _ (by have : (Upd.get s.l p).phony = false := by simpa using hp
                    rw [this, Bool.false_or]) _ h2
  · exact fin _ (by have : (Upd.get s.l p).phony = true := by simpa using hp
                    rw [this, Bool.true_or]) _ h2
/-- What a path needs, one by one. -/
def todo (x : It) : List (Bs × Bool) := x.needs.map (·, true) ++ x.order.map (·, false)
theorem todo_len (x : It) : (todo x).length = x.needs.length + x.order.length := by simp [todo]
theorem todo_drop (x : It) (i : Nat) (h : i < (todo x).length) : ∃ r cc, (todo x).drop i = (r, cc) :: (todo x).drop (i + 1) ∧
    ((∃ hi : i < x.needs.length, cc = true ∧ r = x.needs[i]) ∨ (x.needs.length ≤ i ∧ cc = false ∧ ∃ hj : i - x.needs.length < x.order.length, r = x.order[i - x.needs.length])) := by
  have hd := List.drop_eq_getElem_cons h
  have hg : (todo x)[i]? = some (todo x)[i] := List.getElem?_eq_getElem h
  rw [todo_len] at h
  obtain ⟨y, hy⟩ : ∃ y, y = (todo x)[i] := ⟨_, rfl⟩
  rw [← hy] at hd hg
  refine ⟨y.1, y.2, hd, ?_⟩
  unfold todo at hg
  by_cases hin : i < x.needs.length
  · rw [List.getElem?_append_left (by simpa using hin)] at hg
    simp [hin] at hg
    exact .inl ⟨hin, by rw [← hg], by rw [← hg]⟩
  · have hj : i - x.needs.length < x.order.length := by omega
    rw [List.getElem?_append_right (by simpa using hin)] at hg
    simp [hj] at hg
    exact .inr ⟨by omega, by rw [← hg], hj, by rw [← hg]⟩
def EndOf (p : Bs) (s' : Upd.St) (k : Nat) (a : Bs) (c : List Bs) : Upd.St × Nat × Bs := if k ≠ 0 then (s', k, a) else close s' p c
theorem l10_spec (m : Nat) (hU : ∀ C D s p s' k a H χ, upd m s p = some (s', k, a) → RW H χ q n nL s → Upd.Inv C s → C ≤ 1000 → s.l.length ≤ 1000 → p ∉ s.begun → q + 7 ≤ D → Ac (cx b w0) 41 [.ptr n 0, .str p] H (UpdQ q n nL D H χ s' k a))
    {p : Bs} {x : It} {a : Nat} {s' : Upd.St} {k : Nat} {ea : Bs} {c : List Bs} (hq : 0 < q) (hD : q + 7 ≤ D) (nl : Nat) (hl : nl ≤ 1000) (hx : x.needs.length + x.order.length ≤ 1000) :
    ∀ i, i ≤ (todo x).length → ∀ H χ s v count C, LH q n nL D H0 χ0 H χ s a x v count → Upd.Inv C s → C + ((todo x).length - i) ≤ 1000 → s.l.length = nl → s.begun ≠ [] → count.length ≤ i → needs m s p ((todo x).drop i) count = some (s', k, ea, c) →
      flatironref18_Update.l10 b w0 (.ptr n 0) p (.ptr a 0) v (i : Int) H (CloQ q n nL D H0 χ0 (EndOf p s' k ea c)) := by
  refine upto ?_ ?_
  · intro H χ s v count C h hi hC hln hb hcl hn
    rw [List.drop_eq_nil_of_le (Nat.le_refl _)] at hn
    simp only [needs, Option.some.injEq, Prod.mk.injEq] at hn
    obtain ⟨rfl, rfl, rfl, rfl⟩ := hn
    rw [todo_len] at hcl
    exact end_spec hi (by omega) hb (by omega) h hq hD (by rw [todo_len]; omega) hx
  · intro i hil ih H χ s v count C h hi hC hln hb hcl hn
    have hil' := hil
    rw [todo_len] at hil'
    refine flatironref18_Update.l10s _ _ _ _ _ _ _ _ _ ?_
    obtain ⟨nv, ov, t, hnv, hov, hB⟩ := h.box
    have hB1 := hB
    refine fa0 (hB.ld rfl (hnv.tv (H := H) |>.len _ ?_))
    refine fa0 (hB.ld rfl (hov.tv (H := H) |>.len _ ?_))
    rw [show ((x.needs.length : Int) + (x.order.length : Int)) = ((x.needs.length + x.order.length : Nat) : Int) from rfl, wrap_nat _ (by omega)]
    refine cnd_dec (fun _ => ?_) (fun h => by omega)
    refine fa0 (hB.ld rfl (hnv.tv (H := H) |>.len _ ?_))
    have ei : IntKind.i64.wrap ((i : Int) + 1) = ((i + 1 : Nat) : Int) := by rw [show ((i : Int) + 1) = ((i + 1 : Nat) : Int) from rfl, wrap_nat _ (by omega)]
    obtain ⟨r, cc, hdr, hget⟩ := todo_drop x i hil
    rw [hdr] at hn
    have hcc : cc = decide (i < x.needs.length) := by
      rcases hget with ⟨h, rfl, _⟩ | ⟨h, rfl, _⟩
      · simp [h]
      · simp; omega
    have main : flatironref18_Update.j16 b w0 (.ptr n 0) p (.ptr a 0) v (i : Int) r H (CloQ q n nL D H0 χ0 (EndOf p s' k ea c)) := by
      refine flatironref18_Update.j16s _ _ _ _ _ _ _ _ _ _ ?_
      obtain ⟨vM, vD, vO, vB, vS, g0, g1, g2, g3, g4, g5⟩ := h.rw_.ex
      obtain ⟨t0, hB0⟩ := g0.box
      have hpl : (paths s).length = s.l.length := by simp [paths]
      have hbl := hi.begun_le
      have hdl := hi.drop
      refine nf (hB0.ld rfl ?_)
      refine (has_spec b w0 vB s.begun (by omega) r H g4.tv).mono ?_
      rintro r0 J ⟨rfl, rfl⟩
      refine ret_i (bool_i ?_)
      simp only [needs] at hn
      refine cnd_dec (fun hm => ?_) (fun hm => ?_)
      · rw [if_pos hm] at hn
        refine h.rw_.pushDrop (by omega) (D + 2) ?_
        intro J ψ h' hk'
        rw [ei]
        exact ih J ψ _ v count (C + 1) ⟨h', h.keep.trans (hk'.mono (fun c => colS_mono (by omega))), h.count.keep hk' (by unfold colS; omega), h.box.keep hk' (by unfold colS; omega)⟩ (hi.dropped (p, r)) (by omega) hln hb (by omega) hn
      · rw [if_neg hm] at hn
        cases hu : upd m s r with
        | none => rw [hu] at hn; cases hn
        | some y =>
          obtain ⟨s1, k1, a1⟩ := y
          rw [hu] at hn
          simp only at hn
          have haf := upd_after m C s r s1 k1 a1 hu hi hm
          refine (hU C (D + 2) s r s1 k1 a1 J χ hu h.rw_ hi (by omega) (by omega) hm (by omega)).mono ?_
          rintro r0 J1 ⟨ψ, rfl, hR, hk'⟩
          refine ret_i (tup_i (head_i (intK_i (head_i (str_i (end_i ?_))))))
          have hk2 := h.keep.trans (hk'.mono (fun c => colS_mono (D := D) (by omega)))
          rw [show (decide ((k1 : Int) = 0)) = decide (k1 = 0) from by simp, cnd_not]
          refine cnd_dec (fun hk0 => ?_) (fun hk0 => ?_)
          · subst hk0
            rw [if_neg (by simp)] at hn
            have hlen1 : s1.l.length = nl := by have := congrArg List.length haf.1; simp [paths] at this; omega
            have hb1 : s1.begun ≠ [] := by rw [haf.beg]; exact hb
            have hX := h.box.keep hk' (by unfold colS; omega)
            have hC1 := h.count.keep hk' (by unfold colS; omega)
            obtain ⟨nv1, ov1, t1, hnv1, hov1, hB1⟩ := hX
            refine fa0 (hB1.ld rfl (hnv1.tv (H := J1) |>.len _ ?_))
            rw [ei]
            rw [show (decide ((i : Int) < (x.needs.length : Int))) = cc from by rw [hcc]; simp]
            refine cnd_of (fun hc1 => ?_) (fun hc1 => ?_)
            · intro ad had
              have he : Ext J1 (J1.set ad (O.tip (1 * 1) 9)) := (Ext.refl J1).set had
              have hkE : ∀ S : Nat → Prop, Keep S J1 (J1.set ad (O.tip (1 * 1) 9)) ψ ψ := fun S => Keep.ext he
              refine (hC1.keep (hkE (fun _ => False)) id).app (hR.cl.ext he) (by simp) (by simp; omega) ?_
              intro m' J2 φ hG' hc' hk3
              have hk4 := (hkE (fun c => c = D + 1)).trans (hk3 (fun c => c = D + 1) rfl)
              rw [if_pos hc1] at hn
              refine ih J2 φ s1 _ (count ++ [r]) C ⟨hR.keep hk4 hc' (fun c _ _ => by omega), hk2.trans ((hkE _).trans (hk3 _ (.inr (by omega)))), by simpa using hG', (XB.keep ⟨nv1, ov1, t1, hnv1, hov1, hB1⟩ hk4 (by omega))⟩ haf.ok (by omega) hlen1 hb1 (by simp; omega) hn
            · rw [if_neg (by simp [hc1])] at hn
              exact ih J1 ψ s1 v count C ⟨hR, hk2, hC1, ⟨nv1, ov1, t1, hnv1, hov1, hB1⟩⟩ haf.ok (by omega) hlen1 hb1 (by omega) hn
          · rw [if_pos hk0] at hn
            cases hn
            unfold EndOf
            rw [if_pos hk0]
            exact ⟨ψ, rfl, hR, hk2⟩
    refine cnd_dec (fun hin => ?_) (fun hin => ?_)
    · refine fa0 (hB.ld rfl ?_)
      rcases hget with ⟨h1, _, rfl⟩ | ⟨h1, _, _⟩
      · exact (hnv.tv (H := H)).at_ i h1 _ (str_i main)
      · omega
    · rcases hget with ⟨h1, _, _⟩ | ⟨h1, _, hj, rfl⟩
      · omega
      · refine fa0 (hB.ld rfl ?_)
        refine fa0 (hB.ld rfl (hnv.tv (H := H) |>.len _ ?_))
        rw [show ((i : Int) - (x.needs.length : Int)) = ((i - x.needs.length : Nat) : Int) from by omega, wrap_nat _ (by omega)]
        exact (hov.tv (H := H)).at_ _ hj _ (str_i main)
end
end Go.Proofs.Ytmpheeanjjfddaa.S
