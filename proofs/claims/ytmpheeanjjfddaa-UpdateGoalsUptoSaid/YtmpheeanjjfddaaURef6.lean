/- The reference's Update and Goals. -/
import Derived.Test.YtmpheeanjjfddaaURef5
namespace Go.Proofs.Ytmpheeanjjfddaa.S
open Go Go.RowKit Go.Proofs Go.Proofs.Ytmpheeanjjfddaa.SM Go.Proofs.Ytmpheeanjjfddaa.Upd
set_option linter.unusedVariables false
set_option linter.unusedSimpArgs false
section
variable {b : Nat} {w0 : World} {q n nL : Nat}
theorem update_spec (hq : 0 < q) : ∀ (m C D : Nat) (s : Upd.St) (p : Bs) (s' : Upd.St) (k : Nat) (a : Bs) (H : Hp) (χ : Nat → Nat), upd m s p = some (s', k, a) → RW H χ q n nL s → Upd.Inv C s → C ≤ 1000 → s.l.length ≤ 1000 → p ∉ s.begun → q + 7 ≤ D →
    Ac (cx b w0) 41 [.ptr n 0, .str p] H (UpdQ q n nL D H χ s' k a)
  | 0, _, _, _, _, _, _, _, _, _, h, _, _, _, _, _, _ => by simp [upd] at h
  | m + 1, C, D, s, p, s', k, ea, H, χ, hu, h, hi, hC, hl, hp, hD => by
    have hpl : (paths s).length = s.l.length := by simp [paths]
    have hdl := hi.done_le
    have hbl := hi.begun_le
    refine flatironref18_Update.s b w0 _ _ H _ ?_
    obtain ⟨vM, vD, vO, vB, vS, g0, g1, g2, g3, g4, g5⟩ := h.ex
    obtain ⟨t0, hB0⟩ := g0.box
    refine nf (hB0.ld rfl ?_)
    refine (has_spec b w0 vO s.done (by omega) p H g3.tv).mono ?_
    rintro r0 J ⟨rfl, rfl⟩
    refine ret_i (bool_i ?_)
    simp only [upd] at hu
    refine cnd_dec (fun hd => ?_) (fun hd => ?_)
    · rw [if_pos hd] at hu
      cases hu
      exact ⟨χ, rfl, h, Keep.refl⟩
    · rw [if_neg hd] at hu
      refine h.pushBegun (by omega) (D + 2) ?_
      intro J1 χ1 h1 hk1
      refine (get_spec b w0 n nL s.l hl p J1 h1.wl).mono ?_
      rintro r J2 ⟨vs, rfl, hv, he⟩
      refine ret_i (open_it hv ?_)
      intro nv ov hnv hov
      have h2 := h1.keep (Keep.ext (S := fun _ => False) he) (h1.cl.ext he) (fun _ _ _ h => h)
      have hk2 : Keep (colS q (D + 2)) J J2 χ χ1 := hk1.trans (Keep.ext he)
      refine newBox (i := D) h2.cl rfl (by simp only [List.all_cons, List.all_nil, hnv.one, hov.one]; rfl) ?_
      intro a J3 χ3 hB hc3 hk3
      have h3 := h2.keep (hk3 (fun _ => False)) hc3 (fun _ _ _ h => h)
      have hX : XB J3 χ3 D a (Upd.get s.l p) := ⟨nv, ov, _, hnv, hov, hB⟩
      have hk : Keep (colS q D) J J3 χ χ3 := (hk2.mono (fun c => colS_mono (by omega))).trans (hk3 _)
      have last : ∀ c : Bool, c = decide ((Upd.get s.l p).rule = false ∧ (Upd.get s.l p).time = 0) → flatironref18_Update.j7 b w0 (.ptr n 0) p (.ptr a 0) c J3 (UpdQ q n nL D J χ s' k ea) := by
        rintro c rfl
        refine flatironref18_Update.j7s _ _ _ _ _ _ _ _ ?_
        refine cnd_dec (fun hn => ?_) (fun hn => ?_)
        · rw [if_pos hn] at hu
          cases hu
          exact ⟨χ3, rfl, h3, hk⟩
        · rw [if_neg hn] at hu
          refine flatironref18_Update.j8s _ _ _ _ _ _ _ ?_
          have hin : p ∈ paths s := Classical.byContradiction fun hni => hn (by rw [get_none hni]; exact ⟨rfl, rfl⟩)
          obtain ⟨hi1, hw⟩ := hi.begin hin hp hd
          have hx : (Upd.get s.l p).needs.length + (Upd.get s.l p).order.length ≤ 1000 := by unfold wt at hw; omega
          have hu' : (match needs m { s with begun := s.begun ++ [p] } p (todo (Upd.get s.l p)) [] with
            | none => none
            | some (s, k, at_, count) => if k ≠ 0 then some (s, k, at_) else some (close s p count)) = some (s', k, ea) := hu
          cases hnd : needs m { s with begun := s.begun ++ [p] } p (todo (Upd.get s.l p)) [] with
          | none => rw [hnd] at hu'; cases hu'
          | some y =>
            obtain ⟨s1, k1, a1, c1⟩ := y
            rw [hnd] at hu'
            simp only at hu'
            have hend : EndOf p s1 k1 a1 c1 = (s', k, ea) := by
              unfold EndOf
              split at hu'
              · rename_i hk; rw [if_pos hk]; exact Option.some.inj hu'
              · rename_i hk; rw [if_neg hk]; exact Option.some.inj hu'
            have := l10_spec (b := b) (w0 := w0) (q := q) (n := n) (nL := nL) (D := D) (H0 := J) (χ0 := χ) m (update_spec hq m) (p := p) (x := Upd.get s.l p) (a := a) (s' := s1) (k := k1) (ea := a1) (c := c1) hq hD s.l.length hl hx 0 (Nat.zero_le _) J3 χ3 _ .nilsl [] _
              ⟨h3, hk, GS.nil .., hX⟩ hi1 (by rw [todo_len]; unfold wt at hw ⊢; omega) rfl (by simp) (by simp) (by simpa using hnd)
            rw [hend] at this
            exact this
      refine hB.ld rfl (bool_i ?_)
      refine cnd_of (fun hr => ?_) (fun hr => ?_)
      · refine hB.ld rfl (intK_i ?_)
        refine last _ ?_
        have : (Upd.get s.l p).rule = false := by simpa using hr
        simp [this]
      · refine last _ ?_
        have : (Upd.get s.l p).rule = true := by simpa using hr
        simp [this]
theorem goals_spec (hq : 0 < q) (m C D : Nat) (hC : C ≤ 1000) (gs : List Bs) (hg : gs.length ≤ 1000) (s : Upd.St) (s' : Upd.St) (k : Nat) (a : Bs) (H : Hp) (χ : Nat → Nat) (hl : s.l.length ≤ 1000) (hD : q + 7 ≤ D) (hu : goals m s gs = some (s', k, a)) (h : RW H χ q n nL s) (hi : Upd.Inv C s) (hb : s.begun = []) :
    Ac (cx b w0) 13 [.ptr n 0, strs gs] H (UpdQ q n nL D H χ s' k a) := by
  refine flatironref18_Goals.s b w0 _ _ H _ ?_
  have key : ∀ i, i ≤ gs.length → ∀ J ψ t, RW J ψ q n nL t → Keep (colS q D) H J χ ψ → Upd.Inv C t → t.begun = [] → t.l.length = s.l.length → goals m t (gs.drop i) = some (s', k, a) → flatironref18_Goals.l2 b w0 (.ptr n 0) (strs gs) (i : Int) J (UpdQ q n nL D H χ s' k a) := by
    refine upto ?_ ?_
    · intro J ψ t hR hk hI hbt hlt hgo
      rw [List.drop_eq_nil_of_le (Nat.le_refl _)] at hgo
      simp only [goals, Option.some.injEq, Prod.mk.injEq] at hgo
      obtain ⟨rfl, rfl, rfl⟩ := hgo
      refine flatironref18_Goals.l2s _ _ _ _ _ _ _ ?_
      refine (TV.vsl J gs).len _ ?_
      refine cnd_dec (fun h => by omega) fun _ => ⟨ψ, rfl, hR, hk⟩
    · intro i hil ih J ψ t hR hk hI hbt hlt hgo
      refine flatironref18_Goals.l2s _ _ _ _ _ _ _ ?_
      refine (TV.vsl J gs).len _ ?_
      refine cnd_dec (fun _ => ?_) (fun h => by omega)
      refine (TV.vsl J gs).at_ i hil _ (str_i ?_)
      rw [List.drop_eq_getElem_cons hil] at hgo
      simp only [goals] at hgo
      cases hu : upd m t gs[i] with
      | none => rw [hu] at hgo; cases hgo
      | some y =>
        obtain ⟨t1, k1, a1⟩ := y
        rw [hu] at hgo
        simp only at hgo
        have hnb : gs[i] ∉ t.begun := by rw [hbt]; simp
        have haf := upd_after m C t gs[i] t1 k1 a1 hu hI hnb
        refine (update_spec hq m C D t gs[i] t1 k1 a1 J ψ hu hR hI hC (by omega) hnb hD).mono ?_
        rintro r J1 ⟨ψ1, rfl, hR1, hk1⟩
        refine ret_i (tup_i (head_i (intK_i (head_i (str_i (end_i ?_))))))
        rw [show (decide ((k1 : Int) = 0)) = decide (k1 = 0) from by simp, cnd_not]
        refine cnd_dec (fun hk0 => ?_) (fun hk0 => ?_)
        · subst hk0
          rw [if_neg (by simp)] at hgo
          rw [show IntKind.i64.wrap ((i : Int) + 1) = ((i + 1 : Nat) : Int) from by rw [show ((i : Int) + 1) = ((i + 1 : Nat) : Int) from rfl, wrap_nat _ (by omega)]]
          exact ih J1 ψ1 t1 hR1 (hk.trans hk1) haf.ok (by rw [haf.beg, hbt]) (by have := congrArg List.length haf.1; simp [paths] at this; omega) hgo
        · rw [if_pos hk0] at hgo
          cases hgo
          exact ⟨ψ1, rfl, hR1, hk.trans hk1⟩
  exact key 0 (Nat.zero_le _) H χ s h Keep.refl hi hb rfl (by simpa using hu)
end
end Go.Proofs.Ytmpheeanjjfddaa.S
