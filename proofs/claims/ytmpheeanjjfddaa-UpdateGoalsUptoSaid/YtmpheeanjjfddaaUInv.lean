/- How much the plain machine lists at most. -/
import Derived.Test.YtmpheeanjjfddaaUTotal
namespace Go.Proofs.Ytmpheeanjjfddaa.Upd
set_option linter.unusedVariables false
set_option linter.unusedSimpArgs false
def wt (x : It) : Nat := x.needs.length + x.order.length
/-- What is still to be gone through. -/
def restL (b d : List Bs) : List It → Nat
  | [] => 0
  | x :: r => (if x.path ∈ b ∨ x.path ∈ d then 0 else wt x) + restL b d r
abbrev rest (s : St) : Nat := restL s.begun s.done s.l
structure Inv (C : Nat) (s : St) : Prop where
  nd : (s.begun ++ s.done).Nodup
  pn : (paths s).Nodup
  sub : ∀ q ∈ s.done, q ∈ paths s
  bs : ∀ q ∈ s.begun, q ∈ paths s
  made : s.made.length ≤ s.done.length
  stale : s.stale.length ≤ s.done.length
  drop : s.dropped.length + rest s ≤ C
  now : s.now ≤ 1000 + s.done.length
  tm : ∀ x ∈ s.l, x.time ≤ s.now
  ss : ∀ q ∈ s.stale, q ∈ s.done
/-- What is known behind an error, too. -/
structure Weak (C : Nat) (s : St) : Prop where
  made : s.made.length ≤ (paths s).length
  drop : s.dropped.length ≤ C
theorem Inv.done_le {C : Nat} {s : St} (h : Inv C s) : s.done.length ≤ (paths s).length := nodup_le _ _ (List.nodup_append.1 h.nd).2.1 h.sub
theorem Inv.begun_le {C : Nat} {s : St} (h : Inv C s) : s.begun.length ≤ (paths s).length := nodup_le _ _ (List.nodup_append.1 h.nd).1 h.bs
theorem Inv.weak {C : Nat} {s : St} (h : Inv C s) : Weak C s := ⟨Nat.le_trans h.made h.done_le, by have := h.drop; omega⟩
theorem Inv.mono {C D : Nat} {s : St} (h : Inv C s) (k : C ≤ D) : Inv D s := ⟨h.nd, h.pn, h.sub, h.bs, h.made, h.stale, Nat.le_trans h.drop k, h.now, h.tm, h.ss⟩
theorem Weak.mono {C D : Nat} {s : St} (h : Weak C s) (k : C ≤ D) : Weak D s := ⟨h.made, Nat.le_trans h.drop k⟩
theorem restL_congr {b d b' d' : List Bs} : ∀ (l : List It), (∀ x ∈ l, (x.path ∈ b ∨ x.path ∈ d) ↔ (x.path ∈ b' ∨ x.path ∈ d')) → restL b d l = restL b' d' l
  | [], _ => rfl
  | x :: r, h => by
    unfold restL
    rw [restL_congr r (fun y hy => h y (List.mem_cons_of_mem _ hy))]
    have := h x (by simp)
    by_cases hx : x.path ∈ b ∨ x.path ∈ d
    · rw [if_pos hx, if_pos (this.1 hx)]
    · rw [if_neg hx, if_neg (fun hc => hx (this.2 hc))]
theorem restL_set (b d : List Bs) (p : Bs) (t : Nat) : ∀ l : List It, restL b d (setT p t l) = restL b d l
  | [] => rfl
  | x :: r => by
    unfold setT
    split
    · rfl
    · simp only [restL, restL_set b d p t r]
theorem get_cons (x : It) (r : List It) (p : Bs) : get (x :: r) p = if x.path = p then x else get r p := by
  unfold get
  by_cases h : x.path = p <;> simp [List.find?_cons, h]
/-- A path is begun: what it needs is gone through now. -/
theorem restL_begin {b d : List Bs} {p : Bs} : ∀ (l : List It), (l.map It.path).Nodup → p ∈ l.map It.path → p ∉ b → p ∉ d → wt (get l p) + restL (b ++ [p]) d l = restL b d l
  | [], _, h, _, _ => by simp at h
  | x :: r, hn, h, hb, hd => by
    obtain ⟨hn1, hn2⟩ := List.nodup_cons.1 hn
    rw [get_cons]
    simp only [restL]
    by_cases hx : x.path = p
    · subst hx
      rw [if_pos rfl, if_pos (by simp), if_neg (by simp [hb, hd])]
      have : restL (b ++ [x.path]) d r = restL b d r := restL_congr r (fun y hy => by
        have hy : y.path ≠ x.path := fun he => hn1 (List.mem_map.2 ⟨y, hy, he⟩)
        simp [hy])
      rw [this]; omega
    · rw [if_neg hx]
      have hr : p ∈ r.map It.path := by simpa [Ne.symm hx] using h
      have := restL_begin r hn2 hr hb hd
      have e : (x.path ∈ b ++ [p] ∨ x.path ∈ d) ↔ (x.path ∈ b ∨ x.path ∈ d) := by simp [hx]
      by_cases hc : x.path ∈ b ∨ x.path ∈ d
      · rw [if_pos (e.2 hc), if_pos hc]; omega
      · rw [if_neg (fun h => hc (e.1 h)), if_neg hc]; omega
theorem Inv.begin {C : Nat} {s : St} (h : Inv C s) {p : Bs} (hp : p ∈ paths s) (hb : p ∉ s.begun) (hd : p ∉ s.done) : Inv (C - wt (get s.l p)) { s with begun := s.begun ++ [p] } ∧ wt (get s.l p) ≤ C := by
  have hr := restL_begin (b := s.begun) (d := s.done) s.l h.pn hp hb hd
  have hdr := h.drop
  refine ⟨⟨?_, h.pn, h.sub, ?_, h.made, h.stale, ?_, h.now, h.tm, h.ss⟩, by unfold rest at hdr; omega⟩
  · obtain ⟨h1, h2, h3⟩ := List.nodup_append.1 h.nd
    rw [List.nodup_append]
    refine ⟨List.nodup_append.2 ⟨h1, by simp, fun a ha c hc => by simp at hc; subst hc; rintro rfl; exact hb ha⟩, h2, fun a ha c hc => ?_⟩
    rcases List.mem_append.1 ha with ha | ha
    · exact h3 a ha c hc
    · simp at ha; subst ha; rintro rfl; exact hd hc
  · intro q hq
    rcases List.mem_append.1 hq with hq | hq
    · exact h.bs q hq
    · simp at hq; subst hq; exact hp
  · show s.dropped.length + restL (s.begun ++ [p]) s.done s.l ≤ _
    unfold rest at hdr; omega
theorem Inv.dropped {C : Nat} {s : St} (h : Inv C s) (x : Bs × Bs) : Inv (C + 1) { s with dropped := s.dropped ++ [x] } :=
  ⟨h.nd, h.pn, h.sub, h.bs, h.made, h.stale, by have := h.drop; simp only [List.length_append, List.length_singleton]; show _ + rest s ≤ _; omega, h.now, h.tm, h.ss⟩
theorem setT_time {p : Bs} {t m : Nat} : ∀ {l : List It}, (∀ x ∈ l, x.time ≤ m) → ∀ x ∈ setT p t l, x.time ≤ max m t
  | [], _, x, hx => by simp [setT] at hx
  | y :: r, h, x, hx => by
    unfold setT at hx
    split at hx
    · rcases List.mem_cons.1 hx with rfl | hx
      · exact Nat.le_max_right ..
      · exact Nat.le_trans (h x (List.mem_cons_of_mem _ hx)) (Nat.le_max_left ..)
    · rcases List.mem_cons.1 hx with rfl | hx
      · exact Nat.le_trans (h _ (by simp)) (Nat.le_max_left ..)
      · exact setT_time (fun y hy => h y (List.mem_cons_of_mem _ hy)) x hx
theorem make_some {s s' : St} {p : Bs} (h : make s p = some s') : (∃ t, s'.l = setT p t s.l ∨ s'.l = s.l) ∧ s'.made = s.made ∧ s'.dropped = s.dropped ∧ s'.done = s.done ∧ s'.begun = s.begun ∧ s'.stale = s.stale ∧ s'.now ≤ s.now + 1 ∧ ((∀ x ∈ s.l, x.time ≤ s.now) → ∀ x ∈ s'.l, x.time ≤ s'.now) := by
  unfold make at h
  split at h
  · cases h
  · split at h
    · cases h
    · split at h
      · cases h; exact ⟨⟨_, .inl rfl⟩, rfl, rfl, rfl, rfl, rfl, Nat.le_refl _, fun h x hx => by have := setT_time h x hx; show x.time ≤ s.now + 1; omega⟩
      · cases h; exact ⟨⟨0, .inr rfl⟩, rfl, rfl, rfl, rfl, rfl, Nat.le_succ _, fun h => h⟩
theorem Inv.fin {C : Nat} {s : St} {p : Bs} {b : List Bs} {m st : List Bs} {l : List It} {now : Nat} (h : Inv C s) (hb : s.begun = b ++ [p]) (hl : (∃ t, l = setT p t s.l) ∨ l = s.l) (hm : m.length ≤ s.made.length + 1) (hs : st.length ≤ s.stale.length + 1) (hnow : now ≤ s.now + 1) (htm : ∀ x ∈ l, x.time ≤ now) (hss : ∀ q ∈ st, q ∈ s.stale ∨ q = p) :
    Inv C { s with l := l, now := now, made := m, stale := st, done := s.done ++ [p], begun := s.begun.dropLast } := by
  have hp : l.map It.path = paths s := by
    rcases hl with ⟨t, rfl⟩ | rfl
    · exact setT_paths ..
    · rfl
  have hr : ∀ b d, restL b d l = restL b d s.l := fun b d => by
    rcases hl with ⟨t, rfl⟩ | rfl
    · exact restL_set ..
    · rfl
  have e : (s.begun.dropLast) = b := by rw [hb]; simp
  refine ⟨?_, by show (l.map It.path).Nodup; rw [hp]; exact h.pn, ?_, ?_, ?_, ?_, ?_, by have := h.now; show now ≤ 1000 + (s.done ++ [p]).length; simp; omega, htm, fun q hq => by rcases hss q hq with h1 | rfl; exact List.mem_append_left _ (h.ss q h1); simp⟩
  · show (s.begun.dropLast ++ (s.done ++ [p])).Nodup
    rw [e]
    have := h.nd
    rw [hb] at this
    refine (List.Perm.nodup_iff ?_).1 this
    rw [List.append_assoc]
    exact List.Perm.append_left _ List.perm_append_comm
  · intro q hq
    show q ∈ l.map It.path
    rw [hp]
    rcases List.mem_append.1 hq with hq | hq
    · exact h.sub q hq
    · simp at hq; subst hq; exact h.bs _ (by rw [hb]; simp)
  · intro q hq
    show q ∈ l.map It.path
    rw [hp]
    exact h.bs q (by rw [hb]; rw [e] at hq; simp [hq])
  · have := h.made; show m.length ≤ (s.done ++ [p]).length; simp; omega
  · have := h.stale; show st.length ≤ (s.done ++ [p]).length; simp; omega
  · show s.dropped.length + restL s.begun.dropLast (s.done ++ [p]) l ≤ C
    rw [hr, e]
    have : restL b (s.done ++ [p]) s.l = restL s.begun s.done s.l := restL_congr _ (fun x _ => by rw [hb]; simp; grind)
    rw [this]; exact h.drop
theorem close_inv {C : Nat} {s : St} {p : Bs} {b : List Bs} (h : Inv C s) (hb : s.begun = b ++ [p]) (count : List Bs) :
    ((close s p count).2.1 = 0 ∧ Inv C (close s p count).1 ∧ (close s p count).1.begun = b) ∨ ((close s p count).2.1 = 9 ∧ (close s p count).1 = s) := by
  unfold close
  simp only
  split
  · cases hm : make s p with
    | none => exact .inr ⟨rfl, rfl⟩
    | some s' =>
      refine .inl ⟨rfl, ?_, ?_⟩
      · obtain ⟨⟨t, ht⟩, h1, h2, h3, h4, h5, h6, h7⟩ := make_some hm
        have := h.fin (m := s.made ++ [p]) (st := s.stale ++ [p]) (l := s'.l) (now := s'.now) hb (ht.elim (fun h => .inl ⟨t, h⟩) .inr) (by simp) (by simp) h6 (h7 h.tm) (fun q hq => by rcases List.mem_append.1 hq with h | h; exact .inl h; exact .inr (by simpa using h))
        rename_i hst
        simp only [Bool.and_eq_true] at hst
        obtain ⟨l', now', made', dropped', done', begun', stale'⟩ := s'
        simp only at h1 h2 h3 h4 h5 h6 h7 this ⊢
        subst h1 h2 h3 h4 h5
        simp only [hst.1, Bool.and_self, if_true, Bool.true_and]
        exact this
      · obtain ⟨_, h1, h2, h3, h4, h5, _⟩ := make_some hm
        simp only [h4, hb]; simp
  · refine .inl ⟨rfl, ?_, by simp [hb]⟩
    split
    · exact h.fin hb (.inr rfl) (by simp) (by simp) (by omega) h.tm (fun q hq => by rcases List.mem_append.1 hq with h | h; exact .inl h; exact .inr (by simpa using h))
    · exact h.fin hb (.inr rfl) (by simp) (by simp) (by omega) h.tm (fun q hq => .inl hq)
/-- What comes behind a path: all is bounded. -/
def After (C : Nat) (s s' : St) (k : Nat) : Prop := paths s' = paths s ∧ (if k = 0 then Inv C s' ∧ s'.begun = s.begun else Weak C s')
theorem After.ok {C : Nat} {s s' : St} (h : After C s s' 0) : Inv C s' := by have := h.2; simp at this; exact this.1
theorem After.beg {C : Nat} {s s' : St} (h : After C s s' 0) : s'.begun = s.begun := by have := h.2; simp at this; exact this.2
theorem After.weak {C : Nat} {s s' : St} {k : Nat} (h : After C s s' k) : Weak C s' := by
  have := h.2
  split at this
  · exact this.1.weak
  · exact this
theorem After.trans {C D : Nat} {s t u : St} {k : Nat} (h : paths t = paths s) (hb : t.begun = s.begun) (g : After C t u k) (hc : C ≤ D) : After D s u k := by
  refine ⟨g.1.trans h, ?_⟩
  have := g.2
  split at this
  · rename_i hk; rw [if_pos hk]; exact ⟨this.1.mono hc, this.2.trans hb⟩
  · rename_i hk; rw [if_neg hk]; exact this.mono hc
theorem needs_after (n : Nat) (hT : ∀ C s p s' k a, upd n s p = some (s', k, a) → Inv C s → p ∉ s.begun → After C s s' k) (p : Bs) :
    ∀ (l : List (Bs × Bool)) (C : Nat) (s s' : St) (count c : List Bs) (k : Nat) (a : Bs), needs n s p l count = some (s', k, a, c) → Inv C s → After (C + l.length) s s' k
  | [], C, s, s', count, c, k, a, h, hi => by
    simp only [needs, Option.some.injEq, Prod.mk.injEq] at h
    obtain ⟨rfl, rfl, rfl, rfl⟩ := h
    exact ⟨rfl, by rw [if_pos rfl]; exact ⟨hi, rfl⟩⟩
  | (q, cc) :: r, C, s, s', count, c, k, a, h, hi => by
    simp only [needs] at h
    split at h
    · have := needs_after n hT p r (C + 1) _ s' count c k a h (hi.dropped (p, q))
      exact After.trans (t := { s with dropped := s.dropped ++ [(p, q)] }) rfl rfl this (by simp; omega)
    · rename_i hq
      cases hu : upd n s q with
      | none => rw [hu] at h; cases h
      | some x =>
        obtain ⟨s1, k1, a1⟩ := x
        rw [hu] at h
        simp only at h
        have h1 := hT C s q s1 k1 a1 hu hi hq
        split at h
        · cases h
          exact After.trans rfl rfl h1 (by simp)
        · rename_i hk
          have hk : k1 = 0 := Classical.not_not.1 hk
          subst hk
          have := needs_after n hT p r C s1 s' _ c k a h h1.ok
          exact After.trans h1.1 h1.beg this (by simp)
theorem upd_after : ∀ (n C : Nat) (s : St) (p : Bs) (s' : St) (k : Nat) (a : Bs), upd n s p = some (s', k, a) → Inv C s → p ∉ s.begun → After C s s' k
  | 0, C, s, p, s', k, a, h, _, _ => by simp [upd] at h
  | n + 1, C, s, p, s', k, a, h, hi, hp => by
    simp only [upd] at h
    split at h
    · cases h; exact ⟨rfl, by rw [if_pos rfl]; exact ⟨hi, rfl⟩⟩
    · rename_i hd
      split at h
      · cases h
        exact ⟨rfl, by rw [if_neg (by decide)]; exact ⟨hi.weak.1, hi.weak.2⟩⟩
      · rename_i hx
        have hin : p ∈ paths s := Classical.byContradiction fun hni => hx (by rw [get_none hni]; exact ⟨rfl, rfl⟩)
        obtain ⟨hb, hw⟩ := hi.begin hin hp hd
        split at h
        · cases h
        · rename_i s1 k1 a1 c1 hn
          have h1 := needs_after n (upd_after n) p _ _ _ s1 [] c1 k1 a1 hn hb
          have hlen : C - wt (get s.l p) + ((get s.l p).needs.map (·, true) ++ (get s.l p).order.map (·, false)).length = C := by simp only [List.length_append, List.length_map]; unfold wt at *; omega
          rw [hlen] at h1
          split at h
          · rename_i hk
            cases h
            refine ⟨h1.1, ?_⟩
            have := h1.2
            rw [if_neg hk] at this ⊢
            exact this
          · rename_i hk
            have hk : k1 = 0 := Classical.not_not.1 hk
            subst hk
            have h := Option.some.inj h
            have e1 : (close s1 p c1).1 = s' := by rw [h]
            have e2 : (close s1 p c1).2.1 = k := by rw [h]
            subst e1 e2
            rcases close_inv (p := p) (b := s.begun) h1.ok h1.beg c1 with ⟨g1, g2, g3⟩ | ⟨g1, g2⟩
            · refine ⟨(close_keeps s1 p c1).1.trans h1.1, ?_⟩
              rw [if_pos g1]; exact ⟨g2, g3⟩
            · refine ⟨(close_keeps s1 p c1).1.trans h1.1, ?_⟩
              rw [if_neg (by rw [g1]; decide), g2]
              exact h1.ok.weak
end Go.Proofs.Ytmpheeanjjfddaa.Upd
