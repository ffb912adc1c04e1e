/- The plain machine comes to an end. -/
import Derived.Test.YtmpheeanjjfddaaUPlain
namespace Go.Proofs.Ytmpheeanjjfddaa.Upd
set_option linter.unusedVariables false
set_option linter.unusedSimpArgs false
theorem nodup_le : ∀ (l m : List Bs), l.Nodup → (∀ x ∈ l, x ∈ m) → l.length ≤ m.length
  | [], m, _, _ => Nat.zero_le _
  | a :: r, m, hn, hs => by
    obtain ⟨h1, h2⟩ := List.nodup_cons.1 hn
    have ha : a ∈ m := hs a (by simp)
    have := nodup_le r (m.erase a) h2 (fun x hx => by
      have hne : x ≠ a := by rintro rfl; exact h1 hx
      exact (List.mem_erase_of_ne hne).2 (hs x (List.mem_cons_of_mem _ hx)))
    rw [List.length_erase_of_mem ha] at this
    have hp : 0 < m.length := List.length_pos_of_mem ha
    simp only [List.length_cons]
    omega
abbrev paths (s : St) : List Bs := s.l.map It.path
theorem setT_paths (p : Bs) (t : Nat) : ∀ l : List It, (setT p t l).map It.path = l.map It.path
  | [] => rfl
  | x :: r => by
    unfold setT
    split
    · rfl
    · simp [setT_paths p t r]
theorem make_keeps {s s' : St} {p : Bs} (h : make s p = some s') : paths s' = paths s ∧ s'.begun = s.begun := by
  unfold make at h
  split at h
  · cases h
  · split at h
    · cases h
    · split at h
      · cases h; exact ⟨setT_paths _ _ _, rfl⟩
      · cases h; exact ⟨rfl, rfl⟩
theorem close_keeps (s : St) (p : Bs) (count : List Bs) : paths (close s p count).1 = paths s ∧ ((close s p count).2.1 = 0 → (close s p count).1.begun = s.begun.dropLast) := by
  unfold close
  simp only
  split
  · cases hm : make s p with
    | none => exact ⟨rfl, fun h => by simp at h⟩
    | some s' =>
      obtain ⟨h1, h2⟩ := make_keeps hm
      exact ⟨h1, fun _ => by simp only [h2]⟩
  · exact ⟨rfl, fun _ => rfl⟩
theorem get_none {l : List It} {p : Bs} (h : p ∉ l.map It.path) : get l p = none_ p := by
  unfold get
  rw [List.find?_eq_none.2]
  · rfl
  · intro x hx
    simp only [decide_eq_true_eq]
    rintro rfl
    exact h (List.mem_map.2 ⟨x, hx, rfl⟩)
def Fit (n : Nat) (s : St) : Prop := s.begun.Nodup ∧ (∀ q ∈ s.begun, q ∈ paths s) ∧ (paths s).length + 1 ≤ n + s.begun.length
theorem Fit.of {n : Nat} {s t : St} (h : Fit n s) (h1 : paths t = paths s) (h2 : t.begun = s.begun) : Fit n t := by
  unfold Fit at h ⊢
  rw [h1, h2]; exact h
theorem needs_total (n : Nat) (hT : ∀ s p, Fit n s → p ∉ s.begun → ∃ s' k a, upd n s p = some (s', k, a) ∧ paths s' = paths s ∧ (k = 0 → s'.begun = s.begun)) (p : Bs) :
    ∀ (l : List (Bs × Bool)) (s : St) (count : List Bs), Fit n s → ∃ s' k a c, needs n s p l count = some (s', k, a, c) ∧ paths s' = paths s ∧ (k = 0 → s'.begun = s.begun)
  | [], s, count, h => ⟨s, 0, [], count, by simp only [needs], rfl, fun _ => rfl⟩
  | (q, c) :: r, s, count, h => by
    simp only [needs]
    split
    · obtain ⟨s', k, a, c', h1, h2, h3⟩ := needs_total n hT p r { s with dropped := s.dropped ++ [(p, q)] } count (h.of rfl rfl)
      exact ⟨s', k, a, c', h1, h2, h3⟩
    · rename_i hq
      obtain ⟨s1, k, a, h1, h2, h3⟩ := hT s q h hq
      rw [h1]
      simp only
      split
      · rename_i hk
        exact ⟨s1, k, a, count, rfl, h2, fun h0 => absurd h0 hk⟩
      · rename_i hk
        have hk : k = 0 := Classical.not_not.1 hk
        obtain ⟨s', k', a', c', g1, g2, g3⟩ := needs_total n hT p r s1 (if c then count ++ [q] else count) (h.of h2 (h3 hk))
        exact ⟨s', k', a', c', g1, g2.trans h2, fun h0 => (g3 h0).trans (h3 hk)⟩
theorem total : ∀ (n : Nat) (s : St) (p : Bs), Fit n s → p ∉ s.begun → ∃ s' k a, upd n s p = some (s', k, a) ∧ paths s' = paths s ∧ (k = 0 → s'.begun = s.begun)
  | 0, s, p, h, _ => by
    have := nodup_le _ _ h.1 h.2.1
    have := h.2.2
    omega
  | n + 1, s, p, h, hp => by
    simp only [upd]
    split
    · exact ⟨s, 0, [], rfl, rfl, fun _ => rfl⟩
    · split
      · exact ⟨_, 8, p, rfl, rfl, fun h0 => by simp at h0⟩
      · rename_i hx
        have hin : p ∈ paths s := Classical.byContradiction fun hni => hx (by rw [get_none hni]; exact ⟨rfl, rfl⟩)
        have hf : Fit n { s with begun := s.begun ++ [p] } := by
          refine ⟨?_, ?_, ?_⟩
          · rw [List.nodup_append]
            exact ⟨h.1, by simp, fun a ha b hb => by simp at hb; subst hb; rintro rfl; exact hp ha⟩
          · intro q hq
            rcases List.mem_append.1 hq with hq | hq
            · exact h.2.1 q hq
            · simp at hq; subst hq; exact hin
          · have := h.2.2
            simp only [List.length_append, List.length_cons, List.length_nil]
            show (paths s).length + 1 ≤ _
            omega
        obtain ⟨s1, k, a, c, h1, h2, h3⟩ := needs_total n (total n) p ((get s.l p).needs.map (·, true) ++ (get s.l p).order.map (·, false)) _ [] hf
        rw [h1]
        simp only
        split
        · rename_i hk
          exact ⟨s1, k, a, rfl, h2, fun h0 => absurd h0 hk⟩
        · rename_i hk
          have hk : k = 0 := Classical.not_not.1 hk
          obtain ⟨g1, g2⟩ := close_keeps s1 p c
          exact ⟨(close s1 p c).1, (close s1 p c).2.1, (close s1 p c).2.2, rfl, g1.trans h2, fun h0 => by rw [g2 h0, h3 hk]; simp⟩
end Go.Proofs.Ytmpheeanjjfddaa.Upd
