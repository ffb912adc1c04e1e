/- The plain machine changes no more of its items than their times. -/
import Derived.Test.YtmpheeanjjfddaaUInv
namespace Go.Proofs.Ytmpheeanjjfddaa.Upd
set_option linter.unusedVariables false
set_option linter.unusedSimpArgs false
def strip (x : It) : It := { x with time := 0 }
theorem strip_setT (p : Bs) (t : Nat) : ∀ l : List It, (setT p t l).map strip = l.map strip
  | [] => rfl
  | x :: r => by
    unfold setT
    split
    · rfl
    · simp [strip_setT p t r]
theorem make_strip {s s' : St} {p : Bs} (h : make s p = some s') : s'.l.map strip = s.l.map strip := by
  obtain ⟨⟨t, ht⟩, _⟩ := make_some h
  rcases ht with ht | ht
  · rw [ht, strip_setT]
  · rw [ht]
theorem close_strip (s : St) (p : Bs) (count : List Bs) : (close s p count).1.l.map strip = s.l.map strip := by
  unfold close
  simp only
  split
  · cases hm : make s p with
    | none => rfl
    | some s' =>
      have h1 : s'.l.map strip = s.l.map strip := make_strip hm
      exact h1
  · rfl
theorem needs_strip (n : Nat) (hT : ∀ s p s' k a, upd n s p = some (s', k, a) → s'.l.map strip = s.l.map strip) (p : Bs) :
    ∀ (l : List (Bs × Bool)) (s s' : St) (count c : List Bs) (k : Nat) (a : Bs), needs n s p l count = some (s', k, a, c) → s'.l.map strip = s.l.map strip
  | [], s, s', count, c, k, a, h => by
    simp only [needs, Option.some.injEq, Prod.mk.injEq] at h
    obtain ⟨rfl, rfl, rfl, rfl⟩ := h
    rfl
  | (q, cc) :: r, s, s', count, c, k, a, h => by
    simp only [needs] at h
    split at h
    · exact (needs_strip n hT p r _ s' count c k a h :)
    · cases hu : upd n s q with
      | none => rw [hu] at h; cases h
      | some x =>
        obtain ⟨s1, k1, a1⟩ := x
        rw [hu] at h
        simp only at h
        have h1 := hT s q s1 k1 a1 hu
        split at h
        · cases h; exact h1
        · exact (needs_strip n hT p r s1 s' _ c k a h).trans h1
theorem upd_strip : ∀ (n : Nat) (s : St) (p : Bs) (s' : St) (k : Nat) (a : Bs), upd n s p = some (s', k, a) → s'.l.map strip = s.l.map strip
  | 0, s, p, s', k, a, h => by simp [upd] at h
  | n + 1, s, p, s', k, a, h => by
    simp only [upd] at h
    split at h
    · cases h; rfl
    · split at h
      · cases h; rfl
      · split at h
        · cases h
        · rename_i s1 k1 a1 c1 hn
          have h1 := needs_strip n (upd_strip n) p _ _ s1 [] c1 k1 a1 hn
          split at h
          · cases h; exact h1
          · have h := Option.some.inj h
            have e1 : (close s1 p c1).1 = s' := by rw [h]
            subst e1
            exact (close_strip s1 p c1).trans h1
theorem get_strip {l m : List It} (h : m.map strip = l.map strip) (p : Bs) : strip (get m p) = strip (get l p) := by
  induction l generalizing m with
  | nil => rw [List.map_eq_nil_iff.1 h]
  | cons x r ih =>
    cases m with
    | nil => simp at h
    | cons y t =>
      simp only [List.map_cons, List.cons.injEq] at h
      rw [get_cons, get_cons]
      have hp' : (strip y).path = (strip x).path := congrArg It.path h.1
      have hp : y.path = x.path := hp'
      rw [hp]
      split
      · exact h.1
      · exact ih h.2
theorem get_rule {l m : List It} (h : m.map strip = l.map strip) (p : Bs) : (get m p).rule = (get l p).rule ∧ (get m p).recipe = (get l p).recipe ∧ (get m p).phony = (get l p).phony := by
  have := get_strip h p
  have h1 : (strip (get m p)).rule = (strip (get l p)).rule := congrArg It.rule this
  have h2 : (strip (get m p)).recipe = (strip (get l p)).recipe := congrArg It.recipe this
  have h3 : (strip (get m p)).phony = (strip (get l p)).phony := congrArg It.phony this
  exact ⟨h1, h2, h3⟩
end Go.Proofs.Ytmpheeanjjfddaa.Upd
