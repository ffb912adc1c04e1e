/- A line's tokens on the list that is left; shown tokens come back; plain Lean. -/
import Derived.Test.YtgpabkdmagifjaaDoorPLexA
namespace Go.Proofs.YtgpabkdmagifjaaDoor.X
open Go.RowKit Go.Proofs.YtgpabkdmagifjaaDoorW.PrintWords Go.Proofs.YtgpabkdmagifjaaDoorW.PrintLast Go.Proofs.YtgpabkdmagifjaaDoorW.PrintMore
set_option linter.unusedSimpArgs false
set_option linter.unusedVariables false

theorem wS_suffix : ∀ d (l acc t r : List UInt8), l.length ≤ d → wS acc l = some (t, r) → (∃ p, l = p ++ r) ∧ (r = [] ∨ ∃ b m, r = b :: m ∧ stopB b = true) := by
  intro d
  induction d with
  | zero =>
    intro l acc t r hd h
    cases l with
    | nil => rw [wS_nil] at h; injection h with h; injection h with h1 h2; subst h2; exact ⟨⟨[], rfl⟩, .inl rfl⟩
    | cons b m => simp at hd
  | succ d ih =>
    intro l acc t r hd h
    cases l with
    | nil => rw [wS_nil] at h; injection h with h; injection h with h1 h2; subst h2; exact ⟨⟨[], rfl⟩, .inl rfl⟩
    | cons b m =>
      simp only [List.length_cons] at hd
      by_cases hs : stopB b = true
      · rw [wS_stop _ _ _ hs] at h; injection h with h; injection h with h1 h2; subst h2; exact ⟨⟨[], rfl⟩, .inr ⟨b, m, rfl, hs⟩⟩
      · by_cases hq : b = 39 ∨ b = 34
        · cases hqs : qS b [] m with
          | none => rw [wS_q0 _ _ _ hs hq hqs] at h; exact absurd h (by simp)
          | some x =>
            obtain ⟨t1, r1⟩ := x
            rw [wS_q _ _ _ _ _ hs hq hqs] at h
            have hl := qS_less hqs
            obtain ⟨p1, hp1, _⟩ := qS_suffix _ _ _ _ _ _ (Nat.le_refl _) hqs
            obtain ⟨⟨p, hp⟩, h3⟩ := ih r1 _ t r (by omega) h
            exact ⟨⟨b :: (p1 ++ p), by rw [hp1, hp]; simp⟩, h3⟩
        · by_cases hb : b = 92
          · subst hb
            cases m with
            | nil => rw [wS_b0] at h; exact absurd h (by simp)
            | cons c m' =>
              rw [wS_b] at h
              simp only [List.length_cons] at hd
              obtain ⟨⟨p, hp⟩, h3⟩ := ih m' _ t r (by omega) h
              exact ⟨⟨92 :: c :: p, by rw [hp]; rfl⟩, h3⟩
          · rw [wS_one _ _ _ hs (fun h => hq (.inl h)) (fun h => hq (.inr h)) hb] at h
            obtain ⟨⟨p, hp⟩, h3⟩ := ih m _ t r (by omega) h
            exact ⟨⟨b :: p, by rw [hp]; rfl⟩, h3⟩
/-- The blanks between tokens. -/
def blk (b : UInt8) : Bool := ([32, 9, 10] : List UInt8).contains b
/-- The mark that comes: its kind, its length, and what is behind it. -/
def markS : List UInt8 → Option (Nat × Nat × List UInt8)
  | [] => none
  | [b] => if b = 62 then some (4, 1, []) else if b = 60 then some (6, 1, []) else if b = 59 then some (1, 1, []) else none
  | b :: c :: r => if b = 38 ∧ c = 38 then some (2, 2, r) else if b = 124 ∧ c = 124 then some (3, 2, r) else if b = 62 ∧ c = 62 then some (5, 2, r)
    else if b = 62 then some (4, 1, c :: r) else if b = 60 then some (6, 1, c :: r) else if b = 59 then some (1, 1, c :: r) else none
theorem markS_suffix {l r : List UInt8} {k n : Nat} (h : markS l = some (k, n, r)) : (∃ p, l = p ++ r ∧ p.length = n) ∧ 0 < n ∧ 1 ≤ k ∧ k ≤ 6 := by
  unfold markS at h
  split at h
  · exact absurd h (by simp)
  · rename_i b
    repeat' split at h
    all_goals first
      | (cases h; done)
      | (injection h with h; injection h with h1 h2; injection h2 with h2 h3; subst h1 h2 h3; exact ⟨⟨[b], rfl, rfl⟩, by omega, by omega, by omega⟩)
  · rename_i b c r'
    repeat' split at h
    all_goals first
      | (cases h; done)
      | (injection h with h; injection h with h1 h2; injection h2 with h2 h3; subst h1 h2 h3; first | exact ⟨⟨[b], rfl, rfl⟩, by omega, by omega, by omega⟩ | exact ⟨⟨[b, c], rfl, rfl⟩, by omega, by omega, by omega⟩)
/-- A line's tokens, behind some. -/
def tokS (out : List (Nat × List UInt8)) (l : List UInt8) : Option (List (Nat × List UInt8)) :=
  match l with
  | [] => some out
  | b :: r => if blk b = true then tokS out r else
    match h : markS (b :: r) with
    | some (k, _, r') => tokS (out ++ [(k, [])]) r'
    | none => match h2 : wS [] (b :: r) with
      | none => none
      | some (t, r') => if h3 : r'.length < (b :: r).length then tokS (out ++ [(0, t)]) r' else none
  termination_by l.length
  decreasing_by
    · simp
    · obtain ⟨⟨p, hp, hl⟩, h0, _⟩ := markS_suffix h
      have := congrArg List.length hp
      simp only [List.length_append, List.length_cons] at this
      simp only [List.length_cons]
      omega
    · exact h3
theorem tokS_nil (out : List (Nat × List UInt8)) : tokS out [] = some out := by rw [tokS.eq_def]
theorem tokS_cons (out : List (Nat × List UInt8)) (b : UInt8) (r : List UInt8) : tokS out (b :: r) = if blk b = true then tokS out r else
    match h : markS (b :: r) with
    | some (k, _, r') => tokS (out ++ [(k, [])]) r'
    | none => match h2 : wS [] (b :: r) with
      | none => none
      | some (t, r') => if h3 : r'.length < (b :: r).length then tokS (out ++ [(0, t)]) r' else none := by
  conv => lhs; rw [tokS.eq_def]
theorem tokS_blk (out : List (Nat × List UInt8)) (b : UInt8) (r : List UInt8) (h : blk b = true) : tokS out (b :: r) = tokS out r := by rw [tokS_cons, if_pos h]
theorem tokS_mark (out : List (Nat × List UInt8)) (b : UInt8) (r : List UInt8) (h : ¬ blk b = true) (k n : Nat) (r' : List UInt8) (h1 : markS (b :: r) = some (k, n, r')) : tokS out (b :: r) = tokS (out ++ [(k, [])]) r' := by
  rw [tokS_cons, if_neg h]
  split
  · rename_i k2 n2 r2 h2; rw [h1] at h2; injection h2 with h2; injection h2 with e1 e2; injection e2 with e2 e3; subst e1 e3; rfl
  · rename_i h2; rw [h1] at h2; exact absurd h2 (by simp)
theorem tokS_bad (out : List (Nat × List UInt8)) (b : UInt8) (r : List UInt8) (h : ¬ blk b = true) (h1 : markS (b :: r) = none) (h2 : wS [] (b :: r) = none) : tokS out (b :: r) = none := by
  rw [tokS_cons, if_neg h]
  split
  · rename_i h3; rw [h1] at h3; exact absurd h3 (by simp)
  · split
    · rfl
    · rename_i h3; rw [h2] at h3; exact absurd h3 (by simp)
theorem tokS_word (out : List (Nat × List UInt8)) (b : UInt8) (r : List UInt8) (h : ¬ blk b = true) (h1 : markS (b :: r) = none) (t r' : List UInt8) (h2 : wS [] (b :: r) = some (t, r')) :
    tokS out (b :: r) = if r'.length < (b :: r).length then tokS (out ++ [(0, t)]) r' else none := by
  rw [tokS_cons, if_neg h]
  split
  · rename_i h3; rw [h1] at h3; exact absurd h3 (by simp)
  · split
    · rename_i h3; rw [h2] at h3; exact absurd h3 (by simp)
    · rename_i t2 r2 h3; rw [h2] at h3; injection h3 with h3; injection h3 with e1 e2; subst e1 e2
      split <;> rfl
end Go.Proofs.YtgpabkdmagifjaaDoor.X
