/- Words and quotes as functions on the list that is left; plain Lean. -/
import Derived.Test.YtgpabkdmagifjaaDoorHWord
namespace Go.Proofs.YtgpabkdmagifjaaDoor.X
open Go.RowKit Go.Proofs.YtgpabkdmagifjaaDoorW.PrintWords Go.Proofs.YtgpabkdmagifjaaDoorW.PrintLast Go.Proofs.YtgpabkdmagifjaaDoorW.PrintMore
set_option linter.unusedSimpArgs false
set_option linter.unusedVariables false

/-- What stands up to a quote's end, and what is behind it. -/
def qS (e : UInt8) (acc : List UInt8) (l : List UInt8) : Option (List UInt8 × List UInt8) :=
  match l with
  | [] => none
  | b :: r => if b = e then some (acc, r) else
    match r with
    | [] => none
    | c :: r' => if e = 34 ∧ b = 92 ∧ (c = 34 ∨ c = 92) then qS e (acc ++ [c]) r' else qS e (acc ++ [b]) (c :: r')
  termination_by l.length
theorem qS_nil (e : UInt8) (acc : List UInt8) : qS e acc [] = none := by rw [qS.eq_def]
theorem qS_single (e b : UInt8) (acc : List UInt8) : qS e acc [b] = if b = e then some (acc, []) else none := by rw [qS.eq_def]
theorem qS_two (e b c : UInt8) (acc r : List UInt8) : qS e acc (b :: c :: r) = if b = e then some (acc, c :: r) else if e = 34 ∧ b = 92 ∧ (c = 34 ∨ c = 92) then qS e (acc ++ [c]) r else qS e (acc ++ [b]) (c :: r) := by
  conv => lhs; rw [qS.eq_def]
theorem qS_hit (e : UInt8) (acc r : List UInt8) : qS e acc (e :: r) = some (acc, r) := by
  cases r with
  | nil => rw [qS_single, if_pos rfl]
  | cons c r => rw [qS_two, if_pos rfl]
theorem qS_esc (acc r : List UInt8) (c : UInt8) (h : c = 34 ∨ c = 92) : qS 34 acc (92 :: c :: r) = qS 34 (acc ++ [c]) r := by
  rw [qS_two, if_neg (by decide), if_pos ⟨rfl, rfl, h⟩]
theorem qS_one (e b : UInt8) (acc r : List UInt8) (h : ¬ b = e) (h2 : ¬ (e = 34 ∧ b = 92 ∧ ∃ c r', r = c :: r' ∧ (c = 34 ∨ c = 92))) : qS e acc (b :: r) = qS e (acc ++ [b]) r := by
  cases r with
  | nil => rw [qS_nil, qS_single, if_neg h]
  | cons c r' => rw [qS_two, if_neg h, if_neg (fun hh => h2 ⟨hh.1, hh.2.1, c, r', rfl, hh.2.2⟩)]
theorem qS_suffix (e : UInt8) : ∀ d (l acc t r : List UInt8), l.length ≤ d → qS e acc l = some (t, r) → ∃ p, l = p ++ r ∧ 0 < p.length := by
  intro d
  induction d with
  | zero =>
    intro l acc t r hd h
    cases l with
    | nil => rw [qS_nil] at h; exact absurd h (by simp)
    | cons b m => simp at hd
  | succ d ih =>
    intro l acc t r hd h
    cases l with
    | nil => rw [qS_nil] at h; exact absurd h (by simp)
    | cons b m =>
      cases m with
      | nil =>
        rw [qS_single] at h
        split at h
        · injection h with h; injection h with h1 h2; subst h2; exact ⟨[b], rfl, by simp⟩
        · exact absurd h (by simp)
      | cons c m' =>
        rw [qS_two] at h
        split at h
        · injection h with h; injection h with h1 h2; subst h2; exact ⟨[b], rfl, by simp⟩
        · split at h
          · obtain ⟨p, hp, _⟩ := ih m' _ t r (by simp at hd; omega) h
            exact ⟨b :: c :: p, by rw [hp]; rfl, by simp⟩
          · obtain ⟨p, hp, _⟩ := ih (c :: m') _ t r (by simp at hd ⊢; omega) h
            exact ⟨b :: p, by rw [hp]; rfl, by simp⟩
theorem qS_less {e : UInt8} {acc l t r : List UInt8} (h : qS e acc l = some (t, r)) : r.length < l.length := by
  obtain ⟨p, hp, h0⟩ := qS_suffix e _ l acc t r (Nat.le_refl _) h
  rw [hp, List.length_append]; omega
/-- A word, and what is behind it. -/
def wS (acc : List UInt8) (l : List UInt8) : Option (List UInt8 × List UInt8) :=
  match l with
  | [] => some (acc, [])
  | b :: r => if stopB b = true then some (acc, b :: r)
    else if b = 39 ∨ b = 34 then (match h : qS b [] r with
      | none => none
      | some (t, r') => wS (acc ++ t) r')
    else if b = 92 then (match r with
      | [] => none
      | c :: r' => wS (acc ++ [c]) r')
    else wS (acc ++ [b]) r
  termination_by l.length
  decreasing_by
    · have := qS_less h; simp; omega
    · simp; omega
    · simp
theorem wS_nil (acc : List UInt8) : wS acc [] = some (acc, []) := by rw [wS.eq_def]
theorem wS_cons (acc r : List UInt8) (b : UInt8) : wS acc (b :: r) = if stopB b = true then some (acc, b :: r)
    else if b = 39 ∨ b = 34 then (match h : qS b [] r with
      | none => none
      | some (t, r') => wS (acc ++ t) r')
    else if b = 92 then (match r with
      | [] => none
      | c :: r' => wS (acc ++ [c]) r')
    else wS (acc ++ [b]) r := by
  conv => lhs; rw [wS.eq_def]
theorem wS_stop (acc r : List UInt8) (b : UInt8) (h : stopB b = true) : wS acc (b :: r) = some (acc, b :: r) := by rw [wS_cons, if_pos h]
theorem wS_q (acc r t r' : List UInt8) (b : UInt8) (h : ¬ stopB b = true) (h1 : b = 39 ∨ b = 34) (h2 : qS b [] r = some (t, r')) : wS acc (b :: r) = wS (acc ++ t) r' := by
  rw [wS_cons, if_neg h, if_pos h1]
  split
  · rename_i h3; rw [h2] at h3; exact absurd h3 (by simp)
  · rename_i t2 r2 h3; rw [h2] at h3; injection h3 with h3; injection h3 with e1 e2; subst e1 e2; rfl
theorem wS_q0 (acc r : List UInt8) (b : UInt8) (h : ¬ stopB b = true) (h1 : b = 39 ∨ b = 34) (h2 : qS b [] r = none) : wS acc (b :: r) = none := by
  rw [wS_cons, if_neg h, if_pos h1]
  split
  · rfl
  · rename_i t2 r2 h3; rw [h2] at h3; exact absurd h3 (by simp)
theorem wS_b (acc r : List UInt8) (c : UInt8) : wS acc (92 :: c :: r) = wS (acc ++ [c]) r := by
  rw [wS_cons, if_neg (by decide), if_neg (by decide), if_pos rfl]
theorem wS_b0 (acc : List UInt8) : wS acc [92] = none := by
  rw [wS_cons, if_neg (by decide), if_neg (by decide), if_pos rfl]
theorem wS_one (acc r : List UInt8) (b : UInt8) (h : ¬ stopB b = true) (h1 : ¬ b = 39) (h2 : ¬ b = 34) (h3 : ¬ b = 92) : wS acc (b :: r) = wS (acc ++ [b]) r := by
  rw [wS_cons, if_neg h, if_neg (not_or.mpr ⟨h1, h2⟩), if_neg h3]

theorem drop_of_suffix {l p r : List UInt8} (h : l = p ++ r) : l.drop (l.length - r.length) = r := by
  rw [h, List.length_append, Nat.add_sub_cancel]; simp
theorem qA_eq (l : List UInt8) (e : UInt8) : ∀ d i acc, l.length - i ≤ d → i ≤ l.length → qA l e i acc = (qS e acc (l.drop i)).map (fun p => (p.1, l.length - p.2.length)) := by
  intro d
  induction d with
  | zero =>
    intro i acc hd hi
    rw [qA_end l e i acc (by omega), List.drop_eq_nil_of_le (by omega), qS_nil]
    rfl
  | succ d ih =>
    intro i acc hd hi
    by_cases hlt : i < l.length
    · have hdr := drop_get l i hlt
      rw [hdr]
      by_cases he : l[i] = e
      · rw [qA_hit l e i acc hlt he, he, qS_hit]
        simp only [Option.map_some, List.length_drop]
        congr 2
        omega
      · by_cases hes : e = 34 ∧ l[i] = 92 ∧ ∃ h4 : i + 1 < l.length, (l[i + 1] = 34 ∨ l[i + 1] = 92)
        · obtain ⟨h2, h3, h4, h5⟩ := hes
          rw [qA_esc l e i acc hlt he h2 h3 h4 h5, ih (i + 2) _ (by omega) (by omega), drop_get l (i + 1) h4, h3]
          subst h2
          rw [qS_esc _ _ _ h5]
        · rw [qA_one l e i acc hlt he hes, ih (i + 1) _ (by omega) (by omega), qS_one e l[i] acc _ he]
          rintro ⟨h2, h3, c, r', h6, h7⟩
          refine hes ⟨h2, h3, ?_⟩
          have h4 : i + 1 < l.length := by
            have := congrArg List.length h6
            simp only [List.length_drop, List.length_cons] at this
            omega
          refine ⟨h4, ?_⟩
          rw [drop_get l (i + 1) h4] at h6
          injection h6 with h8 _
          rw [h8]; exact h7
    · rw [qA_end l e i acc (by omega), List.drop_eq_nil_of_le (by omega), qS_nil]
      rfl
theorem wA_eq (l : List UInt8) : ∀ d i acc, l.length - i ≤ d → i ≤ l.length → wA l i acc = (wS acc (l.drop i)).map (fun p => (p.1, l.length - p.2.length)) := by
  intro d
  induction d with
  | zero =>
    intro i acc hd hi
    rw [wA_end l i acc (by omega), List.drop_eq_nil_of_le (by omega), wS_nil]
    simp; omega
  | succ d ih =>
    intro i acc hd hi
    by_cases hlt : i < l.length
    · have hdr := drop_get l i hlt
      rw [hdr]
      by_cases hs : stopB l[i] = true
      · rw [wA_stop l i acc hlt hs, wS_stop _ _ _ hs]
        simp only [Option.map_some, List.length_cons, List.length_drop]
        congr 2
        omega
      · by_cases hq : l[i] = 39 ∨ l[i] = 34
        · have e := qA_eq (l.drop (i + 1)) l[i] _ 0 [] (Nat.le_refl _) (Nat.zero_le _)
          rw [List.drop_zero] at e
          cases h : qS l[i] [] (l.drop (i + 1)) with
          | none =>
            rw [h] at e
            rw [wA_q0 l i acc hlt hs hq e, wS_q0 _ _ _ hs hq h]
            rfl
          | some x =>
            obtain ⟨t, r⟩ := x
            rw [h] at e
            obtain ⟨p, hp, hp0⟩ := qS_suffix _ _ _ _ _ _ (Nat.le_refl _) h
            have hdl := drop_of_suffix hp
            have hlen := congrArg List.length hp
            simp only [List.length_append, List.length_drop] at hlen
            rw [wA_q l i acc hlt hs hq t _ e, wS_q _ _ _ _ _ hs hq h]
            simp only [List.length_drop]
            rw [ih _ _ (by omega) (by omega)]
            rw [List.length_drop, List.drop_drop] at hdl
            rw [hdl]
        · by_cases hb : l[i] = 92
          · by_cases h3 : i + 1 < l.length
            · rw [wA_b l i acc hlt hs hb h3, ih (i + 2) _ (by omega) (by omega), drop_get l (i + 1) h3, hb, wS_b]
            · rw [wA_b0 l i acc hlt hs hb h3, hb, List.drop_eq_nil_of_le (by omega), wS_b0]
              rfl
          · rw [wA_one l i acc hlt hs (fun h => hq (.inl h)) (fun h => hq (.inr h)) hb, ih (i + 1) _ (by omega) (by omega), wS_one _ _ _ hs (fun h => hq (.inl h)) (fun h => hq (.inr h)) hb]
    · rw [wA_end l i acc (by omega), List.drop_eq_nil_of_le (by omega), wS_nil]
      simp; omega
end Go.Proofs.YtgpabkdmagifjaaDoor.X
