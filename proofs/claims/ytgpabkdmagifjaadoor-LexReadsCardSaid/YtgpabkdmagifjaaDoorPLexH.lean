/- The four places of the reference's reader, as values on the list that is left; plain Lean. -/
import Derived.Test.YtgpabkdmagifjaaDoorPLexG
namespace Go.Proofs.YtgpabkdmagifjaaDoor.X
open Go.RowKit Go.Proofs.YtgpabkdmagifjaaDoorW.PrintWords Go.Proofs.YtgpabkdmagifjaaDoorW.PrintLast Go.Proofs.YtgpabkdmagifjaaDoorW.PrintMore Go.Proofs.YtgpabkdmagifjaaDoor.XW05
set_option linter.unusedSimpArgs false
set_option linter.unusedVariables false

theorem qS_acc (e : UInt8) : ∀ d (l acc acc2 : List UInt8), l.length ≤ d → qS e (acc ++ acc2) l = (qS e acc2 l).map (fun p => (acc ++ p.1, p.2)) := by
  intro d
  induction d with
  | zero =>
    intro l acc acc2 hd
    cases l with
    | nil => rw [qS_nil, qS_nil]; rfl
    | cons b m => simp at hd
  | succ d ih =>
    intro l acc acc2 hd
    cases l with
    | nil => rw [qS_nil, qS_nil]; rfl
    | cons b m =>
      simp only [List.length_cons] at hd
      cases m with
      | nil => rw [qS_single, qS_single]; split <;> rfl
      | cons c r =>
        simp only [List.length_cons] at hd
        rw [qS_two, qS_two]
        split
        · rfl
        · split
          · rw [List.append_assoc, ih r acc (acc2 ++ [c]) (by omega)]
          · rw [List.append_assoc, ih (c :: r) acc (acc2 ++ [b]) (by simp; omega)]
def V1 (cur : List UInt8) (out : List (Nat × List UInt8)) (l : List UInt8) : Option (List (Nat × List UInt8)) :=
  match wS cur l with
  | none => none
  | some (t, r) => tokS (out ++ [(0, t)]) r
def V2 (e : UInt8) (cur : List UInt8) (out : List (Nat × List UInt8)) (l : List UInt8) : Option (List (Nat × List UInt8)) :=
  match qS e cur l with
  | none => none
  | some (t, r) => V1 t out r
theorem V1_nil (cur : List UInt8) (out : List (Nat × List UInt8)) : V1 cur out [] = some (out ++ [(0, cur)]) := by
  unfold V1; rw [wS_nil]; exact tokS_nil _
theorem V1_stop (cur r : List UInt8) (out : List (Nat × List UInt8)) (b : UInt8) (h : stopB b = true) : V1 cur out (b :: r) = tokS (out ++ [(0, cur)]) (b :: r) := by
  unfold V1; rw [wS_stop _ _ _ h]
theorem V1_q (cur r : List UInt8) (out : List (Nat × List UInt8)) (b : UInt8) (h : ¬ stopB b = true) (h1 : b = 39 ∨ b = 34) : V1 cur out (b :: r) = V2 b cur out r := by
  unfold V2
  have e := qS_acc b _ r cur [] (Nat.le_refl _)
  rw [List.append_nil] at e
  rw [e]
  cases hq : qS b [] r with
  | none => unfold V1; rw [wS_q0 _ _ _ h h1 hq]; rfl
  | some x =>
    obtain ⟨t, r'⟩ := x
    unfold V1
    rw [wS_q _ _ _ _ _ h h1 hq]
    rfl
theorem V1_b (cur r : List UInt8) (out : List (Nat × List UInt8)) (c : UInt8) : V1 cur out (92 :: c :: r) = V1 (cur ++ [c]) out r := by
  unfold V1; rw [wS_b]
theorem V1_b0 (cur : List UInt8) (out : List (Nat × List UInt8)) : V1 cur out [92] = none := by
  unfold V1; rw [wS_b0]
theorem V1_one (cur r : List UInt8) (out : List (Nat × List UInt8)) (b : UInt8) (h : ¬ stopB b = true) (h1 : ¬ b = 39) (h2 : ¬ b = 34) (h3 : ¬ b = 92) : V1 cur out (b :: r) = V1 (cur ++ [b]) out r := by
  unfold V1; rw [wS_one _ _ _ h h1 h2 h3]
theorem V2_nil (e : UInt8) (cur : List UInt8) (out : List (Nat × List UInt8)) : V2 e cur out [] = none := by unfold V2; rw [qS_nil]
theorem V2_hit (e : UInt8) (cur r : List UInt8) (out : List (Nat × List UInt8)) : V2 e cur out (e :: r) = V1 cur out r := by unfold V2; rw [qS_hit]
theorem V2_esc (cur r : List UInt8) (out : List (Nat × List UInt8)) (c : UInt8) (h : c = 34 ∨ c = 92) : V2 34 cur out (92 :: c :: r) = V2 34 (cur ++ [c]) out r := by unfold V2; rw [qS_esc _ _ _ h]
theorem V2_one (e b : UInt8) (cur r : List UInt8) (out : List (Nat × List UInt8)) (h : ¬ b = e) (h2 : ¬ (e = 34 ∧ b = 92 ∧ ∃ c r', r = c :: r' ∧ (c = 34 ∨ c = 92))) : V2 e cur out (b :: r) = V2 e (cur ++ [b]) out r := by
  unfold V2; rw [qS_one e b cur r h h2]
theorem wS_less (acc r t r' : List UInt8) (b : UInt8) (h : ¬ stopB b = true) (hw : wS acc (b :: r) = some (t, r')) : r'.length ≤ r.length := by
  have suf : ∀ {acc l t r' : List UInt8}, wS acc l = some (t, r') → r'.length ≤ l.length := by
    intro acc l t r' h
    obtain ⟨⟨p, hp⟩, _⟩ := wS_suffix _ _ _ _ _ (Nat.le_refl _) h
    rw [hp, List.length_append]; omega
  by_cases hq : b = 39 ∨ b = 34
  · cases hqs : qS b [] r with
    | none => rw [wS_q0 _ _ _ h hq hqs] at hw; exact absurd hw (by simp)
    | some x =>
      obtain ⟨t1, r1⟩ := x
      rw [wS_q _ _ _ _ _ h hq hqs] at hw
      have := suf hw
      have := qS_less hqs
      omega
  · by_cases hb : b = 92
    · subst hb
      cases r with
      | nil => rw [wS_b0] at hw; exact absurd hw (by simp)
      | cons c m => rw [wS_b] at hw; have := suf hw; simp; omega
    · rw [wS_one _ _ _ h (fun h => hq (.inl h)) (fun h => hq (.inr h)) hb] at hw
      exact suf hw
theorem stop_not {b : UInt8} (h : ¬ stopB b = true) : ¬ blk b = true ∧ ¬ b = 38 ∧ ¬ b = 124 ∧ ¬ b = 62 ∧ ¬ b = 60 ∧ ¬ b = 59 := by
  simp [stopB, blk] at h ⊢
  simp [h]
theorem V0_word (out : List (Nat × List UInt8)) (b : UInt8) (r : List UInt8) (h : ¬ stopB b = true) : tokS out (b :: r) = V1 [] out (b :: r) := by
  obtain ⟨h1, h2, h3, h4, h5, h6⟩ := stop_not h
  have hm := markS_none b r h2 h3 h4 h5 h6
  unfold V1
  cases hw : wS [] (b :: r) with
  | none => exact tokS_bad _ _ _ h1 hm hw
  | some x =>
    obtain ⟨t, r'⟩ := x
    have := wS_less _ _ _ _ _ h hw
    rw [tokS_word _ _ _ h1 hm _ _ hw, if_pos (by simp; omega)]
theorem V0_bad (out : List (Nat × List UInt8)) (b : UInt8) (r : List UInt8) (h : stopB b = true) (h1 : ¬ blk b = true) (hm : markS (b :: r) = none) : tokS out (b :: r) = none := by
  rw [tokS_word _ _ _ h1 hm _ _ (wS_stop [] r b h), if_neg (by omega)]
end Go.Proofs.YtgpabkdmagifjaaDoor.X
