/- lex.Quote and lex.Show say the plain ones; plain Lean. -/
import Derived.Test.YtgpabkdmagifjaaDoorPLexD
namespace Go.Proofs.YtgpabkdmagifjaaDoor.X
open Go.RowKit Go.Proofs.YtgpabkdmagifjaaDoorW.PrintWords Go.Proofs.YtgpabkdmagifjaaDoorW.PrintLast Go.Proofs.YtgpabkdmagifjaaDoorW.PrintMore Go.Proofs.YtgpabkdmagifjaaDoor.XW05
set_option linter.unusedSimpArgs false
set_option linter.unusedVariables false

theorem any_eq (cs : List UInt8) : ∀ l : List UInt8, decide (0 ≤ Lib.indexAny l cs) = l.any (fun b => cs.contains b) := by
  intro l
  induction l with
  | nil => rfl
  | cons b l ih =>
    have hg := Lib.indexAny_ge cs l
    rw [Lib.indexAny, List.any_cons]
    by_cases hb : cs.contains b = true
    · rw [if_pos hb, hb]; rfl
    · rw [if_neg hb, ← ih, show cs.contains b = false by simpa using hb, Bool.false_or]
      by_cases hm : Lib.indexAny l cs = -1
      · rw [if_pos (beq_iff_eq.2 hm), hm]
      · rw [if_neg (fun h => hm (beq_iff_eq.1 h))]
        rw [decide_eq_true (by omega : 0 ≤ Lib.indexAny l cs + 1), decide_eq_true (by omega : 0 ≤ Lib.indexAny l cs)]
theorem plain_eq (t : List UInt8) (ht : t.length < 4294967281) : lex_plain.f (B t) = some (plainU t) := by
  unfold lex_plain.f
  cases t with
  | nil => rw [if_pos (by rw [B_toList])]; rfl
  | cons b m =>
    rw [if_neg (by rw [B_toList]; simp)]
    unfold strings_ContainsAny.f strings_IndexAny.f
    rw [if_pos ⟨by rw [B_size]; exact ht, by decide, by decide⟩, B_data]
    simp only [Option.map_some, Option.bind_some]
    rw [any_eq]
    congr 1
    unfold plainU
    rw [decide_eq_true (by simp), Bool.true_and, List.all_eq_not_any_not]
    simp only [Bool.not_not]
    rfl
theorem index39 (b : UInt8) (l : List UInt8) : Lib.index (b :: l) [39] = if b = 39 then 0 else if Lib.index l [39] = -1 then -1 else Lib.index l [39] + 1 := by
  rw [Lib.index]
  have e : (([39] : List UInt8).isPrefixOf (b :: l) = true) = (b = 39) := by
    simp only [List.isPrefixOf, Bool.and_true, beq_iff_eq]
    exact propext eq_comm
  by_cases hb : b = 39
  · rw [if_pos (e.symm ▸ hb), if_pos hb]
  · rw [if_neg (fun h => hb (e ▸ h)), if_neg hb]
    by_cases hm : Lib.index l [39] = -1
    · rw [if_pos (beq_iff_eq.2 hm), if_pos hm]
    · rw [if_neg (fun h => hm (beq_iff_eq.1 h)), if_neg hm]
theorem flat_index (l : List UInt8) : (Lib.index l [39] = -1 ∧ flat l = l) ∨ ∃ i : Nat, Lib.index l [39] = (i : Int) ∧ i < l.length ∧ flat l = l.take i ++ [39, 92, 39, 39] ++ flat (l.drop (i + 1)) := by
  induction l with
  | nil => exact .inl ⟨rfl, rfl⟩
  | cons b m ih =>
    rw [index39]
    by_cases hb : b = 39
    · refine .inr ⟨0, by rw [if_pos hb]; rfl, by simp, ?_⟩
      rw [flat_cons, if_pos hb]
      rfl
    · rw [if_neg hb]
      rcases ih with ⟨h1, h2⟩ | ⟨i, h1, h2, h3⟩
      · rw [if_pos h1]
        refine .inl ⟨rfl, ?_⟩
        rw [flat_cons, if_neg hb, h2]
        rfl
      · rw [if_neg (by omega), h1]
        refine .inr ⟨i + 1, by omega, by simp; omega, ?_⟩
        rw [flat_cons, if_neg hb, h3]
        simp
theorem replaceK_flat : ∀ (k : Nat) (l : List UInt8), Lib.count l [39] = k → Lib.replaceK [39] [39, 92, 39, 39] k l = flat l := by
  intro k
  induction k with
  | zero =>
    intro l h
    rcases flat_index l with ⟨h1, h2⟩ | ⟨i, h1, h2, h3⟩
    · rw [h2]; rfl
    · rw [Lib.count_hit (by simp) h1] at h; omega
  | succ k ih =>
    intro l h
    rcases flat_index l with ⟨h1, h2⟩ | ⟨i, h1, h2, h3⟩
    · rw [Lib.count_miss h1] at h; omega
    · rw [Lib.count_hit (by simp) h1] at h
      rw [Lib.replaceK_hit _ _ _ _ i h1, h3]
      rw [ih _ (by simp only [List.length_cons, List.length_nil] at h ⊢; omega)]
      rfl
theorem flat_len (t : List UInt8) : (flat t).length ≤ 4 * t.length := by
  induction t with
  | nil => simp [flat_nil]
  | cons b t ih =>
    rw [flat_cons]
    split <;> simp <;> omega
theorem replaceAll_eq (t : List UInt8) (ht : t.length < 4000000) : strings_ReplaceAll.f (B t) (⟨#[39]⟩ : ByteArray) (⟨#[39, 92, 39, 39]⟩ : ByteArray) = some (B (flat t)) := by
  unfold strings_ReplaceAll.f strings_Replace.f
  have h1 : Lib.countB (B t) (⟨#[39]⟩ : ByteArray) ≤ t.length + 1 := by unfold Lib.countB; rw [B_data]; exact Lib.count_le _ _
  rw [if_pos ⟨by rw [B_size]; omega, by decide, by rw [B_size, show (⟨#[39, 92, 39, 39]⟩ : ByteArray).size = 4 from rfl]; omega⟩, B_data]
  rw [Option.bind_some]
  have e : Lib.replace t [39] [39, 92, 39, 39] (-1) = flat t := by
    unfold Lib.replace
    rw [if_neg (by decide)]
    unfold Lib.replaceNum
    rw [if_pos (.inl (by decide))]
    exact replaceK_flat _ t rfl
  show some (⟨(Lib.replace t [39] [39, 92, 39, 39] (-1)).toArray⟩ : ByteArray) = _
  rw [e]
  rfl
theorem Quote_eq (t : List UInt8) (ht : t.length < 4000000) : lex_Quote.f (B t) = some (B (quoteU t)) := by
  unfold lex_Quote.f quoteU
  rw [plain_eq t (by omega), Option.bind_some]
  have hf := flat_len t
  by_cases h : plainU t = true
  · rw [if_pos h, if_pos h]
  · rw [if_neg h, if_neg h, replaceAll_eq t ht, Option.bind_some]
    have e1 : (⟨#[39]⟩ : ByteArray) = B [39] := rfl
    rw [e1, B_append, B_append, B_size, B_size, if_pos (by omega), if_pos (by simp; omega)]
    rfl
end Go.Proofs.YtgpabkdmagifjaaDoor.X
