/- The rows of a text, and the groups of rows that are put together; plain Lean. -/
import Derived.Test.YtgpabkdmagifjaaDoorHBare
import Derived.Test.YtgpabkdmagifjaaDoorPLinesA
namespace Go.Proofs.YtgpabkdmagifjaaDoor.X
open Go.RowKit Go.Proofs.YtgpabkdmagifjaaDoorW.PrintWords Go.Proofs.YtgpabkdmagifjaaDoorW.PrintLast Go.Proofs.YtgpabkdmagifjaaDoorW.PrintMore Go.Proofs.YtgpabkdmagifjaaDoor.XL08 Go.Proofs.YtgpabkdmagifjaaDoor.XT08
set_option linter.unusedSimpArgs false
set_option linter.unusedVariables false

def rowA (cur : List UInt8) : List UInt8 → List (List UInt8)
  | [] => [cur]
  | b :: l => if b = 10 then cur :: rowA [] l else rowA (cur ++ [b]) l
theorem rowA_nil (cur : List UInt8) : rowA cur [] = [cur] := rfl
theorem rowA_cons (cur : List UInt8) (b : UInt8) (l : List UInt8) : rowA cur (b :: l) = if b = 10 then cur :: rowA [] l else rowA (cur ++ [b]) l := rfl
theorem index10_cons (b : UInt8) (l : List UInt8) : Lib.index (b :: l) [10] = if b = 10 then 0 else if Lib.index l [10] = -1 then -1 else Lib.index l [10] + 1 := by
  rw [Lib.index]
  by_cases h : b = 10
  · subst h; simp [List.isPrefixOf]
  · have h1 : (([10] : List UInt8).isPrefixOf (b :: l)) = false := by simp [List.isPrefixOf, Ne.symm h]
    rw [h1, if_neg h]; simp
theorem rowA_index (l : List UInt8) : ∀ cur, (Lib.index l [10] = -1 ∧ rowA cur l = [cur ++ l]) ∨ ∃ i : Nat, Lib.index l [10] = (i : Int) ∧ i < l.length ∧ rowA cur l = (cur ++ l.take i) :: rowA [] (l.drop (i + 1)) := by
  induction l with
  | nil => intro cur; left; exact ⟨rfl, by simp [rowA]⟩
  | cons b l ih =>
    intro cur
    rw [index10_cons, rowA_cons]
    by_cases h : b = 10
    · right; exact ⟨0, by rw [if_pos h]; rfl, by simp, by rw [if_pos h]; simp⟩
    · rw [if_neg h, if_neg h]
      rcases ih (cur ++ [b]) with ⟨h1, h2⟩ | ⟨i, h1, h2, h3⟩
      · left; exact ⟨by rw [if_pos h1], by rw [h2]; simp⟩
      · right; exact ⟨i + 1, by rw [h1, if_neg (by omega)]; omega, by simp; omega, by rw [h3]; simp⟩
theorem splitK_rows : ∀ (k : Nat) (l : List UInt8), Lib.count l [10] = k → Lib.splitK [10] 0 k l = rowA [] l := by
  intro k
  induction k with
  | zero =>
    intro l hc
    rcases rowA_index l [] with ⟨h1, h2⟩ | ⟨i, h1, h2, h3⟩
    · rw [h2]; rfl
    · rw [Lib.count_hit (by simp) h1] at hc; omega
  | succ k ih =>
    intro l hc
    rcases rowA_index l [] with ⟨h1, h2⟩ | ⟨i, h1, h2, h3⟩
    · rw [Lib.count_miss h1] at hc; omega
    · rw [Lib.count_hit (by simp) h1] at hc
      rw [Lib.splitK, if_neg (by rw [h1]; simp), h1, h3, ih _ (by simpa using (show Lib.count (l.drop (i + 1)) [10] = k by have : ([10] : List UInt8).length = 1 := rfl; rw [this] at hc; omega))]
      simp
theorem split10_eq (l : List UInt8) (hl : l.length < 4294967280) : strings_Split.f (B l) ⟨#[10]⟩ = some ((rowA [] l).map B) := by
  have h0 : Lib.countB (B l) ⟨#[10]⟩ ≤ (B l).size := Lib.countB_le ⟨#[10]⟩ (by decide) _ _ (Nat.le_refl _)
  rw [B_size] at h0
  have h1 := Lib.splitB_all ⟨#[10]⟩ (by decide) 0 _ (B l) rfl
  unfold strings_Split.f
  rw [if_pos ⟨by rw [B_size]; omega, by decide, h1, by omega⟩]
  have h2 : Lib.splitB ⟨#[10]⟩ 0 (Lib.countB (B l) ⟨#[10]⟩) (B l) = (rowA [] l).map B := by
    have e := Lib.splitB_data ⟨#[10]⟩ 0 (Lib.countB (B l) ⟨#[10]⟩) (B l)
    have e3 : Lib.countB (B l) ⟨#[10]⟩ = Lib.count l [10] := by unfold Lib.countB; rw [B_data]
    rw [e3] at e ⊢
    rw [B_data, show ((⟨#[10]⟩ : ByteArray).data.toList) = [10] from rfl, splitK_rows _ l rfl] at e
    rw [← e, List.map_map]
    conv => lhs; rw [← List.map_id (Lib.splitB ⟨#[10]⟩ 0 (Lib.count l [10]) (B l))]
    apply List.map_congr_left
    intro a _
    exact (B_of a).symm
  rw [h2]
theorem rowA_sum (l : List UInt8) : ∀ cur, ((rowA cur l).map List.length).sum ≤ cur.length + l.length := by
  induction l with
  | nil => intro cur; simp [rowA]
  | cons b l ih =>
    intro cur
    rw [rowA_cons]
    split
    · have := ih []; simp at this ⊢; omega
    · have := ih (cur ++ [b]); simp at this ⊢; omega
theorem rowA_len (l : List UInt8) : ∀ cur, (rowA cur l).length ≤ l.length + 1 := by
  induction l with
  | nil => intro cur; simp [rowA]
  | cons b l ih =>
    intro cur
    rw [rowA_cons]
    split
    · have := ih []; simp at this ⊢; omega
    · have := ih (cur ++ [b]); simp at this ⊢; omega
theorem rowA_ne (l : List UInt8) : ∀ cur, rowA cur l ≠ [] := by
  induction l with
  | nil => intro cur; simp [rowA]
  | cons b l ih =>
    intro cur
    rw [rowA_cons]
    split
    · simp
    · exact ih _
/-- Groups of rows: behind i rows, the first of those that are open being row 'from', with these parts. -/
def joinS : Nat → Nat → List (List UInt8) → List (List UInt8) → List (Nat × List (List UInt8))
  | _, _, _, [] => []
  | i, fr, pa, r :: rs => if (cutB r).2 = true ∧ rs ≠ [] then joinS (i + 1) fr (pa ++ [(cutB r).1]) rs else (fr, pa ++ [r]) :: joinS (i + 1) (i + 2) [] rs
theorem joinS_more (i fr : Nat) (pa rs : List (List UInt8)) (r : List UInt8) (h : (cutB r).2 = true ∧ rs ≠ []) : joinS i fr pa (r :: rs) = joinS (i + 1) fr (pa ++ [(cutB r).1]) rs := by rw [joinS, if_pos h]
theorem joinS_one (i fr : Nat) (pa rs : List (List UInt8)) (r : List UInt8) (h : ¬ ((cutB r).2 = true ∧ rs ≠ [])) : joinS i fr pa (r :: rs) = (fr, pa ++ [r]) :: joinS (i + 1) (i + 2) [] rs := by rw [joinS, if_neg h]
def recU (parts : List (List UInt8)) : Bool := Lib.hasPrefix (parts.headD []) [9]
def textU (parts : List (List UInt8)) : List UInt8 := if recU parts = true then putU parts else trimB (bareA (putU parts) 0 [])
def lineL (n : Int) (parts : List (List UInt8)) : List S39 := if textU parts = [] then [] else [⟨n, B (textU parts), recU parts⟩]
theorem lineL_len (n : Int) (parts : List (List UInt8)) : (lineL n parts).length ≤ 1 := by unfold lineL; split <;> simp
def linesU (l : List UInt8) : List S39 := (joinS 0 1 [] (rowA [] l)).flatMap (fun g => lineL (g.1 : Int) g.2)
theorem cutB_len (r : List UInt8) : (cutB r).1.length ≤ r.length := by unfold cutB; split <;> simp
end Go.Proofs.YtgpabkdmagifjaaDoor.X
