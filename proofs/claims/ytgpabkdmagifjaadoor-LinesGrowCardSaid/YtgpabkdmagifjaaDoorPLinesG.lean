/- Lines of two texts, one below the other; numbers rise; texts are bare of blanks at their ends and of line ends; plain Lean. -/
import Derived.Test.YtgpabkdmagifjaaDoorPLinesC
namespace Go.Proofs.YtgpabkdmagifjaaDoor.X
open Go.RowKit Go.Proofs.YtgpabkdmagifjaaDoorW.PrintWords Go.Proofs.YtgpabkdmagifjaaDoorW.PrintLast Go.Proofs.YtgpabkdmagifjaaDoorW.PrintMore Go.Proofs.YtgpabkdmagifjaaDoor.XL08 Go.Proofs.YtgpabkdmagifjaaDoor.XT08
set_option linter.unusedSimpArgs false
set_option linter.unusedVariables false

theorem rowA_append (a b : List UInt8) : ∀ cur, rowA cur (a ++ 10 :: b) = rowA cur a ++ rowA [] b := by
  induction a with
  | nil => intro cur; simp [rowA]
  | cons c a ih =>
    intro cur
    rw [List.cons_append, rowA_cons, rowA_cons]
    split
    · rw [ih, List.cons_append]
    · rw [ih]
theorem rowA_count (a : List UInt8) : ∀ cur, (rowA cur a).length = a.count 10 + 1 := by
  induction a with
  | nil => intro cur; simp [rowA]
  | cons c a ih =>
    intro cur
    rw [rowA_cons, List.count_cons]
    by_cases h : c = 10
    · rw [if_pos h]; simp [ih, h]
    · rw [if_neg h, ih]; simp [h]
theorem rowA_no10 (a : List UInt8) : ∀ cur, (∀ c ∈ cur, ¬ c = 10) → ∀ r ∈ rowA cur a, ∀ c ∈ r, ¬ c = 10 := by
  induction a with
  | nil => intro cur hc r hr; rw [rowA_nil, List.mem_singleton] at hr; rw [hr]; exact hc
  | cons c a ih =>
    intro cur hc r hr
    rw [rowA_cons] at hr
    split at hr
    · rcases List.mem_cons.1 hr with rfl | hr
      · exact hc
      · exact ih [] (by simp) r hr
    · rename_i h
      refine ih (cur ++ [c]) (fun x hx => ?_) r hr
      rcases List.mem_append.1 hx with hx | hx
      · exact hc x hx
      · rw [List.mem_singleton.1 hx]; exact h
/-- The last row's end is the text's end. -/
theorem rowA_last (a : List UInt8) : ∀ cur, (cur ++ a).getLast? ≠ some 92 → ∀ r, (rowA cur a).getLast? = some r → r.getLast? ≠ some 92 := by
  induction a with
  | nil => intro cur h r hr; rw [rowA_nil] at hr; simp at hr; rw [← hr]; simpa using h
  | cons c a ih =>
    intro cur h r hr
    rw [rowA_cons] at hr
    split at hr
    · rename_i hc
      have hne := rowA_ne a []
      rw [List.getLast?_cons_of_ne_nil hne] at hr
      refine ih [] ?_ r hr
      intro h2
      apply h
      rw [List.nil_append] at h2
      have ha : a ≠ [] := by rintro rfl; simp at h2
      simp [List.getLast?_append, List.getLast?_cons, h2]
    · refine ih (cur ++ [c]) ?_ r hr
      simpa using h
theorem joinS_append (rb : List (List UInt8)) (hb : rb ≠ []) : ∀ (ra : List (List UInt8)) (i fr : Nat) (pa : List (List UInt8)), ra ≠ [] → (∀ r, ra.getLast? = some r → r.getLast? ≠ some 92) →
    joinS i fr pa (ra ++ rb) = joinS i fr pa ra ++ joinS (i + ra.length) (i + ra.length + 1) [] rb := by
  intro ra
  induction ra with
  | nil => intro i fr pa h; exact absurd rfl h
  | cons r ra ih =>
    intro i fr pa _ hl
    cases ra with
    | nil =>
      have h2 : ¬ (cutB r).2 = true := by
        intro h
        have := hl r (by simp)
        unfold cutB at h
        rw [if_neg this] at h
        cases h
      rw [List.cons_append, List.nil_append, joinS_one _ _ _ _ _ (fun h => h2 h.1), joinS_one _ _ _ _ _ (fun h => h2 h.1)]
      rfl
    | cons r2 ra =>
      have hl2 : ∀ x, (r2 :: ra).getLast? = some x → x.getLast? ≠ some 92 := by
        intro x hx
        exact hl x (by rw [List.getLast?_cons_of_ne_nil (by simp)]; exact hx)
      by_cases hc : (cutB r).2 = true
      · rw [List.cons_append, joinS_more _ _ _ _ _ ⟨hc, by simp⟩, joinS_more _ _ _ _ _ ⟨hc, by simp⟩, ih (i + 1) fr _ (by simp) hl2]
        simp only [List.length_cons]
        rw [show i + 1 + (ra.length + 1) = i + (ra.length + 1 + 1) by omega]
      · rw [List.cons_append, joinS_one _ _ _ _ _ (fun h => hc h.1), joinS_one _ _ _ _ _ (fun h => hc h.1), ih (i + 1) (i + 2) [] (by simp) hl2]
        simp only [List.length_cons, List.cons_append]
        rw [show i + 1 + (ra.length + 1) = i + (ra.length + 1 + 1) by omega]
theorem joinS_shift (n : Nat) : ∀ (rs : List (List UInt8)) (i fr : Nat) (pa : List (List UInt8)), joinS (n + i) (n + fr) pa rs = (joinS i fr pa rs).map (fun g => (n + g.1, g.2)) := by
  intro rs
  induction rs with
  | nil => intro i fr pa; rfl
  | cons r rs ih =>
    intro i fr pa
    by_cases h : (cutB r).2 = true ∧ rs ≠ []
    · rw [joinS_more _ _ _ _ _ h, joinS_more _ _ _ _ _ h]
      exact ih (i + 1) fr _
    · rw [joinS_one _ _ _ _ _ h, joinS_one _ _ _ _ _ h, List.map_cons]
      congr 1
      exact ih (i + 1) (i + 2) []
def shU (n : Nat) (x : S39) : S39 := ⟨x.f0 + (n : Int), x.f1, x.f2⟩
theorem lineL_shift (n m : Nat) (pa : List (List UInt8)) : lineL ((n + m : Nat) : Int) pa = (lineL (m : Int) pa).map (shU n) := by
  unfold lineL
  split
  · rfl
  · simp [shU]; omega
theorem linesU_append (a b : List UInt8) (h : a.getLast? ≠ some 92) : linesU (a ++ 10 :: b) = linesU a ++ (linesU b).map (shU (a.count 10 + 1)) := by
  unfold linesU
  rw [rowA_append, joinS_append _ (rowA_ne b []) _ _ _ _ (rowA_ne a []) (fun r hr => rowA_last a [] (by simpa using h) r hr), List.flatMap_append, rowA_count]
  congr 1
  have := joinS_shift (a.count 10 + 1) (rowA [] b) 0 1 []
  rw [Nat.zero_add, show a.count 10 + 1 + 0 = a.count 10 + 1 from rfl] at *
  rw [this, List.flatMap_map, List.map_flatMap]
  congr 1
  funext g
  exact lineL_shift _ _ _
/-- Groups begin behind what was, and rise. -/
theorem joinS_rise : ∀ (rs : List (List UInt8)) (i fr : Nat) (pa : List (List UInt8)), fr ≤ i + 1 → ((joinS i fr pa rs).map (·.1)).Pairwise (· < ·) ∧ ∀ g ∈ joinS i fr pa rs, fr ≤ g.1 := by
  intro rs
  induction rs with
  | nil => intro i fr pa _; exact ⟨List.Pairwise.nil, fun g hg => by cases hg⟩
  | cons r rs ih =>
    intro i fr pa h
    by_cases hc : (cutB r).2 = true ∧ rs ≠ []
    · rw [joinS_more _ _ _ _ _ hc]; exact ih (i + 1) fr _ (by omega)
    · rw [joinS_one _ _ _ _ _ hc]
      obtain ⟨h1, h2⟩ := ih (i + 1) (i + 2) [] (by omega)
      refine ⟨?_, ?_⟩
      · rw [List.map_cons, List.pairwise_cons]
        refine ⟨fun x hx => ?_, h1⟩
        obtain ⟨g, hg, rfl⟩ := List.mem_map.1 hx
        have := h2 g hg
        omega
      · intro g hg
        rcases List.mem_cons.1 hg with rfl | hg
        · exact Nat.le_refl _
        · have := h2 g hg; omega
theorem lines_rise (l : List UInt8) : ((linesU l).map (·.f0)).Pairwise (· < ·) ∧ ∀ x ∈ linesU l, 1 ≤ x.f0 := by
  unfold linesU
  obtain ⟨h1, h2⟩ := joinS_rise (rowA [] l) 0 1 [] (by omega)
  generalize joinS 0 1 [] (rowA [] l) = G at h1 h2
  induction G with
  | nil => exact ⟨List.Pairwise.nil, fun g hg => by cases hg⟩
  | cons g G ih =>
    rw [List.map_cons, List.pairwise_cons] at h1
    obtain ⟨i1, i2⟩ := ih h1.2 (fun x hx => h2 x (by simp [hx]))
    rw [List.flatMap_cons]
    have hg := h2 g (by simp)
    have all : ∀ x ∈ G.flatMap (fun g => lineL (g.1 : Int) g.2), (g.1 : Int) < x.f0 := by
      intro x hx
      obtain ⟨y, hy, hxy⟩ := List.mem_flatMap.1 hx
      unfold lineL at hxy
      split at hxy
      · cases hxy
      · rw [List.mem_singleton.1 hxy]
        have := h1.1 y.1 (List.mem_map_of_mem hy)
        show (g.1 : Int) < (y.1 : Int)
        omega
    have one : lineL (g.1 : Int) g.2 = [] ∨ ∃ t r, lineL (g.1 : Int) g.2 = [⟨(g.1 : Int), t, r⟩] := by
      unfold lineL
      split
      · exact .inl rfl
      · exact .inr ⟨_, _, rfl⟩
    rcases one with e | ⟨t, r, e⟩
    · rw [e, List.nil_append]; exact ⟨i1, i2⟩
    · rw [e]
      refine ⟨?_, ?_⟩
      · rw [List.singleton_append, List.map_cons, List.pairwise_cons]
        refine ⟨fun x hx => ?_, i1⟩
        obtain ⟨y, hy, rfl⟩ := List.mem_map.1 hx
        exact all y hy
      · intro x hx
        rcases List.mem_append.1 hx with hx | hx
        · rw [List.mem_singleton.1 hx]; show (1 : Int) ≤ (g.1 : Int); omega
        · exact i2 x hx
end Go.Proofs.YtgpabkdmagifjaaDoor.X
