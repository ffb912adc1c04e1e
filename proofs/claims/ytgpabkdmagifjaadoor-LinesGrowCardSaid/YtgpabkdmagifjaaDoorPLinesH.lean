/- A line's text is not empty, has no line end, and no blanks at its ends; plain Lean. -/
import Derived.Test.YtgpabkdmagifjaaDoorPLinesG
import Derived.Test.YtgpabkdmagifjaaDoorHAny
namespace Go.Proofs.YtgpabkdmagifjaaDoor.X
open Go.RowKit Go.Proofs.YtgpabkdmagifjaaDoorW.PrintWords Go.Proofs.YtgpabkdmagifjaaDoorW.PrintLast Go.Proofs.YtgpabkdmagifjaaDoorW.PrintMore Go.Proofs.YtgpabkdmagifjaaDoor.XL08 Go.Proofs.YtgpabkdmagifjaaDoor.XT08
set_option linter.unusedSimpArgs false
set_option linter.unusedVariables false

def edgeU (t : List UInt8) : Prop := (∀ c, t.head? = some c → blankU c = false) ∧ (∀ c, t.getLast? = some c → blankU c = false)
theorem dropW_head (l : List UInt8) : ∀ c, (l.dropWhile blankU).head? = some c → blankU c = false := by
  induction l with
  | nil => intro c h; simp at h
  | cons b l ih =>
    intro c h
    rw [List.dropWhile_cons] at h
    split at h
    · exact ih c h
    · rename_i hb
      simp at h
      rw [← h]; simpa using hb
theorem trimB_edge (l : List UInt8) : edgeU (trimB l) := by
  constructor
  · intro c h
    unfold trimB at h
    rw [trim_comm] at h
    exact dropW_head _ c h
  · intro c h
    unfold trimB trimR at h
    rw [List.getLast?_reverse] at h
    exact dropW_head _ c h
theorem join_edge : ∀ A : List (List UInt8), (∀ x ∈ A, x ≠ [] ∧ edgeU x) → edgeU (Lib.join A [32]) ∧ (A ≠ [] → Lib.join A [32] ≠ []) := by
  intro A
  induction A with
  | nil => intro _; exact ⟨⟨fun c h => by simp [Lib.join_nil] at h, fun c h => by simp [Lib.join_nil] at h⟩, fun h => absurd rfl h⟩
  | cons a A ih =>
    intro h
    obtain ⟨ha, he⟩ := h a (by simp)
    obtain ⟨i1, i2⟩ := ih (fun x hx => h x (by simp [hx]))
    cases A with
    | nil => rw [Lib.join_one]; exact ⟨he, fun _ => ha⟩
    | cons b A =>
      have e : Lib.join (a :: b :: A) [32] = a ++ ([32] ++ Lib.join (b :: A) [32]) := by
        rw [Lib.join_cons, Lib.join_cons]; simp [Lib.joinTail]
      have hn := i2 (by simp)
      rw [e]
      refine ⟨⟨?_, ?_⟩, fun _ => by simp [ha]⟩
      · intro c hc
        refine he.1 c ?_
        cases a with
        | nil => exact absurd rfl ha
        | cons x a => simpa using hc
      · intro c hc
        refine i1.2 c ?_
        obtain ⟨y, hy⟩ := Option.isSome_iff_exists.1 (show (Lib.join (b :: A) [32]).getLast?.isSome = true by simp [hn])
        rw [List.getLast?_append, List.getLast?_append, hy] at hc
        simp at hc
        rw [hy, hc]
theorem putU_edge (pa : List (List UInt8)) : edgeU (putU pa) := by
  refine (join_edge _ ?_).1
  intro x hx
  obtain ⟨h1, h2⟩ := List.mem_filter.1 hx
  obtain ⟨p, _, rfl⟩ := List.mem_map.1 h1
  exact ⟨by simpa [neU] using h2, trimB_edge p⟩
theorem textU_edge (pa : List (List UInt8)) : edgeU (textU pa) := by
  unfold textU
  split
  · exact putU_edge pa
  · exact trimB_edge _
theorem trimS_edge (t : List UInt8) (h : edgeU t) : Lib.trimS t [32, 9] = t := by
  have hp : ∀ c : UInt8, blankU c = false → ([32, 9] : List UInt8).contains c = false := by
    intro c hc
    unfold blankU at hc
    simp at hc ⊢
    exact ⟨hc.1, hc.2.1⟩
  have dw : ∀ l : List UInt8, (∀ c, l.head? = some c → blankU c = false) → l.dropWhile (([32, 9] : List UInt8).contains ·) = l := by
    intro l hl
    cases l with
    | nil => rfl
    | cons b l => rw [List.dropWhile_cons, if_neg (by rw [hp b (hl b rfl)]; decide)]
  unfold Lib.trimS Lib.trimLeftS Lib.trimRightS
  rw [dw t.reverse (fun c hc => h.2 c (by rw [List.head?_reverse] at hc; exact hc)), List.reverse_reverse, dw t h.1]
def noE (t : List UInt8) : Prop := ∀ c ∈ t, ¬ c = 10
theorem trimB_no (l : List UInt8) (h : noE l) : noE (trimB l) := by
  intro c hc
  unfold trimB trimR at hc
  rw [List.mem_reverse] at hc
  have h1 := (List.dropWhile_suffix blankU).subset hc
  rw [List.mem_reverse] at h1
  exact h c ((List.dropWhile_suffix blankU).subset h1)
theorem putU_no (pa : List (List UInt8)) (h : ∀ p ∈ pa, noE p) : noE (putU pa) := by
  have key : ∀ A : List (List UInt8), (∀ x ∈ A, noE x) → noE (Lib.join A [32]) := by
    intro A
    induction A with
    | nil => intro _ c hc; simp [Lib.join_nil] at hc
    | cons a A ih =>
      intro hA
      cases A with
      | nil => rw [Lib.join_one]; exact hA a (by simp)
      | cons b A =>
        have e : Lib.join (a :: b :: A) [32] = a ++ ([32] ++ Lib.join (b :: A) [32]) := by
          rw [Lib.join_cons, Lib.join_cons]; simp [Lib.joinTail]
        rw [e]
        intro c hc
        rcases List.mem_append.1 hc with hc | hc
        · exact hA a (by simp) c hc
        · rcases List.mem_append.1 hc with hc | hc
          · rw [List.mem_singleton.1 hc]; decide
          · exact ih (fun x hx => hA x (by simp [hx])) c hc
  refine key _ (fun x hx => ?_)
  obtain ⟨h1, _⟩ := List.mem_filter.1 hx
  obtain ⟨p, hp, rfl⟩ := List.mem_map.1 h1
  exact trimB_no p (h p hp)
theorem bareA_no (l : List UInt8) (h : noE l) : ∀ d i acc, l.length - i ≤ d → noE acc → noE (bareA l i acc) := by
  intro d
  induction d with
  | zero => intro i acc hd ha; rw [bareA_end l i acc (by omega)]; exact ha
  | succ d ih =>
    intro i acc hd ha
    have ap : ∀ c, ¬ c = 10 → noE (acc ++ [c]) := by
      intro c hc x hx
      rcases List.mem_append.1 hx with hx | hx
      · exact ha x hx
      · rw [List.mem_singleton.1 hx]; exact hc
    by_cases hi : i < l.length
    · by_cases h2 : l[i] = 92 ∧ ∃ h4 : i + 1 < l.length, l[i + 1] = 35
      · obtain ⟨h3, h4, h5⟩ := h2
        rw [bareA_esc l i acc hi h3 h4 h5]
        exact ih (i + 2) _ (by omega) (ap 35 (by decide))
      · by_cases h3 : l[i] = 35
        · rw [bareA_hit l i acc hi h3]; exact ha
        · rw [bareA_one l i acc hi h3 h2]
          exact ih (i + 1) _ (by omega) (ap _ (h _ (List.getElem_mem hi)))
    · rw [bareA_end l i acc (by omega)]; exact ha
theorem textU_no (pa : List (List UInt8)) (h : ∀ p ∈ pa, noE p) : noE (textU pa) := by
  unfold textU
  split
  · exact putU_no pa h
  · exact trimB_no _ (bareA_no _ (putU_no pa h) _ 0 [] (Nat.le_refl _) (fun c hc => by cases hc))
theorem joinS_no : ∀ (rs : List (List UInt8)) (i fr : Nat) (pa : List (List UInt8)), (∀ r ∈ rs, noE r) → (∀ p ∈ pa, noE p) → ∀ g ∈ joinS i fr pa rs, ∀ p ∈ g.2, noE p := by
  intro rs
  induction rs with
  | nil => intro i fr pa _ _ g hg; cases hg
  | cons r rs ih =>
    intro i fr pa hr hp g hg
    have hr0 := hr r (by simp)
    have hrs : ∀ x ∈ rs, noE x := fun x hx => hr x (by simp [hx])
    have ap : ∀ q, noE q → ∀ p ∈ pa ++ [q], noE p := by
      intro q hq p hpp
      rcases List.mem_append.1 hpp with h | h
      · exact hp p h
      · rw [List.mem_singleton.1 h]; exact hq
    by_cases hc : (cutB r).2 = true ∧ rs ≠ []
    · rw [joinS_more _ _ _ _ _ hc] at hg
      refine ih _ _ _ hrs (ap _ ?_) g hg
      intro c hcc
      unfold cutB at hcc
      split at hcc
      · exact hr0 c (List.dropLast_subset _ hcc)
      · exact hr0 c hcc
    · rw [joinS_one _ _ _ _ _ hc] at hg
      rcases List.mem_cons.1 hg with rfl | hg
      · exact ap r hr0
      · exact ih _ _ _ hrs (by simp) g hg
theorem linesU_good (l : List UInt8) : ∀ x ∈ linesU l, ∃ t, x.f1 = B t ∧ t ≠ [] ∧ noE t ∧ Lib.trimS t [32, 9] = t := by
  intro x hx
  obtain ⟨g, hg, hxg⟩ := List.mem_flatMap.1 hx
  unfold lineL at hxg
  split at hxg
  · cases hxg
  · rename_i hne
    rw [List.mem_singleton.1 hxg]
    refine ⟨_, rfl, hne, textU_no _ ?_, trimS_edge _ (textU_edge _)⟩
    exact joinS_no _ _ _ _ (rowA_no10 l [] (by simp)) (by simp) g hg
end Go.Proofs.YtgpabkdmagifjaaDoor.X
