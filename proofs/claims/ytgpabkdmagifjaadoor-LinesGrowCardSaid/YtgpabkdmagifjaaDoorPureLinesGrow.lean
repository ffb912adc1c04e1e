/- LinesGrow answers true for every two texts; condition: the texts' own bounds. -/
import Derived.Test.YtgpabkdmagifjaaDoorXW8Gx
import Derived.Test.YtgpabkdmagifjaaDoorPLinesH
namespace Go.Proofs.YtgpabkdmagifjaaDoor.X
open Go.RowKit Go.Proofs.YtgpabkdmagifjaaDoorW.PrintWords Go.Proofs.YtgpabkdmagifjaaDoorW.PrintLast Go.Proofs.YtgpabkdmagifjaaDoorW.PrintMore Go.Proofs.YtgpabkdmagifjaaDoor.XT08 Go.Proofs.YtgpabkdmagifjaaDoor.XW8G
set_option linter.unusedSimpArgs false
set_option linter.unusedVariables false
set_option maxRecDepth 100000

theorem bareEx : bareA [97, 32, 98, 32, 35, 32, 99] 0 [] = [97, 32, 98, 32] := by
  rw [bareA_one _ 0 _ (by decide) (by decide) (by decide), bareA_one _ 1 _ (by decide) (by decide) (by decide), bareA_one _ 2 _ (by decide) (by decide) (by decide), bareA_one _ 3 _ (by decide) (by decide) (by decide), bareA_hit _ 4 _ (by decide) (by decide)]
  rfl
theorem linesEx : linesU [97, 32, 92, 10, 98, 32, 35, 32, 99] = [⟨1, B [97, 32, 98], false⟩] := by
  have h1 : joinS 0 1 [] (rowA [] [97, 32, 92, 10, 98, 32, 35, 32, 99]) = [(1, [[97, 32], [98, 32, 35, 32, 99]])] := by rfl
  have h2 : textU [[97, 32], [98, 32, 35, 32, 99]] = [97, 32, 98] := by
    have e1 : recU [[97, 32], [98, 32, 35, 32, 99]] = false := by rfl
    have e2 : putU [[97, 32], [98, 32, 35, 32, 99]] = [97, 32, 98, 32, 35, 32, 99] := by rfl
    unfold textU
    rw [e1, e2, if_neg (by decide), bareEx]
    rfl
  have h3 : lineL (((1 : Nat) : Int)) [[97, 32], [98, 32, 35, 32, 99]] = [⟨1, B [97, 32, 98], false⟩] := by
    unfold lineL
    rw [h2]
    rfl
  unfold linesU
  rw [h1]
  simp only [List.flatMap_cons, List.flatMap_nil, List.append_nil]
  exact h3
theorem lives08 : flatironlaw08_lives.f = some true := by
  unfold flatironlaw08_lives.f lines_Of.f
  rw [if_pos (by decide)]
  have e : ((⟨#[97, 32, 92, 10, 98, 32, 35, 32, 99]⟩ : ByteArray)).data.toList = [97, 32, 92, 10, 98, 32, 35, 32, 99] := rfl
  rw [e, linesEx, Option.bind_some, if_pos (by rfl), if_pos (by decide)]
  have e2 : rd_T39 [(⟨1, B [97, 32, 98], false⟩ : S39)] 0 = ⟨1, B [97, 32, 98], false⟩ := rfl
  rw [e2]
  simp [B_toList]
theorem rdL (A : List S39) (i : Nat) (hi : i < A.length) : rd_T39 A (i : Int) = A[i] := by
  unfold rd_T39
  rw [show ((i : Int)).toNat = i from rfl, List.getD_eq_getElem?_getD, List.getElem?_eq_getElem hi]
  rfl
theorem linesU_rows (l : List UInt8) : (linesU l).length ≤ (rowA [] l).length := by
  have h1 : ∀ (rs : List (List UInt8)) (i fr : Nat) (pa : List (List UInt8)), ((joinS i fr pa rs).flatMap (fun g => lineL (g.1 : Int) g.2)).length ≤ rs.length := by
    intro rs
    induction rs with
    | nil => intro i fr pa; simp [joinS]
    | cons r rs ih =>
      intro i fr pa
      by_cases h : (cutB r).2 = true ∧ rs ≠ []
      · rw [joinS_more _ _ _ _ _ h]; have := ih (i + 1) fr (pa ++ [(cutB r).1]); simp only [List.length_cons]; omega
      · rw [joinS_one _ _ _ _ _ h, List.flatMap_cons, List.length_append]
        have := ih (i + 1) (i + 2) []
        have := lineL_len (fr : Int) (pa ++ [r])
        simp only [List.length_cons]; omega
  exact h1 _ _ _ _
theorem any10 : ∀ t : List UInt8, noE t → Lib.indexAny t [10] = -1 := by
  intro t
  induction t with
  | nil => intro _; rfl
  | cons b t ih =>
    intro h
    have hb : ¬ b = 10 := h b (by simp)
    rw [Lib.indexAny, if_neg (by simpa using hb), ih (fun c hc => h c (by simp [hc]))]
    rfl
theorem grow_step (x : S39) (rows : Int) (X Y A : List S39) (last N i : Int) (t : List UInt8) (hx : x.f1 = B t) (hne : t ≠ []) (hno : noE t) (htr : Lib.trimS t [32, 9] = t) (htl : t.length < 4294967281) (hlast : last < x.f0)
    (h : Ev (fun k => flatironlaw08_LinesGrow.l0 k rows X Y x.f0 A N (wrap64 (i + 1))) true) :
    Ev (fun k => flatironlaw08_LinesGrow.j3 k rows X Y last A N i x.f0 x.f1 x.f2 x.f0 x.f1 x.f2) true := by
  refine Ev.step (fun k => by rw [flatironlaw08_LinesGrow.j3]) ?_
  rw [hx]
  refine Ev.neg (by simp) ?_
  refine Ev.neg (by omega) ?_
  have h1 : strings_ContainsAny.f (B t) (⟨#[10]⟩ : ByteArray) = some false := by
    unfold strings_ContainsAny.f strings_IndexAny.f
    rw [if_pos ⟨by rw [B_size]; exact htl, by decide, by decide⟩, B_data]
    simp only [Option.map_some, Option.bind_some]
    rw [any10 t hno]
    rfl
  refine Ev.bind (Ev.of h1) ?_
  refine Ev.neg (by decide) ?_
  refine Ev.neg (by rw [B_toList]; exact hne) ?_
  have h2 : strings_Trim.f (B t) (⟨#[32, 9]⟩ : ByteArray) = some (B t) := by
    unfold strings_Trim.f
    rw [if_pos ⟨by rw [B_size]; omega, by decide, by decide⟩, B_data]
    rw [show (⟨#[32, 9]⟩ : ByteArray).data.toList = [32, 9] from rfl, htr]
    rfl
  refine Ev.bind (Ev.of h2) ?_
  refine Ev.pos rfl ?_
  exact h
theorem grow_loop (n : Nat) (X Y : List S39) (hn : n < 4294967281) (hl : X.length + Y.length < 4294967281) (hY : ∀ y ∈ Y, 0 ≤ y.f0 ∧ y.f0 < 4294967281)
    (hgood : ∀ x ∈ X ++ Y.map (shU n), ∃ t, x.f1 = B t ∧ t ≠ [] ∧ noE t ∧ Lib.trimS t [32, 9] = t ∧ t.length < 4294967281) (hrise : ((X ++ Y.map (shU n)).map (·.f0)).Pairwise (· < ·)) :
    ∀ i, i ≤ (X ++ Y.map (shU n)).length → ∀ last, (∀ x ∈ (X ++ Y.map (shU n)).drop i, last < x.f0) → Ev (fun k => flatironlaw08_LinesGrow.l0 k (n : Int) X Y last (X ++ Y.map (shU n)) ((X ++ Y.map (shU n)).length : Int) (i : Int)) true := by
  obtain ⟨A, hA⟩ : ∃ A, X ++ Y.map (shU n) = A := ⟨_, rfl⟩
  have hAl : A.length = X.length + Y.length := by rw [← hA]; simp
  rw [hA] at hgood hrise ⊢
  refine upto_ind ?_ ?_
  · intro last _
    refine Ev.step (fun k => by rw [flatironlaw08_LinesGrow.l0]) ?_
    refine Ev.neg (by omega) ?_
    exact Ev.ret _
  · intro i hi ih last hlast
    obtain ⟨t, h1, h2, h3, h4, h5⟩ := hgood A[i] (List.getElem_mem hi)
    have hd := drop_get A i hi
    have hl0 := hlast A[i] (by rw [hd]; exact List.mem_cons_self)
    have hnext : ∀ x ∈ A.drop (i + 1), A[i].f0 < x.f0 := by
      have hp : ((A.drop i).map (·.f0)).Pairwise (· < ·) := by
        rw [List.map_drop]
        exact hrise.sublist (List.drop_sublist _ _)
      rw [hd, List.map_cons, List.pairwise_cons] at hp
      intro x hx
      exact hp.1 _ (List.mem_map_of_mem hx)
    have ih2 := ih A[i].f0 hnext
    rw [← wrap_succ i (by omega)] at ih2
    have st := grow_step A[i] (n : Int) X Y A last (A.length : Int) (i : Int) t h1 h2 h3 h4 h5 hl0 ih2
    refine Ev.step (fun k => by rw [flatironlaw08_LinesGrow.l0]) ?_
    rw [rdL A i hi]
    refine Ev.pos (by omega) ?_
    refine Ev.pos (by omega) ?_
    refine Ev.pos (by omega) ?_
    by_cases hX : i < X.length
    · refine Ev.pos (by omega) ?_
      rw [rdL X i hX]
      have e : X[i] = A[i] := by
        have : A[i] = (X ++ Y.map (shU n))[i]'(by rw [hA]; exact hi) := by congr 1; exact hA.symm
        rw [this, List.getElem_append_left hX]
      rw [e]
      exact st
    · have hw : wrap64 ((i : Int) - (X.length : Int)) = ((i - X.length : Nat) : Int) := wrap_sub i X.length (by omega) (by omega)
      have hYi : i - X.length < Y.length := by omega
      refine Ev.neg (by omega) ?_
      rw [hw]
      refine Ev.pos (by omega) ?_
      refine Ev.pos (by omega) ?_
      rw [rdL Y (i - X.length) hYi]
      have e : shU n (Y[i - X.length]) = A[i] := by
        have : A[i] = (X ++ Y.map (shU n))[i]'(by rw [hA]; exact hi) := by congr 1; exact hA.symm
        rw [this, List.getElem_append_right (by omega), List.getElem_map]
      have hy := hY _ (List.getElem_mem hYi)
      have w2 : wrap64 ((Y[i - X.length]).f0 + (n : Int)) = (Y[i - X.length]).f0 + (n : Int) := by unfold wrap64; omega
      rw [w2, show (Y[i - X.length]).f0 + (n : Int) = (shU n (Y[i - X.length])).f0 from rfl, show (Y[i - X.length]).f1 = (shU n (Y[i - X.length])).f1 from rfl, show (Y[i - X.length]).f2 = (shU n (Y[i - X.length])).f2 from rfl, e]
      exact st
theorem lineL_num : ∀ (rs : List (List UInt8)) (i fr : Nat) (pa : List (List UInt8)), fr ≤ i + 1 → ∀ g ∈ joinS i fr pa rs, g.1 ≤ i + rs.length := by
  intro rs
  induction rs with
  | nil => intro i fr pa _ g hg; cases hg
  | cons r rs ih =>
    intro i fr pa h g hg
    by_cases hc : (cutB r).2 = true ∧ rs ≠ []
    · rw [joinS_more _ _ _ _ _ hc] at hg; have := ih (i + 1) fr _ (by omega) g hg; simp only [List.length_cons]; omega
    · rw [joinS_one _ _ _ _ _ hc] at hg
      rcases List.mem_cons.1 hg with rfl | hg
      · simp only [List.length_cons]; omega
      · have := ih (i + 1) (i + 2) [] (by omega) g hg; simp only [List.length_cons]; omega
theorem linesU_num (l : List UInt8) : ∀ x ∈ linesU l, x.f0 ≤ (l.length : Int) + 1 := by
  intro x hx
  obtain ⟨g, hg, hxg⟩ := List.mem_flatMap.1 hx
  have h1 := lineL_num (rowA [] l) 0 1 [] (by omega) g hg
  have h2 := rowA_len l []
  unfold lineL at hxg
  split at hxg
  · cases hxg
  · rw [List.mem_singleton.1 hxg]
    show (g.1 : Int) ≤ _
    omega
theorem textU_len (pa : List (List UInt8)) : (textU pa).length ≤ (pa.map List.length).sum + pa.length := by
  have h1 := putU_len pa
  unfold textU
  split
  · exact h1
  · have h2 := trimB_le (bareA (putU pa) 0 [])
    have h3 := bareA_len (putU pa) 0 []
    simp at h3
    omega
theorem joinS_len : ∀ (rs : List (List UInt8)) (i fr : Nat) (pa : List (List UInt8)), ∀ g ∈ joinS i fr pa rs, (g.2.map List.length).sum + g.2.length ≤ (pa.map List.length).sum + pa.length + (rs.map List.length).sum + rs.length := by
  intro rs
  induction rs with
  | nil => intro i fr pa g hg; cases hg
  | cons r rs ih =>
    intro i fr pa g hg
    have h0 := cutB_len r
    by_cases hc : (cutB r).2 = true ∧ rs ≠ []
    · rw [joinS_more _ _ _ _ _ hc] at hg
      have := ih _ _ _ g hg
      simp only [List.map_append, List.sum_append, List.map_cons, List.map_nil, List.sum_cons, List.sum_nil, List.length_append, List.length_cons, List.length_nil] at this ⊢
      omega
    · rw [joinS_one _ _ _ _ _ hc] at hg
      rcases List.mem_cons.1 hg with rfl | hg
      · simp only [List.map_append, List.sum_append, List.map_cons, List.map_nil, List.sum_cons, List.sum_nil, List.length_append, List.length_cons, List.length_nil]
        omega
      · have := ih _ _ _ g hg
        simp only [List.map_cons, List.map_nil, List.sum_cons, List.sum_nil, List.length_cons, List.length_nil] at this ⊢
        omega
theorem linesU_good2 (l : List UInt8) (hl : l.length < 1000000) : ∀ x ∈ linesU l, ∃ t, x.f1 = B t ∧ t ≠ [] ∧ noE t ∧ Lib.trimS t [32, 9] = t ∧ t.length < 4294967281 := by
  intro x hx
  obtain ⟨t, h1, h2, h3, h4⟩ := linesU_good l x hx
  refine ⟨t, h1, h2, h3, h4, ?_⟩
  obtain ⟨g, hg, hxg⟩ := List.mem_flatMap.1 hx
  have h5 := joinS_len (rowA [] l) 0 1 [] g hg
  have h6 := rowA_sum l []
  have h7 := rowA_len l []
  unfold lineL at hxg
  split at hxg
  · cases hxg
  · rw [List.mem_singleton.1 hxg] at h1
    have h8 : B (textU g.2) = B t := h1
    rw [← B_inj h8]
    have := textU_len g.2
    simp at h5 h6
    omega
theorem linesGrow_pure (a0 a1 : ByteArray) (w0 : a0.size ≤ 140737488351232) (w1 : a1.size ≤ 140737488351232) : ∃ k, flatironlaw08_LinesGrow.f k a0 a1 = some true := by
  refine Ev.get ?_
  obtain ⟨a, rfl, ha⟩ := ex_B a0
  obtain ⟨b, rfl, hb⟩ := ex_B a1
  rw [B_size] at w0 w1
  refine Ev.congr (fun k => by rw [flatironlaw08_LinesGrow.f]) ?_
  refine Ev.bind (Ev.of lives08) ?_
  refine Ev.pos rfl ?_
  rw [B_size, B_size, wrap_add a.length b.length (by omega)]
  have yes : Ev (fun k => flatironlaw08_LinesGrow.j0 k (B a) (B b) true) true := by
    refine Ev.step (fun k => by rw [flatironlaw08_LinesGrow.j0]) ?_
    refine Ev.pos rfl ?_
    refine Ev.bind (Ev.of lives08) ?_
    exact Ev.ret _
  refine Ev.iff (show (((a.length + b.length : Nat) : Int) > 3000) = (3000 < a.length + b.length) from propext (by omega)) (fun _ => yes) ?_
  intro hn
  have hsuf : strings_HasSuffix.f (B a) (⟨#[92]⟩ : ByteArray) = some (Lib.hasSuffix a [92]) := by
    unfold strings_HasSuffix.f
    rw [if_pos (by rw [B_size]; omega), B_data]
  refine Ev.bind (Ev.of hsuf) ?_
  by_cases hs : Lib.hasSuffix a [92] = true
  · rw [hs]; exact yes
  have hlast : a.getLast? ≠ some 92 := by
    intro h
    apply hs
    obtain ⟨m, rfl⟩ := List.getLast?_eq_some_iff.1 h
    unfold Lib.hasSuffix
    rw [List.isSuffixOf_iff_suffix]
    exact ⟨m, rfl⟩
  rw [show Lib.hasSuffix a [92] = false by simpa using hs]
  refine Ev.step (fun k => by rw [flatironlaw08_LinesGrow.j0]) ?_
  refine Ev.neg (by decide) ?_
  have hc : strings_Count.f (B a) (⟨#[10]⟩ : ByteArray) = some ((a.count 10 : Nat) : Int) := by
    unfold strings_Count.f
    rw [B_data]
    rfl
  have hof : ∀ l : List UInt8, l.length < 1048576 → lines_Of.f (B l) = some (linesU l) := by
    intro l hl
    unfold lines_Of.f; rw [if_pos (by rw [B_size]; exact hl), B_data]
  have hcl : a.count 10 ≤ a.length := List.count_le_length
  refine Ev.bind (Ev.of hc) ?_
  refine Ev.bind (Ev.of (hof a (by omega))) ?_
  refine Ev.bind (Ev.of (hof b (by omega))) ?_
  refine Ev.pos (by rw [B_size]; omega) ?_
  refine Ev.pos (by rw [B_size, B_size]; omega) ?_
  have e3 : (B a ++ (⟨#[10]⟩ : ByteArray)) ++ B b = B (a ++ 10 :: b) := by
    rw [show (⟨#[10]⟩ : ByteArray) = B [10] from rfl, B_append, B_append]; simp
  rw [e3]
  refine Ev.bind (Ev.of (hof (a ++ 10 :: b) (by simp; omega))) ?_
  rw [linesU_append a b hlast]
  have hX := linesU_rows a
  rw [rowA_count] at hX
  have hY := linesU_rows b
  have hY2 := rowA_len b []
  have w5 : wrap64 (((a.count 10 : Nat) : Int) + 1) = ((a.count 10 + 1 : Nat) : Int) := wrap_succ _ (by omega)
  have w6 : wrap64 (((linesU a).length : Int) + ((linesU b).length : Int)) = (((linesU a).length + (linesU b).length : Nat) : Int) := wrap_add _ _ (by omega)
  rw [w5, w6]
  refine Ev.pos (by rw [List.length_append, List.length_map]) ?_
  rw [show decide (((linesU a).length : Int) > ((a.count 10 + 1 : Nat) : Int)) = false from decide_eq_false (by omega)]
  refine Ev.step (fun k => by rw [flatironlaw08_LinesGrow.j1]) ?_
  refine Ev.neg (by decide) ?_
  have hrise := lines_rise (a ++ 10 :: b)
  rw [linesU_append a b hlast] at hrise
  have hgood := linesU_good2 (a ++ 10 :: b) (by simp; omega)
  rw [linesU_append a b hlast] at hgood
  refine grow_loop (a.count 10 + 1) (linesU a) (linesU b) (by omega) (by omega) ?_ hgood hrise.1 0 (Nat.zero_le _) 0 ?_
  · intro y hy
    have h1 := (lines_rise b).2 y hy
    have h2 := linesU_num b y hy
    omega
  · intro x hx
    rw [List.drop_zero] at hx
    have := hrise.2 x hx
    omega
end Go.Proofs.YtgpabkdmagifjaaDoor.X
namespace Go.Proofs.YtgpabkdmagifjaaDoor.Pure
open Go.Proofs.YtgpabkdmagifjaaDoor.XW8G
theorem LinesGrow (a0 a1 : ByteArray) (w0 : a0.size ≤ 140737488351232) (w1 : a1.size ≤ 140737488351232) : ∃ k, flatironlaw08_LinesGrow.f k a0 a1 = some true := X.linesGrow_pure a0 a1 w0 w1
end Go.Proofs.YtgpabkdmagifjaaDoor.Pure
