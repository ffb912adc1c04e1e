/- LinesOf answers true for every text; condition: the text's own bound. -/
import Derived.Test.YtgpabkdmagifjaaDoorXW08x
namespace Go.Proofs.YtgpabkdmagifjaaDoor.X
open Go.RowKit Go.Proofs.YtgpabkdmagifjaaDoorW.PrintWords Go.Proofs.YtgpabkdmagifjaaDoorW.PrintLast Go.Proofs.YtgpabkdmagifjaaDoorW.PrintMore Go.Proofs.YtgpabkdmagifjaaDoor.XT08 Go.Proofs.YtgpabkdmagifjaaDoor.XW08
set_option linter.unusedSimpArgs false
set_option linter.unusedVariables false
set_option maxRecDepth 100000

theorem bareEx : bareA [97, 32, 98, 32, 35, 32, 99] 0 [] = [97, 32, 98, 32] := by
  rw [bareA_one _ 0 _ (by decide) (by decide) (by decide), bareA_one _ 1 _ (by decide) (by decide) (by decide), bareA_one _ 2 _ (by decide) (by decide) (by decide), bareA_one _ 3 _ (by decide) (by decide) (by decide), bareA_hit _ 4 _ (by decide) (by decide)]
  rfl
theorem linesEx : linesU [97, 32, 92, 10, 98, 32, 35, 32, 99] = [⟨1, B [97, 32, 98], false⟩] := by
  have h1 : joinS 0 1 [] (rowA [] [97, 32, 92, 10, 98, 32, 35, 32, 99]) = [(1, [[97, 32], [98, 32, 35, 32, 99]])] := by rfl
  have h2 : textU [[97, 32], [98, 32, 35, 32, 99]] = [97, 32, 98] := by
    have e1 : recU [[97, 32], [98, 32, 35, 32, 99]] = false := by rfl
    have e2 : putU [[97, 32], [98, 32, 35, 32, 99]] = [97, 32, 98, 32, 35, 32, 99] := by rfl
    unfold textU
    rw [e1, e2, if_neg (by decide), bareEx]
    rfl
  have h3 : lineL (((1 : Nat) : Int)) [[97, 32], [98, 32, 35, 32, 99]] = [⟨1, B [97, 32, 98], false⟩] := by
    unfold lineL
    rw [h2]
    rfl
  unfold linesU
  rw [h1]
  simp only [List.flatMap_cons, List.flatMap_nil, List.append_nil]
  exact h3
theorem lives08 : flatironlaw08_lives.f = some true := by
  unfold flatironlaw08_lives.f lines_Of.f
  rw [if_pos (by decide)]
  have e : ((⟨#[97, 32, 92, 10, 98, 32, 35, 32, 99]⟩ : ByteArray)).data.toList = [97, 32, 92, 10, 98, 32, 35, 32, 99] := rfl
  rw [e, linesEx, Option.bind_some, if_pos (by rfl), if_pos (by decide)]
  have e2 : rd_T39 [(⟨1, B [97, 32, 98], false⟩ : S39)] 0 = ⟨1, B [97, 32, 98], false⟩ := rfl
  rw [e2]
  simp [B_toList]
def cvR (x : S39) : S40 := ⟨x.f0, x.f1, x.f2⟩
theorem lineR_map (n : Int) (parts : List (List UInt8)) : lineR n parts = (lineL n parts).map cvR := by
  unfold lineR lineL
  split <;> rfl
theorem linesR_map (l : List UInt8) : linesR l = (linesU l).map cvR := by
  unfold linesR linesU
  rw [List.map_flatMap]
  congr 1
  funext g
  exact lineR_map _ _
theorem linesU_len (l : List UInt8) : (linesU l).length ≤ l.length + 1 := by
  have h1 : ∀ (rs : List (List UInt8)) (i fr : Nat) (pa : List (List UInt8)), ((joinS i fr pa rs).flatMap (fun g => lineL (g.1 : Int) g.2)).length ≤ rs.length := by
    intro rs
    induction rs with
    | nil => intro i fr pa; simp [joinS]
    | cons r rs ih =>
      intro i fr pa
      by_cases h : (cutB r).2 = true ∧ rs ≠ []
      · rw [joinS_more _ _ _ _ _ h]; have := ih (i + 1) fr (pa ++ [(cutB r).1]); simp only [List.length_cons]; omega
      · rw [joinS_one _ _ _ _ _ h, List.flatMap_cons, List.length_append]
        have := ih (i + 1) (i + 2) []
        have := lineL_len (fr : Int) (pa ++ [r])
        simp only [List.length_cons]; omega
  exact Nat.le_trans (h1 _ _ _ _) (rowA_len l [])
theorem linesOf_loop (A : List S39) (hl : A.length < 4294967281) : ∀ i, i ≤ A.length → Ev (fun k => flatironlaw08_LinesOf.l0 k (A.map cvR) A (A.length : Int) (i : Int)) true := by
  refine upto_ind ?_ ?_
  · refine Ev.step (fun k => by rw [flatironlaw08_LinesOf.l0]) ?_
    refine Ev.neg (by omega) ?_
    exact Ev.ret _
  · intro i hi ih
    refine Ev.step (fun k => by rw [flatironlaw08_LinesOf.l0]) ?_
    have r1 : rd_T39 A (i : Int) = A[i] := by
      unfold rd_T39
      rw [show ((i : Int)).toNat = i from rfl, List.getD_eq_getElem?_getD, List.getElem?_eq_getElem hi]
      rfl
    have r2 : rd_T40 (A.map cvR) (i : Int) = cvR A[i] := by
      unfold rd_T40
      rw [show ((i : Int)).toNat = i from rfl, List.getD_eq_getElem?_getD, List.getElem?_map, List.getElem?_eq_getElem hi]
      rfl
    rw [r1, r2, wrap_succ i (by omega)]
    refine Ev.pos (by omega) ?_
    refine Ev.pos (by omega) ?_
    refine Ev.pos (by omega) ?_
    refine Ev.pos (by rw [List.length_map]; omega) ?_
    refine Ev.neg (by simp [cvR]) ?_
    exact ih
theorem linesOf_pure (a0 : ByteArray) (w0 : a0.size ≤ 140737488351232) : ∃ k, flatironlaw08_LinesOf.f k a0 = some true := by
  refine Ev.get ?_
  obtain ⟨l, rfl, hl⟩ := ex_B a0
  rw [B_size] at w0
  refine Ev.congr (fun k => by rw [flatironlaw08_LinesOf.f]) ?_
  refine Ev.bind (Ev.of lives08) ?_
  refine Ev.pos rfl ?_
  refine Ev.step (fun k => by rw [flatironlaw08_LinesOf.j0]) ?_
  refine Ev.iff (show (decide (((B l).size : Int) > 3000) = true) = (3000 < l.length) by rw [B_size, decide_eq_true_eq]; exact propext (by omega)) ?_ ?_
  · intro _
    refine Ev.bind (Ev.of lives08) ?_
    exact Ev.ret _
  · intro hn
    have h1 : lines_Of.f (B l) = some (linesU l) := by
      unfold lines_Of.f; rw [if_pos (by rw [B_size]; omega), B_data]
    have h2 : flatironref08_Of.f (B l) = some ((linesU l).map cvR) := by
      unfold flatironref08_Of.f; rw [if_pos (by rw [B_size]; omega), B_data, linesR_map]
    refine Ev.bind (Ev.of h1) ?_
    refine Ev.bind (Ev.of h2) ?_
    have := linesU_len l
    refine Ev.pos (by rw [List.length_map]) ?_
    exact linesOf_loop _ (by omega) 0 (Nat.zero_le _)
end Go.Proofs.YtgpabkdmagifjaaDoor.X
namespace Go.Proofs.YtgpabkdmagifjaaDoor.Pure
open Go.Proofs.YtgpabkdmagifjaaDoor.XW08
theorem LinesOf (a0 : ByteArray) (w0 : a0.size ≤ 140737488351232) : ∃ k, flatironlaw08_LinesOf.f k a0 = some true := X.linesOf_pure a0 w0
end Go.Proofs.YtgpabkdmagifjaaDoor.Pure
