/- PathWays answers true for all arguments (its pure side). -/
import Derived.Test.YtcadgnaejjgdnaaDoorPWays
import Derived.Test.YtcadgnaejjgdnaaDoorXW01x5
namespace Go.Proofs.YtcadgnaejjgdnaaDoor.X
open Go.RowKit Go.Proofs.YtcadgnaejjgdnaaDoorW.PrintWords Go.Proofs.YtcadgnaejjgdnaaDoorW.PrintLast Go.Proofs.YtcadgnaejjgdnaaDoorW.PrintMore Go.Proofs.YtcadgnaejjgdnaaDoor.XW01
set_option linter.unusedSimpArgs false
set_option linter.unusedVariables false

theorem PathWays_ev (a b : List UInt8) (ha : a.length ≤ 140737488351232) (hb : b.length ≤ 140737488351232) : Ev (fun k => flatironlaw01_PathWays.f k (B a) (B b)) true := by
  refine Ev.congr (fun k => by rw [flatironlaw01_PathWays.f]) ?_
  refine Ev.bind lives01 (Ev.pos rfl ?_)
  rw [B_size, B_size, wrap_add _ _ (by omega)]
  by_cases h6 : ((a.length + b.length : Nat) : Int) > 600
  · rw [decide_eq_true h6]
    refine Ev.step (fun k => by rw [flatironlaw01_PathWays.j0]) ?_
    exact Ev.pos rfl (Ev.bind lives01 (Ev.ret _))
  rw [decide_eq_false h6]
  refine Ev.step (fun k => by rw [flatironlaw01_PathWays.j0]) ?_
  refine Ev.neg (by simp) ?_
  have hsa : szS [a] < 1099511627776 := by rw [szS_cons, szS_nil]; omega
  have hsb : szS [b] < 1099511627776 := by rw [szS_cons, szS_nil]; omega
  refine Ev.bind (refJoin_ev [a] (by simp; omega) hsa) (Ev.bind (refJoin_ev [b] (by simp; omega) hsb) ?_)
  have out : ∀ (p q : ByteArray), Ev (fun k => flatironlaw01_PathWays.j1 k p q true) true := by
    intro p q
    refine Ev.step (fun k => by rw [flatironlaw01_PathWays.j1]) ?_
    exact Ev.pos rfl (Ev.ret _)
  cases hA : joinS [a] with
  | none => exact Ev.neg (by simp [resR]) (out _ _)
  | some A =>
  refine Ev.pos rfl ?_
  cases hC : joinS [b] with
  | none => exact out _ _
  | some C =>
  have gA := walkS_good _ _ _ (flat_good [a]) (by simp) hA
  have gC := walkS_good _ _ _ (flat_good [b]) (by simp) hC
  have sA := walkS_sz _ _ _ hA
  have sC := walkS_sz _ _ _ hC
  have fa := szS_flat [a]
  have fb := szS_flat [b]
  rw [szS_cons, szS_nil] at fa fb
  rw [szS_nil] at sA sC
  have tA := text_le A
  have tC := text_le C
  have lA := szS_len A
  have lC := szS_len C
  have gA1 : ∀ x ∈ A, goodP x := fun x hx => (gA x hx).1
  have gC1 : ∀ x ∈ C, goodP x := fun x hx => (gC x hx).1
  obtain ⟨c1, c2, c3, c4⟩ := commS_facts A C
  obtain ⟨c, hc⟩ : ∃ c, c = commS A C := ⟨_, rfl⟩
  have hT : toS A C = List.replicate (C.length - c) [46, 46] ++ A.drop c := by rw [hc]; rfl
  rw [← hc] at c1 c2 c3
  obtain ⟨T, hTd⟩ : ∃ T, T = toS A C := ⟨_, rfl⟩
  rw [← hTd] at hT
  have gT : ∀ x ∈ T, goodP x := by
    intro x hx
    rw [hT] at hx
    rcases List.mem_append.1 hx with hx | hx
    · rw [List.eq_of_mem_replicate hx]; exact ⟨by decide, by decide⟩
    · exact gA1 x (List.mem_of_mem_drop hx)
  have sT : szS T ≤ 3 * C.length + szS A := by
    rw [hT, szS_append, szS_rep]
    have := szS_drop A c
    omega
  have tT := text_le T
  have lT : T.length = (C.length - c) + (A.length - c) := by rw [hT]; simp
  show Ev (fun k => flatironlaw01_PathWays.j1 k (B (textS A)) (B (textS C)) false) true
  refine Ev.step (fun k => by rw [flatironlaw01_PathWays.j1]) ?_
  refine Ev.neg (by simp) ?_
  have eTo := To_ev (textS A) (textS C) (by omega) (by omega)
  rw [parts_text A gA1, parts_text C gC1, ← hTd] at eTo
  refine Ev.bind eTo ?_
  have eJ : joinS [textS C, textS T] = some A := by
    unfold joinS
    rw [List.flatMap_cons, List.flatMap_cons, List.flatMap_nil, List.append_nil, parts_text C gC1, parts_text T gT, walkS_append, walkS_plain _ _ (fun x hx => (gC x hx).2)]
    simp only [Option.bind_some, List.nil_append]
    rw [hT, walkS_up _ _ _ (by omega), walkS_plain _ _ (fun x hx => (gA x (List.mem_of_mem_drop hx)).2)]
    rw [show C.length - (C.length - c) = c by omega, ← c3, List.take_append_drop]
  refine Ev.bind (Join_ev [textS C, textS T] (by simp; omega) (by rw [szS_cons, szS_cons, szS_nil]; omega)) ?_
  rw [eJ]
  refine Ev.bind' (Dir_eq A gA1 (by omega)) (Ev.bind (refDir_ev A gA1 (by omega)) (Ev.pos rfl ?_))
  refine Ev.bind' (Base_eq A gA1 (by omega)) (Ev.bind (refBase_ev A gA1 (by omega)) (Ev.pos rfl ?_))
  refine Ev.bind (In_ev A C gA1 (by omega) gC1 (by omega)) (Ev.bind (refIn_ev A C gA1 (by omega) gC1 (by omega)) ?_)
  rw [show (preS C A != preS C A) = false by simp]
  refine Ev.step (fun k => by rw [flatironlaw01_PathWays.j2]) ?_
  refine Ev.neg (by simp) (Ev.bind (refSplit_text T gT (by omega)) ?_)
  have fin : Ev (fun k => flatironlaw01_PathWays.j4 k (B (textS A)) (B (textS C)) (B (textS T)) (B (textS A)) 0 ((C.length - c : Nat) : Int) (T.map B) false) true := by
    refine Ev.step (fun k => by rw [flatironlaw01_PathWays.j4]) ?_
    refine Ev.neg (by simp) (Ev.bind (refSplit_text C gC1 (by omega)) (Ev.bind (refSplit_text A gA1 (by omega)) (Ev.bind (refSplit_text C gC1 (by omega)) ?_)))
    have last : ∀ q : List ByteArray, q = A.map B → Ev (fun k => flatironlaw01_PathWays.j5 k (B (textS A)) (B (textS T)) (B (textS A)) 0 ((C.length - c : Nat) : Int) (T.map B) (c : Int) q false) true := by
      rintro q rfl
      refine Ev.step (fun k => by rw [flatironlaw01_PathWays.j5]) ?_
      rw [List.length_map, List.length_map, wrap_add _ _ (by omega), wrap_sub _ _ (by omega) (by omega)]
      refine Ev.pos rfl (Ev.pos rfl (Ev.pos (by omega) (Ev.pos (by omega) (Ev.neg (by simp) ?_))))
      refine Ev.bind (refText_ev T (by omega) (fun x hx => goodP_ne (gT x hx))) (Ev.of ?_)
      simp
    rw [List.length_map, List.length_map, wrap_sub _ _ (by omega) (by omega), show C.length - (C.length - c) = c by omega]
    refine Ev.ite (fun h1 => Ev.ite (fun h2 => Ev.pos (by omega) ?_) (fun _ => last _ rfl)) (fun _ => last _ rfl)
    have h1' : c < A.length := by omega
    have h2' : c < C.length := by omega
    rw [rdOf_get _ _ _ (by simpa using h1'), rdOf_get _ _ _ (by simpa using h2'), List.getElem_map, List.getElem_map, B_toList, B_toList]
    have hne : A[c] ≠ C[c] := by subst hc; exact c4 h1' h2'
    rw [show (A[c] == C[c]) = false by simpa using hne]
    exact last _ rfl
  have key : ∀ i, i ≤ C.length - c → Ev (fun k => flatironlaw01_PathWays.l0 k (B (textS A)) (B (textS C)) (B (textS T)) (B (textS A)) 0 (i : Int) (T.map B)) true := by
    refine upto_ind ?_ ?_
    · refine Ev.step (fun k => by rw [flatironlaw01_PathWays.l0]) ?_
      rw [List.length_map]
      refine Ev.ite (fun h => Ev.pos (by omega) ?_) (fun _ => fin)
      have h' : C.length - c < T.length := by omega
      rw [rdOf_get _ _ _ (by simpa using h'), List.getElem_map, B_toList]
      have hne : T[C.length - c] ≠ [46, 46] := by
        have : T[C.length - c] ∈ A.drop c := by
          have e : T.drop (C.length - c) = A.drop c := by rw [hT, List.drop_left' (by simp)]
          rw [← e, drop_get T _ h']; exact List.mem_cons_self
        exact (gA _ (List.mem_of_mem_drop this)).2
      rw [show (T[C.length - c] == ([46, 46] : List UInt8)) = false by simpa using hne]
      exact fin
    · intro i hi ih
      refine Ev.step (fun k => by rw [flatironlaw01_PathWays.l0]) ?_
      rw [List.length_map]
      have h' : i < T.length := by omega
      rw [rdOf_get _ _ _ (by simpa using h'), List.getElem_map, B_toList]
      have e : T[i] = [46, 46] := by
        have : (T[i]? : Option (List UInt8)) = some [46, 46] := by
          rw [hT, List.getElem?_append_left (by simpa using hi), List.getElem?_replicate, if_pos hi]
        rw [List.getElem?_eq_getElem h'] at this
        exact Option.some.inj this
      rw [e]
      refine Ev.pos (by omega) (Ev.pos (by omega) ?_)
      refine Ev.step (fun k => by rw [flatironlaw01_PathWays.j4]) ?_
      rw [wrap_succ i (by omega)]
      exact Ev.pos rfl ih
  exact key 0 (by omega)
end Go.Proofs.YtcadgnaejjgdnaaDoor.X
namespace Go.Proofs.YtcadgnaejjgdnaaDoor.Pure
theorem PathWays (a0 a1 : ByteArray) (h0 : a0.size ≤ 140737488351232) (h1 : a1.size ≤ 140737488351232) : ∃ k, XW01.flatironlaw01_PathWays.f k a0 a1 = some true := by
  obtain ⟨p, rfl, hp⟩ := X.ex_B a0
  obtain ⟨w, rfl, hw⟩ := X.ex_B a1
  exact X.Ev.get (X.PathWays_ev p w (by omega) (by omega))
end Go.Proofs.YtcadgnaejjgdnaaDoor.Pure
