/- PathJoins answers true for all arguments (its pure side). -/
import Derived.Test.YtcadgnaejjgdnaaDoorPPathJoin
namespace Go.Proofs.YtcadgnaejjgdnaaDoor.X
open Go.RowKit Go.Proofs.YtcadgnaejjgdnaaDoorW.PrintWords Go.Proofs.YtcadgnaejjgdnaaDoorW.PrintLast Go.Proofs.YtcadgnaejjgdnaaDoorW.PrintMore Go.Proofs.YtcadgnaejjgdnaaDoor.XW01
set_option linter.unusedSimpArgs false
set_option linter.unusedVariables false

theorem clean_text (xs o : List (List UInt8)) (h : joinS xs = some o) : cleanS (textS o) = true := by
  have hg := walkS_good _ _ _ (flat_good xs) (by simp) h
  have : joinS [textS o] = some o := by
    unfold joinS
    rw [List.flatMap_cons, List.flatMap_nil, List.append_nil, parts_text o (fun x hx => (hg x hx).1), walkS_plain _ _ (fun x hx => (hg x hx).2)]
    rfl
  unfold cleanS
  rw [this]
  simp

theorem PathJoins_ev (l : List (List UInt8)) (hz : ∀ x ∈ l, x.length ≤ 140737488351232) : Ev (fun k => flatironlaw01_PathJoins.f k (l.map B)) true := by
  refine Ev.congr (fun k => by rw [flatironlaw01_PathJoins.f]) ?_
  refine Ev.bind lives01 (Ev.pos rfl ?_)
  rw [List.length_map]
  by_cases h50 : (l.length : Int) > 50
  · rw [decide_eq_true h50]
    refine Ev.step (fun k => by rw [flatironlaw01_PathJoins.j0]) ?_
    exact Ev.pos rfl (Ev.bind lives01 (Ev.ret _))
  · rw [decide_eq_false h50]
    refine Ev.step (fun k => by rw [flatironlaw01_PathJoins.j0]) ?_
    refine Ev.neg (by simp) ?_
    rw [List.length_map]
    have key : ∀ i, i ≤ l.length → ∀ n : Nat, n ≤ 1000 → szS (l.take i) = n + i → (∀ x ∈ l.take i, x.length ≤ 1000) → Ev (fun k => flatironlaw01_PathJoins.l0 k (l.map B) (n : Int) (l.map B) (l.length : Int) (i : Int)) true := by
      refine upto_ind ?_ ?_
      · intro n hn hs hx
        rw [List.take_length] at hs hx
        refine Ev.step (fun k => by rw [flatironlaw01_PathJoins.l0]) ?_
        refine Ev.neg (by omega) ?_
        have hx' : ∀ x ∈ l, x.length < 4294967280 := fun x h => by have := hx x h; omega
        refine Ev.bind (Join_ev l hx' (by omega)) (Ev.bind (refJoin_ev l hx' (by omega)) ?_)
        cases hj : joinS l with
        | none =>
          refine Ev.neg (by simp [resR]) (Ev.pos rfl (Ev.of ?_))
          show some ((B []).toList == []) = some true
          rw [B_toList]; rfl
        | some o =>
          refine Ev.pos rfl (Ev.pos rfl (Ev.pos rfl ?_))
          have h1 := text_le o
          have h2 := walkS_sz _ _ _ hj
          have h3 := szS_flat l
          rw [szS_nil] at h2
          refine Ev.bind (Clean_ev (textS o) (by omega)) (Ev.of ?_)
          rw [clean_text l o hj]
      · intro i hi ih n hn hs hx
        refine Ev.step (fun k => by rw [flatironlaw01_PathJoins.l0]) ?_
        rw [List.length_map, rdOf_get _ _ _ (by simpa using hi), List.getElem_map, B_size, B_toList]
        refine Ev.pos (by omega) (Ev.pos (by omega) (Ev.pos (by omega) ?_))
        have hb : n + l[i].length < 4611686018427387904 := by have := hz _ (List.getElem_mem hi); omega
        · rw [wrap_add _ _ hb, wrap_succ i (by omega)]
          refine Ev.ite (fun _ => Ev.ret _) (fun h => ?_)
          have hb' : szS [l[i]] < 1099511627776 := by rw [szS_cons, szS_nil]; omega
          refine Ev.bind (refJoin_ev [l[i]] (by simp; omega) hb') (Ev.bind (Clean_ev l[i] (by omega)) ?_)
          have next := ih (n + l[i].length) (by omega) (by rw [List.take_succ_eq_append_getElem hi, szS_append, hs, szS_cons, szS_nil]; omega) (by
            intro x hx'
            rw [List.take_succ_eq_append_getElem hi] at hx'
            rcases List.mem_append.1 hx' with h' | h'
            · exact hx x h'
            · rw [List.mem_singleton] at h'; subst h'; omega)
          unfold cleanS
          cases joinS [l[i]] with
          | none => exact Ev.neg (by simp [resR]) (Ev.neg (by simp) next)
          | some o =>
            refine Ev.pos rfl (Ev.neg ?_ next)
            show ¬ ((decide (textS o = l[i]) != ((B (textS o)).toList == l[i])) = true)
            rw [B_toList]
            by_cases e : textS o = l[i] <;> simp [e]
    exact key 0 (by omega) 0 (by omega) rfl (by simp)
end Go.Proofs.YtcadgnaejjgdnaaDoor.X
namespace Go.Proofs.YtcadgnaejjgdnaaDoor.Pure
theorem PathJoins (l0 : List ByteArray) (_h0 : l0.length * 16 ≤ 140737488351232) (h1 : ∀ x ∈ l0, x.size ≤ 140737488351232) : ∃ k, XW01.flatironlaw01_PathJoins.f k l0 = some true := by
  have e : l0 = (l0.map fun s => s.data.toList).map X.B := by
    rw [List.map_map]
    conv => lhs; rw [← List.map_id l0]
    apply List.map_congr_left
    intro a _; exact (X.B_of a).symm
  rw [e]
  refine X.Ev.get (X.PathJoins_ev _ ?_)
  intro x hx
  rw [List.mem_map] at hx
  obtain ⟨s, hs, rfl⟩ := hx
  exact h1 s hs
end Go.Proofs.YtcadgnaejjgdnaaDoor.Pure
