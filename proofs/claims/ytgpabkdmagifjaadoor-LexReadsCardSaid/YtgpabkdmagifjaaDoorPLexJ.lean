/- The law's own helpers: of, same; plain Lean. -/
import Derived.Test.YtgpabkdmagifjaaDoorPLexI
namespace Go.Proofs.YtgpabkdmagifjaaDoor.X
open Go.RowKit Go.Proofs.YtgpabkdmagifjaaDoorW.PrintWords Go.Proofs.YtgpabkdmagifjaaDoorW.PrintLast Go.Proofs.YtgpabkdmagifjaaDoorW.PrintMore Go.Proofs.YtgpabkdmagifjaaDoor.XW05
set_option linter.unusedSimpArgs false
set_option linter.unusedVariables false

theorem of_loop (l : List (Nat × List UInt8)) (hl : l.length < 4294967281) : ∀ i, i ≤ l.length → Ev (fun k => flatironlaw05_of.l0 k ((l.take i).map s78) (l.map s83) (l.length : Int) (i : Int)) (l.map s78) := by
  refine upto_ind ?_ ?_
  · refine Ev.step (fun k => by rw [flatironlaw05_of.l0]) ?_
    refine Ev.neg (by omega) ?_
    rw [List.take_length]
    exact Ev.ret _
  · intro i hi ih
    refine Ev.step (fun k => by rw [flatironlaw05_of.l0]) ?_
    have r : rd_T83 (l.map s83) (i : Int) = s83 l[i] := by
      unfold rd_T83
      rw [show ((i : Int)).toNat = i from rfl, List.getD_eq_getElem?_getD, List.getElem?_map, List.getElem?_eq_getElem hi]
      rfl
    rw [r, wrap_succ i (by omega)]
    refine Ev.pos (by omega) ?_
    refine Ev.pos (by omega) ?_
    refine Ev.pos (by rw [List.length_map]; omega) ?_
    refine Ev.pos (by rw [List.length_map, List.length_take]; omega) ?_
    rw [List.take_succ_eq_append_getElem hi, List.map_append] at ih
    exact ih
theorem of_ev (l : List (Nat × List UInt8)) (hl : l.length < 4294967281) : Ev (fun k => flatironlaw05_of.f k (l.map s83)) (l.map s78) := by
  refine Ev.congr (fun k => by rw [flatironlaw05_of.f]) ?_
  rw [List.length_map]
  have := of_loop l hl 0 (Nat.zero_le _)
  simpa using this
theorem same_loop (A : List S78) (hl : A.length < 4294967281) : ∀ i, i ≤ A.length → Ev (fun k => flatironlaw05_same.l0 k A A (A.length : Int) (i : Int)) true := by
  refine upto_ind ?_ ?_
  · refine Ev.step (fun k => by rw [flatironlaw05_same.l0]) ?_
    refine Ev.neg (by omega) ?_
    exact Ev.ret _
  · intro i hi ih
    refine Ev.step (fun k => by rw [flatironlaw05_same.l0]) ?_
    rw [wrap_succ i (by omega)]
    refine Ev.pos (by omega) ?_
    refine Ev.pos (by omega) ?_
    refine Ev.pos (by omega) ?_
    refine Ev.pos (by omega) ?_
    refine Ev.neg (by simp) ?_
    exact ih
theorem same_ev (A : List S78) (hl : A.length < 4294967281) : Ev (fun k => flatironlaw05_same.f k A A) true := by
  refine Ev.congr (fun k => by rw [flatironlaw05_same.f]) ?_
  refine Ev.pos rfl ?_
  exact same_loop A hl 0 (Nat.zero_le _)
end Go.Proofs.YtgpabkdmagifjaaDoor.X
