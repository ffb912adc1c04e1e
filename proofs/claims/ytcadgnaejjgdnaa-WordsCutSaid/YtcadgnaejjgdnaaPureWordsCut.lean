/- WordsCut answers true for every text and every set of stop bytes; no condition: a longer text than 2000 bytes, or more than 20 stops, is let go by the law itself. -/
import Derived.Test.YtcadgnaejjgdnaaPCutR
namespace Go.Proofs.Ytcadgnaejjgdnaa.X
open Go.RowKit Go.Proofs.Ytcadgnaejjgdnaa.XW04 Go.Proofs.YtcadgnaejjgdnaaW.PrintWords Go.Proofs.YtcadgnaejjgdnaaW.PrintLast

theorem refRes_lt (o : Option Nat) : refRes o < 0 ↔ o = none := by
  cases o with
  | none => simp [refRes]
  | some j => simp [refRes]

theorem WordsCut_pure : flatironlaw04_WordsCut.Pure := by
  intro a0 a1 _ _
  refine Ev.get ?_
  obtain ⟨s, rfl, hs⟩ := ex_B a0
  obtain ⟨any, rfl, ha⟩ := ex_B a1
  refine Ev.congr (fun k => by rw [flatironlaw04_WordsCut.f]) ?_
  refine Ev.bind lives04_ev ?_
  refine Ev.pos rfl ?_
  have big : Ev (fun k => flatironlaw04_WordsCut.j0 k (B s) (B any) true) true := by
    refine Ev.step (fun k => by rw [flatironlaw04_WordsCut.j0]) ?_
    exact Ev.pos rfl (Ev.bind lives04_ev (Ev.ret _))
  have small : s.length ≤ 2000 → any.length ≤ 20 → Ev (fun k => flatironlaw04_WordsCut.j0 k (B s) (B any) false) true := by
    intro h1 h2
    refine Ev.step (fun k => by rw [flatironlaw04_WordsCut.j0]) ?_
    refine Ev.neg (by simp) (Ev.bind (words_Cut_f_ev s any (by omega)) (Ev.bind (refCut_f_ev s any (by omega) (by omega)) ?_))
    cases hc : cutOf s any with
    | none =>
      have e : cutRes s any = (B s, 0, B []) := by unfold cutRes; rw [hc]
      rw [e]
      simp only [refRes, B_toList]
      exact Ev.pos (by omega) (Ev.pos trivial (Ev.pos trivial (Ev.of (by simp))))
    | some j =>
      have hj := cutOf_lt hc
      have hw := wrap_succ j (by omega)
      have e : cutRes s any = (B (s.take j), ((s.getD j 0).toNat : Int), B (s.drop (j + 1))) := by unfold cutRes; rw [hc]
      rw [e]
      simp only [refRes, B_size, bt_B s j hj, hw, B_extract, B_toList]
      have e : ((j + 1 : Nat) : Int).toNat = j + 1 := by omega
      refine Ev.neg (by omega) (Ev.pos (by omega) (Ev.pos (by omega) (Ev.pos (by simp) (Ev.pos (by omega) (Ev.pos (by simp [hj]) (Ev.pos (by omega) (Ev.pos (by omega) (Ev.of ?_))))))))
      rw [e]
      simp
  rw [B_size]
  refine Ev.ite (fun _ => big) (fun h => ?_)
  by_cases h2 : ((B any).size : Int) > 20
  · rw [decide_eq_true h2]; exact big
  · rw [decide_eq_false h2]; rw [B_size] at h2; exact small (by omega) (by omega)
end Go.Proofs.Ytcadgnaejjgdnaa.X
namespace Go.Proofs.Ytcadgnaejjgdnaa.Pure
theorem WordsCut : XW04.flatironlaw04_WordsCut.Pure := X.WordsCut_pure
end Go.Proofs.Ytcadgnaejjgdnaa.Pure
