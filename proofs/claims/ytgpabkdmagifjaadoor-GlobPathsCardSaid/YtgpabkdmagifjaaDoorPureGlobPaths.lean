/- GlobPaths answers true for every pattern and every text; no condition: a longer pattern than 24 bytes, or a longer text than 40, is let go by the law itself. -/
import Derived.Test.YtgpabkdmagifjaaDoorPGlobE
namespace Go.Proofs.YtgpabkdmagifjaaDoor.X
open Go.RowKit Go.Proofs.YtgpabkdmagifjaaDoorW.PrintWords Go.Proofs.YtgpabkdmagifjaaDoorW.PrintLast Go.Proofs.YtgpabkdmagifjaaDoorW.PrintMore Go.Proofs.YtgpabkdmagifjaaDoor.XW02
set_option linter.unusedSimpArgs false
set_option linter.unusedVariables false
set_option maxRecDepth 100000

theorem livesP : flatironlaw02_lives.f 100 = some true := by kernel_rfl
theorem livesP_ev : Ev (fun k => flatironlaw02_lives.f k) true := ⟨100, fun k hk => at_rounds flatironlaw02_lives.mono hk livesP⟩

theorem GlobPaths_pure (a0 a1 : ByteArray) (_ : a0.size ≤ 140737488351232) (_ : a1.size ≤ 140737488351232) : ∃ k, flatironlaw02_GlobPaths.f k a0 a1 = some true := by
  refine Ev.get ?_
  obtain ⟨p, rfl, hp⟩ := ex_B a0
  obtain ⟨s, rfl, hs⟩ := ex_B a1
  refine Ev.congr (fun k => by rw [flatironlaw02_GlobPaths.f]) ?_
  refine Ev.bind livesP_ev ?_
  refine Ev.pos rfl ?_
  have big : Ev (fun k => flatironlaw02_GlobPaths.j0 k (B p) (B s) true) true := by
    refine Ev.step (fun k => by rw [flatironlaw02_GlobPaths.j0]) ?_
    exact Ev.pos rfl (Ev.bind livesP_ev (Ev.ret _))
  rw [B_size]
  refine Ev.ite (fun _ => big) (fun h => ?_)
  by_cases h2 : ((B s).size : Int) > 40
  · rw [decide_eq_true h2]; exact big
  · rw [decide_eq_false h2]
    rw [B_size] at h2
    refine Ev.step (fun k => by rw [flatironlaw02_GlobPaths.j0]) ?_
    refine Ev.neg (by simp) ?_
    refine Ev.bind (Path_ev p s (by omega) (by omega)) ?_
    refine Ev.bind (refPath_ev p s (by omega) (by omega)) ?_
    refine Ev.eq (Ev.ret _) ?_
    simp
end Go.Proofs.YtgpabkdmagifjaaDoor.X
namespace Go.Proofs.YtgpabkdmagifjaaDoor.Pure
theorem GlobPaths (a0 a1 : ByteArray) (h0 : a0.size ≤ 140737488351232) (h1 : a1.size ≤ 140737488351232) : ∃ k, XW02.flatironlaw02_GlobPaths.f k a0 a1 = some true := X.GlobPaths_pure a0 a1 h0 h1
end Go.Proofs.YtgpabkdmagifjaaDoor.Pure
