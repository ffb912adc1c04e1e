/- WordsSplit answers true for every text and every number to stop at: all of it stands in the law's walk; a longer text than 2000 bytes is let go by the law itself. -/
import Derived.Test.YtcadgnaejjgdnaaDoorHLawSplit
namespace Go.Proofs.YtcadgnaejjgdnaaDoor.Pure
theorem WordsSplit (a0 : ByteArray) (a1 : Int) (h0 : a0.size ≤ 140737488351232) (h1 : (Go.Lit.int IntKind.u8 a1).wf = true) : ∃ k, X.flatironlaw04_WordsSplit.f k a0 a1 = some true :=
  ⟨0, by
    have hb : 0 ≤ a1 ∧ a1 < 256 := by
      have e1 : IntKind.u8.min = 0 := by decide
      have e2 : IntKind.u8.max = 255 := by decide
      simp [Go.Lit.wf, e1, e2] at h1
      omega
    unfold X.flatironlaw04_WordsSplit.f; rw [if_pos ⟨hb.1, hb.2, h0⟩]⟩
end Go.Proofs.YtcadgnaejjgdnaaDoor.Pure
