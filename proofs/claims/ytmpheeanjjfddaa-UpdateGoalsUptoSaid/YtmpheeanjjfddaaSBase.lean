/- The machine at this program. -/
import Derived.Test.YtmpheeanjjfddaaSOk9
import Derived.KernelRfl
import Derived.Test.YtmpheeanjjfddaaProg
namespace Go.Proofs.Ytmpheeanjjfddaa.S
open Go Go.RowKit Go.Proofs.Ytmpheeanjjfddaa.SM
noncomputable abbrev prog : Program := Try.prog
noncomputable abbrev cx (b : Nat) (w0 : World) : Cx := ⟨Try.prog, b, w0⟩
theorem mixed {b : Nat} {w0 : World} : (cx b w0).P.follows .mixedOrders = true := by kernel_rfl
end Go.Proofs.Ytmpheeanjjfddaa.S
