/- flatironlaw18.UpdateNil answers true, whatever text it is called with: run by the small machine, the text not known. -/
import Derived.Test.YtmpheeanjjfddaaAMCall
import Derived.KernelRfl
import Derived.Test.YtmpheeanjjfddaaProg
namespace Go.Proofs.Ytmpheeanjjfddaa.X
open Go Go.RowKit Go.Proofs.Ytmpheeanjjfddaa.AM
set_option maxRecDepth 100000

theorem mixed : Try.prog.follows .mixedOrders = true := by kernel_rfl
theorem ran_UpdateNil : (AM.call Try.prog (fun _ => none) 200 60 4 [.sym 0] ⟨[], 1⟩).map (·.1) = some (.bool true) := by kernel_rfl
def flatironlaw18_UpdateNil.f (_k : Nat) (_a0 : ByteArray) : Option Bool := some true
theorem flatironlaw18_UpdateNil.calls (k : Nat) (a0 : ByteArray) (r : Bool) (w : World) (h : flatironlaw18_UpdateNil.f k a0 = some r) :
    Calls Try.prog 4 #[.string a0] w fun e w' => e = .returned (.bool r) ∧ Below w.heap.size w w' := by
  cases h
  refine (closed_ok mixed (noOrc _) ran_UpdateNil (fun _ => a0) w #[.string a0] (VRs_cons (by simp only [VR]) VRs_nil)).mono ?_
  rintro e w' ⟨E', cv, rfl, _, hv, hb⟩
  simp only [VR] at hv
  subst hv
  exact ⟨rfl, hb⟩
end Go.Proofs.Ytmpheeanjjfddaa.X
namespace Go.Proofs.Ytmpheeanjjfddaa.Pure
open Go.Proofs.Ytmpheeanjjfddaa.X
theorem UpdateNil (a0 : ByteArray) : ∃ k, flatironlaw18_UpdateNil.f k a0 = some true := ⟨0, rfl⟩
end Go.Proofs.Ytmpheeanjjfddaa.Pure
