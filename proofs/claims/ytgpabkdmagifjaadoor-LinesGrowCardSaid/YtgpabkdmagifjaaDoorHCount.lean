/- strings.Count at a text of one byte, as a plain function with its contract. -/
import Derived.Test.YtgpabkdmagifjaaDoorHStr
namespace Go.Proofs.YtgpabkdmagifjaaDoor.X
open Go.RowKit Go.Proofs.YtgpabkdmagifjaaDoorW.PrintWords Go.Proofs.YtgpabkdmagifjaaDoorW.PrintLast Go.Proofs.YtgpabkdmagifjaaDoorW.PrintMore
theorem R_new {α : Type} {d : Kd α} {e base g : Nat} {ok : Nat → Prop} {w : World} {v : Value} {xs : List α} (h : d.R e w base ok v xs) (hg : w.heap.size ≤ g) : ∀ k, v.ownBlock = some k → k ≠ g := by
  intro k hk e
  have := (Kd.R_bound h).1 k hk
  omega
def strings_Count.f (a0 a1 : ByteArray) : Option Int := match a1.data.toList with | [c] => some (Lib.countByte a0.data.toList c : Int) | _ => none
theorem strings_Count.calls (a0 : ByteArray) (a1 : ByteArray) (r : Int) (w : World) (h : strings_Count.f a0 a1 = some r) :
    Calls Tryd.prog 22 #[.string a0, .string a1] w fun e w' => e = .returned (.int .i64 r) ∧ Drawn0 w w' := by
  unfold strings_Count.f at h
  split at h
  · rename_i c hc
    obtain rfl := Option.some.inj h
    have e : a1 = ⟨#[c]⟩ := by cases a1; simp at hc; simp [← hc]
    subst e
    exact (Tryd.strings_Count_one a0 c w).mono fun e w' hh => ⟨hh.1, hh.2 ▸ Drawn0.refl _⟩
  · exact absurd h (by simp)
end Go.Proofs.YtgpabkdmagifjaaDoor.X
