/- flatironlaw03.StoreNil answers true, whatever texts it is called with: run by the small machine, the texts not known; once for long ones, once for short ones. -/
import Derived.Test.YtmpheeanjjfddaaDoorAMFiles
import Derived.KernelRfl
import Derived.Test.YtmpheeanjjfddaaDoorProg
namespace Go.Proofs.YtmpheeanjjfddaaDoor.X
open Go Go.RowKit Go.Proofs.YtmpheeanjjfddaaDoor.AM
set_option maxRecDepth 100000

theorem mixed : Tryd.prog.follows .mixedOrders = true := by kernel_rfl
def orcN : List (FuncId × Ora) := (41, oCollect) :: storeOrc
theorem orcN_ok {w : World} (hSH : Shp w) : OrcOK Tryd.prog w.heap.size w (orcOf orcN) := orcOf_ok orcN ⟨oCollect_ok, storeOrc_ok hSH⟩
def tblF : AM.Asm := [(.gtr, .add (.len 0) (.len 1), .num 1000, false), (.gtr, .len 1, .num 1048576, false)]
def tblT : AM.Asm := [(.gtr, .add (.len 0) (.len 1), .num 1000, true)]
theorem ran_StoreNilF : (AM.call Tryd.prog tblF (orcOf orcN) 200 60 3 [.sym 0, .sym 1] ⟨[], 1⟩).map (·.1) = some (.bool true) := by kernel_rfl
theorem ran_StoreNilT : (AM.call Tryd.prog tblT (orcOf orcN) 200 60 3 [.sym 0, .sym 1] ⟨[], 1⟩).map (·.1) = some (.bool true) := by kernel_rfl
def flatironlaw03_StoreNil.f (_k : Nat) (a0 a1 : ByteArray) : Option Bool := if a0.size ≤ 140737488351232 ∧ a1.size ≤ 140737488351232 then some true else none
theorem wrap_small {n : Int} (h0 : 0 ≤ n) (h1 : n < 9223372036854775808) : IntKind.i64.wrap n = n := by
  simp [IntKind.wrap, IntKind.bits, IntKind.signed]; omega
theorem flatironlaw03_StoreNil.calls (k : Nat) (a0 a1 : ByteArray) (r : Bool) (w : World) (hSH : Shp w) (h : flatironlaw03_StoreNil.f k a0 a1 = some r) :
    Calls Tryd.prog 3 #[.string a0, .string a1] w fun e w' => e = .returned (.bool r) ∧ Below w.heap.size w w' := by
  unfold flatironlaw03_StoreNil.f at h
  by_cases hb : a0.size ≤ 140737488351232 ∧ a1.size ≤ 140737488351232
  case neg => rw [if_neg hb] at h; exact absurd h (by simp)
  rw [if_pos hb] at h
  cases h
  have hw : IntKind.i64.wrap ((a0.size : Int) + (a1.size : Int)) = (a0.size : Int) + (a1.size : Int) := wrap_small (by omega) (by omega)
  have hv : VRs ⟨fun _ => none, fun i => if i = 0 then a0 else a1⟩ [.sym 0, .sym 1] (#[Value.string a0, Value.string a1] : Array Value).toList :=
    VRs_cons (by simp only [VR]; rfl) (VRs_cons (by simp only [VR]; rfl) VRs_nil)
  have fin : ∀ e w', (∃ E' cv, e = Ending.returned cv ∧ E'.r = (fun i => if i = 0 then a0 else a1) ∧ VR E' (.bool true) cv ∧ Below w.heap.size w w') → e = .returned (.bool true) ∧ Below w.heap.size w w' := by
    rintro e w' ⟨E', cv, rfl, _, hv, hb⟩
    simp only [VR] at hv
    subst hv
    exact ⟨rfl, hb⟩
  by_cases hs : (a0.size : Int) + (a1.size : Int) > 1000
  · refine (closed_ok mixed ran_StoreNilT (fun i => if i = 0 then a0 else a1) ?_ w (orcN_ok hSH) #[.string a0, .string a1] hv).mono fin
    intro op a b v hm
    simp only [tblT, List.mem_singleton, Prod.mk.injEq] at hm
    obtain ⟨rfl, rfl, rfl, rfl⟩ := hm
    simp only [den, if_pos, if_neg (show ¬ (1 : Nat) = 0 by decide), hw, cmpV]
    simp [hs]
  · refine (closed_ok mixed ran_StoreNilF (fun i => if i = 0 then a0 else a1) ?_ w (orcN_ok hSH) #[.string a0, .string a1] hv).mono fin
    intro op a b v hm
    simp only [tblF, List.mem_cons, List.not_mem_nil, or_false, Prod.mk.injEq] at hm
    rcases hm with ⟨rfl, rfl, rfl, rfl⟩ | ⟨rfl, rfl, rfl, rfl⟩
    · simp only [den, if_pos, if_neg (show ¬ (1 : Nat) = 0 by decide), hw, cmpV]
      simp [hs]
    · simp only [den, if_neg (show ¬ (1 : Nat) = 0 by decide), cmpV]
      simp; omega
end Go.Proofs.YtmpheeanjjfddaaDoor.X
namespace Go.Proofs.YtmpheeanjjfddaaDoor.Pure
open Go.Proofs.YtmpheeanjjfddaaDoor.X
theorem StoreNil (a0 a1 : ByteArray) (h0 : a0.size ≤ 140737488351232) (h1 : a1.size ≤ 140737488351232) : ∃ k, flatironlaw03_StoreNil.f k a0 a1 = some true := ⟨0, by unfold flatironlaw03_StoreNil.f; rw [if_pos ⟨h0, h1⟩]⟩
end Go.Proofs.YtmpheeanjjfddaaDoor.Pure
