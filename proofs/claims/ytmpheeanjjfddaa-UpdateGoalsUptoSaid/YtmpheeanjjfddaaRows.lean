/-
  No cell of these rows narrows 'for every input' (looked for: loops, veiled, ifaces, maps, wideKeys, modest, calm, conditions, laid).
  DERIVED. THE GIVEN ROWS OF THIS SEAT. 5 by the template 'for every input the law returns true; each argument reads behind the call as it read before'; 0 by the template 'total and deterministic' (their statements: YtmpheeanjjfddaaTotals.lean).
  GIVEN WITH THE SEED: the statements are not yours to turn. If you find one false, say at which input.
  Laid BY PROGRAM, IN A SANDBOX (cutbox-rows.mjs): the forced cells as the released guide's own fill.sh prints them over the translation 236787290146fb8f… (all of the seat's roots in one cut). By AI agents, Wed Nov 11 2026. No macro, syntax, notation, axiom, sorry.
-/
import Derived.Test.YtmpheeanjjfddaaChecked
import GoSem.Claim
import GoSem.ClaimJoined
import GoSem.ClaimMapViews
import Derived.JoinedTies
import Derived.KernelRfl
namespace Go.Proofs.Ytmpheeanjjfddaa
/- THE CELL 'sum', in the pinned program and in every row, IS THE sha256 OF THE DUMP (.gsa) THAT YtmpheeanjjfddaaProg.lean LOADS. Nothing in Lean hashes anything: it is a label: what it is worth is what the hold of that sum in a sandbox is worth. -/
noncomputable def Try.pinned : Pinned := { name := "ytmpheeanjjfddaa", sum := "236787290146fb8fe441b375bff76fb841e6304963de3c3d3cba2a7e3d888fb1", checked := Try.checked }
namespace Rows
def none {H : Type} : Left H := { results := [], args := [] }

/-- 'flatironlaw18.UpdateGoals': WHATEVER THE INPUT: true; the input reads as it did. -/
def updateGoalsSpec : ChangeSpec := { name := "updateGoals", fn := fun _ => fun
  | [d1, d2] => { results := [.lit (.bool true)], args := [d1, d2] }
  | _ => none }
def updateGoalsRow : OpenClaim := { program := "ytmpheeanjjfddaa", sum := "236787290146fb8fe441b375bff76fb841e6304963de3c3d3cba2a7e3d888fb1", func := "flatiron/flatironlaw18.UpdateGoals", spec := "updateGoals", unfollowed := true, recurses := true, apart := false }
def UpdateGoalsSaid : Prop := updateGoalsRow.holds Try.pinned (OpenSpec.ofChange updateGoalsSpec)

/-- ITS FALSE NEIGHBOUR: 'it returns false'. Refute it at one input. -/
def updateGoalsWrong : ChangeSpec := { name := "updateGoals", fn := fun _ => fun
  | [d1, d2] => { results := [.lit (.bool false)], args := [d1, d2] }
  | _ => none }
def UpdateGoalsWrongFalsely : Prop := updateGoalsRow.holds Try.pinned (OpenSpec.ofChange updateGoalsWrong)

/-- 'flatironlaw18.UpdateNil': WHATEVER THE INPUT: true; the input reads as it did. -/
def updateNilSpec : ChangeSpec := { name := "updateNil", fn := fun _ => fun
  | [d] => { results := [.lit (.bool true)], args := [d] }
  | _ => none }
def updateNilRow : OpenClaim := { program := "ytmpheeanjjfddaa", sum := "236787290146fb8fe441b375bff76fb841e6304963de3c3d3cba2a7e3d888fb1", func := "flatiron/flatironlaw18.UpdateNil", spec := "updateNil", unfollowed := true, recurses := true, apart := false }
def UpdateNilSaid : Prop := updateNilRow.holds Try.pinned (OpenSpec.ofChange updateNilSpec)

/-- ITS FALSE NEIGHBOUR: 'it returns false'. Refute it at one input. -/
def updateNilWrong : ChangeSpec := { name := "updateNil", fn := fun _ => fun
  | [d] => { results := [.lit (.bool false)], args := [d] }
  | _ => none }
def UpdateNilWrongFalsely : Prop := updateNilRow.holds Try.pinned (OpenSpec.ofChange updateNilWrong)

/-- 'flatironlaw19.SubCalls': WHATEVER THE INPUT: true; the input reads as it did. -/
def subCallsSpec : ChangeSpec := { name := "subCalls", fn := fun _ => fun
  | [d1, d2] => { results := [.lit (.bool true)], args := [d1, d2] }
  | _ => none }
def subCallsRow : OpenClaim := { program := "ytmpheeanjjfddaa", sum := "236787290146fb8fe441b375bff76fb841e6304963de3c3d3cba2a7e3d888fb1", func := "flatiron/flatironlaw19.SubCalls", spec := "subCalls", inPlace := ["internal/bytealg.IndexByteString", "internal/abi.NoEscape", "internal/bytealg.IndexString"], unfollowed := true, recurses := true, named := ["internal/bytealg.MaxLen"], apart := false }
def SubCallsSaid : Prop := subCallsRow.holds Try.pinned (OpenSpec.ofChange subCallsSpec)

/-- ITS FALSE NEIGHBOUR: 'it returns false'. Refute it at one input. -/
def subCallsWrong : ChangeSpec := { name := "subCalls", fn := fun _ => fun
  | [d1, d2] => { results := [.lit (.bool false)], args := [d1, d2] }
  | _ => none }
def SubCallsWrongFalsely : Prop := subCallsRow.holds Try.pinned (OpenSpec.ofChange subCallsWrong)

/-- 'flatironlaw11.VarsActs': WHATEVER THE INPUT: true; the input reads as it did. -/
def varsActsSpec : ChangeSpec := { name := "varsActs", fn := fun _ => fun
  | [d1, d2] => { results := [.lit (.bool true)], args := [d1, d2] }
  | _ => none }
def varsActsRow : OpenClaim := { program := "ytmpheeanjjfddaa", sum := "236787290146fb8fe441b375bff76fb841e6304963de3c3d3cba2a7e3d888fb1", func := "flatiron/flatironlaw11.VarsActs", spec := "varsActs", inPlace := ["maps.clone"], unfollowed := true, recurses := true, apart := false }
def VarsActsSaid : Prop := varsActsRow.holds Try.pinned (OpenSpec.ofChange varsActsSpec)

/-- ITS FALSE NEIGHBOUR: 'it returns false'. Refute it at one input. -/
def varsActsWrong : ChangeSpec := { name := "varsActs", fn := fun _ => fun
  | [d1, d2] => { results := [.lit (.bool false)], args := [d1, d2] }
  | _ => none }
def VarsActsWrongFalsely : Prop := varsActsRow.holds Try.pinned (OpenSpec.ofChange varsActsWrong)

/-- 'flatironlaw19.SubBases': WHATEVER THE INPUT: true; the input reads as it did. -/
def subBasesSpec : ChangeSpec := { name := "subBases", fn := fun _ => fun
  | [d1, d2, d3] => { results := [.lit (.bool true)], args := [d1, d2, d3] }
  | _ => none }
def subBasesRow : OpenClaim := { program := "ytmpheeanjjfddaa", sum := "236787290146fb8fe441b375bff76fb841e6304963de3c3d3cba2a7e3d888fb1", func := "flatiron/flatironlaw19.SubBases", spec := "subBases", inPlace := ["internal/bytealg.IndexByteString", "internal/abi.NoEscape", "internal/bytealg.IndexString"], unfollowed := true, recurses := true, named := ["internal/bytealg.MaxLen"], apart := false }
def SubBasesSaid : Prop := subBasesRow.holds Try.pinned (OpenSpec.ofChange subBasesSpec)

/-- ITS FALSE NEIGHBOUR: 'it returns false'. Refute it at one input. -/
def subBasesWrong : ChangeSpec := { name := "subBases", fn := fun _ => fun
  | [d1, d2, d3] => { results := [.lit (.bool false)], args := [d1, d2, d3] }
  | _ => none }
def SubBasesWrongFalsely : Prop := subBasesRow.holds Try.pinned (OpenSpec.ofChange subBasesWrong)

/- THE SECOND FORM. 'bulk': how many values and letters a reading holds, each counted each time it is reached (what is shared counts as often as it is met; a slice's spare places count too). A statement '..UptoSaid' is the law's where the arguments, and the package variables that the reading takes, are together of bulk at most 1048576: NARROWER than '..Said'. Prove '..Said' where nothing that the law and all that it calls make is longer than what came in: it says more and counts as full. Else prove '..UptoSaid'. A law counts once. -/
mutual
def uptoBulk {H : Type} : DataW H → Nat
  | .lit (.string bytes) => bytes.length + 1
  | .lit _ => 1
  | .nil => 1
  | .ptr d => uptoBulk d + 1
  | .slice elems spare => uptoBulkAll elems + uptoBulkAll spare + 1
  | .agg parts => uptoBulkAll parts + 1
  | .iface _ d => uptoBulk d + 1
  | .map entries => uptoBulkEntries entries + 1
  | .held _ => 1
def uptoBulkAll {H : Type} : List (DataW H) → Nat
  | [] => 0
  | d :: r => uptoBulk d + uptoBulkAll r
def uptoBulkEntries {H : Type} : List (Lit × DataW H) → Nat
  | [] => 0
  | x :: r => uptoBulkEntry x + uptoBulkEntries r
def uptoBulkEntry {H : Type} : Lit × DataW H → Nat
  | (.string bytes, d) => bytes.length + uptoBulk d + 1
  | (_, d) => uptoBulk d + 1
 end
def uptoSmall : (H : Type) → List (DataW H) → Bool := fun _ ds => decide (uptoBulkAll ds ≤ 1048576)
def OpenSpec.upto (s : _root_.Go.ChangeSpec) : _root_.Go.OpenSpec := { _root_.Go.OpenSpec.ofChange s with cond := some uptoSmall }

/-- 'flatironlaw18.UpdateGoals', WHERE WHAT IT READS IS OF BULK AT MOST 1048576: true; the input reads as it did. -/
def updateGoalsUptoRow : OpenClaim := { program := "ytmpheeanjjfddaa", sum := "236787290146fb8fe441b375bff76fb841e6304963de3c3d3cba2a7e3d888fb1", func := "flatiron/flatironlaw18.UpdateGoals", spec := "updateGoals", unfollowed := true, recurses := true, apart := false, narrowed := true }
def UpdateGoalsUptoSaid : Prop := updateGoalsUptoRow.holds Try.pinned (OpenSpec.upto updateGoalsSpec)

/-- 'flatironlaw18.UpdateNil', WHERE WHAT IT READS IS OF BULK AT MOST 1048576: true; the input reads as it did. -/
def updateNilUptoRow : OpenClaim := { program := "ytmpheeanjjfddaa", sum := "236787290146fb8fe441b375bff76fb841e6304963de3c3d3cba2a7e3d888fb1", func := "flatiron/flatironlaw18.UpdateNil", spec := "updateNil", unfollowed := true, recurses := true, apart := false, narrowed := true }
def UpdateNilUptoSaid : Prop := updateNilUptoRow.holds Try.pinned (OpenSpec.upto updateNilSpec)

/-- 'flatironlaw19.SubCalls', WHERE WHAT IT READS IS OF BULK AT MOST 1048576: true; the input reads as it did. -/
def subCallsUptoRow : OpenClaim := { program := "ytmpheeanjjfddaa", sum := "236787290146fb8fe441b375bff76fb841e6304963de3c3d3cba2a7e3d888fb1", func := "flatiron/flatironlaw19.SubCalls", spec := "subCalls", inPlace := ["internal/bytealg.IndexByteString", "internal/abi.NoEscape", "internal/bytealg.IndexString"], unfollowed := true, recurses := true, named := ["internal/bytealg.MaxLen"], apart := false, narrowed := true }
def SubCallsUptoSaid : Prop := subCallsUptoRow.holds Try.pinned (OpenSpec.upto subCallsSpec)

/-- 'flatironlaw11.VarsActs', WHERE WHAT IT READS IS OF BULK AT MOST 1048576: true; the input reads as it did. -/
def varsActsUptoRow : OpenClaim := { program := "ytmpheeanjjfddaa", sum := "236787290146fb8fe441b375bff76fb841e6304963de3c3d3cba2a7e3d888fb1", func := "flatiron/flatironlaw11.VarsActs", spec := "varsActs", inPlace := ["maps.clone"], unfollowed := true, recurses := true, apart := false, narrowed := true }
def VarsActsUptoSaid : Prop := varsActsUptoRow.holds Try.pinned (OpenSpec.upto varsActsSpec)

/-- 'flatironlaw19.SubBases', WHERE WHAT IT READS IS OF BULK AT MOST 1048576: true; the input reads as it did. -/
def subBasesUptoRow : OpenClaim := { program := "ytmpheeanjjfddaa", sum := "236787290146fb8fe441b375bff76fb841e6304963de3c3d3cba2a7e3d888fb1", func := "flatiron/flatironlaw19.SubBases", spec := "subBases", inPlace := ["internal/bytealg.IndexByteString", "internal/abi.NoEscape", "internal/bytealg.IndexString"], unfollowed := true, recurses := true, named := ["internal/bytealg.MaxLen"], apart := false, narrowed := true }
def SubBasesUptoSaid : Prop := subBasesUptoRow.holds Try.pinned (OpenSpec.upto subBasesSpec)

end Rows
end Go.Proofs.Ytmpheeanjjfddaa
