/- Laid for this claim by the session's own program xprint.py, over the print of the kit: functions of the program as plain Lean functions, each with a proof that a call comes to what its function says, or the row of a law out of these; no condition of its own. -/
import Derived.Test.YtcadgnaejjgdnaaDoorProg
import Derived.Below
import Derived.Deep.Draws
import Derived.Deep.AppendLies
import Derived.Maps.AppendAt
import Derived.OwnWalk
import Derived.Laws.BytesArg
import Derived.Laws.MakeOwn
import Derived.Laws.OwnMore
import Derived.Deep.OwnRows
import Derived.Tactics
import Derived.Lib.ConvBytes
import Derived.Laws.Slices
import Derived.WalkKit
import Derived.KernelRfl
import Derived.RowKit3
import Derived.Deep.LoopGhost
import Derived.Deep.QuietTactic
import Derived.BigQuiet
import Derived.WideLaws
import Derived.Deep.DeepCutAuto
import Derived.Deep.CutBlock
import Derived.Deep.RegionHeld3
import Derived.Laws.Rows
import Derived.Lib.AppendStr
import Derived.ArgAppend
import Derived.Laws.IdiomCopy
import Derived.OrdersHeld
import Derived.Laws.BitsLemmas
import Derived.RowKit
import Derived.WalkLawsBesides
import Derived.Test.YtcadgnaejjgdnaaDoorHStr
import Derived.Test.YtcadgnaejjgdnaaDoorWWords
import Derived.Test.YtcadgnaejjgdnaaDoorWLast
import Derived.Test.YtcadgnaejjgdnaaDoorWTab
import Derived.Test.YtcadgnaejjgdnaaDoorWFour
import Derived.Test.YtcadgnaejjgdnaaDoorWQPut
import Derived.Test.YtcadgnaejjgdnaaDoorWApart
import Derived.Test.YtcadgnaejjgdnaaDoorWArr
import Derived.Test.YtcadgnaejjgdnaaDoorWZeros
import Derived.Test.YtcadgnaejjgdnaaDoorWFoot
import Derived.Test.YtcadgnaejjgdnaaDoorWKept
import Derived.Test.YtcadgnaejjgdnaaDoorWShare
import Derived.Test.YtcadgnaejjgdnaaDoorWN
import Derived.Test.YtcadgnaejjgdnaaDoorWFootNe
import Derived.Test.YtcadgnaejjgdnaaDoorWAt
import Derived.Test.YtcadgnaejjgdnaaDoorWEqStruct
import Derived.Test.YtcadgnaejjgdnaaDoorWRepsOne
import Derived.Test.YtcadgnaejjgdnaaDoorWInv
import Derived.Test.YtcadgnaejjgdnaaDoorWInvWords
import Derived.Test.YtcadgnaejjgdnaaDoorWGuard
import Derived.Test.YtcadgnaejjgdnaaDoorWNEv
import Derived.Test.YtcadgnaejjgdnaaDoorWMore
namespace Go.Proofs.YtcadgnaejjgdnaaDoor.XE04
open Go.Proofs.YtcadgnaejjgdnaaDoor.X Go.RowKit Go.Proofs.YtcadgnaejjgdnaaDoorW.PrintWords Go.Proofs.YtcadgnaejjgdnaaDoorW.PrintLast Go.Proofs.YtcadgnaejjgdnaaDoorW.PrintMore
attribute [local go_sem] max2_int min2_int max_two min_two max_three min_three max_four min_four   -- for this text's walks alone
set_option linter.unusedVariables false
set_option linter.unusedSimpArgs false



def errW : Option Int → Value
  | none => .nilIface
  | some c => .iface 0 (.int .i64 c)
theorem errW_none : errW none = .nilIface := rfl
theorem errW_some (c : Int) : errW (some c) = .iface 0 (.int .i64 c) := rfl

theorem info3 : (Tryd.prog.info? 3).map (fun i => (i.zero, i.size, i.bytes)) = some (some (.int .i64 0), 1, 8) := by kernel_rfl
theorem info5 : (Tryd.prog.info? 5).map (fun i => (i.zero, i.size, i.bytes)) = some (some (.int .u8 0), 1, 1) := by kernel_rfl
theorem info9 : (Tryd.prog.info? 9).map (fun i => (i.zero, i.size, i.bytes)) = some (some (.string ⟨#[]⟩), 1, 16) := by kernel_rfl
-- the values' own types

end Go.Proofs.YtcadgnaejjgdnaaDoor.XE04
