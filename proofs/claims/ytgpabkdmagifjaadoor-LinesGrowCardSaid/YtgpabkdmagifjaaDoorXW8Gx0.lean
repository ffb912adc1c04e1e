/- Laid for this claim by the session's own program xprint.py, over the print of the kit: functions of the program as plain Lean functions, each with a proof that a call comes to what its function says, or the row of a law out of these; no condition of its own. -/
import Derived.Test.YtgpabkdmagifjaaDoorXT08x0
import Derived.Test.YtgpabkdmagifjaaDoorProg
import Derived.Below
import Derived.Deep.Draws
import Derived.Deep.AppendLies
import Derived.Maps.AppendAt
import Derived.OwnWalk
import Derived.Laws.BytesArg
import Derived.Laws.MakeOwn
import Derived.Laws.OwnMore
import Derived.Deep.OwnRows
import Derived.Tactics
import Derived.Lib.ConvBytes
import Derived.Laws.Slices
import Derived.WalkKit
import Derived.KernelRfl
import Derived.RowKit3
import Derived.Deep.LoopGhost
import Derived.Deep.QuietTactic
import Derived.BigQuiet
import Derived.WideLaws
import Derived.Deep.DeepCutAuto
import Derived.Deep.CutBlock
import Derived.Deep.RegionHeld3
import Derived.Laws.Rows
import Derived.Lib.AppendStr
import Derived.ArgAppend
import Derived.Laws.IdiomCopy
import Derived.OrdersHeld
import Derived.Laws.BitsLemmas
import Derived.RowKit
import Derived.WalkLawsBesides
import Derived.Test.YtgpabkdmagifjaaDoorHAny
import Derived.Test.YtgpabkdmagifjaaDoorHCount
import Derived.Test.YtgpabkdmagifjaaDoorHLinesJ
import Derived.Test.YtgpabkdmagifjaaDoorHRefLines
import Derived.Test.YtgpabkdmagifjaaDoorHStr
import Derived.Test.YtgpabkdmagifjaaDoorWWords
import Derived.Test.YtgpabkdmagifjaaDoorWLast
import Derived.Test.YtgpabkdmagifjaaDoorWTab
import Derived.Test.YtgpabkdmagifjaaDoorWFour
import Derived.Test.YtgpabkdmagifjaaDoorWQPut
import Derived.Test.YtgpabkdmagifjaaDoorWApart
import Derived.Test.YtgpabkdmagifjaaDoorWArr
import Derived.Test.YtgpabkdmagifjaaDoorWZeros
import Derived.Test.YtgpabkdmagifjaaDoorWFoot
import Derived.Test.YtgpabkdmagifjaaDoorWKept
import Derived.Test.YtgpabkdmagifjaaDoorWShare
import Derived.Test.YtgpabkdmagifjaaDoorWN
import Derived.Test.YtgpabkdmagifjaaDoorWFootNe
import Derived.Test.YtgpabkdmagifjaaDoorWAt
import Derived.Test.YtgpabkdmagifjaaDoorWEqStruct
import Derived.Test.YtgpabkdmagifjaaDoorWRepsOne
import Derived.Test.YtgpabkdmagifjaaDoorWInv
import Derived.Test.YtgpabkdmagifjaaDoorWInvWords
import Derived.Test.YtgpabkdmagifjaaDoorWGuard
import Derived.Test.YtgpabkdmagifjaaDoorWNEv
import Derived.Test.YtgpabkdmagifjaaDoorWMore
namespace Go.Proofs.YtgpabkdmagifjaaDoor.XW8G
open Go.Proofs.YtgpabkdmagifjaaDoor.X Go.Proofs.YtgpabkdmagifjaaDoor.XT08 Go.RowKit Go.Proofs.YtgpabkdmagifjaaDoorW.PrintWords Go.Proofs.YtgpabkdmagifjaaDoorW.PrintLast Go.Proofs.YtgpabkdmagifjaaDoorW.PrintMore
attribute [local go_sem] cell4_1 cell4_1d max2_int min2_int max_two min_two max_three min_three max_four min_four   -- for this text's walks alone
set_option linter.unusedVariables false
set_option linter.unusedSimpArgs false



def errW : Option Int → Value
  | none => .nilIface
  | some c => .iface 0 (.int .i64 c)
theorem errW_none : errW none = .nilIface := rfl
theorem errW_some (c : Int) : errW (some c) = .iface 0 (.int .i64 c) := rfl

-- the values' own types
end Go.Proofs.YtgpabkdmagifjaaDoor.XW8G
