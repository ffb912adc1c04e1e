/- Laid for this claim by the session's own program xprint.py, over the print of the kit: functions of the program as plain Lean functions, each with a proof that a call comes to what its function says, or the row of a law out of these; no condition of its own. -/
import Derived.Test.YtgpabkdmagifjaaDoorXL08x0
import Derived.Test.YtgpabkdmagifjaaDoorXL08x1
import Derived.Test.YtgpabkdmagifjaaDoorXL08x2
namespace Go.Proofs.YtgpabkdmagifjaaDoor.XL08
open Go.Proofs.YtgpabkdmagifjaaDoor.X Go.Proofs.YtgpabkdmagifjaaDoor.XT08 Go.RowKit Go.Proofs.YtgpabkdmagifjaaDoorW.PrintWords Go.Proofs.YtgpabkdmagifjaaDoorW.PrintLast Go.Proofs.YtgpabkdmagifjaaDoorW.PrintMore
attribute [local go_sem] cell4_1 cell4_1d max2_int min2_int max_two min_two max_three min_three max_four min_four   -- for this text's walks alone
set_option linter.unusedVariables false
set_option linter.unusedSimpArgs false

end Go.Proofs.YtgpabkdmagifjaaDoor.XL08
