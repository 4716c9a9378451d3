/- SeqApart, plainly. -/
import Derived.Test.YtpakplmpihhmbaaLS4
import Derived.Test.YtpakplmpihhmbaaPl
set_option linter.unusedVariables false
set_option linter.unusedSimpArgs false
set_option linter.unusedSectionVars false
set_option maxRecDepth 100000
namespace Go.Proofs.Ytpakplmpihhmbaa
open Go.RowKit
theorem seqApart : alibkeep_SeqApart 18446744073709551616 = some true := by kernel_rfl
end Go.Proofs.Ytpakplmpihhmbaa
