/- StepsLost, plainly. -/
import Derived.Test.YtkmmagekepoapaaA6
import Derived.Test.YtkmmagekepoapaaLaw
set_option linter.unusedVariables false
set_option linter.unusedSimpArgs false
set_option linter.unusedSectionVars false
set_option maxRecDepth 100000
namespace Go.Proofs.Ytkmmagekepoapaa
open Go.RowKit
namespace Sp
theorem lost : alibkeep_StepsLost 18446744073709551616 = some true := by kernel_rfl
end Sp

end Go.Proofs.Ytkmmagekepoapaa
