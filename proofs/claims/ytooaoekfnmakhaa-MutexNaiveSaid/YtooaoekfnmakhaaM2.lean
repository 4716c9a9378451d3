/- MutexNaive, plainly. -/
import Derived.Test.YtooaoekfnmakhaaM1
set_option linter.unusedVariables false
set_option linter.unusedSimpArgs false
set_option linter.unusedSectionVars false
set_option maxRecDepth 100000
namespace Go.Proofs.Ytooaoekfnmakhaa
open Go.RowKit
theorem naive_true : alibkeep_MutexNaive 100 = some true := by kernel_rfl
end Go.Proofs.Ytooaoekfnmakhaa
