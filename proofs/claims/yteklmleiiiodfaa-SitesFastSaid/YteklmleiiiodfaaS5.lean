/- SitesFast, plainly: by reckoning. -/
import Derived.Test.YteklmleiiiodfaaS4
import Derived.Test.YteklmleiiiodfaaPl
set_option linter.unusedVariables false
set_option linter.unusedSimpArgs false
set_option linter.unusedSectionVars false
set_option maxRecDepth 100000
namespace Go.Proofs.Yteklmleiiiodfaa
open Go.RowKit
namespace Si
theorem fastLaw : alibkeep_SitesFast 18446744073709551616 = some true := by kernel_rfl
end Si

end Go.Proofs.Yteklmleiiiodfaa
