/- From numbers to steps. -/
import Derived.Test.YtpakplmpihhmbaaLB6
import Derived.Test.YtpakplmpihhmbaaBor
set_option linter.unusedVariables false
set_option linter.unusedSimpArgs false
set_option linter.unusedSectionVars false
set_option maxRecDepth 100000
namespace Go.Proofs.Ytpakplmpihhmbaa
open Go.RowKit
def decStep : List Int → Step
  | [a0, a1] => ⟨a0, a1⟩
  | _ => Step.z
theorem decStep_ok (r : List Int) (h : r.length = 2) : encStep (decStep r) = ints r := by
  match r, h with
  | [a0, a1], _ => rfl

end Go.Proofs.Ytpakplmpihhmbaa
