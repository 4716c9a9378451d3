/- From numbers to calls. -/
import Derived.Test.YtooaoekfnmakhaaS8
set_option linter.unusedVariables false
set_option linter.unusedSimpArgs false
set_option linter.unusedSectionVars false
set_option maxRecDepth 100000
namespace Go.Proofs.Ytooaoekfnmakhaa
open Go.RowKit
def decCall : List Int → Call
  | [a0, a1, a2, a3, a4, a5, a6] => ⟨a0, a1, a2, a3, a4, a5, a6⟩
  | _ => Call.z
theorem decCall_ok (r : List Int) (h : r.length = 7) : encCall (decCall r) = ints r := by
  match r, h with
  | [a0, a1, a2, a3, a4, a5, a6], _ => rfl

end Go.Proofs.Ytooaoekfnmakhaa
