/- From numbers to marks. -/
import Derived.Test.YtooaoekfnmakhaaC7
import Derived.Test.YtooaoekfnmakhaaOpen
set_option linter.unusedVariables false
set_option linter.unusedSimpArgs false
set_option linter.unusedSectionVars false
set_option maxRecDepth 100000
namespace Go.Proofs.Ytooaoekfnmakhaa
open Go.RowKit
def decMark : List Int → Mark
  | [a0, a1, a2] => ⟨a0, a1, a2⟩
  | _ => Mark.z
theorem decMark_ok (r : List Int) (h : r.length = 3) : encMark (decMark r) = ints r := by
  match r, h with
  | [a0, a1, a2], _ => rfl

end Go.Proofs.Ytooaoekfnmakhaa
