/- From numbers to what is done. -/
import Derived.Test.YtpakplmpihhmbaaA1
import Derived.Test.YtpakplmpihhmbaaPl
import Derived.Test.YtpakplmpihhmbaaOpen
import Derived.Test.YtpakplmpihhmbaaFlat
set_option linter.unusedVariables false
set_option linter.unusedSimpArgs false
set_option linter.unusedSectionVars false
set_option maxRecDepth 100000
namespace Go.Proofs.Ytpakplmpihhmbaa
open Go.RowKit
def decDo : List Int → Do
  | [a0, a1, a2] => ⟨a0, a1, a2⟩
  | _ => Do.z
theorem decDo_ok (r : List Int) (h : r.length = 3) : encDo (decDo r) = ints r := by
  match r, h with
  | [a0, a1, a2], _ => rfl

end Go.Proofs.Ytpakplmpihhmbaa
