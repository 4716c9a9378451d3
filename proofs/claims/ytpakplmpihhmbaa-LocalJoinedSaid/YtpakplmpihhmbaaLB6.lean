/- From numbers to events. -/
import Derived.Test.YtpakplmpihhmbaaA2
import Derived.Test.YtpakplmpihhmbaaPl
import Derived.Test.YtpakplmpihhmbaaOpen
import Derived.Test.YtpakplmpihhmbaaLaw
set_option linter.unusedVariables false
set_option linter.unusedSimpArgs false
set_option linter.unusedSectionVars false
set_option maxRecDepth 100000
namespace Go.Proofs.Ytpakplmpihhmbaa
open Go.RowKit
def decEvent : List Int → Event
  | [a0, a1, a2, a3] => ⟨a0, a1, a2, a3⟩
  | _ => Event.z
theorem decEvent_ok (r : List Int) (h : r.length = 4) : encEvent (decEvent r) = ints r := by
  match r, h with
  | [a0, a1, a2, a3], _ => rfl

end Go.Proofs.Ytpakplmpihhmbaa
