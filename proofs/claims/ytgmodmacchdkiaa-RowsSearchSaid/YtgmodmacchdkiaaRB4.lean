/- rowsLives answers true. -/
import Derived.Test.YtgmodmacchdkiaaRA4
import Derived.Test.YtgmodmacchdkiaaDec
set_option linter.unusedVariables false
set_option linter.unusedSimpArgs false
set_option linter.unusedSectionVars false
set_option maxRecDepth 100000
namespace Go.Proofs.Ytgmodmacchdkiaa
open Go.RowKit
namespace Rw
theorem lives : alibkeep_rowsLives 18446744073709551616 = some true := by kernel_rfl
end Rw

def decEvent : List Int → Event
  | [a0, a1, a2, a3] => ⟨a0, a1, a2, a3⟩
  | _ => Event.z
theorem decEvent_ok (r : List Int) (h : r.length = 4) : encEvent (decEvent r) = ints r := by
  match r, h with
  | [a0, a1, a2, a3], _ => rfl

end Go.Proofs.Ytgmodmacchdkiaa
