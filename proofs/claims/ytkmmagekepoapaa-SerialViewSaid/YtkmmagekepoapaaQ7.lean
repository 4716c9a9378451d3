/- From numbers to deeds. -/
import Derived.Test.YtkmmagekepoapaaQ1
import Derived.Test.YtkmmagekepoapaaPl
import Derived.Test.YtkmmagekepoapaaOpen
set_option linter.unusedVariables false
set_option linter.unusedSimpArgs false
set_option linter.unusedSectionVars false
set_option maxRecDepth 100000
namespace Go.Proofs.Ytkmmagekepoapaa
open Go.RowKit
def decDeed : List Int → Deed
  | [a0, a1, a2] => ⟨a0, a1, a2⟩
  | _ => Deed.z
theorem decDeed_ok (r : List Int) (h : r.length = 3) : encDeed (decDeed r) = ints r := by
  match r, h with
  | [a0, a1, a2], _ => rfl

end Go.Proofs.Ytkmmagekepoapaa
