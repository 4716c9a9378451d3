/- From numbers to spans. -/
import Derived.Test.YtemckhkicfpgeaaP1
import Derived.Test.YtemckhkicfpgeaaPl
import Derived.Test.YtemckhkicfpgeaaOpen
set_option linter.unusedVariables false
set_option linter.unusedSimpArgs false
set_option linter.unusedSectionVars false
set_option maxRecDepth 100000
namespace Go.Proofs.Ytemckhkicfpgeaa
open Go.RowKit
def decSpan : List Int → Span
  | [a0, a1] => ⟨a0, a1⟩
  | _ => Span.z
theorem decSpan_ok (r : List Int) (h : r.length = 2) : encSpan (decSpan r) = ints r := by
  match r, h with
  | [a0, a1], _ => rfl

end Go.Proofs.Ytemckhkicfpgeaa
