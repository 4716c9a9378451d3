/- From numbers to asks and acts. -/
import Derived.Test.YteklmleiiiodfaaE1
import Derived.Test.YteklmleiiiodfaaPl
import Derived.Test.YteklmleiiiodfaaBor
set_option linter.unusedVariables false
set_option linter.unusedSimpArgs false
set_option linter.unusedSectionVars false
set_option maxRecDepth 100000
namespace Go.Proofs.Yteklmleiiiodfaa
open Go.RowKit
def decAsk : List Int → Ask
  | [a0, a1, a2] => ⟨a0, a1, a2⟩
  | _ => Ask.z
theorem decAsk_ok (r : List Int) (h : r.length = 3) : encAsk (decAsk r) = ints r := by
  match r, h with
  | [a0, a1, a2], _ => rfl

def decAct : List Int → Act
  | [a0, a1] => ⟨a0, a1⟩
  | _ => Act.z
theorem decAct_ok (r : List Int) (h : r.length = 2) : encAct (decAct r) = ints r := by
  match r, h with
  | [a0, a1], _ => rfl

end Go.Proofs.Yteklmleiiiodfaa
