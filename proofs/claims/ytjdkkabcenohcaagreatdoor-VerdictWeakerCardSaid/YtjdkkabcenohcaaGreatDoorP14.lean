/- Lines, plainly. -/
import Derived.Test.YtjdkkabcenohcaaGreatDoorP13
set_option linter.unusedVariables false
set_option linter.unusedSimpArgs false
set_option linter.unusedSectionVars false
set_option maxRecDepth 100000
namespace Go.Proofs.YtjdkkabcenohcaaGreatDoor
open Go.RowKit
namespace Vd
open Tx Hs Sr
theorem lives : alibkeep_verdictLives 18446744073709551616 = some true := by kernel_rfl
theorem line_no {ps : List Pt} (hp : ∀ p ∈ ps, PtOk p) : (10 : UInt8) ∉ jn 32 (ps.map ptT) := jn_no (by decide) fun x hx => by
  obtain ⟨p, h, rfl⟩ := List.mem_map.1 hx
  exact pt_no (hp p h)
end Vd

end Go.Proofs.YtjdkkabcenohcaaGreatDoor
