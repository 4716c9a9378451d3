import Derived.Test.YtjdkkabcenohcaaGreatDoorP2
import Derived.Test.YtjdkkabcenohcaaGreatDoorV7
set_option linter.unusedVariables false
set_option linter.unusedSimpArgs false
set_option linter.unusedSectionVars false
set_option maxRecDepth 100000
namespace Go.Proofs.YtjdkkabcenohcaaGreatDoor
open Go.RowKit
namespace Rw
open Hs
end Rw
namespace Rw
open Hs
end Rw
end Go.Proofs.YtjdkkabcenohcaaGreatDoor
