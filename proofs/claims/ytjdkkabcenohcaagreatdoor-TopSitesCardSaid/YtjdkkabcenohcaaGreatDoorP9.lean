import Derived.Test.YtjdkkabcenohcaaGreatDoorP7
import Derived.Test.YtjdkkabcenohcaaGreatDoorV8
set_option linter.unusedVariables false
set_option linter.unusedSimpArgs false
set_option linter.unusedSectionVars false
set_option maxRecDepth 100000
namespace Go.Proofs.YtjdkkabcenohcaaGreatDoor
open Go.RowKit
namespace Tk
open Hs
end Tk
namespace Sr
open Hs
end Sr
namespace Tk
open Hs
end Tk
end Go.Proofs.YtjdkkabcenohcaaGreatDoor
