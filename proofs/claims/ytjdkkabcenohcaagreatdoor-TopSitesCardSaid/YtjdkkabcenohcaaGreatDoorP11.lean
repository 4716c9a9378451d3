import Derived.Test.YtjdkkabcenohcaaGreatDoorP10
set_option linter.unusedVariables false
set_option linter.unusedSimpArgs false
set_option linter.unusedSectionVars false
set_option maxRecDepth 100000
namespace Go.Proofs.YtjdkkabcenohcaaGreatDoor
open Go.RowKit
namespace Ob
end Ob
namespace Sr
open Rl Hs
variable {N:Nat} {types:List Int} {p:List Event} {k:Nat} {out out':List Call} {op op':List Int} {idx pos:List Nat}
end Sr
namespace Bg
open Hs Rl Sr
end Bg
end Go.Proofs.YtjdkkabcenohcaaGreatDoor
