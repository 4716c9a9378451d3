/- Arguments that are slices of structs of numbers. It speaks of every program. -/
import Derived.Test.YtjdkkabcenohcaaGreatDoorLaw
import Derived.Test.YtjdkkabcenohcaaGreatDoorRow
set_option linter.unusedVariables false
set_option linter.unusedSimpArgs false
namespace Go.Proofs.YtjdkkabcenohcaaGreatDoor
open Go.ChangeShapes Go.WideShapes Go.ChangeAt Go.RowKit
section
variable {H:Type} {enc:TypeId×Value→H} {P:Program}
def numFields(P:Program):Nat→List Field→Bool
 |_,[]=>true
 |k,f::fs=>Nat.beq f.offset k&&Nat.beq (P.cellsOf f.type) 1&&(match P.underlying f.type with|some (.int .i64)=>true|_=>false)&&numFields P (k+1) fs
def P4(w:World)(A:Option Addr)(k:Nat):Int:=match w.cell? (bQ A k)with
 |some (.int _ z)=>z
 |_=>0
def aaH(w:World)(A:Option Addr)(sz i:Nat):List Int:=(List.range sz).map fun j=>P4 w A (i * sz+j)
end
end Go.Proofs.YtjdkkabcenohcaaGreatDoor
