/- More operations: maps' lengths, arrays' values, slices of arrays, append to nothing, results that lie in cells. -/
import Derived.Test.YtjdkkabcenohcaaGreatDoorAny
set_option linter.unusedVariables false
set_option linter.unusedSimpArgs false
set_option linter.unusedSectionVars false
namespace Go.Proofs.YtjdkkabcenohcaaGreatDoor
open Go.RowKit
variable {P:Program} {n:Nat} {base:Nat} {w0 w:World} {L:List Chunk} {e:Env}
variable {ops rest:List Oper} {Q:Exit→Act→World→Prop} {d:Nat} {D:Option Tmp} {op:Op} {t:TypeId} {pos:String} {af:Array Edge} {G:Option (Nat×Bool)} {v u:Value} {x y z:Operand}
theorem Y.index{T E m i:Nat}{dE:TypeDesc}{kd:IntKind}{cs:Array Value}(hT:P.underlying T=some (.array m E))(hE:P.underlying E=some dE)(hd:cu dE=true)(hk:P.cellsOf E=0+1)(hx:ap n e x (.agg cs))(hy:ap n e y (.int kd (i:Int)))(hi:i < m)(hv:cs[i]? =some v):
  Yd P n base w0 e L ⟨D,.index T x y,t,pos,af,G⟩ v:=by
 intro a w ha _
 simp[execOp,hx a ha,hy a ha,Instr.index,asIntOf,run_underlying hT,hi,fp hk,part,run_isAgg_plain hE hd,hv]
section
variable {K:Act→World→Prop}
end
theorem KK.IW{F:Prop}{K:Act→World→Prop}(hF: ∀w,St base w0 L w→F)(h:F→KK n base w0 e L K):KK n base w0 e L K:=fun a w ha hw=>h (hF w hw) a w ha hw
end Go.Proofs.YtjdkkabcenohcaaGreatDoor
