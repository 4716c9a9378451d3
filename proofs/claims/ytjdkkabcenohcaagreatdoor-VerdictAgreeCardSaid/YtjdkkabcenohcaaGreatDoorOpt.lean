/- Pointers to elements that may be nil; literals of functions. It speaks of every program. -/
import Derived.Test.YtjdkkabcenohcaaGreatDoorBor
set_option linter.unusedVariables false
set_option linter.unusedSimpArgs false
set_option linter.unusedSectionVars false
namespace Go.Proofs.YtjdkkabcenohcaaGreatDoor
open Go.RowKit
variable {P:Program} {n:Nat} {base:Nat} {w0 w:World} {L:List Chunk} {e:Env}
variable {ops rest:List Oper} {Q:Exit→Act→World→Prop} {d:Nat} {D:Option Tmp} {op:Op} {t:TypeId} {pos:String} {af:Array Edge} {G:Option (Nat×Bool)} {v u:Value} {x y z:Operand} {K:Act→World→Prop}
def ul(A:Option Addr)(i:Int)(sz:Nat):Option Addr:=if i < 0 then none else some (bQ A (i.toNat * sz))
theorem EV{A:Option Addr}{i:Int}{sz:Nat}(h:0≤i):ul A i sz=some (bQ A (i.toNat * sz)):=if_neg (by omega)
theorem P6{A:Option Addr}{sz:Nat}:ul A (-1) sz=none:=if_pos (by decide)
theorem S3{A:Option Addr}{i:Int}{sz:Nat}(h:0≤i):Ending.returned (Value.pointer (some (bQ A (i.toNat * sz))))=Ending.returned (Value.pointer (ul A i sz)):=by rw[EV h]
theorem P7{A:Option Addr}{sz:Nat}:Ending.returned (Value.pointer none)=Ending.returned (Value.pointer (ul A (-1) sz)):=by rw[P6]
theorem Y.nI{A:Option Addr}{i:Int}{sz:Nat}(h:0≤i)(hx:ap n e x (.pointer (ul A i sz))):Yd P n base w0 e L ⟨D,.nilCheck x,t,pos,af,G⟩ (.pointer (some (bQ A (i.toNat * sz)))):=by
 rw[EV h]at hx
 exact Y.nilCheck hx
theorem A_{T E:TypeId}(hT:P.underlying T=some (.pointer E))(o:Option Addr)(w:World)(dp:Nat):(Op.equalIn (dp+1) T (.pointer o) (.pointer none)).run P w= .ok o.isNone w:=by
 cases o<;>simp[Op.equalIn,run_underlying hT]
theorem Ba{A:Option Addr}{i:Int}{sz:Nat}:(ul A i sz).isNone=decide (i < 0):=by
 unfold ul
 by_cases h:i < 0
 ·rw[if_pos h,decide_eq_true h];rfl
 ·rw[if_neg h,decide_eq_false h];rfl
theorem Y.Y4{T E:TypeId}{A:Option Addr}{i:Int}{sz:Nat}{ty:TypeId}(hT:P.underlying T=some (.pointer E))(hx:ap n e x (.pointer (ul A i sz))):Yd P n base w0 e L ⟨D,.binOp .eql T x (.const (.pointer none)) ty,t,pos,af,G⟩ (.bool (decide (i < 0))):=by
 intro a w ha _
 have:=A_ (P:=P) hT (ul A i sz) w 9999
 rw[Ba]at this
 simp[execOp,hx a ha,lD,eqGuard,binOp,Op.equal,Op.maxDepth,this]
theorem Y.S4{T E:TypeId}{A:Option Addr}{i:Int}{sz:Nat}{ty:TypeId}(hT:P.underlying T=some (.pointer E))(hx:ap n e x (.pointer (ul A i sz))):Yd P n base w0 e L ⟨D,.binOp .neq T x (.const (.pointer none)) ty,t,pos,af,G⟩ (.bool (!(decide (i < 0)))):=by
 intro a w ha _
 have:=A_ (P:=P) hT (ul A i sz) w 9999
 rw[Ba]at this
 simp[execOp,hx a ha,lD,eqGuard,binOp,Op.equal,Op.maxDepth,this]
theorem ap.cast(hx:ap n e x v)(h:v=u):ap n e x u:=h▸hx
theorem S5{α:Type}{xs:List α}{i m:Int}{d:α}(h:Hq m i=true)(hm:m=xs.length):xs[i.toNat]? =some (xs.getD i.toNat d):=by
 have:=Ke h
 rw[aG (by omega),List.getElem?_eq_getElem (by omega)]
theorem P8{α:Type}{xs:List α}{i m:Int}(h:Hq m i=true)(hm:m=xs.length):0≤i∧i < xs.length:=by
 have:=Ke h;omega
end Go.Proofs.YtjdkkabcenohcaaGreatDoor
