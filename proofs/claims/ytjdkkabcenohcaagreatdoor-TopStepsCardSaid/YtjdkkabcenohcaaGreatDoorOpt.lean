import Derived.Test.YtjdkkabcenohcaaGreatDoorBor
set_option linter.unusedVariables false
set_option linter.unusedSimpArgs false
set_option linter.unusedSectionVars false
namespace Go.Proofs.YtjdkkabcenohcaaGreatDoor
open Go.RowKit
variable {P:Program} {n:Nat} {base:Nat} {w0 w:World} {L:List Chunk} {e:Env}
variable {ops rest:List Oper} {Q:Exit→Act→World→Prop} {d:Nat} {D:Option Tmp} {op:Op} {t:TypeId} {pos:String} {af:Array Edge} {G:Option (Nat×Bool)} {v u:Value} {x y z:Operand} {K:Act→World→Prop}
def Ds(A:Option Addr)(i:Int)(sz:Nat):Option Addr:=if i < 0 then none else some (dr A (i.toNat * sz))
theorem O_{A:Option Addr}{i:Int}{sz:Nat}(h:0≤i):Ds A i sz=some (dr A (i.toNat * sz)):=if_neg (by omega)
theorem abq{A:Option Addr}{sz:Nat}:Ds A (-1) sz=none:=if_pos (by decide)
theorem aej{A:Option Addr}{i:Int}{sz:Nat}(h:0≤i):Ending.returned (Value.pointer (some (dr A (i.toNat * sz))))=Ending.returned (Value.pointer (Ds A i sz)):=by rw[O_ h]
theorem abr{A:Option Addr}{sz:Nat}:Ending.returned (Value.pointer none)=Ending.returned (Value.pointer (Ds A (-1) sz)):=by rw[abq]
theorem Y.vE{A:Option Addr}{i:Int}{sz:Nat}(h:0≤i)(hx:aD n e x (.pointer (Ds A i sz))):Yd P n base w0 e L ⟨D,.nilCheck x,t,pos,af,G⟩ (.pointer (some (dr A (i.toNat * sz)))):=by
 rw[O_ h]at hx
 exact Y.nilCheck hx
theorem JU{T E:TypeId}(hT:P.underlying T=some (.pointer E))(o:Option Addr)(w:World)(dp:Nat):(Op.equalIn (dp+1) T (.pointer o) (.pointer none)).run P w= .ok o.isNone w:=by
 cases o<;>simp[Op.equalIn,run_underlying hT]
theorem JV{A:Option Addr}{i:Int}{sz:Nat}:(Ds A i sz).isNone=decide (i < 0):=by
 unfold Ds
 by_cases h:i < 0
 ·rw[if_pos h,decide_eq_true h];rfl
 ·rw[if_neg h,decide_eq_false h];rfl
theorem Y.aim{T E:TypeId}{A:Option Addr}{i:Int}{sz:Nat}{ty:TypeId}(hT:P.underlying T=some (.pointer E))(hx:aD n e x (.pointer (Ds A i sz))):Yd P n base w0 e L ⟨D,.binOp .eql T x (.const (.pointer none)) ty,t,pos,af,G⟩ (.bool (decide (i < 0))):=by
 intro a w ha _
 have:=JU (P:=P) hT (Ds A i sz) w 9999
 rw[JV]at this
 simp[execOp,hx a ha,o0,eqGuard,binOp,Op.equal,Op.maxDepth,this]
theorem Y.aek{T E:TypeId}{A:Option Addr}{i:Int}{sz:Nat}{ty:TypeId}(hT:P.underlying T=some (.pointer E))(hx:aD n e x (.pointer (Ds A i sz))):Yd P n base w0 e L ⟨D,.binOp .neq T x (.const (.pointer none)) ty,t,pos,af,G⟩ (.bool (!(decide (i < 0)))):=by
 intro a w ha _
 have:=JU (P:=P) hT (Ds A i sz) w 9999
 rw[JV]at this
 simp[execOp,hx a ha,o0,eqGuard,binOp,Op.equal,Op.maxDepth,this]
theorem aD.cast(hx:aD n e x v)(h:v=u):aD n e x u:=h▸hx
theorem ael{α:Type}{xs:List α}{i m:Int}{d:α}(h:SR m i=true)(hm:m=xs.length):xs[i.toNat]? =some (xs.getD i.toNat d):=by
 have:=Wi h
 rw[aW (by omega),List.getElem?_eq_getElem (by omega)]
theorem abs{α:Type}{xs:List α}{i m:Int}(h:SR m i=true)(hm:m=xs.length):0≤i∧i < xs.length:=by
 have:=Wi h;omega
end Go.Proofs.YtjdkkabcenohcaaGreatDoor
