/- Slices of slices that are the caller's own; rows of structs that hold slices of the caller's. It speaks of every program. -/
import Derived.Test.YtjdkkabcenohcaaGreatDoorView
import Derived.Test.YtjdkkabcenohcaaGreatDoorOpen
import Derived.Test.YtjdkkabcenohcaaGreatDoorPl
import Derived.Lib.AppendZeros
set_option linter.unusedVariables false
set_option linter.unusedSimpArgs false
set_option linter.unusedSectionVars false
namespace Go.Proofs.YtjdkkabcenohcaaGreatDoor
open Go.ChangeShapes Go.WideShapes Go.ChangeAt Go.RowKit
variable {P:Program} {n:Nat} {base:Nat} {w0 w:World} {L:List Chunk} {e:Env}
variable {ops rest:List Oper} {Q:Exit→Act→World→Prop} {d:Nat} {D:Option Tmp} {op:Op} {t:TypeId} {pos:String} {af:Array Edge} {G:Option (Nat×Bool)} {v u:Value} {x y z:Operand}
section
variable {α:Type} {enc:α→List Value} {sz cap m p:Nat} {A:Option Addr} {hs:List Hd} {xs:List (List α)} {a:List α} {kd:IntKind} {idx:Int} {E T:Nat}
structure zO(enc:α→List Value)(sz:Nat)(w:World)(A:Option Addr)(cap:Nat)(hs:List Hd)(xs:List (List α)):Prop where
 EJ:xs.length≤cap
 out: ∀i a,xs[i]? =some a→qt A∧w.cell? (bQ A i)=some (.slice (hs.getD i (none,0)).1 a.length (hs.getD i (none,0)).2)
 bb: ∀i a,xs[i]? =some a→aP enc sz w (.slice (hs.getD i (none,0)).1 a.length (hs.getD i (none,0)).2) a
theorem zO.mono{w':World}(h:zO enc sz w A cap hs xs)(hw:St w.heap.size w L w'):zO enc sz w' A cap hs xs:=
 ⟨h.EJ,fun i a ha=>⟨(h.out i a ha).1,hw.C7 (h.out i a ha).2⟩,fun i a ha=>(h.bb i a ha).mono hw⟩
theorem zO.YT:zO enc sz w none 0 [] ([]:List (List α)):=⟨Nat.le_refl _,fun i a h=>by simp at h,fun i a h=>by simp at h⟩
theorem zO.at(h:zO enc sz w A cap hs xs)(ha:ix xs idx=some a):aP enc sz w (.slice (hs.getD idx.toNat (none,0)).1 a.length (hs.getD idx.toNat (none,0)).2) a:=h.bb _ _ (bx ha)
end
section
variable {η α:Type} {enc:η→α→List Value} {bb:η→α→List Chunk} {sz:Nat} {A:Option Addr} {cap m k i p E T T':Nat} {hs:List η} {xs:List α} {a:α} {h0:η} {idx:Int}
theorem SV(h:St base w0 L w)(hi:L[i]? =some (cN enc bb sz A cap E hs xs)):0 < xs.length→qt A:=fun hb=>D_ (idx:=0) h hi ⟨Int.le_refl _,by omega⟩
theorem Y.jd{T i off ft k m:Nat}{fs:Array Field}{j:Nat}{A:Option Addr}(hT:P.underlying T=some (.struct fs))(hf:jO P fs i off ft)(hk:P.cellsOf ft=k+1)(hok:0 < m→qt A)(hb:0 < m)(hx:ap n e x (.pointer (some (bQ A j)))):
  Yd P n base w0 e L ⟨D,.fieldAddr T x i,t,pos,af,G⟩ (.pointer (some (bQ A (j+off)))):=Y.nV hT hf hk (hok hb).1 hx
theorem WL.IW{F:Prop}(hF: ∀w,St base w0 L w→F)(h:F→WL P ops n base w0 e L rest Q):WL P ops n base w0 e L rest Q:=fun a w ha hw=>h (hF w hw) a w ha hw
variable {K:Act→World→Prop}
end
section
variable {K:Act→World→Prop} {α:Type} {enc:α→List Value} {sz:Nat} {A:Option Addr} {cap m k i p E T T':Nat} {xs:List α} {a a':α} {kd:IntKind} {idx:Int}
end
def Xc(b:Option Nat):Option Addr:=b.map fun b=>⟨b,0,none⟩
def SW(b:Option Nat)(T:TypeId)(cs:List Value):Chunk:=match b with
 |some b=>al b T cs
 |none=>cF True
theorem St.I6(h:St base w0 L w)(T:TypeId)(cs:List Value):St base w0 (SW none T cs::L) w:=(bc.fact (p:=True) trivial).at _ _ _ h
section
variable {H:Type} {aaU:TypeId×Value→H}
end
end Go.Proofs.YtjdkkabcenohcaaGreatDoor
