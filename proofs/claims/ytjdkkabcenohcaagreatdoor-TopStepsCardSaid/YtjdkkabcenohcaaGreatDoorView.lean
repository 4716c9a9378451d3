import Derived.Test.YtjdkkabcenohcaaGreatDoorNest
set_option linter.unusedVariables false
set_option linter.unusedSimpArgs false
set_option linter.unusedSectionVars false
namespace Go.Proofs.YtjdkkabcenohcaaGreatDoor
open Go.RowKit
section
variable {α:Type}
theorem OX{xs:List α}{hi i:Int}{x:α}(h:ix (xs.take hi.toNat) i=some x):ix xs i=some x:=by
 have h1:=ai h
 have h2:=aI h
 rw[List.getElem?_take]at h2
 unfold ix
 rw[if_pos (by omega)]
 split at h2
 ·exact h2
 ·cases h2
theorem OY{xs:List α}{lo i:Int}{x:α}(hl:0≤lo)(h:ix (xs.drop lo.toNat) i=some x):ix xs (lo+i)=some x:=by
 have h1:=ai h
 have h2:=aI h
 rw[List.getElem?_drop]at h2
 unfold ix
 rw[if_pos (by omega),show(lo+i).toNat=lo.toNat+i.toNat by omega]
 exact h2
def ovr(xs:List α)(lo:Nat)(ys:List α):List α:=(xs.take lo++(ys++xs.drop (lo+ys.length))).take xs.length
@[simp] theorem akz (xs:List α) (lo:Nat) (ys:List α):(ovr xs lo ys).length=xs.length:=by
 unfold ovr
 simp only[List.length_append,List.length_take,List.length_drop]
 omega
theorem akA{xs:List α}{lo:Nat}{ys:List α}(h:lo+ys.length≤xs.length):ovr xs lo ys=xs.take lo++(ys++xs.drop (lo+ys.length)):=by
 unfold ovr
 apply List.take_of_length_le
 simp only[List.length_append,List.length_take,List.length_drop]
 omega
end
section
variable {α:Type} {n sz j off p:Nat} {enc:α→List Value} {d x x':α} {a:List α} {pre post:List Value} {v:Value}
end
section
variable {P:Program} {n:Nat} {base:Nat} {w0 w:World} {L:List Chunk} {e:Env}
variable {ops rest:List Oper} {Q:Exit→Act→World→Prop} {K:Act→World→Prop} {d:Nat} {D:Option Tmp} {op:Op} {t:TypeId} {pos:String} {af:Array Edge} {G:Option (Nat×Bool)} {x y z:Operand} {v:Value}
variable {α:Type} {enc:α→List Value} {sz:Nat} {A:Option Addr} {cap k m c E E' T i:Nat} {xs ys:List α} {kd:IntKind} {idx lo:Int}
theorem aD.len{n:Nat}{e:Env}{x:Operand}{A:Option Addr}{m m' c:Nat}(h:aD n e x (.slice A m c))(q:m=m'):aD n e x (.slice A m' c):=q▸h
theorem aeb(ho:xk A)(hc:lo.toNat < cap)(hl:0≤lo)(hi:0≤idx)(k:Nat):xk (kY A cap lo.toNat k)∧dr (kY A cap lo.toNat k) (idx.toNat * k)=dr A ((lo+idx).toNat * k):=by
 obtain⟨h1,h2⟩:=ho
 cases A with
 |none=>cases h1
 |some p=>
  obtain⟨b,o,s⟩:=p
  obtain rfl:s=none:=h2 _ rfl
  have e:kY (some ⟨b,o,none⟩) cap lo.toNat k=some ⟨b,o+lo.toNat * k,none⟩:=by
   unfold kY
   rw[if_neg (by omega)]
   simp[eX]
  rw[e]
  refine⟨⟨rfl,fun p hp=>by cases hp;rfl⟩,?_⟩
  simp only[dr,Addr.mk.injEq,true_and,and_true]
  have e:(lo+idx).toNat=lo.toNat+idx.toNat:=by omega
  rw[e,Nat.add_mul,Nat.add_assoc]
theorem Y.aec(hT:P.underlying T=some (.slice E))(hk:P.cellsOf E=k+1)(hi:L[i]? =some (cR enc sz A cap E' xs))(hx:aD n e x (.slice (kY A cap lo.toNat (k+1)) m c))(hy:aD n e y (.int kd idx))(hl:0≤lo)(hb:0≤idx∧idx < m)(hb2:lo+idx < xs.length):
  Yd P n base w0 e L ⟨D,.indexAddr T x y,t,pos,af,G⟩ (.pointer (some (dr A ((lo+idx).toNat * (k+1))))):=by
 intro a w ha hw
 have hr:=hw.iA hi
 obtain⟨h1,h2⟩:=aeb (hr.2.2 (by omega)) (show lo.toNat < cap by have:=hr.1;omega) hl hb.1 (k+1)
 rw[←h2]
 exact Y.Cd (base:=base) (w0:=w0) (L:=L) hT hk hx hy hb h1 a w ha hw
theorem Y.abo(hT:P.underlying T=some (.slice E))(hk:P.cellsOf E=k+1)(hi:L[i]? =some (cR enc sz A cap E' xs))(hx:aD n e x (.slice A m c))(hy:aD n e y (.int kd idx))(hb:0≤idx∧idx < m)(hb2:idx < xs.length):
  Yd P n base w0 e L ⟨D,.indexAddr T x y,t,pos,af,G⟩ (.pointer (some (dr A (idx.toNat * (k+1))))):=by
 intro a w ha hw
 have hr:=hw.iA hi
 exact Y.Cd (base:=base) (w0:=w0) (L:=L) hT hk hx hy hb (hr.2.2 (by omega)) a w ha hw
theorem OZ{β:Type}{l:List β}{i:Nat}{a:β}(h:l[i]? =some a):l.set i a=l:=by
 obtain⟨hlt,he⟩:=List.getElem?_eq_some_iff.1 h
 rw[←he];simp
end
end Go.Proofs.YtjdkkabcenohcaaGreatDoor
