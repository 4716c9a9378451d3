import Derived.Test.YtjdkkabcenohcaaGreatDoorP10
import Derived.Test.YtjdkkabcenohcaaGreatDoorP7
import Derived.Test.YtjdkkabcenohcaaGreatDoorR0
set_option linter.unusedVariables false
set_option linter.unusedSimpArgs false
set_option linter.unusedSectionVars false
set_option maxRecDepth 100000
namespace Go.Proofs.YtjdkkabcenohcaaGreatDoor
open Go.RowKit
namespace Zo
open Hs
structure Rk(c:List Call)(tg:Nat→Bool)(T:Nat→Int):Prop where
 dn: ∀i,i < c.length→(c.getD i Call.z).aY≠ -1→tg i=true
 ord: ∀a b,a < c.length→b < c.length→(c.getD a Call.z).aY≠ -1→(c.getD a Call.z).aY < (c.getD b Call.z).from_→tg b=true→T a≤T b∧((c.getD b Call.z).kind=1→T a < T b)
 G6: ∀a b,a < c.length→b < c.length→tg a=true→tg b=true→(c.getD a Call.z).kind=1→(c.getD b Call.z).kind=1→T a=T b→a=b
 wr: ∀i,i < c.length→tg i=true→(c.getD i Call.z).kind=1→0 < T i∧((c.getD i Call.z).aY≠ -1→(c.getD i Call.z).res=0)
 rd: ∀i,i < c.length→(c.getD i Call.z).aY≠ -1→(c.getD i Call.z).kind≠1→(T i=0∧(c.getD i Call.z).res=0)∨∃k,k < c.length∧tg k=true∧(c.getD k Call.z).kind=1∧T k=T i∧(c.getD k Call.z).arg=(c.getD i Call.z).res
structure Kn(c:List Call):Prop where
 kind: ∀i,i < c.length→(c.getD i Call.z).kind=1∨(c.getD i Call.z).kind=2
 amw: ∀i,i < c.length→(c.getD i Call.z).kind=1→(c.getD i Call.z).aY≠ -1→(c.getD i Call.z).res=0
 amx: ∀i,i < c.length→kt (c.getD i Call.z)=true→0≤(c.getD i Call.z).res∧(c.getD i Call.z).res≤1000
 ne: ∀i j,i < c.length→j < c.length→(c.getD i Call.z).aY≠ -1→(c.getD i Call.z).aY≠(c.getD j Call.z).from_
 nf: ∀i j,i < c.length→j < c.length→(c.getD i Call.z).from_=(c.getD j Call.z).from_→i=j
 nt: ∀i j,i < c.length→j < c.length→(c.getD i Call.z).aY≠ -1→(c.getD i Call.z).aY=(c.getD j Call.z).aY→i=j
section
variable {c:List Call}
theorem adl(W:Wc c)(D:vu c)(N:Kn c){tg:Nat→Bool}{T:Nat→Int}(K:Rk c tg T):Good c:=by
 have rv: ∀i j,i < c.length→j < c.length→kt (c.getD i Call.z)=true→(c.getD j Call.z).kind=1→(c.getD j Call.z).arg=(c.getD i Call.z).res→tg j=true∧T j=T i:=by
  intro i j hi hj h1 h2 h3
  have h1':=jm.1 h1
  rcases K.rd i hi h1'.2 (by omega)with⟨h4,h5⟩|⟨k,k1,k2,k3,k4,k5⟩
  ·have:=W.pos j hj h2;omega
  ·have:k=j:=yA D k1 hj k3 h2 (k5.trans h3.symm)
   subst this;exact⟨k2,k4⟩
 have one: ∀v i j,i < c.length→j < c.length→CD v (c.getD i Call.z)→CD v (c.getD j Call.z)→(tg i=true∨kt (c.getD i Call.z)=true)→(tg j=true∨kt (c.getD j Call.z)=true)→T i=T j:=by
  intro v i j hi hj h1 h2 t1 t2
  rcases h1 with⟨a1,a2⟩|⟨a1,a2⟩
  ·rcases h2 with⟨b1,b2⟩|⟨b1,b2⟩
   ·have:i=j:=yA D hi hj a1 b1 (a2.trans b2.symm)
    rw[this]
   ·exact(rv j i hj hi b1 a1 (a2.trans b2.symm)).2
  ·rcases h2 with⟨b1,b2⟩|⟨b1,b2⟩
   ·exact(rv i j hi hj a1 b1 (b2.trans a2.symm)).2.symm
   ·have a3:=jm.1 a1
    have b3:=jm.1 b1
    rcases K.rd i hi a3.2 (by omega)with⟨h4,h5⟩|⟨k,k1,k2,k3,k4,k5⟩
    ·rcases K.rd j hj b3.2 (by omega)with⟨h6,h7⟩|⟨k,k1,k2,k3,k4,k5⟩
     ·omega
     ·have:=W.pos k k1 k3;omega
    ·rw[←k4]
     exact(rv j k hj k1 b1 k3 (by omega)).2
 have ajV: ∀v i,i < c.length→CD v (c.getD i Call.z)→Ns c v→tg i=true∨kt (c.getD i Call.z)=true:=by
  intro v i hi h1 ⟨j,hj,h2,h3⟩
  rcases h1 with⟨a1,a2⟩|⟨a1,a2⟩
  ·rcases h2 with⟨b1,b2⟩|⟨b1,b2⟩
   ·have:i=j:=yA D hi hj a1 b1 (a2.trans b2.symm)
    subst this;exact .inl (K.dn i hi h3)
   ·exact .inl (rv j i hj hi b1 a1 (a2.trans b2.symm)).1
  ·exact .inr a1
 have tgr: ∀i,i < c.length→(tg i=true∨kt (c.getD i Call.z)=true)→tg i=true:=fun i hi h=>h.elim id fun h=>K.dn i hi (jm.1 h).2
 have neq: ∀a b i j,a≠b→i < c.length→j < c.length→CD a (c.getD i Call.z)→CD b (c.getD j Call.z)→tg i=true→tg j=true→((c.getD i Call.z).kind≠1→kt (c.getD i Call.z)=true)→((c.getD j Call.z).kind≠1→kt (c.getD j Call.z)=true)→T i≠T j:=by
  intro a b i j hab hi hj h1 h2 t1 t2 r1 r2 e
  have src: ∀v i,i < c.length→CD v (c.getD i Call.z)→tg i=true→(v=0∧T i=0)∨∃k,k < c.length∧tg k=true∧(c.getD k Call.z).kind=1∧T k=T i∧(c.getD k Call.z).arg=v:=by
   intro v i hi h t
   rcases h with⟨a1,a2⟩|⟨a1,a2⟩
   ·exact .inr ⟨i,hi,t,a1,rfl,a2⟩
   ·have a3:=jm.1 a1
    rcases K.rd i hi a3.2 (by omega)with⟨h4,h5⟩|⟨k,k1,k2,k3,k4,k5⟩
    ·exact .inl ⟨by omega,h4⟩
    ·exact .inr ⟨k,k1,k2,k3,k4,k5.trans a2⟩
  rcases src a i hi h1 t1 with⟨p1,p2⟩|⟨k,k1,k2,k3,k4,k5⟩
  ·rcases src b j hj h2 t2 with⟨q1,q2⟩|⟨l,l1,l2,l3,l4,l5⟩
   ·omega
   ·have:=(K.wr l l1 l2 l3).1;omega
  ·rcases src b j hj h2 t2 with⟨q1,q2⟩|⟨l,l1,l2,l3,l4,l5⟩
   ·have:=(K.wr k k1 k2 k3).1;omega
   ·have:=K.G6 k l k1 l1 k2 l2 k3 l3 (by omega)
    subst this
    exact hab (k5.symm.trans l5)
 refine⟨fun i hi h1=>?_,fun i j hi hj h1 h2 h3 h4=>?_,fun a b hab va vb ca cb haa ⟨ajW,ajX⟩=>?_⟩
 ·have h1':=jm.1 h1
  rcases K.rd i hi h1'.2 (by omega)with⟨h4,h5⟩|⟨k,k1,k2,k3,k4,k5⟩
  ·exact .inl h5
  ·exact .inr ⟨k,k1,k3,k5⟩
 ·obtain⟨t,e⟩:=rv i j hi hj h1 h2 h3
  have:=(K.ord i j hi hj (jm.1 h1).2 h4 t).2 h2
  omega
 ·
  have less: ∀a b,a≠b→Ns c a→Ns c b→Ah c a b→∃i j,i < c.length∧j < c.length∧CD b (c.getD j Call.z)∧tg j=true∧((a=0∧0 < T j)∨(CD a (c.getD i Call.z)∧tg i=true∧T i < T j)):=by
   intro a b hab ca cb ⟨j,hj,h1,h2⟩
   have tj:=tgr j hj (ajV b j hj h1 cb)
   have rj:(c.getD j Call.z).kind≠1→kt (c.getD j Call.z)=true:=fun h=>h1.elim (fun g=>(h g.1).elim) fun g=>g.1
   rcases h2 with h2|⟨i,hi,h3,h4,h5⟩
   ·refine⟨j,j,hj,hj,h1,tj,.inl ⟨h2,?_⟩⟩
    by_cases hk:(c.getD j Call.z).kind=1
    ·exact(K.wr j hj tj hk).1
    ·have hr:=jm.1 (rj hk)
     rcases K.rd j hj hr.2 hk with⟨_,h6⟩|⟨k,k1,k2,k3,k4,k5⟩
     ·rcases h1 with⟨g,_⟩|⟨_,g⟩
      ·exact(hk g).elim
      ·omega
     ·have:=(K.wr k k1 k2 k3).1;omega
   ·have ti:=K.dn i hi h4
    have ri:(c.getD i Call.z).kind≠1→kt (c.getD i Call.z)=true:=fun h=>h3.elim (fun g=>(h g.1).elim) fun g=>g.1
    have o:=(K.ord i j hi hj h4 h5 tj).1
    have n:=neq a b i j hab hi hj h3 h1 ti tj ri rj
    exact⟨i,j,hi,hj,h1,tj,.inr ⟨h3,ti,by omega⟩⟩
  obtain⟨i,j,hi,hj,p1,p2,p3⟩:=less a b hab ca cb ajW
  obtain⟨i2,j2,hi2,hj2,q1,q2,q3⟩:=less b a (Ne.symm hab) cb ca ajX
  rcases p3 with⟨p3,p4⟩|⟨p3,p4,p5⟩
  ·rcases q3 with⟨q3,q4⟩|⟨q3,q4,q5⟩
   ·omega
   ·
    have e:=one b j i2 hj hi2 p1 q3 (.inl p2) (.inl q4)
    have hk:(c.getD j2 Call.z).kind≠1:=fun hk=>by
     rcases q1 with⟨g1,g2⟩|⟨g1,g2⟩
     ·have:=W.pos j2 hj2 g1;omega
     ·have:=(jm.1 g1).1;omega
    rcases q1 with⟨g1,g2⟩|⟨g1,g2⟩
    ·exact hk g1
    ·rcases K.rd j2 hj2 (jm.1 g1).2 hk with⟨h6,_⟩|⟨k,k1,k2,k3,k4,k5⟩
     ·omega
     ·have:=W.pos k k1 k3;omega
  ·rcases q3 with⟨q3,q4⟩|⟨q3,q4,q5⟩
   ·have e:=one a i j2 hi hj2 p3 q1 (.inl p4) (.inl q2)
    have hk:(c.getD j Call.z).kind≠1:=fun hk=>by
     rcases p1 with⟨g1,g2⟩|⟨g1,g2⟩
     ·have:=W.pos j hj g1;omega
     ·have:=(jm.1 g1).1;omega
    rcases p1 with⟨g1,g2⟩|⟨g1,g2⟩
    ·exact hk g1
    ·rcases K.rd j hj (jm.1 g1).2 hk with⟨h6,_⟩|⟨k,k1,k2,k3,k4,k5⟩
     ·omega
     ·have:=W.pos k k1 k3;omega
   ·have e1:=one a i j2 hi hj2 p3 q1 (.inl p4) (.inl q2)
    have e2:=one b j i2 hj hi2 p1 q3 (.inl p2) (.inl q4)
    omega
end
end Zo
namespace Zo
open Hs
theorem ajY{k:Int}(h:yX k=1):k=1∨k=2:=by
 unfold yX at h
 by_cases h1:k=1∨k=2
 ·exact h1
 ·rw[if_neg h1]at h
  exfalso
  revert h
  split
  ·decide
  ·split
   ·decide
   ·split
    ·decide
    ·split<;>decide
theorem ahI{N:Nat}{l:List Event}{c:List Call}{op:List Int}{n:Nat}(R:ex N [1] l n c op):Kn c:=by
 have W:=R.wf
 have hk: ∀i,i < c.length→(c.getD i Call.z).kind=1∨(c.getD i Call.z).kind=2:=fun i hi=>by
  have O:=W.one i hi
  have gk:=O.aj
  simp only[List.length_singleton]at gk
  have e:(c.getD i Call.z).aj.toNat=0:=by omega
  have h2:=O.fit.2
  rw[e]at h2
  exact ajY h2
 refine⟨hk,fun i hi h1 h2=>?_,fun i hi h1=>?_,fun i j hi hj h1 e=>?_,fun i j hi hj e=>?_,fun i j hi hj h1 e=>?_⟩
 ·have:=(Sr.w_ R i hi).2 h2
  rw[h1]at this
  have e:bV N 1 (c.getD i Call.z).res=some (decide ((c.getD i Call.z).res=0)):=rfl
  rw[e]at this
  simpa using this
 ·have h2:=jm.1 h1
  have:=(Sr.w_ R i hi).2 h2.2
  rw[h2.1]at this
  have e:bV N 2 (c.getD i Call.z).res=some ((decide (0≤(c.getD i Call.z).res))&&(decide ((c.getD i Call.z).res≤1000))):=rfl
  rw[e]at this
  simpa using this
 ·have h2:=(W.one i hi).evt h1
  have h3:=(W.one j hj).evf
  rw[e,h3.1]at h2
  have:(c.getD j Call.z).kind=0:=congrArg (·.kind) h2
  exact h3.2 this
 ·rcases Nat.lt_trichotomy i j with h|h|h
  ·have:=(W.two i j h hj).fr;omega
  ·exact h
  ·have:=(W.two j i h hi).fr;omega
 ·rcases Nat.lt_trichotomy i j with h|h|h
  ·exact((W.two i j h hj).tO h1 e).elim
  ·exact h
  ·exact((W.two j i h hi).tO (by omega) e.symm).elim
end Zo
namespace Sr
open Rl Hs
structure RB(c:List Call)(tg:Nat→Bool)(T:Nat→Int):Prop where
 dn: ∀i,i < c.length→(c.getD i Call.z).aY≠ -1→tg i=true
 ord: ∀a b,a < c.length→b < c.length→(c.getD a Call.z).aY≠ -1→(c.getD a Call.z).aY < (c.getD b Call.z).from_→tg b=true→T a≤T b∧((c.getD b Call.z).kind=1→T a < T b)
 G6: ∀a b,a < c.length→b < c.length→tg a=true→tg b=true→(c.getD a Call.z).kind=1→(c.getD b Call.z).kind=1→T a=T b→a=b
 wr: ∀i,i < c.length→tg i=true→(c.getD i Call.z).kind=1→0 < T i∧((c.getD i Call.z).aY≠ -1→(c.getD i Call.z).res=0)
 rd: ∀i,i < c.length→(c.getD i Call.z).aY≠ -1→(c.getD i Call.z).kind≠1→(T i=0∧(c.getD i Call.z).res=0)∨∃k,k < c.length∧tg k=true∧(c.getD k Call.z).kind=1∧T k=T i∧(c.getD k Call.z).arg=(c.getD i Call.z).res
def BW(c:List Call)(tg:Nat→Bool)(i:Nat):Bool:=decide ((c.getD i Call.z).aY≠ -1)||(tg i&&decide ((c.getD i Call.z).kind=1))
def kR(c:List Call)(i:Nat):Int:=if(c.getD i Call.z).kind=1 then 0 else 1
def Iw(c:List Call)(T:Nat→Int)(i j:Nat):Prop:=T i < T j∨(T i=T j∧(kR c i < kR c j∨(kR c i=kR c j∧(c.getD i Call.z).from_≤(c.getD j Call.z).from_)))
instance(c:List Call)(T:Nat→Int)(i j:Nat):Decidable (Iw c T i j):=by unfold Iw;infer_instance
def xc(c:List Call)(i:Nat):Step:=⟨(i:Int),if(c.getD i Call.z).kind=1 then 0 else(c.getD i Call.z).res⟩
def DR(c:List Call)(s:Step):Do:=⟨(c.getD s.call.toNat Call.z).kind,(c.getD s.call.toNat Call.z).arg,s.res⟩
theorem VV(c:List Call)(i:Nat):((c.getD i Call.z).kind=1∧kR c i=0)∨((c.getD i Call.z).kind≠1∧kR c i=1):=by
 unfold kR
 by_cases h:(c.getD i Call.z).kind=1
 ·exact .inl ⟨h,if_pos h⟩
 ·exact .inr ⟨h,if_neg h⟩
theorem Mw{c:List Call}{tg:Nat→Bool}{T:Nat→Int}(K:RB c tg T)(hA: ∀i,i < c.length→Ob.dz 1 (c.getD i Call.z).kind (c.getD i Call.z).arg){L:List Nat}(hL: ∀i,i∈L↔i < c.length∧BW c tg i=true): ∀(B:List Nat) (v t0:Int),B.Nodup→B.Pairwise (Iw c T)→(∀i∈B,i∈L)→(∀k∈L,(c.getD k Call.z).kind=1→k∉B→T k≤t0)→(∀x∈B,t0≤T x)→
  ((t0=0∧v=0)∨∃k,k < c.length∧tg k=true∧(c.getD k Call.z).kind=1∧T k=t0∧(c.getD k Call.z).arg=v)→∃s',Ob.run 1 [v] ((B.map (xc c)).map (DR c))=some s'
 | [],v,_,_,_,_,_,_,_=>⟨[v],rfl⟩
 |i::B,v,t0,hnd,Nq,hm,hk,ht,hv=>by
  obtain⟨p1,p2⟩:=List.pairwise_cons.1 Nq
  obtain⟨d1,d2⟩:=List.nodup_cons.1 hnd
  obtain⟨hi,hsel⟩:=(hL i).1 (hm i (.head _))
  have Uh:=hA i hi
  have ajZ: ∀k,k < c.length→(c.getD k Call.z).kind=1→1≤(c.getD k Call.z).arg∧(c.getD k Call.z).arg≤1000:=fun k hk h1=>by
   have:=(hA k hk).2.2.2 (by omega)
   exact this
  have XS:Ob.lS 1 [v]:=by
   refine .inl ⟨.inl rfl,v,rfl,?_⟩
   rcases hv with⟨_,rfl⟩|⟨k,k1,_,k3,_,rfl⟩
   ·exact⟨by decide,by decide⟩
   ·have:=ajZ k k1 k3;omega
  have ht0:=ht i (.head _)
  have e:DR c (xc c i)=⟨(c.getD i Call.z).kind,(c.getD i Call.z).arg,(xc c i).res⟩:=by unfold DR xc;simp only[Int.toNat_natCast]
  have hle: ∀x∈B,T i≤T x:=fun x hx=>by
   have:=p1 x hx
   unfold Iw at this;omega
  simp only[List.map_cons,Ob.run,e]
  by_cases hw:(c.getD i Call.z).kind=1
  ·have DV:Ob.nx 1 [v] (c.getD i Call.z).kind (c.getD i Call.z).arg=some ([(c.getD i Call.z).arg],0):=by
    unfold Ob.nx;rw[if_pos ⟨XS,Uh⟩];unfold Ob.oA;rw[if_pos rfl,if_pos hw]
   have hres:(xc c i).res=0:=by unfold xc;simp only;rw[if_pos hw]
   rw[DV,hres]
   simp only[if_true]
   have zg:tg i=true:=by
    unfold BW at hsel
    rw[Bool.or_eq_true]at hsel
    rcases hsel with h|h
    ·exact K.dn i hi (of_decide_eq_true h)
    ·rw[Bool.and_eq_true]at h;exact h.1
   refine Mw K hA hL B _ (T i) d2 p2 (fun x hx=>hm x (.tail _ hx)) (fun k iU hk2 FF=>?_) hle (.inr ⟨i,hi,zg,hw,rfl,rfl⟩)
   by_cases e2:k=i
   ·subst e2;exact Int.le_refl _
   ·have:=hk k iU hk2 (fun h=>by
     rcases List.mem_cons.1 h with h|h
     ·exact e2 h
     ·exact FF h)
    omega
  ·have DV:Ob.nx 1 [v] (c.getD i Call.z).kind (c.getD i Call.z).arg=some ([v],v):=by
    unfold Ob.nx;rw[if_pos ⟨XS,Uh⟩];unfold Ob.oA;rw[if_pos rfl,if_neg hw];rfl
   have hres:(xc c i).res=(c.getD i Call.z).res:=by unfold xc;simp only;rw[if_neg hw]
   have hto:(c.getD i Call.z).aY≠ -1:=by
    unfold BW at hsel
    rw[Bool.or_eq_true]at hsel
    rcases hsel with h|h
    ·exact of_decide_eq_true h
    ·rw[Bool.and_eq_true,decide_eq_true_eq]at h;exact(hw h.2).elim
   have hval:v=(c.getD i Call.z).res:=by
    rcases K.rd i hi hto hw with⟨h1,h2⟩|⟨k,k1,k2,k3,k4,k5⟩
    ·rcases hv with⟨_,h4⟩|⟨k,k1,k2,k3,k4,k5⟩
     ·rw[h4,h2]
     ·have:=(K.wr k k1 k2 k3).1;omega
    ·have hkL:k∈L:=(hL k).2 ⟨k1,by unfold BW;rw[k2,decide_eq_true k3];simp⟩
     have hkB:k∉i::B:=by
      intro h
      rcases List.mem_cons.1 h with h|h
      ·subst h;exact hw k3
      ·have:=p1 k h
       unfold Iw at this
       have a1:=VV c i
       have a2:=VV c k
       omega
     have h3:=hk k hkL k3 hkB
     have h4:=(K.wr k k1 k2 k3).1
     rcases hv with⟨h5,_⟩|⟨k',l1,l2,l3,l4,l5⟩
     ·omega
     ·have:=K.G6 k' k l1 k1 l2 k2 l3 k3 (by omega)
      subst this
      rw[←l5,k5]
   rw[DV,hres]
   simp only
   rw[if_pos hval]
   refine Mw K hA hL B v t0 d2 p2 (fun x hx=>hm x (.tail _ hx)) (fun k iU hk2 FF=>hk k iU hk2 fun h=>?_) (fun x hx=>by have:=hle x hx;omega) hv
   rcases List.mem_cons.1 h with h|h
   ·subst h;exact hw hk2
   ·exact FF h
theorem adm{c:List Call}{rel:Rel}(X:Cx [1] c rel (fg c))(hA: ∀i,i < c.length→Ob.dz 1 (c.getD i Call.z).kind (c.getD i Call.z).arg)(hft: ∀i,i < c.length→(c.getD i Call.z).aY≠ -1→(c.getD i Call.z).from_≤(c.getD i Call.z).aY){tg:Nat→Bool}{T:Nat→Int}(K:RB c tg T): ∃t,Gd [1] c (fg c) (S0 [1]) [] t:=by
 have gk: ∀i,i < c.length→(c.getD i Call.z).aj=0:=fun i hi=>by
  have:=X.th i hi
  simp only[List.length_singleton]at this
  omega
 obtain⟨le,hle⟩: ∃le:Nat→Nat→Bool,le=fun a b=>decide (Iw c T a b):=⟨_,rfl⟩
 have tr: ∀a b d,le a b=true→le b d=true→le a d=true:=by
  intro a b d;rw[hle];simp only[decide_eq_true_eq];unfold Iw;omega
 have tot: ∀a b,(le a b||le b a)=true:=by
  intro a b;rw[hle];simp only[Bool.or_eq_true,decide_eq_true_eq];unfold Iw;omega
 obtain⟨L,hLe⟩: ∃L,L=((List.range c.length).filter (BW c tg)).mergeSort le:=⟨_,rfl⟩
 have CB:L.Perm ((List.range c.length).filter (BW c tg)):=by rw[hLe];exact List.mergeSort_perm ..
 have hL: ∀i,i∈L↔i < c.length∧BW c tg i=true:=fun i=>by
  rw[CB.mem_iff,List.mem_filter,List.mem_range]
 have hnd:L.Nodup:=CB.nodup_iff.2 (List.nodup_range.sublist List.filter_sublist)
 have Nq:L.Pairwise (Iw c T):=by
  have:=List.pairwise_mergeSort tr tot ((List.range c.length).filter (BW c tg))
  rw[←hLe]at this
  exact this.imp fun h=>by rw[hle]at h;exact of_decide_eq_true h
 have zg: ∀i∈L,tg i=true:=fun i hi=>by
  obtain⟨h1,h2⟩:=(hL i).1 hi
  unfold BW at h2
  rw[Bool.or_eq_true]at h2
  rcases h2 with h|h
  ·exact K.dn i h1 (of_decide_eq_true h)
  ·rw[Bool.and_eq_true]at h;exact h.1
 have hin: ∀s∈L.map (xc c),0≤s.call∧s.call < c.length∧s=xc c s.call.toNat∧s.call.toNat∈L:=fun s hs=>by
  obtain⟨i,hi,rfl⟩:=List.mem_map.1 hs
  have:=((hL i).1 hi).1
  refine⟨Int.natCast_nonneg _,by show(i:Int) < _;omega,?_,?_⟩
  ·show xc c i=xc c ((i:Int)).toNat
   rw[Int.toNat_natCast]
  ·show((i:Int)).toNat∈L
   rw[Int.toNat_natCast];exact hi
 have Fb: ∀s∈L.map (xc c),DU c s:=fun s hs=>by
  obtain⟨h1,h2,h3,h4⟩:=hin s hs
  refine⟨⟨h1,h2⟩,fun ha=>?_⟩
  rw[h3]
  unfold xc
  simp only[Int.toNat_natCast]
  by_cases hk:(c.getD s.call.toNat Call.z).kind=1
  ·rw[if_pos hk]
   exact((K.wr _ (by omega) (zg _ h4) hk).2 ha).symm
  ·rw[if_neg hk]
 have VW:(L.map (xc c)).Pairwise (T9 (fg c)):=by
  rw[List.pairwise_map]
  refine(Nq.and hnd).imp_of_mem fun {a b} ha hb h=>?_
  obtain⟨h1,h2⟩:=h
  refine⟨fun e=>h2 (by have e:(a:Int)=b:=e;omega),?_⟩
  show fg c ((b:Int)).toNat ((a:Int)).toNat=false
  rw[Int.toNat_natCast,Int.toNat_natCast]
  unfold fg
  refine decide_eq_false ?_
  rintro⟨q1,q2,q3,q4⟩
  have o:=K.ord b a q1 q2 q3 q4 (zg a ha)
  unfold Iw at h1
  have a1:=VV c a
  have a2:=VV c b
  have a3:=hft b q1 q3
  rcases a1 with⟨a1,_⟩|⟨a1,_⟩
  ·have:=o.2 a1;omega
  ·omega
 have hac:=XI.2 ⟨Fb,VW⟩
 refine⟨L.map (xc c),(Qi X (by simp[S0])).2 ⟨hac,fun x hx=>?_⟩,fun i hi ha=>?_⟩
 ·have:x=0:=by simp only[List.length_singleton]at hx;omega
  subst this
  have hS:(S0 [1]).getD 0 []= [0]:=by simp[S0,Ob.pU]
  have ho:e7 c 0 (L.map (xc c))=(L.map (xc c)).map (DR c):=by
   have key: ∀t:List Step,(∀s∈t,DU c s)→e7 c 0 t=t.map (DR c):=by
    intro t
    induction t with
    |nil=>intro _;rfl
    |cons s t ih=>
     intro h
     have hr:=(h s (.head _)).eJ
     have:=gk s.call.toNat (by omega)
     unfold e7
     rw[if_pos (by rw[this];rfl),ih fun x hx=>h x (.tail _ hx)]
     rfl
   exact key _ Fb
  rw[hS,ho]
  show ∃s',Ob.run 1 [0] _=some s'
  refine Mw K hA hL L 0 0 hnd Nq (fun i hi=>hi) (fun k h1 _ h3=>(h3 h1).elim) (fun i hi=>?_) (.inl ⟨rfl,rfl⟩)
  obtain⟨h1,h2⟩:=(hL i).1 hi
  by_cases hk:(c.getD i Call.z).kind=1
  ·have:=(K.wr i h1 (zg i hi) hk).1;omega
  ·have hto:(c.getD i Call.z).aY≠ -1:=by
    unfold BW at h2
    rw[Bool.or_eq_true]at h2
    rcases h2 with h|h
    ·exact of_decide_eq_true h
    ·rw[Bool.and_eq_true,decide_eq_true_eq]at h;exact(hk h.2).elim
   rcases K.rd i h1 hto hk with⟨h,_⟩|⟨k,k1,k2,k3,k4,_⟩
   ·omega
   ·have:=(K.wr k k1 k2 k3).1;omega
 ·rw[List.nil_append]
  refine List.mem_map.2 ⟨xc c i,List.mem_map.2 ⟨i,(hL i).2 ⟨hi,?_⟩,rfl⟩,Int.toNat_natCast _⟩
  unfold BW
  rw[decide_eq_true ha];rfl
end Sr
namespace Sr
open Rl Hs
theorem Mx{c:List Call}(hA: ∀i,i < c.length→Ob.dz 1 (c.getD i Call.z).kind (c.getD i Call.z).arg): ∀(t:List Step) (v t0:Int) (s':List Int),0≤v→v≤1000→(∀s∈t,DU c s)→t.Pairwise (fun x y=>x.call≠y.call)→Ob.run 1 [v] (t.map (DR c))=some s'→
  ∃T:Nat→Int,(∀s∈t,t0≤T s.call.toNat∧((c.getD s.call.toNat Call.z).kind=1→t0 < T s.call.toNat∧s.res=0)∧((c.getD s.call.toNat Call.z).kind≠1→(T s.call.toNat=t0∧s.res=v)∨∃k∈t,(c.getD k.call.toNat Call.z).kind=1∧T k.call.toNat=T s.call.toNat∧(c.getD k.call.toNat Call.z).arg=s.res))∧
   t.Pairwise fun x y=>T x.call.toNat≤T y.call.toNat∧((c.getD y.call.toNat Call.z).kind=1→T x.call.toNat < T y.call.toNat)
 | [],_,t0,_,_,_,_,_,_=>⟨fun _=>t0,fun _ h=>(nomatch h),.nil⟩
 |s::t,v,t0,s',h0,h1,hin,Nq,hr=>by
  obtain⟨p1,p2⟩:=List.pairwise_cons.1 Nq
  have hs:=hin s (.head _)
  have Uh:=hA s.call.toNat (by have:=hs.eJ;omega)
  have XS:Ob.lS 1 [v]:= .inl ⟨.inl rfl,v,rfl,h0,h1⟩
  have hne: ∀x∈t,x.call.toNat≠s.call.toNat:=fun x hx e=>by
   have a:=hs.eJ
   have b:=(hin x (.tail _ hx)).eJ
   exact p1 x hx (by omega)
  simp only[List.map_cons,Ob.run,DR]at hr
  by_cases hk:(c.getD s.call.toNat Call.z).kind=1
  ·have DV:Ob.nx 1 [v] (c.getD s.call.toNat Call.z).kind (c.getD s.call.toNat Call.z).arg=some ([(c.getD s.call.toNat Call.z).arg],0):=by
    unfold Ob.nx;rw[if_pos ⟨XS,Uh⟩];unfold Ob.oA;rw[if_pos rfl,if_pos hk]
   rw[DV]at hr
   simp only at hr
   have hb:1≤(c.getD s.call.toNat Call.z).arg∧(c.getD s.call.toNat Call.z).arg≤1000:=Uh.2.2.2 (by omega)
   by_cases he:(0:Int)=s.res
   ·rw[if_pos he]at hr
    obtain⟨T,g1,g2⟩:=Mx hA t _ (t0+1) s' (by omega) hb.2 (fun x hx=>hin x (.tail _ hx)) p2 hr
    have hT: ∀x∈t,(if x.call.toNat=s.call.toNat then t0+1 else T x.call.toNat)=T x.call.toNat:=fun x hx=>if_neg (hne x hx)
    refine⟨fun i=>if i=s.call.toNat then t0+1 else T i,fun x hx=>?_,List.pairwise_cons.2 ⟨fun y hy=>?_,g2.imp_of_mem fun {x y} hx hy h=>?_⟩⟩
    ·rcases List.mem_cons.1 hx with rfl|hx
     ·dsimp only
      rw[if_pos rfl]
      exact⟨by omega,fun _=>⟨by omega,he.symm⟩,fun h=>(h hk).elim⟩
     ·dsimp only
      rw[hT x hx]
      obtain⟨a1,a2,a3⟩:=g1 x hx
      refine⟨by omega,fun h=>⟨by have:=(a2 h).1;omega,(a2 h).2⟩,fun h=>?_⟩
      rcases a3 h with⟨b1,b2⟩|⟨k,b1,b2,b3,b4⟩
      ·exact .inr ⟨s,.head _,hk,by rw[if_pos rfl,b1],b2.symm⟩
      ·exact .inr ⟨k,.tail _ b1,b2,by rw[hT k b1];exact b3,b4⟩
    ·dsimp only
     rw[if_pos rfl,hT y hy]
     obtain⟨a1,a2,_⟩:=g1 y hy
     exact⟨a1,fun h=>(a2 h).1⟩
    ·dsimp only
     rw[hT x hx,hT y hy];exact h
   ·rw[if_neg he]at hr;cases hr
  ·have DV:Ob.nx 1 [v] (c.getD s.call.toNat Call.z).kind (c.getD s.call.toNat Call.z).arg=some ([v],v):=by
    unfold Ob.nx;rw[if_pos ⟨XS,Uh⟩];unfold Ob.oA;rw[if_pos rfl,if_neg hk];rfl
   rw[DV]at hr
   simp only at hr
   by_cases he:v=s.res
   ·rw[if_pos he]at hr
    obtain⟨T,g1,g2⟩:=Mx hA t v t0 s' h0 h1 (fun x hx=>hin x (.tail _ hx)) p2 hr
    have hT: ∀x∈t,(if x.call.toNat=s.call.toNat then t0 else T x.call.toNat)=T x.call.toNat:=fun x hx=>if_neg (hne x hx)
    refine⟨fun i=>if i=s.call.toNat then t0 else T i,fun x hx=>?_,List.pairwise_cons.2 ⟨fun y hy=>?_,g2.imp_of_mem fun {x y} hx hy h=>?_⟩⟩
    ·rcases List.mem_cons.1 hx with rfl|hx
     ·dsimp only
      rw[if_pos rfl]
      exact⟨by omega,fun h=>(hk h).elim,fun _=> .inl ⟨rfl,he.symm⟩⟩
     ·dsimp only
      rw[hT x hx]
      obtain⟨a1,a2,a3⟩:=g1 x hx
      refine⟨a1,a2,fun h=>?_⟩
      rcases a3 h with h|⟨k,b1,b2,b3,b4⟩
      ·exact .inl h
      ·exact .inr ⟨k,.tail _ b1,b2,by rw[hT k b1];exact b3,b4⟩
    ·dsimp only
     rw[if_pos rfl,hT y hy]
     obtain⟨a1,a2,_⟩:=g1 y hy
     exact⟨a1,fun h=>(a2 h).1⟩
    ·dsimp only
     rw[hT x hx,hT y hy];exact h
   ·rw[if_neg he]at hr;cases hr
theorem aba{α:Type}{R:α→α→Prop}{t:List α}(hp:t.Pairwise R): ∀x∈t,∀y∈t,x=y∨R x y∨R y x:=by
 induction t with
 |nil=>intro x h;cases h
 |cons a t ih=>
  obtain⟨p1,p2⟩:=List.pairwise_cons.1 hp
  intro x hx y hy
  rcases List.mem_cons.1 hx with e1|h1<;>rcases List.mem_cons.1 hy with e2|h2
  ·exact .inl (e1.trans e2.symm)
  ·exact .inr (.inl (by rw[e1];exact p1 y h2))
  ·exact .inr (.inr (by rw[e2];exact p1 x h1))
  ·exact ih p2 x h1 y h2
end Sr
namespace Sr
open Rl Hs
theorem XT{N:Nat}{l:List Event}{k:Nat}{c:List Call}{op:List Int}(R:ex N [1] l k c op): ∀i,i < c.length→Ob.dz 1 (c.getD i Call.z).kind (c.getD i Call.z).arg:=by
 intro i hi
 have hA:=BU R hi
 have gk:=(R.wf.one i hi).aj
 have e:(c.getD i Call.z).aj.toNat=0:=by simp only[List.length_singleton]at gk;omega
 rw[e]at hA
 exact hA
theorem af_{N:Nat}{types:List Int}{l:List Event}{k:Nat}{c:List Call}{op:List Int}(R:ex N types l k c op): ∀i,i < c.length→(c.getD i Call.z).aY≠ -1→(c.getD i Call.z).from_≤(c.getD i Call.z).aY:=by
 intro i hi h
 rcases(R.wf.one i hi).tO with⟨h2,_⟩|⟨h2,_⟩
 ·exact(h h2).elim
 ·omega
end Sr
namespace Zo
open Hs
theorem ezr{N:Nat}(hN:5000 < N){l:List Event}{c:List Call}{op:List Int}{q:Bool×Int×Int×Int×Int}{tg:Nat→Bool}{T:Nat→Int}(ht:co N [1]=some 0)(hl:l.length≤200)(R:ex N [1] l l.length c op)(K:Sr.RB c tg T)(hq:jL N l=some q)(h0:q.2.2.2.2=0):true=q.1:=by
 obtain⟨r,hr,h⟩:=vV (by omega:300 < N) l
 rw[hq]at hr
 cases hr
 rcases h with⟨h,_⟩|⟨_,_,_,c',op',R',D,h1,h2⟩
 ·exact absurd h0 h
 ·have e:=nN (by omega:300 < N) ht hl R
  rw[nN (by omega:300 < N) ht hl R']at e
  obtain rfl:c'=c:=(Prod.mk.inj (Option.some.inj e)).1
  rw[h1,decide_eq_true (h2.good.2 (adl (aa5 hl R) D (ahI R) (tg:=tg) (T:=T) ⟨K.dn,K.ord,K.G6,K.wr,K.rd⟩))]
end Zo
end Go.Proofs.YtjdkkabcenohcaaGreatDoor
