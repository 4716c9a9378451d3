/- Zones and the search. -/
import Derived.Test.YtjdkkabcenohcaaGreatDoorP10
set_option linter.unusedVariables false
set_option linter.unusedSimpArgs false
set_option linter.unusedSectionVars false
set_option maxRecDepth 100000
namespace Go.Proofs.YtjdkkabcenohcaaGreatDoor
open Go.RowKit
namespace Zo
open Hs
structure Rk(c:List Call)(tg:Nat→Bool)(T:Nat→Int):Prop where
 dn: ∀i,i < c.length→(c.getD i Call.z).au≠ -1→tg i=true
 ord: ∀a b,a < c.length→b < c.length→(c.getD a Call.z).au≠ -1→(c.getD a Call.z).au < (c.getD b Call.z).from_→tg b=true→T a≤T b∧((c.getD b Call.z).kind=1→T a < T b)
 LU: ∀a b,a < c.length→b < c.length→tg a=true→tg b=true→(c.getD a Call.z).kind=1→(c.getD b Call.z).kind=1→T a=T b→a=b
 wr: ∀i,i < c.length→tg i=true→(c.getD i Call.z).kind=1→0 < T i∧((c.getD i Call.z).au≠ -1→(c.getD i Call.z).res=0)
 rd: ∀i,i < c.length→(c.getD i Call.z).au≠ -1→(c.getD i Call.z).kind≠1→(T i=0∧(c.getD i Call.z).res=0)∨∃k,k < c.length∧tg k=true∧(c.getD k Call.z).kind=1∧T k=T i∧(c.getD k Call.z).arg=(c.getD i Call.z).res
structure Kn(c:List Call):Prop where
 kind: ∀i,i < c.length→(c.getD i Call.z).kind=1∨(c.getD i Call.z).kind=2
 aav: ∀i,i < c.length→(c.getD i Call.z).kind=1→(c.getD i Call.z).au≠ -1→(c.getD i Call.z).res=0
 abZ: ∀i,i < c.length→ep (c.getD i Call.z)=true→0≤(c.getD i Call.z).res∧(c.getD i Call.z).res≤1000
 ne: ∀i j,i < c.length→j < c.length→(c.getD i Call.z).au≠ -1→(c.getD i Call.z).au≠(c.getD j Call.z).from_
 nf: ∀i j,i < c.length→j < c.length→(c.getD i Call.z).from_=(c.getD j Call.z).from_→i=j
 nt: ∀i j,i < c.length→j < c.length→(c.getD i Call.z).au≠ -1→(c.getD i Call.z).au=(c.getD j Call.z).au→i=j
section
variable {c:List Call}
theorem Sf{x:Call}(hk:x.kind≠1)(h:x.kind=1∨x.kind=2)(ht:x.au≠ -1):ep x=true:=cz.2 ⟨h.resolve_left hk,ht⟩
theorem Sg(W:Wc c)(D:lV c)(N:Kn c){tg:Nat→Bool}{T:Nat→Int}(K:Rk c tg T):Good c:=by
 have rv: ∀i j,i < c.length→j < c.length→ep (c.getD i Call.z)=true→(c.getD j Call.z).kind=1→(c.getD j Call.z).arg=(c.getD i Call.z).res→tg j=true∧T j=T i:=by
  intro i j hi hj h1 h2 h3
  have h1':=cz.1 h1
  rcases K.rd i hi h1'.2 (by omega)with⟨h4,h5⟩|⟨k,k1,k2,k3,k4,k5⟩
  ·have:=W.pos j hj h2;omega
  ·have:k=j:=mg D k1 hj k3 h2 (k5.trans h3.symm)
   subst this;exact⟨k2,k4⟩
 have one: ∀v i j,i < c.length→j < c.length→mu v (c.getD i Call.z)→mu v (c.getD j Call.z)→(tg i=true∨ep (c.getD i Call.z)=true)→(tg j=true∨ep (c.getD j Call.z)=true)→T i=T j:=by
  intro v i j hi hj h1 h2 t1 t2
  rcases h1 with⟨a1,a2⟩|⟨a1,a2⟩
  ·rcases h2 with⟨b1,b2⟩|⟨b1,b2⟩
   ·have:i=j:=mg D hi hj a1 b1 (a2.trans b2.symm)
    rw[this]
   ·exact(rv j i hj hi b1 a1 (a2.trans b2.symm)).2
  ·rcases h2 with⟨b1,b2⟩|⟨b1,b2⟩
   ·exact(rv i j hi hj a1 b1 (b2.trans a2.symm)).2.symm
   ·have a3:=cz.1 a1
    have b3:=cz.1 b1
    rcases K.rd i hi a3.2 (by omega)with⟨h4,h5⟩|⟨k,k1,k2,k3,k4,k5⟩
    ·rcases K.rd j hj b3.2 (by omega)with⟨h6,h7⟩|⟨k,k1,k2,k3,k4,k5⟩
     ·omega
     ·have:=W.pos k k1 k3;omega
    ·rw[←k4]
     exact(rv j k hj k1 b1 k3 (by omega)).2
 have aaw: ∀v i,i < c.length→mu v (c.getD i Call.z)→sR c v→tg i=true∨ep (c.getD i Call.z)=true:=by
  intro v i hi h1 ⟨j,hj,h2,h3⟩
  rcases h1 with⟨a1,a2⟩|⟨a1,a2⟩
  ·rcases h2 with⟨b1,b2⟩|⟨b1,b2⟩
   ·have:i=j:=mg D hi hj a1 b1 (a2.trans b2.symm)
    subst this;exact .inl (K.dn i hi h3)
   ·exact .inl (rv j i hj hi b1 a1 (a2.trans b2.symm)).1
  ·exact .inr a1
 have tgr: ∀i,i < c.length→(tg i=true∨ep (c.getD i Call.z)=true)→tg i=true:=fun i hi h=>h.elim id fun h=>K.dn i hi (cz.1 h).2
 have neq: ∀a b i j,a≠b→i < c.length→j < c.length→mu a (c.getD i Call.z)→mu b (c.getD j Call.z)→tg i=true→tg j=true→((c.getD i Call.z).kind≠1→ep (c.getD i Call.z)=true)→((c.getD j Call.z).kind≠1→ep (c.getD j Call.z)=true)→T i≠T j:=by
  intro a b i j hab hi hj h1 h2 t1 t2 r1 r2 e
  have src: ∀v i,i < c.length→mu v (c.getD i Call.z)→tg i=true→(v=0∧T i=0)∨∃k,k < c.length∧tg k=true∧(c.getD k Call.z).kind=1∧T k=T i∧(c.getD k Call.z).arg=v:=by
   intro v i hi h t
   rcases h with⟨a1,a2⟩|⟨a1,a2⟩
   ·exact .inr ⟨i,hi,t,a1,rfl,a2⟩
   ·have a3:=cz.1 a1
    rcases K.rd i hi a3.2 (by omega)with⟨h4,h5⟩|⟨k,k1,k2,k3,k4,k5⟩
    ·exact .inl ⟨by omega,h4⟩
    ·exact .inr ⟨k,k1,k2,k3,k4,k5.trans a2⟩
  rcases src a i hi h1 t1 with⟨p1,p2⟩|⟨k,k1,k2,k3,k4,k5⟩
  ·rcases src b j hj h2 t2 with⟨q1,q2⟩|⟨l,l1,l2,l3,l4,l5⟩
   ·omega
   ·have:=(K.wr l l1 l2 l3).1;omega
  ·rcases src b j hj h2 t2 with⟨q1,q2⟩|⟨l,l1,l2,l3,l4,l5⟩
   ·have:=(K.wr k k1 k2 k3).1;omega
   ·have:=K.LU k l k1 l1 k2 l2 k3 l3 (by omega)
    subst this
    exact hab (k5.symm.trans l5)
 refine⟨fun i hi h1=>?_,fun i j hi hj h1 h2 h3 h4=>?_,fun a b hab va vb ca cb haa ⟨aax,aay⟩=>?_⟩
 ·have h1':=cz.1 h1
  rcases K.rd i hi h1'.2 (by omega)with⟨h4,h5⟩|⟨k,k1,k2,k3,k4,k5⟩
  ·exact .inl h5
  ·exact .inr ⟨k,k1,k3,k5⟩
 ·obtain⟨t,e⟩:=rv i j hi hj h1 h2 h3
  have:=(K.ord i j hi hj (cz.1 h1).2 h4 t).2 h2
  omega
 ·
  have less: ∀a b,a≠b→sR c a→sR c b→Ah c a b→∃i j,i < c.length∧j < c.length∧mu b (c.getD j Call.z)∧tg j=true∧((a=0∧0 < T j)∨(mu a (c.getD i Call.z)∧tg i=true∧T i < T j)):=by
   intro a b hab ca cb ⟨j,hj,h1,h2⟩
   have tj:=tgr j hj (aaw b j hj h1 cb)
   have rj:(c.getD j Call.z).kind≠1→ep (c.getD j Call.z)=true:=fun h=>h1.elim (fun g=>(h g.1).elim) fun g=>g.1
   rcases h2 with h2|⟨i,hi,h3,h4,h5⟩
   ·refine⟨j,j,hj,hj,h1,tj,.inl ⟨h2,?_⟩⟩
    by_cases hk:(c.getD j Call.z).kind=1
    ·exact(K.wr j hj tj hk).1
    ·have hr:=cz.1 (rj hk)
     rcases K.rd j hj hr.2 hk with⟨_,h6⟩|⟨k,k1,k2,k3,k4,k5⟩
     ·rcases h1 with⟨g,_⟩|⟨_,g⟩
      ·exact(hk g).elim
      ·omega
     ·have:=(K.wr k k1 k2 k3).1;omega
   ·have ti:=K.dn i hi h4
    have ri:(c.getD i Call.z).kind≠1→ep (c.getD i Call.z)=true:=fun h=>h3.elim (fun g=>(h g.1).elim) fun g=>g.1
    have o:=(K.ord i j hi hj h4 h5 tj).1
    have n:=neq a b i j hab hi hj h3 h1 ti tj ri rj
    exact⟨i,j,hi,hj,h1,tj,.inr ⟨h3,ti,by omega⟩⟩
  obtain⟨i,j,hi,hj,p1,p2,p3⟩:=less a b hab ca cb aax
  obtain⟨i2,j2,hi2,hj2,q1,q2,q3⟩:=less b a (Ne.symm hab) cb ca aay
  rcases p3 with⟨p3,p4⟩|⟨p3,p4,p5⟩
  ·rcases q3 with⟨q3,q4⟩|⟨q3,q4,q5⟩
   ·omega
   ·
    have e:=one b j i2 hj hi2 p1 q3 (.inl p2) (.inl q4)
    have hk:(c.getD j2 Call.z).kind≠1:=fun hk=>by
     rcases q1 with⟨g1,g2⟩|⟨g1,g2⟩
     ·have:=W.pos j2 hj2 g1;omega
     ·have:=(cz.1 g1).1;omega
    rcases q1 with⟨g1,g2⟩|⟨g1,g2⟩
    ·exact hk g1
    ·rcases K.rd j2 hj2 (cz.1 g1).2 hk with⟨h6,_⟩|⟨k,k1,k2,k3,k4,k5⟩
     ·omega
     ·have:=W.pos k k1 k3;omega
  ·rcases q3 with⟨q3,q4⟩|⟨q3,q4,q5⟩
   ·have e:=one a i j2 hi hj2 p3 q1 (.inl p4) (.inl q2)
    have hk:(c.getD j Call.z).kind≠1:=fun hk=>by
     rcases p1 with⟨g1,g2⟩|⟨g1,g2⟩
     ·have:=W.pos j hj g1;omega
     ·have:=(cz.1 g1).1;omega
    rcases p1 with⟨g1,g2⟩|⟨g1,g2⟩
    ·exact hk g1
    ·rcases K.rd j hj (cz.1 g1).2 hk with⟨h6,_⟩|⟨k,k1,k2,k3,k4,k5⟩
     ·omega
     ·have:=W.pos k k1 k3;omega
   ·have e1:=one a i j2 hi hj2 p3 q1 (.inl p4) (.inl q2)
    have e2:=one b j i2 hj hi2 p1 q3 (.inl p2) (.inl q4)
    omega
end
end Zo
namespace Zo
open Hs
theorem aaz{k:Int}(h:sJ k=1):k=1∨k=2:=by
 unfold sJ at h
 by_cases h1:k=1∨k=2
 ·exact h1
 ·rw[if_neg h1]at h
  exfalso
  revert h
  split
  ·decide
  ·split
   ·decide
   ·split
    ·decide
    ·split<;>decide
theorem PF{N:Nat}{l:List Event}{c:List Call}{op:List Int}{n:Nat}(R:cn N [1] l n c op):Kn c:=by
 have W:=R.wf
 have hk: ∀i,i < c.length→(c.getD i Call.z).kind=1∨(c.getD i Call.z).kind=2:=fun i hi=>by
  have O:=W.one i hi
  have ew:=O.aB
  simp only[List.length_singleton]at ew
  have e:(c.getD i Call.z).aB.toNat=0:=by omega
  have h2:=O.fit.2
  rw[e]at h2
  exact aaz h2
 refine⟨hk,fun i hi h1 h2=>?_,fun i hi h1=>?_,fun i j hi hj h1 e=>?_,fun i j hi hj e=>?_,fun i j hi hj h1 e=>?_⟩
 ·have:=(Sr.pY R i hi).2 h2
  rw[h1]at this
  have e:cp N 1 (c.getD i Call.z).res=some (decide ((c.getD i Call.z).res=0)):=rfl
  rw[e]at this
  simpa using this
 ·have h2:=cz.1 h1
  have:=(Sr.pY R i hi).2 h2.2
  rw[h2.1]at this
  have e:cp N 2 (c.getD i Call.z).res=some ((decide (0≤(c.getD i Call.z).res))&&(decide ((c.getD i Call.z).res≤1000))):=rfl
  rw[e]at this
  simpa using this
 ·have h2:=(W.one i hi).TG h1
  have h3:=(W.one j hj).OU
  rw[e,h3.1]at h2
  have:(c.getD j Call.z).kind=0:=congrArg (·.kind) h2
  exact h3.2 this
 ·rcases Nat.lt_trichotomy i j with h|h|h
  ·have:=(W.two i j h hj).fr;omega
  ·exact h
  ·have:=(W.two j i h hi).fr;omega
 ·rcases Nat.lt_trichotomy i j with h|h|h
  ·exact((W.two i j h hj).tO h1 e).elim
  ·exact h
  ·exact((W.two j i h hi).tO (by omega) e.symm).elim
section
variable {c:List Call}
def vl(x:Call):Int:=if x.kind=1 then x.arg else x.res
theorem PG{x:Call}(h:x.kind=1∨ep x=true):mu (vl x) x:=by
 unfold vl mu
 by_cases h1:x.kind=1
 ·rw[if_pos h1];exact .inl ⟨h1,rfl⟩
 ·rw[if_neg h1];exact .inr ⟨h.resolve_left h1,rfl⟩
theorem PH{v:Int}{x:Call}(h:mu v x):v=vl x:=by
 unfold vl
 rcases h with⟨a,b⟩|⟨a,b⟩
 ·rw[if_pos a];exact b.symm
 ·rw[if_neg (by rw[(cz.1 a).1];decide)];exact b.symm
open Classical in
noncomputable def ID(c:List Call)(i:Nat):Bool:=decide (ep (c.getD i Call.z)=true∨((c.getD i Call.z).kind=1∧sR c (c.getD i Call.z).arg))
open Classical in
noncomputable def pz(K:List aa)(v:Int):Int:=match K.find? (fun y=>decide (y.value=v))with
 |some y=>min y.aq.first y.aq.last+1
 |none=>0
theorem Er{K:List aa}(C:jp c K){y:aa}(hy:y∈K):pz K y.value=min y.aq.first y.aq.last+1:=by
 unfold pz
 cases h:K.find? (fun x=>decide (x.value=y.value))with
 |none=>
  have:=List.find?_eq_none.1 h y hy
  simp at this
 |some x=>
  have h1:=List.find?_some h
  have h2:=List.mem_of_find?_eq_some h
  have:x=y:=xw C.Lo x h2 y hy (of_decide_eq_true h1)
  rw[this]
open Classical in
theorem Si(W:Wc c)(D:lV c)(N:Kn c)(G:Good c): ∃tg T,Rk c tg T:=by
 obtain⟨K,_,C⟩:=DD (N:=301) (by decide) W.BH D W.pos
 have IE: ∀i,i < c.length→ID c i=true→mu (vl (c.getD i Call.z)) (c.getD i Call.z)∧mO c (vl (c.getD i Call.z))∧sR c (vl (c.getD i Call.z)):=by
  intro i hi h
  unfold ID at h
  rcases of_decide_eq_true h with h|⟨h1,h2⟩
  ·have hin:=PG (x:=c.getD i Call.z) (.inr h)
   have e:vl (c.getD i Call.z)=(c.getD i Call.z).res:=by unfold vl;rw[if_neg (by rw[(cz.1 h).1];decide)]
   exact⟨hin,by rw[e];exact G.JB i hi h,⟨i,hi,hin,(cz.1 h).2⟩⟩
  ·have e:vl (c.getD i Call.z)=(c.getD i Call.z).arg:=by unfold vl;rw[if_pos h1]
   exact⟨PG (.inl h1),by rw[e];exact .inr ⟨i,hi,h1,rfl⟩,by rw[e];exact h2⟩
 have dn: ∀i,i < c.length→(c.getD i Call.z).au≠ -1→ID c i=true:=by
  intro i hi h
  unfold ID
  refine decide_eq_true ?_
  rcases N.kind i hi with h1|h1
  ·exact .inr ⟨h1,i,hi,.inl ⟨h1,rfl⟩,h⟩
  ·exact .inl (cz.2 ⟨h1,h⟩)
 have at_: ∀v,v≠0→mO c v→sR c v→(∃i,i < c.length∧mu v (c.getD i Call.z)∧(c.getD i Call.z).au≠ -1∧pz K v=(c.getD i Call.z).au+1)∨(∃j,j < c.length∧mu v (c.getD j Call.z)∧pz K v=(c.getD j Call.z).from_+1):=by
  intro v h0 hv hc
  obtain⟨y,hy,rfl⟩:=rM C hv
  rw[Er C hy]
  obtain⟨l1,l2⟩:=uK W D C hy
  obtain⟨q,hq,hqi,_⟩:=hc
  have Yp:=l2 q hq hqi
  have Yq:=W.fr q hq
  rcases Int.lt_or_le y.aq.first y.aq.last with h|h
  ·left
   have hlu:y.aq.last < 200:=by
    rcases l1 with l1|⟨j,a,b,e⟩
    ·omega
    ·have:=W.fr j a;omega
   have hf0:0≤y.aq.first:=by
    apply Classical.byContradiction
    intro hneg
    rcases(kL W D C hy (t:=0) (by omega) (by omega)).1 (by omega)with g|⟨i,a,b,d,e⟩
    ·exact h0 g
    ·have:=W.tO i a d;have:=W.fr i a;omega
   rcases(kL W D C hy (t:=y.aq.first+1) (by omega) (by omega)).1 (by omega)with g|⟨i,a,b,d,e⟩
   ·exact(h0 g).elim
   ·refine⟨i,a,b,d,?_⟩
    have hti:=W.tO i a d
    have:=(kL W D C hy (t:=(c.getD i Call.z).au+1) (by have:=W.fr i a;omega) (by omega)).2 (.inr ⟨i,a,b,d,by omega⟩)
    rw[Int.min_eq_left (by omega)];omega
  ·right
   rcases l1 with l1|⟨j,a,b,e⟩
   ·omega
   ·exact⟨j,a,b,by rw[Int.min_eq_right h,e]⟩
 have zero:mO c 0→sR c 0→pz K 0=0:=by
  intro hv hc
  obtain⟨y,hy,e⟩:=rM C hv
  rw[←e,Er C hy]
  have h1:=(kL W D C hy (t:=0) (by omega) (by omega)).2 (.inl e)
  have h2:=Gl W C hy
  obtain⟨q,hq,hqi,_⟩:=hc
  have Yp:=(uK W D C hy).2 q hq (by rw[e];exact hqi)
  have Yq:=W.fr q hq
  rw[Int.min_eq_left (by omega)];omega
 have less: ∀a b,a≠b→mO c a→mO c b→sR c a→sR c b→Ah c a b→pz K a < pz K b:=by
  intro a b hab va vb ca cb hA
  obtain⟨x,hx,rfl⟩:=rM C va
  obtain⟨y,hy,rfl⟩:=rM C vb
  rw[Er C hx,Er C hy]
  have h1:=(rN W D C hx hy).2 hA
  have h2:=rN W D C hy hx
  have fx:=rN W D C hx hx
  have fy:=rN W D C hy hy
  have g1:=G.aq _ _ hab va vb ca cb
  have g2:=G.aq _ _ (Ne.symm hab) vb va cb ca
  rcases Int.lt_or_le x.aq.first x.aq.last with VX|VX
  ·have hba: ¬y.aq.first < x.aq.last:=fun h=>g1 (fx.1 VX) ⟨hA,h2.1 h⟩
   rw[Int.min_eq_left (by omega)]
   rcases Int.lt_or_le y.aq.first y.aq.last with IG|IG
   ·rw[Int.min_eq_left (by omega)];omega
   ·rw[Int.min_eq_right IG];omega
  ·rw[Int.min_eq_right VX]
   rcases Int.lt_or_le y.aq.first y.aq.last with IG|IG
   ·have hba: ¬y.aq.first < x.aq.last:=fun h=>g2 (fy.1 IG) ⟨h2.1 h,hA⟩
    rw[Int.min_eq_left (by omega)]
    have hne:x.aq.last≠y.aq.first:=by
     intro e
     obtain⟨q,hq,hqi,_⟩:=ca
     have Yp:=(uK W D C hx).2 q hq hqi
     have Yq:=W.fr q hq
     rcases(uK W D C hx).1 with l1|⟨j,a,b,ej⟩
     ·omega
     ·by_cases hy0:y.value=0
      ·have:=(kL W D C hy (t:=0) (by omega) (by omega)).2 (.inl hy0)
       omega
      ·have hjf:=W.fr j a
       rcases(kL W D C hy (t:=y.aq.first+1) (by omega) (by omega)).1 (by omega)with g|⟨i,a2,b2,d2,e2⟩
       ·exact hy0 g
       ·have hti:=W.tO i a2 d2
        have:=(kL W D C hy (t:=(c.getD i Call.z).au+1) (by have:=W.fr i a2;omega) (by omega)).2 (.inr ⟨i,a2,b2,d2,by omega⟩)
        exact N.ne i j a2 a d2 (by omega)
    omega
   ·rw[Int.min_eq_right IG];omega
 refine⟨ID c,fun i=>pz K (vl (c.getD i Call.z)),dn,fun a b ha hb h1 h2 h3=>?_,fun a b ha hb h1 h2 k1 k2 e=>?_,fun i hi h1 h2=>?_,fun i hi h1 h2=>?_⟩
 ·obtain⟨a1,a2,a3⟩:=IE a ha (dn a ha h1)
  obtain⟨b1,b2,b3⟩:=IE b hb h3
  by_cases e:vl (c.getD a Call.z)=vl (c.getD b Call.z)
  ·rw[e]
   refine⟨Int.le_refl _,fun hk=>?_⟩
   exfalso
   have hto:=W.tO a ha h1
   have eb:vl (c.getD b Call.z)=(c.getD b Call.z).arg:=by unfold vl;rw[if_pos hk]
   rcases N.kind a ha with ka|ka
   ·have ea:vl (c.getD a Call.z)=(c.getD a Call.z).arg:=by unfold vl;rw[if_pos ka]
    have:a=b:=mg D ha hb ka hk (by omega)
    subst this;omega
   ·have ea:vl (c.getD a Call.z)=(c.getD a Call.z).res:=by unfold vl;rw[if_neg (by omega)]
    exact G.early a b ha hb (cz.2 ⟨ka,h1⟩) hk (by omega) h2
  ·have:=less _ _ e a2 b2 a3 b3 ⟨b,hb,b1,.inr ⟨a,ha,a1,h1,h2⟩⟩
   exact⟨by omega,fun _=>this⟩
 ·obtain⟨a1,a2,a3⟩:=IE a ha h1
  obtain⟨b1,b2,b3⟩:=IE b hb h2
  have ea:vl (c.getD a Call.z)=(c.getD a Call.z).arg:=by unfold vl;rw[if_pos k1]
  have eb:vl (c.getD b Call.z)=(c.getD b Call.z).arg:=by unfold vl;rw[if_pos k2]
  have pa:=W.pos a ha k1
  have pb:=W.pos b hb k2
  have e:pz K (vl (c.getD a Call.z))=pz K (vl (c.getD b Call.z)):=e
  have same: ∀i,mu (vl (c.getD a Call.z)) (c.getD i Call.z)→mu (vl (c.getD b Call.z)) (c.getD i Call.z)→a=b:=fun i g1 g2=>mg D ha hb k1 k2 (by have:=PH g1;have:=PH g2;omega)
  rcases at_ _ (by omega) a2 a3 with⟨i,i1,i2,i3,i4⟩|⟨i,i1,i2,i4⟩
  ·rcases at_ _ (by omega) b2 b3 with⟨j,j1,j2,j3,j4⟩|⟨j,j1,j2,j4⟩
   ·have:=N.nt i j i1 j1 i3 (by omega)
    subst this;exact same i i2 j2
   ·exact(N.ne i j i1 j1 i3 (by omega)).elim
  ·rcases at_ _ (by omega) b2 b3 with⟨j,j1,j2,j3,j4⟩|⟨j,j1,j2,j4⟩
   ·exact(N.ne j i j1 i1 j3 (by omega)).elim
   ·have:=N.nf i j i1 j1 (by omega)
    subst this;exact same i i2 j2
 ·obtain⟨a1,a2,a3⟩:=IE i hi h1
  have ei:vl (c.getD i Call.z)=(c.getD i Call.z).arg:=by unfold vl;rw[if_pos h2]
  have:=W.pos i hi h2
  refine⟨?_,N.aav i hi h2⟩
  show 0 < pz K (vl (c.getD i Call.z))
  rcases at_ _ (by omega) a2 a3 with⟨j,i1,i2,i3,i4⟩|⟨j,i1,i2,i4⟩
  ·have:=W.tO j i1 i3;have:=W.fr j i1;omega
  ·have:=W.fr j i1;omega
 ·have hr:ep (c.getD i Call.z)=true:=Sf h2 (N.kind i hi) h1
  obtain⟨a1,a2,a3⟩:=IE i hi (dn i hi h1)
  have ei:vl (c.getD i Call.z)=(c.getD i Call.z).res:=by unfold vl;rw[if_neg h2]
  rcases G.JB i hi hr with h|⟨k,k1,k2,k3⟩
  ·left
   refine⟨?_,h⟩
   show pz K (vl (c.getD i Call.z))=0
   rw[ei]at a2 a3⊢
   rw[h]at a2 a3⊢
   exact zero a2 a3
  ·right
   have ek:vl (c.getD k Call.z)=(c.getD k Call.z).arg:=by unfold vl;rw[if_pos k2]
   refine⟨k,k1,?_,k2,?_,k3⟩
   ·unfold ID
    refine decide_eq_true (.inr ⟨k2,?_⟩)
    rw[k3,←ei];exact a3
   ·show pz K (vl (c.getD k Call.z))=pz K (vl (c.getD i Call.z))
    rw[ek,ei,k3]
end
end Zo
namespace Sr
open Rl Hs
structure GT(c:List Call)(tg:Nat→Bool)(T:Nat→Int):Prop where
 dn: ∀i,i < c.length→(c.getD i Call.z).au≠ -1→tg i=true
 ord: ∀a b,a < c.length→b < c.length→(c.getD a Call.z).au≠ -1→(c.getD a Call.z).au < (c.getD b Call.z).from_→tg b=true→T a≤T b∧((c.getD b Call.z).kind=1→T a < T b)
 LU: ∀a b,a < c.length→b < c.length→tg a=true→tg b=true→(c.getD a Call.z).kind=1→(c.getD b Call.z).kind=1→T a=T b→a=b
 wr: ∀i,i < c.length→tg i=true→(c.getD i Call.z).kind=1→0 < T i∧((c.getD i Call.z).au≠ -1→(c.getD i Call.z).res=0)
 rd: ∀i,i < c.length→(c.getD i Call.z).au≠ -1→(c.getD i Call.z).kind≠1→(T i=0∧(c.getD i Call.z).res=0)∨∃k,k < c.length∧tg k=true∧(c.getD k Call.z).kind=1∧T k=T i∧(c.getD k Call.z).arg=(c.getD i Call.z).res
def se(c:List Call)(tg:Nat→Bool)(i:Nat):Bool:=decide ((c.getD i Call.z).au≠ -1)||(tg i&&decide ((c.getD i Call.z).kind=1))
def kR(c:List Call)(i:Nat):Int:=if(c.getD i Call.z).kind=1 then 0 else 1
def zG(c:List Call)(T:Nat→Int)(i j:Nat):Prop:=T i < T j∨(T i=T j∧(kR c i < kR c j∨(kR c i=kR c j∧(c.getD i Call.z).from_≤(c.getD j Call.z).from_)))
instance(c:List Call)(T:Nat→Int)(i j:Nat):Decidable (zG c T i j):=by unfold zG;infer_instance
def oI(c:List Call)(i:Nat):Step:=⟨(i:Int),if(c.getD i Call.z).kind=1 then 0 else(c.getD i Call.z).res⟩
def DR(c:List Call)(s:Step):Do:=⟨(c.getD s.call.toNat Call.z).kind,(c.getD s.call.toNat Call.z).arg,s.res⟩
theorem J1(c:List Call)(i:Nat):((c.getD i Call.z).kind=1∧kR c i=0)∨((c.getD i Call.z).kind≠1∧kR c i=1):=by
 unfold kR
 by_cases h:(c.getD i Call.z).kind=1
 ·exact .inl ⟨h,if_pos h⟩
 ·exact .inr ⟨h,if_neg h⟩
theorem C3{c:List Call}{tg:Nat→Bool}{T:Nat→Int}(K:GT c tg T)(hA: ∀i,i < c.length→Ob.eJ 1 (c.getD i Call.z).kind (c.getD i Call.z).arg){L:List Nat}(hL: ∀i,i∈L↔i < c.length∧se c tg i=true): ∀(B:List Nat) (v t0:Int),B.Nodup→B.Pairwise (zG c T)→(∀i∈B,i∈L)→(∀k∈L,(c.getD k Call.z).kind=1→k∉B→T k≤t0)→(∀x∈B,t0≤T x)→
  ((t0=0∧v=0)∨∃k,k < c.length∧tg k=true∧(c.getD k Call.z).kind=1∧T k=t0∧(c.getD k Call.z).arg=v)→∃s',Ob.run 1 [v] ((B.map (oI c)).map (DR c))=some s'
 | [],v,_,_,_,_,_,_,_=>⟨[v],rfl⟩
 |i::B,v,t0,hnd,IH,hm,hk,ht,hv=>by
  obtain⟨p1,p2⟩:=List.pairwise_cons.1 IH
  obtain⟨d1,d2⟩:=List.nodup_cons.1 hnd
  obtain⟨hi,hsel⟩:=(hL i).1 (hm i (.head _))
  have II:=hA i hi
  have aaA: ∀k,k < c.length→(c.getD k Call.z).kind=1→1≤(c.getD k Call.z).arg∧(c.getD k Call.z).arg≤1000:=fun k hk h1=>by
   have:=(hA k hk).2.2.2 (by omega)
   exact this
  have LV:Ob.iL 1 [v]:=by
   refine .inl ⟨.inl rfl,v,rfl,?_⟩
   rcases hv with⟨_,rfl⟩|⟨k,k1,_,k3,_,rfl⟩
   ·exact⟨by decide,by decide⟩
   ·have:=aaA k k1 k3;omega
  have ht0:=ht i (.head _)
  have e:DR c (oI c i)=⟨(c.getD i Call.z).kind,(c.getD i Call.z).arg,(oI c i).res⟩:=by unfold DR oI;simp only[Int.toNat_natCast]
  have hle: ∀x∈B,T i≤T x:=fun x hx=>by
   have:=p1 x hx
   unfold zG at this;omega
  simp only[List.map_cons,Ob.run,e]
  by_cases hw:(c.getD i Call.z).kind=1
  ·have B2:Ob.nx 1 [v] (c.getD i Call.z).kind (c.getD i Call.z).arg=some ([(c.getD i Call.z).arg],0):=by
    unfold Ob.nx;rw[if_pos ⟨LV,II⟩];unfold Ob.iH;rw[if_pos rfl,if_pos hw]
   have hres:(oI c i).res=0:=by unfold oI;simp only;rw[if_pos hw]
   rw[B2,hres]
   simp only[if_true]
   have LW:tg i=true:=by
    unfold se at hsel
    rw[Bool.or_eq_true]at hsel
    rcases hsel with h|h
    ·exact K.dn i hi (of_decide_eq_true h)
    ·rw[Bool.and_eq_true]at h;exact h.1
   refine C3 K hA hL B _ (T i) d2 p2 (fun x hx=>hm x (.tail _ hx)) (fun k jT hk2 LS=>?_) hle (.inr ⟨i,hi,LW,hw,rfl,rfl⟩)
   by_cases e2:k=i
   ·subst e2;exact Int.le_refl _
   ·have:=hk k jT hk2 (fun h=>by
     rcases List.mem_cons.1 h with h|h
     ·exact e2 h
     ·exact LS h)
    omega
  ·have B2:Ob.nx 1 [v] (c.getD i Call.z).kind (c.getD i Call.z).arg=some ([v],v):=by
    unfold Ob.nx;rw[if_pos ⟨LV,II⟩];unfold Ob.iH;rw[if_pos rfl,if_neg hw];rfl
   have hres:(oI c i).res=(c.getD i Call.z).res:=by unfold oI;simp only;rw[if_neg hw]
   have hto:(c.getD i Call.z).au≠ -1:=by
    unfold se at hsel
    rw[Bool.or_eq_true]at hsel
    rcases hsel with h|h
    ·exact of_decide_eq_true h
    ·rw[Bool.and_eq_true,decide_eq_true_eq]at h;exact(hw h.2).elim
   have hval:v=(c.getD i Call.z).res:=by
    rcases K.rd i hi hto hw with⟨h1,h2⟩|⟨k,k1,k2,k3,k4,k5⟩
    ·rcases hv with⟨_,h4⟩|⟨k,k1,k2,k3,k4,k5⟩
     ·rw[h4,h2]
     ·have:=(K.wr k k1 k2 k3).1;omega
    ·have hkL:k∈L:=(hL k).2 ⟨k1,by unfold se;rw[k2,decide_eq_true k3];simp⟩
     have hkB:k∉i::B:=by
      intro h
      rcases List.mem_cons.1 h with h|h
      ·subst h;exact hw k3
      ·have:=p1 k h
       unfold zG at this
       have a1:=J1 c i
       have a2:=J1 c k
       omega
     have h3:=hk k hkL k3 hkB
     have h4:=(K.wr k k1 k2 k3).1
     rcases hv with⟨h5,_⟩|⟨k',l1,l2,l3,l4,l5⟩
     ·omega
     ·have:=K.LU k' k l1 k1 l2 k2 l3 k3 (by omega)
      subst this
      rw[←l5,k5]
   rw[B2,hres]
   simp only
   rw[if_pos hval]
   refine C3 K hA hL B v t0 d2 p2 (fun x hx=>hm x (.tail _ hx)) (fun k jT hk2 LS=>hk k jT hk2 fun h=>?_) (fun x hx=>by have:=hle x hx;omega) hv
   rcases List.mem_cons.1 h with h|h
   ·subst h;exact hw hk2
   ·exact LS h
theorem Sj{c:List Call}{rel:Rel}(X:Cx [1] c rel (cO c))(hA: ∀i,i < c.length→Ob.eJ 1 (c.getD i Call.z).kind (c.getD i Call.z).arg)(hft: ∀i,i < c.length→(c.getD i Call.z).au≠ -1→(c.getD i Call.z).from_≤(c.getD i Call.z).au){tg:Nat→Bool}{T:Nat→Int}(K:GT c tg T): ∃t,Gd [1] c (cO c) (S0 [1]) [] t:=by
 have ew: ∀i,i < c.length→(c.getD i Call.z).aB=0:=fun i hi=>by
  have:=X.th i hi
  simp only[List.length_singleton]at this
  omega
 obtain⟨le,hle⟩: ∃le:Nat→Nat→Bool,le=fun a b=>decide (zG c T a b):=⟨_,rfl⟩
 have tr: ∀a b d,le a b=true→le b d=true→le a d=true:=by
  intro a b d;rw[hle];simp only[decide_eq_true_eq];unfold zG;omega
 have tot: ∀a b,(le a b||le b a)=true:=by
  intro a b;rw[hle];simp only[Bool.or_eq_true,decide_eq_true_eq];unfold zG;omega
 obtain⟨L,Yr⟩: ∃L,L=((List.range c.length).filter (se c tg)).mergeSort le:=⟨_,rfl⟩
 have sV:L.Perm ((List.range c.length).filter (se c tg)):=by rw[Yr];exact List.mergeSort_perm ..
 have hL: ∀i,i∈L↔i < c.length∧se c tg i=true:=fun i=>by
  rw[sV.mem_iff,List.mem_filter,List.mem_range]
 have hnd:L.Nodup:=sV.nodup_iff.2 (List.nodup_range.sublist List.filter_sublist)
 have IH:L.Pairwise (zG c T):=by
  have:=List.pairwise_mergeSort tr tot ((List.range c.length).filter (se c tg))
  rw[←Yr]at this
  exact this.imp fun h=>by rw[hle]at h;exact of_decide_eq_true h
 have LW: ∀i∈L,tg i=true:=fun i hi=>by
  obtain⟨h1,h2⟩:=(hL i).1 hi
  unfold se at h2
  rw[Bool.or_eq_true]at h2
  rcases h2 with h|h
  ·exact K.dn i h1 (of_decide_eq_true h)
  ·rw[Bool.and_eq_true]at h;exact h.1
 have hin: ∀s∈L.map (oI c),0≤s.call∧s.call < c.length∧s=oI c s.call.toNat∧s.call.toNat∈L:=fun s hs=>by
  obtain⟨i,hi,rfl⟩:=List.mem_map.1 hs
  have:=((hL i).1 hi).1
  refine⟨Int.natCast_nonneg _,by show(i:Int) < _;omega,?_,?_⟩
  ·show oI c i=oI c ((i:Int)).toNat
   rw[Int.toNat_natCast]
  ·show((i:Int)).toNat∈L
   rw[Int.toNat_natCast];exact hi
 have vY: ∀s∈L.map (oI c),nU c s:=fun s hs=>by
  obtain⟨h1,h2,h3,h4⟩:=hin s hs
  refine⟨⟨h1,h2⟩,fun ha=>?_⟩
  rw[h3]
  unfold oI
  simp only[Int.toNat_natCast]
  by_cases hk:(c.getD s.call.toNat Call.z).kind=1
  ·rw[if_pos hk]
   exact((K.wr _ (by omega) (LW _ h4) hk).2 ha).symm
  ·rw[if_neg hk]
 have J2:(L.map (oI c)).Pairwise (wx (cO c)):=by
  rw[List.pairwise_map]
  refine(IH.and hnd).imp_of_mem fun {a b} ha hb h=>?_
  obtain⟨h1,h2⟩:=h
  refine⟨fun e=>h2 (by have e:(a:Int)=b:=e;omega),?_⟩
  show cO c ((b:Int)).toNat ((a:Int)).toNat=false
  rw[Int.toNat_natCast,Int.toNat_natCast]
  unfold cO
  refine decide_eq_false ?_
  rintro⟨q1,q2,q3,q4⟩
  have o:=K.ord b a q1 q2 q3 q4 (LW a ha)
  unfold zG at h1
  have a1:=J1 c a
  have a2:=J1 c b
  have a3:=hft b q1 q3
  rcases a1 with⟨a1,_⟩|⟨a1,_⟩
  ·have:=o.2 a1;omega
  ·omega
 have hac:=Pu.2 ⟨vY,J2⟩
 refine⟨L.map (oI c),(BG X (by simp[S0])).2 ⟨hac,fun x hx=>?_⟩,fun i hi ha=>?_⟩
 ·have:x=0:=by simp only[List.length_singleton]at hx;omega
  subst this
  have hS:(S0 [1]).getD 0 []= [0]:=by simp[S0,Ob.xl]
  have ho:nu c 0 (L.map (oI c))=(L.map (oI c)).map (DR c):=by
   have key: ∀t:List Step,(∀s∈t,nU c s)→nu c 0 t=t.map (DR c):=by
    intro t
    induction t with
    |nil=>intro _;rfl
    |cons s t ih=>
     intro h
     have hr:=(h s (.head _)).bR
     have:=ew s.call.toNat (by omega)
     unfold nu
     rw[if_pos (by rw[this];rfl),ih fun x hx=>h x (.tail _ hx)]
     rfl
   exact key _ vY
  rw[hS,ho]
  show ∃s',Ob.run 1 [0] _=some s'
  refine C3 K hA hL L 0 0 hnd IH (fun i hi=>hi) (fun k h1 _ h3=>(h3 h1).elim) (fun i hi=>?_) (.inl ⟨rfl,rfl⟩)
  obtain⟨h1,h2⟩:=(hL i).1 hi
  by_cases hk:(c.getD i Call.z).kind=1
  ·have:=(K.wr i h1 (LW i hi) hk).1;omega
  ·have hto:(c.getD i Call.z).au≠ -1:=by
    unfold se at h2
    rw[Bool.or_eq_true]at h2
    rcases h2 with h|h
    ·exact of_decide_eq_true h
    ·rw[Bool.and_eq_true,decide_eq_true_eq]at h;exact(hk h.2).elim
   rcases K.rd i h1 hto hk with⟨h,_⟩|⟨k,k1,k2,k3,k4,_⟩
   ·omega
   ·have:=(K.wr k k1 k2 k3).1;omega
 ·rw[List.nil_append]
  refine List.mem_map.2 ⟨oI c i,List.mem_map.2 ⟨i,(hL i).2 ⟨hi,?_⟩,rfl⟩,Int.toNat_natCast _⟩
  unfold se
  rw[decide_eq_true ha];rfl
end Sr
namespace Sr
open Rl Hs
theorem C4{c:List Call}(hA: ∀i,i < c.length→Ob.eJ 1 (c.getD i Call.z).kind (c.getD i Call.z).arg): ∀(t:List Step) (v t0:Int) (s':List Int),0≤v→v≤1000→(∀s∈t,nU c s)→t.Pairwise (fun x y=>x.call≠y.call)→Ob.run 1 [v] (t.map (DR c))=some s'→
  ∃T:Nat→Int,(∀s∈t,t0≤T s.call.toNat∧((c.getD s.call.toNat Call.z).kind=1→t0 < T s.call.toNat∧s.res=0)∧((c.getD s.call.toNat Call.z).kind≠1→(T s.call.toNat=t0∧s.res=v)∨∃k∈t,(c.getD k.call.toNat Call.z).kind=1∧T k.call.toNat=T s.call.toNat∧(c.getD k.call.toNat Call.z).arg=s.res))∧
   t.Pairwise fun x y=>T x.call.toNat≤T y.call.toNat∧((c.getD y.call.toNat Call.z).kind=1→T x.call.toNat < T y.call.toNat)
 | [],_,t0,_,_,_,_,_,_=>⟨fun _=>t0,fun _ h=>(nomatch h),.nil⟩
 |s::t,v,t0,s',h0,h1,hin,IH,hr=>by
  obtain⟨p1,p2⟩:=List.pairwise_cons.1 IH
  have hs:=hin s (.head _)
  have II:=hA s.call.toNat (by have:=hs.bR;omega)
  have LV:Ob.iL 1 [v]:= .inl ⟨.inl rfl,v,rfl,h0,h1⟩
  have hne: ∀x∈t,x.call.toNat≠s.call.toNat:=fun x hx e=>by
   have a:=hs.bR
   have b:=(hin x (.tail _ hx)).bR
   exact p1 x hx (by omega)
  simp only[List.map_cons,Ob.run,DR]at hr
  by_cases hk:(c.getD s.call.toNat Call.z).kind=1
  ·have B2:Ob.nx 1 [v] (c.getD s.call.toNat Call.z).kind (c.getD s.call.toNat Call.z).arg=some ([(c.getD s.call.toNat Call.z).arg],0):=by
    unfold Ob.nx;rw[if_pos ⟨LV,II⟩];unfold Ob.iH;rw[if_pos rfl,if_pos hk]
   rw[B2]at hr
   simp only at hr
   have hb:1≤(c.getD s.call.toNat Call.z).arg∧(c.getD s.call.toNat Call.z).arg≤1000:=II.2.2.2 (by omega)
   by_cases he:(0:Int)=s.res
   ·rw[if_pos he]at hr
    obtain⟨T,g1,g2⟩:=C4 hA t _ (t0+1) s' (by omega) hb.2 (fun x hx=>hin x (.tail _ hx)) p2 hr
    have hT: ∀x∈t,(if x.call.toNat=s.call.toNat then t0+1 else T x.call.toNat)=T x.call.toNat:=fun x hx=>if_neg (hne x hx)
    refine⟨fun i=>if i=s.call.toNat then t0+1 else T i,fun x hx=>?_,List.pairwise_cons.2 ⟨fun y hy=>?_,g2.imp_of_mem fun {x y} hx hy h=>?_⟩⟩
    ·rcases List.mem_cons.1 hx with rfl|hx
     ·dsimp only
      rw[if_pos rfl]
      exact⟨by omega,fun _=>⟨by omega,he.symm⟩,fun h=>(h hk).elim⟩
     ·dsimp only
      rw[hT x hx]
      obtain⟨a1,a2,a3⟩:=g1 x hx
      refine⟨by omega,fun h=>⟨by have:=(a2 h).1;omega,(a2 h).2⟩,fun h=>?_⟩
      rcases a3 h with⟨b1,b2⟩|⟨k,b1,b2,b3,b4⟩
      ·exact .inr ⟨s,.head _,hk,by rw[if_pos rfl,b1],b2.symm⟩
      ·exact .inr ⟨k,.tail _ b1,b2,by rw[hT k b1];exact b3,b4⟩
    ·dsimp only
     rw[if_pos rfl,hT y hy]
     obtain⟨a1,a2,_⟩:=g1 y hy
     exact⟨a1,fun h=>(a2 h).1⟩
    ·dsimp only
     rw[hT x hx,hT y hy];exact h
   ·rw[if_neg he]at hr;cases hr
  ·have B2:Ob.nx 1 [v] (c.getD s.call.toNat Call.z).kind (c.getD s.call.toNat Call.z).arg=some ([v],v):=by
    unfold Ob.nx;rw[if_pos ⟨LV,II⟩];unfold Ob.iH;rw[if_pos rfl,if_neg hk];rfl
   rw[B2]at hr
   simp only at hr
   by_cases he:v=s.res
   ·rw[if_pos he]at hr
    obtain⟨T,g1,g2⟩:=C4 hA t v t0 s' h0 h1 (fun x hx=>hin x (.tail _ hx)) p2 hr
    have hT: ∀x∈t,(if x.call.toNat=s.call.toNat then t0 else T x.call.toNat)=T x.call.toNat:=fun x hx=>if_neg (hne x hx)
    refine⟨fun i=>if i=s.call.toNat then t0 else T i,fun x hx=>?_,List.pairwise_cons.2 ⟨fun y hy=>?_,g2.imp_of_mem fun {x y} hx hy h=>?_⟩⟩
    ·rcases List.mem_cons.1 hx with rfl|hx
     ·dsimp only
      rw[if_pos rfl]
      exact⟨by omega,fun h=>(hk h).elim,fun _=> .inl ⟨rfl,he.symm⟩⟩
     ·dsimp only
      rw[hT x hx]
      obtain⟨a1,a2,a3⟩:=g1 x hx
      refine⟨a1,a2,fun h=>?_⟩
      rcases a3 h with h|⟨k,b1,b2,b3,b4⟩
      ·exact .inl h
      ·exact .inr ⟨k,.tail _ b1,b2,by rw[hT k b1];exact b3,b4⟩
    ·dsimp only
     rw[if_pos rfl,hT y hy]
     obtain⟨a1,a2,_⟩:=g1 y hy
     exact⟨a1,fun h=>(a2 h).1⟩
    ·dsimp only
     rw[hT x hx,hT y hy];exact h
   ·rw[if_neg he]at hr;cases hr
theorem PI{α:Type}{R:α→α→Prop}{t:List α}(hp:t.Pairwise R): ∀x∈t,∀y∈t,x=y∨R x y∨R y x:=by
 induction t with
 |nil=>intro x h;cases h
 |cons a t ih=>
  obtain⟨p1,p2⟩:=List.pairwise_cons.1 hp
  intro x hx y hy
  rcases List.mem_cons.1 hx with e1|h1<;>rcases List.mem_cons.1 hy with e2|h2
  ·exact .inl (e1.trans e2.symm)
  ·exact .inr (.inl (by rw[e1];exact p1 y h2))
  ·exact .inr (.inr (by rw[e2];exact p1 x h1))
  ·exact ih p2 x h1 y h2
open Classical in
theorem Sk{c:List Call}{rel:Rel}(X:Cx [1] c rel (cO c))(hA: ∀i,i < c.length→Ob.eJ 1 (c.getD i Call.z).kind (c.getD i Call.z).arg)(hft: ∀i,i < c.length→(c.getD i Call.z).au≠ -1→(c.getD i Call.z).from_≤(c.getD i Call.z).au){t:List Step}(G:Gd [1] c (cO c) (S0 [1]) [] t): ∃tg T,GT c tg T:=by
 have ew: ∀i,i < c.length→(c.getD i Call.z).aB=0:=fun i hi=>by
  have:=X.th i hi
  simp only[List.length_singleton]at this
  omega
 obtain⟨hpl,hcm⟩:=G
 obtain⟨hac,hrun⟩:=(BG X (by simp[S0])).1 hpl
 obtain⟨vY,J2⟩:=Pu.1 hac
 obtain⟨s',hs⟩:=hrun 0 (by simp)
 have hS:(S0 [1]).getD 0 []= [0]:=by simp[S0,Ob.xl]
 have ho:nu c 0 t=t.map (DR c):=by
  have key: ∀t:List Step,(∀s∈t,nU c s)→nu c 0 t=t.map (DR c):=by
   intro t
   induction t with
   |nil=>intro _;rfl
   |cons s t ih=>
    intro h
    have hr:=(h s (.head _)).bR
    have:=ew s.call.toNat (by omega)
    unfold nu
    rw[if_pos (by rw[this];rfl),ih fun x hx=>h x (.tail _ hx)]
    rfl
  exact key _ vY
 rw[hS,ho]at hs
 obtain⟨T,g1,g2⟩:=C4 hA t 0 0 s' (by omega) (by omega) vY (J2.imp fun h=>h.1) hs
 have hmem: ∀i,i < c.length→(c.getD i Call.z).au≠ -1→∃s∈t,s.call.toNat=i:=fun i hi h=>by
  have:=hcm i hi h
  rw[List.nil_append]at this
  obtain⟨s,hs,e⟩:=List.mem_map.1 this
  exact⟨s,hs,e⟩
 have PJ:=J2.and g2
 have IJ: ∀i,decide (∃s∈t,s.call.toNat=i)=true↔∃s∈t,s.call.toNat=i:=fun i=>decide_eq_true_iff
 refine⟨fun i=>decide (∃s∈t,s.call.toNat=i),T,fun i hi h=>(IJ i).2 (hmem i hi h),fun a b ha hb h1 h2 h3=>?_,fun a b ha hb h1 h2 k1 k2 e=>?_,fun i hi h1 h2=>?_,fun i hi h1 h2=>?_⟩
 ·obtain⟨x,hx,rfl⟩:=hmem a ha h1
  obtain⟨y,hy,rfl⟩:=(IJ b).1 h3
  rcases PI PJ x hx y hy with rfl|h|h
  ·have:=hft _ ha h1;omega
  ·exact h.2
  ·exfalso
   have:=h.1.2
   unfold cO at this
   exact of_decide_eq_false this ⟨ha,hb,h1,h2⟩
 ·obtain⟨x,hx,rfl⟩:=(IJ a).1 h1
  obtain⟨y,hy,rfl⟩:=(IJ b).1 h2
  rcases PI PJ x hx y hy with rfl|h|h
  ·rfl
  ·have:=h.2.2 k2;omega
  ·have:=h.2.2 k1;omega
 ·obtain⟨x,hx,rfl⟩:=(IJ i).1 h1
  obtain⟨_,a2,_⟩:=g1 x hx
  obtain⟨b1,b2⟩:=a2 h2
  exact⟨b1,fun h=>by rw[←(vY x hx).res h];exact b2⟩
 ·obtain⟨x,hx,rfl⟩:=hmem i hi h1
  obtain⟨_,_,a3⟩:=g1 x hx
  rcases a3 h2 with⟨b1,b2⟩|⟨k,b1,b2,b3,b4⟩
  ·exact .inl ⟨b1,by rw[←(vY x hx).res h1];exact b2⟩
  ·exact .inr ⟨k.call.toNat,by have:=(vY k b1).bR;omega,(IJ _).2 ⟨k,b1,rfl⟩,b2,b3,by rw[←(vY x hx).res h1];exact b4⟩
end Sr
namespace Sr
open Rl Hs
theorem LX{N:Nat}{l:List Event}{k:Nat}{c:List Call}{op:List Int}(R:cn N [1] l k c op): ∀i,i < c.length→Ob.eJ 1 (c.getD i Call.z).kind (c.getD i Call.z).arg:=by
 intro i hi
 have hA:=vU R hi
 have ew:=(R.wf.one i hi).aB
 have e:(c.getD i Call.z).aB.toNat=0:=by simp only[List.length_singleton]at ew;omega
 rw[e]at hA
 exact hA
theorem VY{N:Nat}{types:List Int}{l:List Event}{k:Nat}{c:List Call}{op:List Int}(R:cn N types l k c op): ∀i,i < c.length→(c.getD i Call.z).au≠ -1→(c.getD i Call.z).from_≤(c.getD i Call.z).au:=by
 intro i hi h
 rcases(R.wf.one i hi).tO with⟨h2,_⟩|⟨h2,_⟩
 ·exact(h h2).elim
 ·omega
theorem Sl{N:Nat}(hN:300 < N)(ht:bo N [1]=some 0){p:List Event}{c:List Call}{op:List Int}(hl:p.length≤200)(R:cn N [1] p p.length c op):Wp (dw N [1] p) fun r=>r.2.2=0→(r.2.1=true↔∃tg T,GT c tg T):=by
 obtain⟨⟨c9,e9⟩,hc9,h9⟩:=pX (N:=N) (by omega) [1] p
 refine(pq hN hc9).mono fun r ⟨f1,_,f3⟩ h0=>?_
 have he:e9=0:=by rw[←f1];exact h0
 subst he
 rcases h9 with⟨_,H,Ys⟩|⟨h,_⟩
 ·have hco:=pn (by omega) ht hl R
  rw[hco]at Ys
  obtain rfl:c=c9:=by cases Ys;rfl
  obtain⟨rel,X⟩:=X5 H hN
  rw[(f3 rfl H).iff]
  exact⟨fun⟨u,hu⟩=>Sk X (LX R) (VY R) hu,fun⟨tg,T,K⟩=>Sj X (LX R) (VY R) K⟩
 ·exact(h rfl).elim
end Sr
namespace Zo
open Hs
theorem LY{N:Nat}{l:List Event}{c:List Call}{op:List Int}(hl:l.length≤200)(R:cn N [1] l l.length c op)(D:lV c):Good c↔∃tg T,Sr.GT c tg T:=by
 constructor
 ·intro G
  obtain⟨tg,T,K⟩:=Si (JF hl R) D (PF R) G
  exact⟨tg,T,K.dn,K.ord,K.LU,K.wr,K.rd⟩
 ·rintro⟨tg,T,K⟩
  exact Sg (JF hl R) D (PF R) (tg:=tg) (T:=T) ⟨K.dn,K.ord,K.LU,K.wr,K.rd⟩
end Zo
namespace Zo
open Hs
theorem ag{N:Nat}(hN:5000 < N){l:List Event}{q:Bool×Int×Int×Int×Int}{w:List Step}{b:Bool}(hf:dw N [1] l=some (w,b,0))(hq:fk N l=some q)(h0:q.2.2.2.2=0):b=q.1:=by
 obtain⟨r,hr,h⟩:=nN (by omega:300 < N) l
 rw[hq]at hr
 cases hr
 rcases h with⟨h,_⟩|⟨_,ht,hl,c,op,R,D,h1,h2⟩
 ·exact absurd h0 h
 ·obtain⟨f2,Yt,hk⟩:=Sr.Sl (by omega) ht hl R
  rw[hf]at Yt
  cases Yt
  rw[Bool.eq_iff_iff,hk rfl,←LY hl R D,h1,decide_eq_true_eq]
  exact h2.good.symm
end Zo
end Go.Proofs.YtjdkkabcenohcaaGreatDoor
