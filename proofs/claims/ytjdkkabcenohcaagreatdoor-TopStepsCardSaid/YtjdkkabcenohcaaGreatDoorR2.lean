import Derived.Test.YtjdkkabcenohcaaGreatDoorP8
import Derived.Test.YtjdkkabcenohcaaGreatDoorR0
set_option linter.unusedVariables false
set_option linter.unusedSimpArgs false
set_option linter.unusedSectionVars false
set_option maxRecDepth 100000
namespace Go.Proofs.YtjdkkabcenohcaaGreatDoor
open Go.RowKit
namespace Rw
open Hs Sr
def Qr(c:List Call):List Int→List Nat→List Nat→Prop
 |_,_,[]=>True
 |s,w,i::t=>i < c.length∧i∉w∧(∀j,j∈w→fg c i j=false)∧
  (((c.getD i Call.z).kind=3∧Qr c (s++[(c.getD i Call.z).arg]) (w++[i]) t)∨((c.getD i Call.z).kind=4∧s= []∧(c.getD i Call.z).res= -1∧Qr c [] (w++[i]) t)∨((c.getD i Call.z).kind=4∧∃r,s=(c.getD i Call.z).res::r∧Qr c r (w++[i]) t))
def m7(c:List Call)(w:List Nat):List Int:=(w.filter fun i=>decide ((c.getD i Call.z).kind=3)).map fun i=>(c.getD i Call.z).arg
def p9(c:List Call)(w:List Nat):List Int:=(w.filter fun i=>decide ((c.getD i Call.z).kind=4∧(c.getD i Call.z).res≠ -1)).map fun i=>(c.getD i Call.z).res
theorem Fc(c:List Call)(a b:List Nat):m7 c (a++b)=m7 c a++m7 c b:=by unfold m7;rw[List.filter_append,List.map_append]
theorem Jp(c:List Call)(a b:List Nat):p9 c (a++b)=p9 c a++p9 c b:=by unfold p9;rw[List.filter_append,List.map_append]
theorem Jq{c:List Call}{w:List Nat}{v:Int}:v∈m7 c w↔∃i,i∈w∧(c.getD i Call.z).kind=3∧(c.getD i Call.z).arg=v:=by
 unfold m7
 simp only[List.mem_map,List.mem_filter,decide_eq_true_eq]
 exact⟨fun⟨i,⟨h1,h2⟩,h3⟩=>⟨i,h1,h2,h3⟩,fun⟨i,h1,h2,h3⟩=>⟨i,⟨h1,h2⟩,h3⟩⟩
theorem Jr{c:List Call}{w:List Nat}{v:Int}:v∈p9 c w↔∃i,i∈w∧((c.getD i Call.z).kind=4∧(c.getD i Call.z).res≠ -1)∧(c.getD i Call.z).res=v:=by
 unfold p9
 simp only[List.mem_map,List.mem_filter,decide_eq_true_eq]
 exact⟨fun⟨i,⟨h1,h2⟩,h3⟩=>⟨i,h1,h2,h3⟩,fun⟨i,h1,h2,h3⟩=>⟨i,⟨h1,h2⟩,h3⟩⟩
theorem abd{c:List Call}: ∀{t:List Nat} {s:List Int} {w:List Nat},Qr c s w t→t.Nodup∧(∀x∈t,x∉w∧x < c.length)
 | [],_,_,_=>⟨.nil,fun _ h=>(nomatch h)⟩
 |i::t,s,w,⟨g2,g3,g4,g⟩=>by
  have key: ∀n,Qr c n (w++[i]) t→(i::t).Nodup∧∀x∈i::t,x∉w∧x < c.length:=fun n h=>by
   obtain⟨h1,h2⟩:=abd h
   refine⟨List.nodup_cons.2 ⟨fun hi=>(h2 i hi).1 (by simp),h1⟩,fun x hx=>?_⟩
   rcases List.mem_cons.1 hx with rfl|hx
   ·exact⟨g3,g2⟩
   ·exact⟨fun e=>(h2 x hx).1 (List.mem_append.2 (.inl e)),(h2 x hx).2⟩
  rcases g with⟨_,g⟩|⟨_,_,_,g⟩|⟨_,r,_,g⟩
  ·exact key _ g
  ·exact key _ g
  ·exact key _ g
theorem Oz{c:List Call}(Qc:Q c): ∀{t:List Nat} {s:List Int} {w:List Nat},Qr c s w t→(∀v∈s,v≠ -1)→m7 c w=p9 c w++s→∀{t1:List Nat} {i:Nat} {t2:List Nat},t=t1++i::t2→
  ∃s',m7 c (w++t1)=p9 c (w++t1)++s'∧(∀j,j∈w++t1→fg c i j=false)∧((c.getD i Call.z).kind=3∨((c.getD i Call.z).kind=4∧s'= []∧(c.getD i Call.z).res= -1)∨((c.getD i Call.z).kind=4∧∃r,s'=(c.getD i Call.z).res::r∧(c.getD i Call.z).res≠ -1))
 | [],_,_,_,_,_,t1,i,t2,e=>by cases t1<;>cases e
 |k::t,s,w,⟨g2,g3,g4,g⟩,hv,hE,[],i,t2,e=>by
  obtain⟨rfl,rfl⟩:=List.cons.inj e
  rw[List.append_nil]
  refine⟨s,hE,g4,?_⟩
  rcases g with⟨k,_⟩|⟨k,e,r,_⟩|⟨k,r,e,_⟩
  ·exact .inl k
  ·exact .inr (.inl ⟨k,e,r⟩)
  ·exact .inr (.inr ⟨k,r,e,hv _ (by rw[e];exact .head _)⟩)
 |k::t,s,w,⟨g2,g3,g4,g⟩,hv,hE,a::t1,i,t2,e=>by
  obtain⟨rfl,e'⟩:=List.cons.inj e
  have e2:w++k::t1=(w++[k])++t1:=by simp
  rw[e2]
  rcases g with⟨h,g⟩|⟨h,hs,hr,g⟩|⟨h,r,hs,g⟩
  ·refine Oz Qc g (fun v XU=>?_) ?_ e'
   ·rcases List.mem_append.1 XU with h1|h1
    ·exact hv v h1
    ·rw[List.mem_singleton.1 h1]
     have:=Qc.ea k g2 h
     omega
   ·have a1:m7 c [k]= [(c.getD k Call.z).arg]:=by simp only[m7,List.filter,decide_eq_true h,List.map]
    have a2:p9 c [k]= []:=by simp only[p9,List.filter,decide_eq_false (show ¬((c.getD k Call.z).kind=4∧(c.getD k Call.z).res≠ -1)from fun q=>by omega),List.map]
    rw[Fc,Jp,a1,a2,hE];simp
  ·refine Oz Qc g (fun v XU=>(nomatch XU)) ?_ e'
   have a1:m7 c [k]= []:=by simp only[m7,List.filter,decide_eq_false (show ¬(c.getD k Call.z).kind=3 by omega),List.map]
   have a2:p9 c [k]= []:=by simp only[p9,List.filter,decide_eq_false (show ¬((c.getD k Call.z).kind=4∧(c.getD k Call.z).res≠ -1)from fun q=>q.2 hr),List.map]
   rw[Fc,Jp,a1,a2,hE,hs]
  ·have hne:(c.getD k Call.z).res≠ -1:=hv _ (by rw[hs];exact .head _)
   refine Oz Qc g (fun v XU=>hv v (by rw[hs];exact .tail _ XU)) ?_ e'
   have a1:m7 c [k]= []:=by simp only[m7,List.filter,decide_eq_false (show ¬(c.getD k Call.z).kind=3 by omega),List.map]
   have a2:p9 c [k]= [(c.getD k Call.z).res]:=by simp only[p9,List.filter,decide_eq_true (show(c.getD k Call.z).kind=4∧(c.getD k Call.z).res≠ -1 from⟨h,hne⟩),List.map]
   rw[Fc,Jp,a1,a2,hE,hs];simp
theorem Fe{α:Type}{v:α}{x y:List α}: ∀{a b:List α},(a++v::x).Nodup→a++v::x=b++v::y→a=b
 | [],[],_,_=>rfl
 | [],z::b,h,e=>by
  obtain⟨h1,h2⟩:=List.cons.inj (show v::x=z::(b++v::y)from e)
  exfalso
  refine(List.nodup_cons.1 (show(v::x).Nodup from h)).1 ?_
  rw[h2];simp
 |z::a,[],h,e=>by
  obtain⟨h1,h2⟩:=List.cons.inj (show z::(a++v::x)=v::y from e)
  exfalso
  refine(List.nodup_cons.1 (show(z::(a++v::x)).Nodup from h)).1 ?_
  rw[h1];simp
 |z::a,u::b,h,e=>by
  obtain⟨h1,h2⟩:=List.cons.inj (show z::(a++v::x)=u::(b++v::y)from e)
  rw[h1,Fe (List.nodup_cons.1 (show(z::(a++v::x)).Nodup from h)).2 h2]
theorem XV(f:Nat→Int): ∀(l:List Nat),l≠ []→∃m∈l,∀u∈l,f u≤f m
 | [],h=>(h rfl).elim
 | [a],_=>⟨a,by simp,fun u hu=>by rw[List.mem_singleton.1 hu];exact Int.le_refl _⟩
 |a::b::l,_=>by
  obtain⟨m,h1,h2⟩:=XV f (b::l) (by simp)
  by_cases h:f m≤f a
  ·refine⟨a,by simp,fun u hu=>?_⟩
   rcases List.mem_cons.1 hu with rfl|hu
   ·exact Int.le_refl _
   ·have:=h2 u hu;omega
  ·refine⟨m,.tail _ h1,fun u hu=>?_⟩
   rcases List.mem_cons.1 hu with rfl|hu
   ·omega
   ·exact h2 u hu
theorem Uj{c:List Call}(C:p6 c)(Qc:Q c){L:List Nat}(R:Qr c [] [] L)(all: ∀i,i < c.length→(c.getD i Call.z).aY≠ -1→i∈L):
  (¬ ∃i,gp c i)∧(¬ ∃i,ii c i)∧(¬ ∃i,iD c i)∧(¬ ∃a b,kF c a b)∧¬ ∃i,lV c i:=by
 obtain⟨nd,lt⟩:=abd R
 have at_: ∀{t1:List Nat} {i:Nat} {t2:List Nat},L=t1++i::t2→∃s',m7 c t1=p9 c t1++s'∧(∀j,j∈t1→fg c i j=false)∧((c.getD i Call.z).kind=3∨((c.getD i Call.z).kind=4∧s'= []∧(c.getD i Call.z).res= -1)∨((c.getD i Call.z).kind=4∧∃r,s'=(c.getD i Call.z).res::r∧(c.getD i Call.z).res≠ -1)):=fun e=>by
  have:=Oz Qc R (fun v hv=>(nomatch hv)) rfl e
  simpa using this
 have bf: ∀{i j:Nat},i < c.length→j < c.length→(c.getD i Call.z).aY≠ -1→(c.getD i Call.z).aY < (c.getD j Call.z).from_→fg c i j=true:=fun h1 h2 h3 h4=>by unfold fg;exact decide_eq_true ⟨h1,h2,h3,h4⟩
 have real: ∀{x y:Nat} {u1 u2:List Nat},x∈L→fg c x y=true→L=u1++y::u2→x∈u1:=fun {x y u1 u2} hx hb e=>by
  rw[e]at hx
  rcases List.mem_append.1 hx with h|h
  ·exact h
  ·exfalso
   rcases List.mem_cons.1 h with rfl|h
   ·unfold fg at hb
    obtain⟨h1,_,h3,h4⟩:=of_decide_eq_true hb
    have:=Qc.tm x h1
    omega
   ·obtain⟨v1,v2,rfl⟩:=List.append_of_mem h
    obtain⟨_,_,h2,_⟩:=at_ (t1:=u1++y::v1) (i:=x) (t2:=v2) (by rw[e];simp)
    rw[h2 y (by simp)]at hb
    cases hb
 have end_: ∀{w1 w2:List Nat},L=w1++w2→(m7 c w1).Nodup:=fun {w1 w2} e=>by
  have h1:w1.Nodup:=by rw[e]at nd;exact(List.nodup_append.1 nd).1
  unfold m7
  refine List.pairwise_map.2 ?_
  have h2:(w1.filter fun i=>decide ((c.getD i Call.z).kind=3)).Nodup:=h1.sublist List.filter_sublist
  refine h2.imp_of_mem fun {a b} ha hb hab he=>hab ?_
  have ha:=List.mem_filter.1 ha
  have hb:=List.mem_filter.1 hb
  exact C.uq a b (lt a (by rw[e];exact List.mem_append.2 (.inl ha.1))).2 (lt b (by rw[e];exact List.mem_append.2 (.inl hb.1))).2 (of_decide_eq_true ha.2) (of_decide_eq_true hb.2) he
 have put: ∀{i:Nat},i < c.length→(c.getD i Call.z).kind=4∧(c.getD i Call.z).res≠ -1→∃w1 w2 e r,L=w1++i::w2∧e∈w1∧(c.getD e Call.z).kind=3∧(c.getD e Call.z).arg=(c.getD i Call.z).res∧m7 c w1=p9 c w1++(c.getD i Call.z).res::r∧∀j,j∈w1→fg c i j=false:=fun {i} hi hk=>by
  obtain⟨w1,w2,e⟩:=List.append_of_mem (all i hi (C.dn i hi hk.1))
  obtain⟨s',h1,h2,h3⟩:=at_ e
  rcases h3 with h3|⟨_,_,h3⟩|⟨_,r,h3,_⟩
  ·omega
  ·exact(hk.2 h3).elim
  ·rw[h3]at h1
   have hm:(c.getD i Call.z).res∈m7 c w1:=by rw[h1];simp
   obtain⟨x,x1,x2,x3⟩:=Jq.1 hm
   exact⟨w1,w2,x,r,e,x1,x2,x3,h1,h2⟩
 have N2: ∀{i j:Nat},i < c.length→j < c.length→(c.getD i Call.z).kind=4∧(c.getD i Call.z).res≠ -1→(c.getD j Call.z).kind=4→(c.getD j Call.z).res=(c.getD i Call.z).res→i=j:=fun {i j} hi hj ki kj e=>by
  have key: ∀{i j:Nat} {w1 w2:List Nat} {r:List Int},(c.getD j Call.z).kind=4∧(c.getD j Call.z).res≠ -1→(c.getD j Call.z).res=(c.getD i Call.z).res→L=w1++i::w2→m7 c w1=p9 c w1++(c.getD i Call.z).res::r→j∈w1→False:=fun {i j w1 w2 r} kj e hL hE hm=>by
   have h1:=end_ hL
   rw[hE]at h1
   have h2:(c.getD i Call.z).res∈p9 c w1:=Jr.2 ⟨j,hm,kj,e⟩
   exact(List.nodup_append.1 h1).2.2 _ h2 _ (by simp) rfl
  obtain⟨w1,w2,_,r,e1,_,_,_,e2,_⟩:=put hi ki
  have kj2:(c.getD j Call.z).kind=4∧(c.getD j Call.z).res≠ -1:=⟨kj,by rw[e];exact ki.2⟩
  obtain⟨u1,u2,_,r2,f1,_,_,_,f2,_⟩:=put hj kj2
  have hjL:=all j hj (C.dn j hj kj)
  rw[e1]at hjL
  rcases List.mem_append.1 hjL with h|h
  ·exact(key kj2 e e1 e2 h).elim
  ·rcases List.mem_cons.1 h with h|h
   ·exact h.symm
   ·exfalso
    have hiL:i∈L:=all i hi (C.dn i hi ki.1)
    rw[f1]at hiL
    rcases List.mem_append.1 hiL with g|g
    ·exact key ki e.symm f1 f2 g
    ·rcases List.mem_cons.1 g with g|g
     ·subst g
      rw[e1]at nd
      exact(List.nodup_cons.1 (List.nodup_append.1 nd).2.1).1 h
     ·obtain⟨v1,v2,rfl⟩:=List.append_of_mem h
      have e3:L=(w1++i::v1)++j::v2:=by rw[e1];simp
      rw[f1]at e3
      have nd':=nd
      rw[f1]at nd'
      have:u1=w1++i::v1:=Fe nd' e3
      rw[this]at f1 nd'
      have hi2:i∈w1++i::v1:=by simp
      exact(List.nodup_append.1 nd').2.2 i hi2 i (.tail _ g) rfl
 refine⟨fun⟨i,S⟩=>?_,fun⟨i,S⟩=>?_,fun⟨i,S⟩=>?_,fun⟨a,b,S⟩=>?_,fun⟨i,S⟩=>?_⟩
 ·obtain⟨w1,w2,e,r,h1,h2,h3,h4,_⟩:=put S.lt S.dq
  exact S.no e (lt e (by rw[h1];exact List.mem_append.2 (.inl h2))).2 h3 h4
 ·obtain⟨j,j1,j2,j3⟩:=S.is
  have:=N2 S.lt (Nat.lt_trans j1 S.lt) S.dq j2 j3
  omega
 ·obtain⟨w1,w2,e,r,h1,h2,h3,h4,_,h5⟩:=put S.lt S.dq
  obtain⟨e',k1,k2,k3,k4⟩:=S.is
  have hel:=(lt e (by rw[h1];exact List.mem_append.2 (.inl h2))).2
  obtain rfl:=C.uq e e' hel k1 h3 k2 (by rw[h4,k3])
  have:=bf S.lt k1 (C.dn i S.lt S.dq.1) k4
  rw[h5 e h2]at this
  cases this
 ·obtain⟨d,d1,d2⟩:=S.is
  have qb:=Qc.ea b S.lb S.kb
  have qa:=Qc.ea a S.la S.ka
  obtain⟨w1,w2,e,r,h1,h2,h3,h4,h6,h5⟩:=put d1.1 ⟨d1.2.1,by rw[d1.2.2.1];omega⟩
  have hel:=(lt e (by rw[h1];exact List.mem_append.2 (.inl h2))).2
  obtain rfl:=C.uq e b hel S.lb h3 S.kb (by rw[h4,d1.2.2.1])
  obtain⟨u1,u2,rfl⟩:=List.append_of_mem h2
  have ha:a∈u1:=real (all a S.la S.ah.1) (bf S.la S.lb S.ah.1 S.ah.2) (show L=u1++e::(u2++d::w2) by rw[h1];simp)
  have hnd:=end_ h1
  have hE:m7 c (u1++e::u2)=m7 c u1++(c.getD e Call.z).arg::m7 c u2:=by
   rw[Fc]
   congr 1
   simp only[m7,List.filter_cons,decide_eq_true h3,if_pos,List.map_cons]
  rw[hE]at hnd h6
  rw[←h4]at h6
  have heq:=Fe hnd h6
  have hm:(c.getD a Call.z).arg∈p9 c (u1++e::u2):=by rw[←heq];exact Jq.2 ⟨a,ha,S.ka,rfl⟩
  obtain⟨x,x1,x2,x3⟩:=Jr.1 hm
  have hxl:=(lt x (by rw[h1];exact List.mem_append.2 (.inl x1))).2
  rcases d2 with d2|⟨y,y1,y2⟩
  ·exact d2 x hxl x2.1 x3
  ·obtain rfl:=N2 hxl y1.1 x2 y1.2.1 (by rw[y1.2.2.1,x3])
   have:=bf d1.1 y1.1 y2.1 y2.2
   rw[h5 x x1]at this
   cases this
 ·have hd:=C.dn i S.lt S.dq.1
  obtain⟨w1,w2,e⟩:=List.append_of_mem (all i S.lt hd)
  obtain⟨s',h1,h2,h3⟩:=at_ e
  have hs:s'= []:=by
   rcases h3 with h3|⟨_,h3,_⟩|⟨_,_,_,h3⟩
   ·have:=S.dq.1;omega
   ·exact h3
   ·exact(h3 S.dq.2).elim
  subst hs
  rw[List.append_nil]at h1
  obtain⟨m,m1,m2⟩:=XV (fun j=>(c.getD j Call.z).from_) (w1++[i]) (by simp)
  have hml:m < c.length:=by
   rcases List.mem_append.1 m1 with g|g
   ·exact(lt m (by rw[e];exact List.mem_append.2 (.inl g))).2
   ·rw[List.mem_singleton.1 g];exact S.lt
  have ti:=Qc.tm i S.lt
  have g1:(c.getD m Call.z).from_ < (c.getD i Call.z).aY:=by
   apply Classical.byContradiction
   intro g
   have ne:=Qc.ne i m S.lt hml hd
   rcases List.mem_append.1 m1 with q|q
   ·have:=bf S.lt hml hd (by omega)
    rw[h2 m q]at this
    cases this
   ·rw[List.mem_singleton.1 q]at g
    omega
  obtain⟨x,x1,x2,x3,x4,x5⟩:=S.is (c.getD m Call.z).from_ (m2 i (by simp)) g1
  have Fu:fg c x m=true:=bf x1 hml x3 (by have:=Qc.ne x m x1 hml x3;omega)
  have hx:x∈w1:=by
   rcases List.mem_append.1 m1 with q|q
   ·obtain⟨u1,u2,rfl⟩:=List.append_of_mem q
    have:=real (all x x1 x3) Fu (show L=u1++m::(u2++i::w2) by rw[e];simp)
    exact List.mem_append.2 (.inl this)
   ·rw[List.mem_singleton.1 q]at Fu
    exact real (all x x1 x3) Fu e
  have hm:(c.getD x Call.z).arg∈p9 c w1:=by rw[←h1];exact Jq.2 ⟨x,hx,x2,rfl⟩
  obtain⟨d,d1,d2,d3⟩:=Jr.1 hm
  have hdl:=(lt d (by rw[e];exact List.mem_append.2 (.inl d1))).2
  rcases x5 with x5|⟨y,y1,y2⟩
  ·exact x5 d hdl d2.1 d3
  ·obtain rfl:=N2 hdl y1.1 d2 y1.2.1 (by rw[y1.2.2.1,d3])
   have:=m2 d (List.mem_append.2 (.inl d1))
   omega
end Rw
namespace Rw
open Hs Sr
theorem KL{c:List Call}{r:Bool×Int×Int×Int×Int}(h:Ni c r)(h1: ¬ ∃i,gp c i)(h2: ¬ ∃i,ii c i)(h3: ¬ ∃i,iD c i)(h4: ¬ ∃x y,kF c x y)(h5: ¬ ∃i,lV c i):r=(true,0,0,0,0):=by
 rcases h with⟨rfl,h⟩|⟨_,_,_,h⟩|⟨_,_,_,h,_⟩|⟨_,_,_,h,_⟩|⟨_,_,_,h,_⟩|⟨_,_,_,h,_⟩
 ·rfl
 ·exact(h1 ⟨_,h⟩).elim
 ·exact(h2 ⟨_,h⟩).elim
 ·exact(h3 ⟨_,h⟩).elim
 ·exact(h4 ⟨_,_,h⟩).elim
 ·exact(h5 ⟨_,h⟩).elim
end Rw
end Go.Proofs.YtjdkkabcenohcaaGreatDoor
