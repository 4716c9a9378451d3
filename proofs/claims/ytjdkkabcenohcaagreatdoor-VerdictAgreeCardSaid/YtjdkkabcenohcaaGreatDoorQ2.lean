/- Rows and the search. -/
import Derived.Test.YtjdkkabcenohcaaGreatDoorP8
import Derived.Test.YtjdkkabcenohcaaGreatDoorP10
set_option linter.unusedVariables false
set_option linter.unusedSimpArgs false
set_option linter.unusedSectionVars false
set_option maxRecDepth 100000
namespace Go.Proofs.YtjdkkabcenohcaaGreatDoor
open Go.RowKit
namespace Rw
open Hs Sr
def Qr(c:List Call):List Int→List Nat→List Nat→Prop
 |_,_,[]=>True
 |s,w,i::t=>i < c.length∧i∉w∧(∀j,j∈w→cO c i j=false)∧
  (((c.getD i Call.z).kind=3∧Qr c (s++[(c.getD i Call.z).arg]) (w++[i]) t)∨((c.getD i Call.z).kind=4∧s= []∧(c.getD i Call.z).res= -1∧Qr c [] (w++[i]) t)∨((c.getD i Call.z).kind=4∧∃r,s=(c.getD i Call.z).res::r∧Qr c r (w++[i]) t))
theorem PK{c:List Call}(C:jp c)(Qc:Q c)(ew: ∀i,i < c.length→(c.getD i Call.z).aB=0): ∀{t:List Step} {s:List Int} {w:List Nat},Pl [2] c (cO c) [s] w t→Qr c s w (nums t)
 | [],_,_,_=>trivial
 |x::t,s,w,⟨i,n,g1,g2,g3,g4,g5,g6,g7⟩=>by
  rw[ew i g2]at g6 g7
  have g6:Ob.nx 2 s (c.getD i Call.z).kind (c.getD i Call.z).arg=some (n,x.res):=g6
  have g7:Pl [2] c (cO c) [n] (w++[i]) t:=g7
  obtain⟨_,_,h,_⟩:=Ob.Jn g6
  have e:nums (x::t)=i::nums t:=by unfold nums;rw[List.map_cons,g1,Int.toNat_natCast]
  rw[e]
  have ih:=PK C Qc ew g7
  refine⟨g2,g3,g4,?_⟩
  unfold Ob.iH at h
  rw[if_neg (by decide),if_neg (by decide),if_pos rfl]at h
  rcases Qc.kd i g2 with k|k
  ·rw[if_pos k]at h
   split at h
   ·cases h
   ·obtain⟨e1,_⟩:=Prod.mk.inj (Option.some.inj h)
    rw[←e1]at ih
    exact .inl ⟨k,ih⟩
  ·rw[if_neg (by omega)]at h
   have hr:=g5 (C.dn i g2 k)
   split at h
   ·rename_i h0
    have hs:s= []:=List.length_eq_zero_iff.1 h0
    obtain⟨e1,e2⟩:=Prod.mk.inj (Option.some.inj h)
    refine .inr (.inl ⟨k,hs,by rw[←hr,←e2],?_⟩)
    rw[←hs,e1];exact ih
   ·rename_i h0
    obtain⟨e1,e2⟩:=Prod.mk.inj (Option.some.inj h)
    cases s with
    |nil=>exact(h0 rfl).elim
    |cons a s=>
     refine .inr (.inr ⟨k,s,?_,?_⟩)
     ·rw[←hr,←e2];rfl
     ·have:s=n:=e1
      rw[this];exact ih
theorem PL{c:List Call}(hA: ∀i,i < c.length→Ob.eJ 2 (c.getD i Call.z).kind (c.getD i Call.z).arg)(Qc:Q c)(ew: ∀i,i < c.length→(c.getD i Call.z).aB=0): ∀{t:List Nat} {s:List Int} {w:List Nat},s.length+t.length≤50→(∀n∈s,Ob.gq n)→Qr c s w t→Pl [2] c (cO c) [s] w (t.map fun(i:Nat)=>(⟨(i:Int),(c.getD i Call.z).res⟩:Step))
 | [],_,_,_,_,_=>trivial
 |i::t,s,w,hl,hs,⟨g2,g3,g4,g⟩=>by
  rw[List.length_cons]at hl
  have step: ∀n:List Int,Ob.iH 2 s (c.getD i Call.z).kind (c.getD i Call.z).arg=some (n,(c.getD i Call.z).res)→n.length+t.length≤50→(∀x∈n,Ob.gq x)→Qr c n (w++[i]) t→Pl [2] c (cO c) [s] w ((i::t).map fun(i:Nat)=>(⟨(i:Int),(c.getD i Call.z).res⟩:Step)):=fun n h1 h2 h3 h4=>by
   refine⟨i,n,rfl,g2,g3,g4,fun _=>rfl,?_,?_⟩
   ·rw[ew i g2]
    show Ob.nx 2 s _ _=_
    unfold Ob.nx
    rw[if_pos ⟨.inr (.inl ⟨.inl rfl,by omega,hs⟩),hA i g2⟩]
    exact h1
   ·rw[ew i g2]
    exact PL hA Qc ew h2 h3 h4
  rcases g with⟨k,g⟩|⟨k,e,r,g⟩|⟨k,r,e,g⟩
  ·have q:=Qc.ea i g2 k
   refine step _ ?_ (by rw[List.length_append,List.length_singleton];omega) (fun x hx=>?_) g
   ·unfold Ob.iH
    rw[if_neg (by decide),if_neg (by decide),if_pos rfl,if_pos k,if_neg (by omega),q.2.2]
   ·rcases List.mem_append.1 hx with hx|hx
    ·exact hs x hx
    ·rw[List.mem_singleton.1 hx];exact⟨q.1,q.2.1⟩
  ·subst e
   refine step [] ?_ (by simp;omega) (fun x hx=>(nomatch hx)) g
   unfold Ob.iH
   rw[if_neg (by decide),if_neg (by decide),if_pos rfl,if_neg (by omega),if_pos (show([]:List Int).length=0 from rfl),r]
  ·subst e
   rw[List.length_cons]at hl
   refine step r ?_ (by omega) (fun x hx=>hs x (.tail _ hx)) g
   unfold Ob.iH
   rw[if_neg (by decide),if_neg (by decide),if_pos rfl,if_neg (by omega),if_neg (by simp)]
   rfl
def im(c:List Call)(w:List Nat):List Int:=(w.filter fun i=>decide ((c.getD i Call.z).kind=3)).map fun i=>(c.getD i Call.z).arg
def kf(c:List Call)(w:List Nat):List Int:=(w.filter fun i=>decide ((c.getD i Call.z).kind=4∧(c.getD i Call.z).res≠ -1)).map fun i=>(c.getD i Call.z).res
theorem vZ(c:List Call)(a b:List Nat):im c (a++b)=im c a++im c b:=by unfold im;rw[List.filter_append,List.map_append]
theorem AE(c:List Call)(a b:List Nat):kf c (a++b)=kf c a++kf c b:=by unfold kf;rw[List.filter_append,List.map_append]
theorem AF{c:List Call}{w:List Nat}{v:Int}:v∈im c w↔∃i,i∈w∧(c.getD i Call.z).kind=3∧(c.getD i Call.z).arg=v:=by
 unfold im
 simp only[List.mem_map,List.mem_filter,decide_eq_true_eq]
 exact⟨fun⟨i,⟨h1,h2⟩,h3⟩=>⟨i,h1,h2,h3⟩,fun⟨i,h1,h2,h3⟩=>⟨i,⟨h1,h2⟩,h3⟩⟩
theorem AG{c:List Call}{w:List Nat}{v:Int}:v∈kf c w↔∃i,i∈w∧((c.getD i Call.z).kind=4∧(c.getD i Call.z).res≠ -1)∧(c.getD i Call.z).res=v:=by
 unfold kf
 simp only[List.mem_map,List.mem_filter,decide_eq_true_eq]
 exact⟨fun⟨i,⟨h1,h2⟩,h3⟩=>⟨i,h1,h2,h3⟩,fun⟨i,h1,h2,h3⟩=>⟨i,⟨h1,h2⟩,h3⟩⟩
theorem PM{c:List Call}: ∀{t:List Nat} {s:List Int} {w:List Nat},Qr c s w t→t.Nodup∧(∀x∈t,x∉w∧x < c.length)
 | [],_,_,_=>⟨.nil,fun _ h=>(nomatch h)⟩
 |i::t,s,w,⟨g2,g3,g4,g⟩=>by
  have key: ∀n,Qr c n (w++[i]) t→(i::t).Nodup∧∀x∈i::t,x∉w∧x < c.length:=fun n h=>by
   obtain⟨h1,h2⟩:=PM h
   refine⟨List.nodup_cons.2 ⟨fun hi=>(h2 i hi).1 (by simp),h1⟩,fun x hx=>?_⟩
   rcases List.mem_cons.1 hx with rfl|hx
   ·exact⟨g3,g2⟩
   ·exact⟨fun e=>(h2 x hx).1 (List.mem_append.2 (.inl e)),(h2 x hx).2⟩
  rcases g with⟨_,g⟩|⟨_,_,_,g⟩|⟨_,r,_,g⟩
  ·exact key _ g
  ·exact key _ g
  ·exact key _ g
theorem Es{c:List Call}(Qc:Q c): ∀{t:List Nat} {s:List Int} {w:List Nat},Qr c s w t→(∀v∈s,v≠ -1)→im c w=kf c w++s→∀{t1:List Nat} {i:Nat} {t2:List Nat},t=t1++i::t2→
  ∃s',im c (w++t1)=kf c (w++t1)++s'∧(∀j,j∈w++t1→cO c i j=false)∧((c.getD i Call.z).kind=3∨((c.getD i Call.z).kind=4∧s'= []∧(c.getD i Call.z).res= -1)∨((c.getD i Call.z).kind=4∧∃r,s'=(c.getD i Call.z).res::r∧(c.getD i Call.z).res≠ -1))
 | [],_,_,_,_,_,t1,i,t2,e=>by cases t1<;>cases e
 |k::t,s,w,⟨g2,g3,g4,g⟩,hv,hE,[],i,t2,e=>by
  obtain⟨rfl,rfl⟩:=List.cons.inj e
  rw[List.append_nil]
  refine⟨s,hE,g4,?_⟩
  rcases g with⟨k,_⟩|⟨k,e,r,_⟩|⟨k,r,e,_⟩
  ·exact .inl k
  ·exact .inr (.inl ⟨k,e,r⟩)
  ·exact .inr (.inr ⟨k,r,e,hv _ (by rw[e];exact .head _)⟩)
 |k::t,s,w,⟨g2,g3,g4,g⟩,hv,hE,a::t1,i,t2,e=>by
  obtain⟨rfl,e'⟩:=List.cons.inj e
  have e2:w++k::t1=(w++[k])++t1:=by simp
  rw[e2]
  rcases g with⟨h,g⟩|⟨h,hs,hr,g⟩|⟨h,r,hs,g⟩
  ·refine Es Qc g (fun v LZ=>?_) ?_ e'
   ·rcases List.mem_append.1 LZ with h1|h1
    ·exact hv v h1
    ·rw[List.mem_singleton.1 h1]
     have:=Qc.ea k g2 h
     omega
   ·have a1:im c [k]= [(c.getD k Call.z).arg]:=by simp only[im,List.filter,decide_eq_true h,List.map]
    have a2:kf c [k]= []:=by simp only[kf,List.filter,decide_eq_false (show ¬((c.getD k Call.z).kind=4∧(c.getD k Call.z).res≠ -1)from fun q=>by omega),List.map]
    rw[vZ,AE,a1,a2,hE];simp
  ·refine Es Qc g (fun v LZ=>(nomatch LZ)) ?_ e'
   have a1:im c [k]= []:=by simp only[im,List.filter,decide_eq_false (show ¬(c.getD k Call.z).kind=3 by omega),List.map]
   have a2:kf c [k]= []:=by simp only[kf,List.filter,decide_eq_false (show ¬((c.getD k Call.z).kind=4∧(c.getD k Call.z).res≠ -1)from fun q=>q.2 hr),List.map]
   rw[vZ,AE,a1,a2,hE,hs]
  ·have hne:(c.getD k Call.z).res≠ -1:=hv _ (by rw[hs];exact .head _)
   refine Es Qc g (fun v LZ=>hv v (by rw[hs];exact .tail _ LZ)) ?_ e'
   have a1:im c [k]= []:=by simp only[im,List.filter,decide_eq_false (show ¬(c.getD k Call.z).kind=3 by omega),List.map]
   have a2:kf c [k]= [(c.getD k Call.z).res]:=by simp only[kf,List.filter,decide_eq_true (show(c.getD k Call.z).kind=4∧(c.getD k Call.z).res≠ -1 from⟨h,hne⟩),List.map]
   rw[vZ,AE,a1,a2,hE,hs];simp
theorem v_{α:Type}{v:α}{x y:List α}: ∀{a b:List α},(a++v::x).Nodup→a++v::x=b++v::y→a=b
 | [],[],_,_=>rfl
 | [],z::b,h,e=>by
  obtain⟨h1,h2⟩:=List.cons.inj (show v::x=z::(b++v::y)from e)
  exfalso
  refine(List.nodup_cons.1 (show(v::x).Nodup from h)).1 ?_
  rw[h2];simp
 |z::a,[],h,e=>by
  obtain⟨h1,h2⟩:=List.cons.inj (show z::(a++v::x)=v::y from e)
  exfalso
  refine(List.nodup_cons.1 (show(z::(a++v::x)).Nodup from h)).1 ?_
  rw[h1];simp
 |z::a,u::b,h,e=>by
  obtain⟨h1,h2⟩:=List.cons.inj (show z::(a++v::x)=u::(b++v::y)from e)
  rw[h1,v_ (List.nodup_cons.1 (show(z::(a++v::x)).Nodup from h)).2 h2]
theorem GU(f:Nat→Int): ∀(l:List Nat),l≠ []→∃m∈l,∀u∈l,f u≤f m
 | [],h=>(h rfl).elim
 | [a],_=>⟨a,by simp,fun u hu=>by rw[List.mem_singleton.1 hu];exact Int.le_refl _⟩
 |a::b::l,_=>by
  obtain⟨m,h1,h2⟩:=GU f (b::l) (by simp)
  by_cases h:f m≤f a
  ·refine⟨a,by simp,fun u hu=>?_⟩
   rcases List.mem_cons.1 hu with rfl|hu
   ·exact Int.le_refl _
   ·have:=h2 u hu;omega
  ·refine⟨m,.tail _ h1,fun u hu=>?_⟩
   rcases List.mem_cons.1 hu with rfl|hu
   ·omega
   ·exact h2 u hu
theorem Sn{c:List Call}(C:jp c)(Qc:Q c){L:List Nat}(R:Qr c [] [] L)(all: ∀i,i < c.length→(c.getD i Call.z).au≠ -1→i∈L):
  (¬ ∃i,cj c i)∧(¬ ∃i,cP c i)∧(¬ ∃i,db c i)∧(¬ ∃a b,ez c a b)∧¬ ∃i,fc c i:=by
 obtain⟨nd,lt⟩:=PM R
 have at_: ∀{t1:List Nat} {i:Nat} {t2:List Nat},L=t1++i::t2→∃s',im c t1=kf c t1++s'∧(∀j,j∈t1→cO c i j=false)∧((c.getD i Call.z).kind=3∨((c.getD i Call.z).kind=4∧s'= []∧(c.getD i Call.z).res= -1)∨((c.getD i Call.z).kind=4∧∃r,s'=(c.getD i Call.z).res::r∧(c.getD i Call.z).res≠ -1)):=fun e=>by
  have:=Es Qc R (fun v hv=>(nomatch hv)) rfl e
  simpa using this
 have bf: ∀{i j:Nat},i < c.length→j < c.length→(c.getD i Call.z).au≠ -1→(c.getD i Call.z).au < (c.getD j Call.z).from_→cO c i j=true:=fun h1 h2 h3 h4=>by unfold cO;exact decide_eq_true ⟨h1,h2,h3,h4⟩
 have real: ∀{x y:Nat} {u1 u2:List Nat},x∈L→cO c x y=true→L=u1++y::u2→x∈u1:=fun {x y u1 u2} hx hb e=>by
  rw[e]at hx
  rcases List.mem_append.1 hx with h|h
  ·exact h
  ·exfalso
   rcases List.mem_cons.1 h with rfl|h
   ·unfold cO at hb
    obtain⟨h1,_,h3,h4⟩:=of_decide_eq_true hb
    have:=Qc.tm x h1
    omega
   ·obtain⟨v1,v2,rfl⟩:=List.append_of_mem h
    obtain⟨_,_,h2,_⟩:=at_ (t1:=u1++y::v1) (i:=x) (t2:=v2) (by rw[e];simp)
    rw[h2 y (by simp)]at hb
    cases hb
 have end_: ∀{w1 w2:List Nat},L=w1++w2→(im c w1).Nodup:=fun {w1 w2} e=>by
  have h1:w1.Nodup:=by rw[e]at nd;exact(List.nodup_append.1 nd).1
  unfold im
  refine List.pairwise_map.2 ?_
  have h2:(w1.filter fun i=>decide ((c.getD i Call.z).kind=3)).Nodup:=h1.sublist List.filter_sublist
  refine h2.imp_of_mem fun {a b} ha hb hab he=>hab ?_
  have ha:=List.mem_filter.1 ha
  have hb:=List.mem_filter.1 hb
  exact C.uq a b (lt a (by rw[e];exact List.mem_append.2 (.inl ha.1))).2 (lt b (by rw[e];exact List.mem_append.2 (.inl hb.1))).2 (of_decide_eq_true ha.2) (of_decide_eq_true hb.2) he
 have put: ∀{i:Nat},i < c.length→(c.getD i Call.z).kind=4∧(c.getD i Call.z).res≠ -1→∃w1 w2 e r,L=w1++i::w2∧e∈w1∧(c.getD e Call.z).kind=3∧(c.getD e Call.z).arg=(c.getD i Call.z).res∧im c w1=kf c w1++(c.getD i Call.z).res::r∧∀j,j∈w1→cO c i j=false:=fun {i} hi hk=>by
  obtain⟨w1,w2,e⟩:=List.append_of_mem (all i hi (C.dn i hi hk.1))
  obtain⟨s',h1,h2,h3⟩:=at_ e
  rcases h3 with h3|⟨_,_,h3⟩|⟨_,r,h3,_⟩
  ·omega
  ·exact(hk.2 h3).elim
  ·rw[h3]at h1
   have hm:(c.getD i Call.z).res∈im c w1:=by rw[h1];simp
   obtain⟨x,x1,x2,x3⟩:=AF.1 hm
   exact⟨w1,w2,x,r,e,x1,x2,x3,h1,h2⟩
 have N2: ∀{i j:Nat},i < c.length→j < c.length→(c.getD i Call.z).kind=4∧(c.getD i Call.z).res≠ -1→(c.getD j Call.z).kind=4→(c.getD j Call.z).res=(c.getD i Call.z).res→i=j:=fun {i j} hi hj ki kj e=>by
  have key: ∀{i j:Nat} {w1 w2:List Nat} {r:List Int},(c.getD j Call.z).kind=4∧(c.getD j Call.z).res≠ -1→(c.getD j Call.z).res=(c.getD i Call.z).res→L=w1++i::w2→im c w1=kf c w1++(c.getD i Call.z).res::r→j∈w1→False:=fun {i j w1 w2 r} kj e hL hE hm=>by
   have h1:=end_ hL
   rw[hE]at h1
   have h2:(c.getD i Call.z).res∈kf c w1:=AG.2 ⟨j,hm,kj,e⟩
   exact(List.nodup_append.1 h1).2.2 _ h2 _ (by simp) rfl
  obtain⟨w1,w2,_,r,e1,_,_,_,e2,_⟩:=put hi ki
  have Yu:(c.getD j Call.z).kind=4∧(c.getD j Call.z).res≠ -1:=⟨kj,by rw[e];exact ki.2⟩
  obtain⟨u1,u2,_,r2,f1,_,_,_,f2,_⟩:=put hj Yu
  have Yv:=all j hj (C.dn j hj kj)
  rw[e1]at Yv
  rcases List.mem_append.1 Yv with h|h
  ·exact(key Yu e e1 e2 h).elim
  ·rcases List.mem_cons.1 h with h|h
   ·exact h.symm
   ·exfalso
    have Yw:i∈L:=all i hi (C.dn i hi ki.1)
    rw[f1]at Yw
    rcases List.mem_append.1 Yw with g|g
    ·exact key ki e.symm f1 f2 g
    ·rcases List.mem_cons.1 g with g|g
     ·subst g
      rw[e1]at nd
      exact(List.nodup_cons.1 (List.nodup_append.1 nd).2.1).1 h
     ·obtain⟨v1,v2,rfl⟩:=List.append_of_mem h
      have e3:L=(w1++i::v1)++j::v2:=by rw[e1];simp
      rw[f1]at e3
      have PN:=nd
      rw[f1]at PN
      have:u1=w1++i::v1:=v_ PN e3
      rw[this]at f1 PN
      have hi2:i∈w1++i::v1:=by simp
      exact(List.nodup_append.1 PN).2.2 i hi2 i (.tail _ g) rfl
 refine⟨fun⟨i,S⟩=>?_,fun⟨i,S⟩=>?_,fun⟨i,S⟩=>?_,fun⟨a,b,S⟩=>?_,fun⟨i,S⟩=>?_⟩
 ·obtain⟨w1,w2,e,r,h1,h2,h3,h4,_⟩:=put S.lt S.dq
  exact S.no e (lt e (by rw[h1];exact List.mem_append.2 (.inl h2))).2 h3 h4
 ·obtain⟨j,j1,j2,j3⟩:=S.is
  have:=N2 S.lt (Nat.lt_trans j1 S.lt) S.dq j2 j3
  omega
 ·obtain⟨w1,w2,e,r,h1,h2,h3,h4,_,h5⟩:=put S.lt S.dq
  obtain⟨e',k1,k2,k3,k4⟩:=S.is
  have hel:=(lt e (by rw[h1];exact List.mem_append.2 (.inl h2))).2
  obtain rfl:=C.uq e e' hel k1 h3 k2 (by rw[h4,k3])
  have:=bf S.lt k1 (C.dn i S.lt S.dq.1) k4
  rw[h5 e h2]at this
  cases this
 ·obtain⟨d,d1,d2⟩:=S.is
  have qb:=Qc.ea b S.lb S.kb
  have qa:=Qc.ea a S.la S.ka
  obtain⟨w1,w2,e,r,h1,h2,h3,h4,h6,h5⟩:=put d1.1 ⟨d1.2.1,by rw[d1.2.2.1];omega⟩
  have hel:=(lt e (by rw[h1];exact List.mem_append.2 (.inl h2))).2
  obtain rfl:=C.uq e b hel S.lb h3 S.kb (by rw[h4,d1.2.2.1])
  obtain⟨u1,u2,rfl⟩:=List.append_of_mem h2
  have ha:a∈u1:=real (all a S.la S.ah.1) (bf S.la S.lb S.ah.1 S.ah.2) (show L=u1++e::(u2++d::w2) by rw[h1];simp)
  have hnd:=end_ h1
  have hE:im c (u1++e::u2)=im c u1++(c.getD e Call.z).arg::im c u2:=by
   rw[vZ]
   congr 1
   simp only[im,List.filter_cons,decide_eq_true h3,if_pos,List.map_cons]
  rw[hE]at hnd h6
  rw[←h4]at h6
  have heq:=v_ hnd h6
  have hm:(c.getD a Call.z).arg∈kf c (u1++e::u2):=by rw[←heq];exact AF.2 ⟨a,ha,S.ka,rfl⟩
  obtain⟨x,x1,x2,x3⟩:=AG.1 hm
  have hxl:=(lt x (by rw[h1];exact List.mem_append.2 (.inl x1))).2
  rcases d2 with d2|⟨y,y1,y2⟩
  ·exact d2 x hxl x2.1 x3
  ·obtain rfl:=N2 hxl y1.1 x2 y1.2.1 (by rw[y1.2.2.1,x3])
   have:=bf d1.1 y1.1 y2.1 y2.2
   rw[h5 x x1]at this
   cases this
 ·have hd:=C.dn i S.lt S.dq.1
  obtain⟨w1,w2,e⟩:=List.append_of_mem (all i S.lt hd)
  obtain⟨s',h1,h2,h3⟩:=at_ e
  have hs:s'= []:=by
   rcases h3 with h3|⟨_,h3,_⟩|⟨_,_,_,h3⟩
   ·have:=S.dq.1;omega
   ·exact h3
   ·exact(h3 S.dq.2).elim
  subst hs
  rw[List.append_nil]at h1
  obtain⟨m,m1,m2⟩:=GU (fun j=>(c.getD j Call.z).from_) (w1++[i]) (by simp)
  have hml:m < c.length:=by
   rcases List.mem_append.1 m1 with g|g
   ·exact(lt m (by rw[e];exact List.mem_append.2 (.inl g))).2
   ·rw[List.mem_singleton.1 g];exact S.lt
  have ti:=Qc.tm i S.lt
  have g1:(c.getD m Call.z).from_ < (c.getD i Call.z).au:=by
   apply Classical.byContradiction
   intro g
   have ne:=Qc.ne i m S.lt hml hd
   rcases List.mem_append.1 m1 with q|q
   ·have:=bf S.lt hml hd (by omega)
    rw[h2 m q]at this
    cases this
   ·rw[List.mem_singleton.1 q]at g
    omega
  obtain⟨x,x1,x2,x3,x4,x5⟩:=S.is (c.getD m Call.z).from_ (m2 i (by simp)) g1
  have zm:cO c x m=true:=bf x1 hml x3 (by have:=Qc.ne x m x1 hml x3;omega)
  have hx:x∈w1:=by
   rcases List.mem_append.1 m1 with q|q
   ·obtain⟨u1,u2,rfl⟩:=List.append_of_mem q
    have:=real (all x x1 x3) zm (show L=u1++m::(u2++i::w2) by rw[e];simp)
    exact List.mem_append.2 (.inl this)
   ·rw[List.mem_singleton.1 q]at zm
    exact real (all x x1 x3) zm e
  have hm:(c.getD x Call.z).arg∈kf c w1:=by rw[←h1];exact AF.2 ⟨x,hx,x2,rfl⟩
  obtain⟨d,d1,d2,d3⟩:=AG.1 hm
  have hdl:=(lt d (by rw[e];exact List.mem_append.2 (.inl d1))).2
  rcases x5 with x5|⟨y,y1,y2⟩
  ·exact x5 d hdl d2.1 d3
  ·obtain rfl:=N2 hdl y1.1 d2 y1.2.1 (by rw[y1.2.2.1,d3])
   have:=m2 d (List.mem_append.2 (.inl d1))
   omega
end Rw
namespace Rw
open Hs Sr
theorem L3(f:Nat→Int)(l:List Nat)(h:l≠ []): ∃m∈l,∀u∈l,f m≤f u:=by
 obtain⟨m,h1,h2⟩:=GU (fun i=> - f i) l h
 exact⟨m,h1,fun u hu=>by have:=h2 u hu;omega⟩
theorem Od(et ef dt df:Nat→Int): ∀(n:Nat) (V:List Nat),V.length=n→(∀v∈V,ef v≤et v∧df v≤dt v)→(∀u∈V,∀v∈V,et u < ef v→dt v < df u→False)→
  ∃V':List Nat,V'.Perm V∧V'.Pairwise fun i j=>ef i≤et j∧df i≤dt j
 |0,V,h,_,_=>⟨[],by rw[List.length_eq_zero_iff.1 h],.nil⟩
 |n+1,V,h,h1,h2=>by
  have hne:V≠ []:=fun e=>by rw[e]at h;cases h
  obtain⟨m,m1,m2⟩:=L3 et V hne
  have mS:m∈V.filter (fun v=>decide (∀u∈V,ef v≤et u)):=List.mem_filter.2 ⟨m1,decide_eq_true fun u hu=>Int.le_trans (h1 m m1).1 (m2 u hu)⟩
  have hS:V.filter (fun v=>decide (∀u∈V,ef v≤et u))≠ []:=fun e=>by
   rw[e]at mS;cases mS
  obtain⟨v,v1,v2⟩:=L3 df _ hS
  have v1:=List.mem_filter.1 v1
  have v3:=of_decide_eq_true v1.2
  have v4: ∀u∈V,df v≤dt u:=fun u hu=>by
   apply Classical.byContradiction
   intro g
   by_cases Yx: ∀w∈V,ef u≤et w
   ·have:=v2 u (List.mem_filter.2 ⟨hu,decide_eq_true Yx⟩)
    have:=(h1 u hu).2
    omega
   ·have: ∃w∈V,et w < ef u:=by
     apply Classical.byContradiction
     intro q
     exact Yx fun w hw=>by
      apply Classical.byContradiction
      intro q2
      exact q ⟨w,hw,by omega⟩
    obtain⟨w,w1,w2⟩:=this
    have a1:=m2 w w1
    have a2:=v2 m mS
    exact h2 m m1 u hu (by omega) (by omega)
  obtain⟨V',p1,p2⟩:=Od et ef dt df n (V.erase v) (by rw[List.length_erase_of_mem v1.1];omega) (fun u hu=>h1 u (List.mem_of_mem_erase hu)) (fun a ha b hb=>h2 a (List.mem_of_mem_erase ha) b (List.mem_of_mem_erase hb))
  refine⟨v::V',(p1.cons v).trans (List.perm_cons_erase v1.1).symm,List.pairwise_cons.2 ⟨fun u hu=>?_,p2⟩⟩
  have hu:u∈V:=List.mem_of_mem_erase (p1.mem_iff.1 hu)
  exact⟨v3 u hu,v4 u hu⟩
theorem points(ef et df dt:Nat→Int)(T:Int→Prop): ∀(V:List Nat) (a b:Int) (r:Nat),V.Nodup→V.Pairwise (fun i j=>ef i≤et j∧df i≤dt j)→
  (∀v∈V,ef v≤et v∧df v≤dt v∧ef v≤df v∧a≤et v∧b≤dt v∧∀τ,T τ→(τ < ef v↔τ < df v))→a≤b→(∀τ,T τ→(τ < a↔τ < b))→
  ∃(X Y:Nat→Int) (R:Nat→Nat),V.Pairwise (fun i j=>X i≤X j∧Y i≤Y j∧R i < R j)∧∀v∈V,a≤X v∧b≤Y v∧ef v≤X v∧X v≤et v∧df v≤Y v∧Y v≤dt v∧X v≤Y v∧r≤R v∧R v < r+V.length∧∀τ,T τ→(τ < X v↔τ < Y v)
 | [],_,_,_,_,_,_,_,_=>⟨fun _=>0,fun _=>0,fun _=>0,.nil,fun _ h=>(nomatch h)⟩
 |e::V,a,b,r,nd,pw,h,hab,hT=>by
  have he:=h e (.head _)
  obtain⟨n1,n2⟩:=List.nodup_cons.1 nd
  obtain⟨p1,p2⟩:=List.pairwise_cons.1 pw
  have hTe: ∀τ,T τ→(τ < max a (ef e)↔τ < max b (df e)):=fun τ hτ=>by
   have:=he.2.2.2.2.2 τ hτ
   have:=hT τ hτ
   omega
  obtain⟨X,Y,R,q1,q2⟩:=points ef et df dt T V (max a (ef e)) (max b (df e)) (r+1) n2 p2 (fun v hv=>by
   have h1:=h v (.tail _ hv)
   have h2:=p1 v hv
   exact⟨h1.1,h1.2.1,h1.2.2.1,by omega,by omega,h1.2.2.2.2.2⟩) (by omega) hTe
  refine⟨fun i=>if i=e then max a (ef e)else X i,fun i=>if i=e then max b (df e)else Y i,fun i=>if i=e then r else R i,List.pairwise_cons.2 ⟨fun j hj=>?_,q1.imp_of_mem fun {i j} hi hj hij=>?_⟩,fun v hv=>?_⟩
  ·have hne:j≠e:=fun g=>n1 (g▸hj)
   have:=q2 j hj
   simp only[if_pos,if_neg hne]
   omega
  ·have hi:i≠e:=fun g=>n1 (g▸hi)
   have hj:j≠e:=fun g=>n1 (g▸hj)
   simp only[if_neg hi,if_neg hj]
   exact hij
  ·rw[List.length_cons]
   rcases List.mem_cons.1 hv with rfl|hv
   ·simp only[if_pos]
    exact⟨by omega,by omega,by omega,by omega,by omega,by omega,by omega,by omega,by omega,hTe⟩
   ·have hne:v≠e:=fun g=>n1 (g▸hv)
    have:=q2 v hv
    simp only[if_neg hne]
    exact⟨by omega,by omega,by omega,by omega,by omega,by omega,by omega,by omega,by omega,this.2.2.2.2.2.2.2.2.2⟩
structure Fq(c:List Call)(e:Nat)(ef et df dt:Int):Prop where
 lo:2 * (c.getD e Call.z).from_≤ef
 hi:(c.getD e Call.z).au≠ -1→et≤2 * (c.getD e Call.z).au
 ee:ef≤et
 dd:df≤dt
 ed:ef≤df
 ub:dt≤2000
 dq: ∀d,Fd c c.length (c.getD e Call.z).arg d→2 * (c.getD d Call.z).from_≤df∧dt=2 * (c.getD d Call.z).au
 E1:((c.getD e Call.z).au≠ -1∧et=2 * (c.getD e Call.z).au)∨(∃d,Fd c c.length (c.getD e Call.z).arg d∧et=2 * (c.getD d Call.z).au)∨et=2000
 E2:ef=2 * (c.getD e Call.z).from_∨∃τ,¬wA c τ∧ef=2 * τ+1∧2 * τ < df
 E3:(∃d,Fd c c.length (c.getD e Call.z).arg d∧dt=2 * (c.getD d Call.z).au∧(df=2 * (c.getD d Call.z).from_∨df=2 * (c.getD e Call.z).from_))∨(Nd c c.length (c.getD e Call.z).arg∧dt=2000∧df=2000)
 T: ∀τ,0≤τ→τ < 200→¬wA c τ→(2 * τ < ef↔2 * τ < df)
theorem lift(U:Int→Prop)(a:Int): ∀n:Nat,∃m,a≤m∧(∀τ:Int,0≤τ→τ < n→U τ→2 * τ+1≤m)∧(m=a∨∃τ:Int,0≤τ∧τ < n∧U τ∧m=2 * τ+1)
 |0=>⟨a,Int.le_refl _,fun τ h1 h2=>absurd h2 (by omega),.inl rfl⟩
 |n+1=>by
  obtain⟨m,h1,h2,h3⟩:=lift U a n
  have old: ∀τ:Int,0≤τ→τ < (n+1:Nat)→U τ→τ < n∨τ=n:=fun τ _ h _=>by omega
  by_cases h:U (n:Int)∧m≤2 * (n:Int)+1
  ·refine⟨2 * n+1,by omega,fun τ t0 t1 t2=>by omega,.inr ⟨n,by omega,by omega,h.1,rfl⟩⟩
  ·refine⟨m,h1,fun τ t0 t1 t2=>?_,?_⟩
   ·rcases old τ t0 t1 t2 with g|g
    ·exact h2 τ t0 g t2
    ·subst g
     have: ¬m≤2 * (n:Int)+1:=fun q=>h ⟨t2,q⟩
     omega
   ·rcases h3 with h3|⟨τ,t0,t1,t2,t3⟩
    ·exact .inl h3
    ·exact .inr ⟨τ,t0,by omega,t2,t3⟩
section
variable {c:List Call} (Qc:Q c) (C:jp c) (n1: ¬ ∃i,cj c i) (n2: ¬ ∃i,cP c i) (n3: ¬ ∃i,db c i) (n4: ¬ ∃a b,ez c a b) (n5: ¬ ∃i,fc c i)
include Qc C n3
theorem wa{e d:Nat}(he:e < c.length)(ke:(c.getD e Call.z).kind=3)(hd:Fd c c.length (c.getD e Call.z).arg d):(c.getD e Call.z).from_ < (c.getD d Call.z).au∧(c.getD d Call.z).from_ < (c.getD d Call.z).au∧(c.getD d Call.z).au < 200∧0≤(c.getD d Call.z).from_:=by
 have ha:=Qc.ea e he ke
 have h1:=C.dn d hd.1 hd.2.1
 have h2:=Qc.tm d hd.1
 have h3:=Qc.ne d e hd.1 he h1
 have h4: ¬(c.getD d Call.z).au < (c.getD e Call.z).from_:=fun h=>n3 ⟨d,hd.1,⟨hd.2.1,by rw[hd.2.2.1];omega⟩,e,he,ke,hd.2.2.1.symm,h⟩
 omega
theorem W8{e:Nat}(he:e < c.length)(ke:(c.getD e Call.z).kind=3): ∃ef et df dt,Fq c e ef et df dt:=by
 have tm:=Qc.tm e he
 have fin: ∀et df dt:Int,2 * (c.getD e Call.z).from_≤et→2 * (c.getD e Call.z).from_≤df→df≤dt→dt≤2000→((c.getD e Call.z).au≠ -1→et≤2 * (c.getD e Call.z).au)→
   (∀τ:Int,0≤τ→τ < 200→¬wA c τ→2 * τ < df→2 * τ+1≤et)→(∀d,Fd c c.length (c.getD e Call.z).arg d→2 * (c.getD d Call.z).from_≤df∧dt=2 * (c.getD d Call.z).au)→
   (((c.getD e Call.z).au≠ -1∧et=2 * (c.getD e Call.z).au)∨(∃d,Fd c c.length (c.getD e Call.z).arg d∧et=2 * (c.getD d Call.z).au)∨et=2000)→
   ((∃d,Fd c c.length (c.getD e Call.z).arg d∧dt=2 * (c.getD d Call.z).au∧(df=2 * (c.getD d Call.z).from_∨df=2 * (c.getD e Call.z).from_))∨(Nd c c.length (c.getD e Call.z).arg∧dt=2000∧df=2000))→∃ef et df dt,Fq c e ef et df dt:=fun et df dt a1 a2 a3 a4 a5 a6 a7 a8 a9=>by
  obtain⟨m,m1,m2,m3⟩:=lift (fun τ=>¬wA c τ∧2 * τ < df) (2 * (c.getD e Call.z).from_) 200
  refine⟨m,et,df,dt,m1,a5,?_,a3,?_,a4,a7,a8,?_,a9,fun τ t0 t1 t2=>⟨fun h=>?_,fun h=>?_⟩⟩
  ·rcases m3 with m3|⟨τ,t0,t1,t2,t3⟩
   ·omega
   ·have:=a6 τ t0 (by omega) t2.1 t2.2
    omega
  ·rcases m3 with m3|⟨τ,t0,t1,t2,t3⟩
   ·omega
   ·have:=t2.2;omega
  ·rcases m3 with m3|⟨τ,t0,t1,t2,t3⟩
   ·exact .inl m3
   ·exact .inr ⟨τ,t2.1,t3,t2.2⟩
  ·rcases m3 with m3|⟨τ',t0,t1,t2,t3⟩
   ·omega
   ·have:=t2.2;omega
  ·have:=m2 τ t0 (by omega) ⟨t2,h⟩
   omega
 rcases Eo c (c.getD e Call.z).arg c.length with hN|⟨d,hd⟩
 ·by_cases ht:(c.getD e Call.z).au= -1
  ·exact fin 2000 2000 2000 (by omega) (by omega) (by omega) (by omega) (fun h=>(h ht).elim) (fun τ _ _ _ _=>by omega) (fun d hd=>(hN d hd.1 hd.2.1 hd.2.2.1).elim) (.inr (.inr rfl)) (.inr ⟨hN,rfl,rfl⟩)
  ·refine fin (2 * (c.getD e Call.z).au) 2000 2000 (by omega) (by omega) (by omega) (by omega) (fun _=>by omega) (fun τ t0 t1 t2 _=>?_) (fun d hd=>(hN d hd.1 hd.2.1 hd.2.2.1).elim) (.inl ⟨ht,rfl⟩) (.inr ⟨hN,rfl,rfl⟩)
   apply Classical.byContradiction
   intro g
   exact t2 ⟨e,he,ke,ht,by omega,.inl hN⟩
 ·have hda:=wa Qc C n3 he ke hd
  have uq: ∀d',Fd c c.length (c.getD e Call.z).arg d'→2 * (c.getD d' Call.z).from_≤2 * max (c.getD d Call.z).from_ (c.getD e Call.z).from_∧2 * (c.getD d Call.z).au=2 * (c.getD d' Call.z).au:=fun d' hd'=>by
   obtain rfl:=vV hd hd'
   omega
  have E3:(∃d',Fd c c.length (c.getD e Call.z).arg d'∧2 * (c.getD d Call.z).au=2 * (c.getD d' Call.z).au∧(2 * max (c.getD d Call.z).from_ (c.getD e Call.z).from_=2 * (c.getD d' Call.z).from_∨2 * max (c.getD d Call.z).from_ (c.getD e Call.z).from_=2 * (c.getD e Call.z).from_)):=⟨d,hd,rfl,by omega⟩
  by_cases ht:(c.getD e Call.z).au= -1
  ·exact fin (2 * (c.getD d Call.z).au) (2 * max (c.getD d Call.z).from_ (c.getD e Call.z).from_) (2 * (c.getD d Call.z).au) (by omega) (by omega) (by omega) (by omega) (fun h=>(h ht).elim) (fun τ t0 t1 t2 t3=>by omega) uq (.inr (.inl ⟨d,hd,rfl⟩)) (.inl E3)
  ·refine fin (min (2 * (c.getD e Call.z).au) (2 * (c.getD d Call.z).au)) (2 * max (c.getD d Call.z).from_ (c.getD e Call.z).from_) (2 * (c.getD d Call.z).au) (by omega) (by omega) (by omega) (by omega) (fun _=>by omega) (fun τ t0 t1 t2 t3=>?_) uq ?_ (.inl E3)
   ·by_cases g:(c.getD e Call.z).au≤τ
    ·have: ¬τ < (c.getD d Call.z).from_:=fun q=>t2 ⟨e,he,ke,ht,g,.inr ⟨d,hd,q⟩⟩
     omega
    ·omega
   ·by_cases g:(c.getD e Call.z).au≤(c.getD d Call.z).au
    ·exact .inl ⟨ht,by omega⟩
    ·exact .inr (.inl ⟨d,hd,by omega⟩)
include n4
theorem VZ{u v:Nat}(hu:u < c.length)(ku:(c.getD u Call.z).kind=3)(hv:v < c.length)(kv:(c.getD v Call.z).kind=3){ef et df dt Yy et' df' Yz:Int}(Fu:Fq c u ef et df dt)(Fv:Fq c v Yy et' df' Yz)(h1:et < Yy)(h2:Yz < df):False:=by
 have bu:=Fu.ub
 have du:=Fu.dd
 have dv:=Fv.dd
 have ev:=Fv.ed
 have tu:=Qc.tm u hu
 have tv:=Qc.tm v hv
 rcases Fv.E3 with⟨y,y1,y2,y3⟩|⟨_,y2,_⟩
 case inr=>omega
 have ay:=wa Qc C n3 hv kv y1
 have YA: ∀{τ:Int},(∀x,Fd c c.length (c.getD u Call.z).arg x→(c.getD x Call.z).from_≤τ)→¬Nd c c.length (c.getD u Call.z).arg→(c.getD u Call.z).from_≤τ→df≤2 * τ:=fun {τ} g1 g2 g3=>by
  rcases Fu.E3 with⟨x,x1,x2,x3⟩|⟨x1,_⟩
  ·have:=g1 x x1
   omega
  ·exact(g2 x1).elim
 rcases Fv.E2 with e2|⟨τ,t2,e2,t3⟩
 ·rcases Fu.E1 with⟨q1,q2⟩|⟨x,x1,x2⟩|q2
  ·have ah:Ah c u v:=⟨q1,by omega⟩
   rcases Fu.E3 with⟨x,x1,x2,x3|x3⟩|⟨x1,_⟩
   ·exact n4 ⟨u,v,hu,hv,ku,kv,ah,y,y1,.inr ⟨x,x1,C.dn y y1.1 y1.2.1,by omega⟩⟩
   ·omega
   ·exact n4 ⟨u,v,hu,hv,ku,kv,ah,y,y1,.inl x1⟩
  ·have ax:=wa Qc C n3 hu ku x1
   rcases Fu.E3 with⟨x',z1,z2,z3|z3⟩|⟨z1,_⟩
   ·obtain rfl:=vV x1 z1
    omega
   ·omega
   ·exact z1 x x1.1 x1.2.1 x1.2.2.1
  ·omega
 ·have hle:df≤2 * τ:=by
   rcases Fu.E1 with⟨q1,q2⟩|⟨x,x1,x2⟩|q2
   ·refine YA (fun x hx=>?_) (fun hN=>t2 ⟨u,hu,ku,q1,by omega,.inl hN⟩) (by omega)
    apply Classical.byContradiction
    intro g
    exact t2 ⟨u,hu,ku,q1,by omega,.inr ⟨x,hx,by omega⟩⟩
   ·have ax:=wa Qc C n3 hu ku x1
    refine YA (fun x' hx'=>?_) (fun hN=>hN x x1.1 x1.2.1 x1.2.2.1) (by omega)
    obtain rfl:=vV x1 hx'
    omega
   ·omega
  rcases y3 with y3|y3<;>omega
end
end Rw
namespace Rw
open Hs
theorem Oe{c:List Call}{r:Bool×Int×Int×Int×Int}(h:BD c r)(h2:r.1=true):(¬ ∃i,cj c i)∧(¬ ∃i,cP c i)∧(¬ ∃i,db c i)∧(¬ ∃a b,ez c a b)∧¬ ∃i,fc c i:=by
 rcases h with⟨rfl,h⟩|⟨_,_,rfl,_⟩|⟨_,_,rfl,_⟩|⟨_,_,rfl,_⟩|⟨_,_,rfl,_⟩|⟨_,_,rfl,_⟩
 ·exact h
 all_goals cases h2
theorem V0{c:List Call}{r:Bool×Int×Int×Int×Int}(h:BD c r)(h1: ¬ ∃i,cj c i)(h2: ¬ ∃i,cP c i)(h3: ¬ ∃i,db c i)(h4: ¬ ∃x y,ez c x y)(h5: ¬ ∃i,fc c i):r=(true,0,0,0,0):=by
 rcases h with⟨rfl,h⟩|⟨_,_,_,h⟩|⟨_,_,_,h,_⟩|⟨_,_,_,h,_⟩|⟨_,_,_,h,_⟩|⟨_,_,_,h,_⟩
 ·rfl
 ·exact(h1 ⟨_,h⟩).elim
 ·exact(h2 ⟨_,h⟩).elim
 ·exact(h3 ⟨_,h⟩).elim
 ·exact(h4 ⟨_,_,h⟩).elim
 ·exact(h5 ⟨_,h⟩).elim
end Rw
namespace Rw
open Hs Sr
def pr(c:List Call)(w:List Nat)(e:Nat):Bool:=decide (e∈w)&& !(w.any fun d=>decide ((c.getD d Call.z).kind=4∧(c.getD d Call.z).res=(c.getD e Call.z).arg))
theorem ma{c:List Call}{w:List Nat}{e:Nat}:pr c w e=true↔e∈w∧∀d∈w,¬((c.getD d Call.z).kind=4∧(c.getD d Call.z).res=(c.getD e Call.z).arg):=by
 unfold pr
 rw[Bool.and_eq_true,decide_eq_true_eq,Bool.not_eq_true',List.any_eq_false]
 simp only[decide_eq_true_eq]
def oJ(c:List Call)(V w:List Nat):List Int:=(V.filter (pr c w)).map fun e=>(c.getD e Call.z).arg
theorem L4{c:List Call}(GA:c.length≤200)(Qc:Q c)(C:jp c)(n1: ¬ ∃i,cj c i)(n2: ¬ ∃i,cP c i)(n3: ¬ ∃i,db c i)(n4: ¬ ∃a b,ez c a b)(n5: ¬ ∃i,fc c i): ∃L:List Nat,Qr c [] [] L∧(∀i,i < c.length→i∈L)∧L.length=c.length:=by
 have aaB: ∀e:Nat,∃p:Int×Int×Int×Int,e < c.length→(c.getD e Call.z).kind=3→Fq c e p.1 p.2.1 p.2.2.1 p.2.2.2:=fun e=>by
  by_cases h:e < c.length∧(c.getD e Call.z).kind=3
  ·obtain⟨ef,et,df,dt,F⟩:=W8 Qc C n3 h.1 h.2
   exact⟨(ef,et,df,dt),fun _ _=>F⟩
  ·exact⟨(0,0,0,0),fun h1 h2=>(h ⟨h1,h2⟩).elim⟩
 obtain⟨f,hf⟩:=Classical.axiomOfChoice aaB
 have aaC: ∀i:Nat,∃τ:Int,i < c.length→(c.getD i Call.z).kind=4∧(c.getD i Call.z).res= -1→(c.getD i Call.z).from_≤τ∧τ < (c.getD i Call.z).au∧¬wA c τ:=fun i=>by
  by_cases h:i < c.length∧(c.getD i Call.z).kind=4∧(c.getD i Call.z).res= -1
  ·apply Classical.byContradiction
   intro g
   refine n5 ⟨i,h.1,h.2,fun t t1 t2=>?_⟩
   apply Classical.byContradiction
   intro g2
   exact g ⟨t,fun _ _=>⟨t1,t2,g2⟩⟩
  ·exact⟨0,fun h1 h2=>(h ⟨h1,h2⟩).elim⟩
 obtain⟨L5,V3⟩:=Classical.axiomOfChoice aaC
 have aaD: ∀d:Nat,∃e:Nat,d < c.length→(c.getD d Call.z).kind=4∧(c.getD d Call.z).res≠ -1→e < c.length∧(c.getD e Call.z).kind=3∧(c.getD e Call.z).arg=(c.getD d Call.z).res:=fun d=>by
  by_cases h:d < c.length∧(c.getD d Call.z).kind=4∧(c.getD d Call.z).res≠ -1
  ·apply Classical.byContradiction
   intro g
   refine n1 ⟨d,h.1,h.2,fun e e1 e2 e3=>?_⟩
   exact g ⟨e,fun _ _=>⟨e1,e2,e3⟩⟩
  ·exact⟨0,fun h1 h2=>(h ⟨h1,h2⟩).elim⟩
 obtain⟨own,hown⟩:=Classical.axiomOfChoice aaD
 have PO: ∀{d:Nat},d < c.length→(c.getD d Call.z).kind=4∧(c.getD d Call.z).res≠ -1→Fd c c.length (c.getD d Call.z).res d:=fun {d} h1 h2=>⟨h1,h2.1,rfl,fun j hj k1 k2=>n2 ⟨d,h1,h2,j,hj,k1,k2⟩⟩
 have J3: ∀{x d:Nat},x < c.length→(c.getD x Call.z).kind=3→d < c.length→(c.getD d Call.z).kind=4∧(c.getD d Call.z).res≠ -1→(c.getD d Call.z).res=(c.getD x Call.z).arg→own d=x:=fun {x d} hx kx hd kd e=>by
  obtain⟨o1,o2,o3⟩:=hown d hd kd
  exact C.uq _ _ o1 hx o2 kx (by rw[o3,e])
 have GV: ∀{x:Nat},x < c.length→(c.getD x Call.z).kind=3→(c.getD x Call.z).arg≠ -1:=fun {x} hx kx=>by
  have:=Qc.ea x hx kx
  omega
 obtain⟨V,V1,V2⟩:=Od (fun e=>(f e).2.1) (fun e=>(f e).1) (fun e=>(f e).2.2.2) (fun e=>(f e).2.2.1) _ ((List.range c.length).filter fun e=>decide ((c.getD e Call.z).kind=3)) rfl (fun v hv=>by
   have hv:=List.mem_filter.1 hv
   have F:=hf v (List.mem_range.1 hv.1) (of_decide_eq_true hv.2)
   exact⟨F.ee,F.dd⟩) (fun u hu v hv h1 h2=>by
   have hu:=List.mem_filter.1 hu
   have hv:=List.mem_filter.1 hv
   have YB:=List.mem_range.1 hu.1
   have hvl:=List.mem_range.1 hv.1
   have ku:=of_decide_eq_true hu.2
   have kv:=of_decide_eq_true hv.2
   exact VZ Qc C n3 n4 YB ku hvl kv (hf u YB ku) (hf v hvl kv) h1 h2)
 have Vm: ∀{x:Nat},x∈V↔x < c.length∧(c.getD x Call.z).kind=3:=fun {x}=>by
  rw[V1.mem_iff,List.mem_filter,List.mem_range,decide_eq_true_eq]
 have Vn:V.Nodup:=V1.nodup_iff.2 (List.nodup_range.sublist List.filter_sublist)
 have Vl:V.length≤200:=by
  have h1:=V1.length_eq
  have h2:=List.length_filter_le (fun e=>decide ((c.getD e Call.z).kind=3)) (List.range c.length)
  rw[List.length_range]at h2
  omega
 obtain⟨X,Y,R,W1,W2⟩:=points (fun e=>(f e).1) (fun e=>(f e).2.1) (fun e=>(f e).2.2.1) (fun e=>(f e).2.2.2) (fun t=>∃τ:Int,t=2 * τ∧0≤τ∧τ < 200∧¬wA c τ) V (-1) (-1) 0 Vn V2 (fun v hv=>by
   obtain⟨h1,h2⟩:=Vm.1 hv
   have F:=hf v h1 h2
   have t:=Qc.tm v h1
   have a1:=F.lo
   have a2:=F.ee
   have a3:=F.ed
   have a4:=F.dd
   refine⟨a2,a4,a3,by omega,by omega,?_⟩
   rintro _ ⟨τ,rfl,t0,t1,t2⟩
   exact F.T τ t0 t1 t2) (by omega) (fun τ _=>Iff.rfl)
 obtain⟨K,d5,PP,GW⟩: ∃K:Nat→Int,(∀i,(c.getD i Call.z).kind=3→K i=X i * 3000+R i)∧(∀i,(c.getD i Call.z).kind=4→(c.getD i Call.z).res= -1→K i=L5 i * 6000+2000)∧(∀i,(c.getD i Call.z).kind=4→(c.getD i Call.z).res≠ -1→K i=Y (own i) * 3000+1000+R (own i)):=by
  refine⟨fun i=>if(c.getD i Call.z).kind=3 then X i * 3000+R i else if(c.getD i Call.z).res= -1 then L5 i * 6000+2000 else Y (own i) * 3000+1000+R (own i),fun i h=>if_pos h,fun i h h2=>?_,fun i h h2=>?_⟩
  ·exact(if_neg (by omega)).trans (if_pos h2)
  ·exact(if_neg (by omega)).trans (if_neg h2)
 have pt: ∀i,i < c.length→∃p:Int,2 * (c.getD i Call.z).from_≤p∧((c.getD i Call.z).au≠ -1→p≤2 * (c.getD i Call.z).au)∧p * 3000≤K i∧K i < p * 3000+3000:=fun i hi=>by
  rcases Qc.kd i hi with k|k
  ·have w:=W2 i (Vm.2 ⟨hi,k⟩)
   have F:=hf i hi k
   have a1:=F.lo
   have a2:=F.hi
   exact⟨X i,by omega,fun h=>by have:=a2 h;omega,by rw[d5 i k];omega,by rw[d5 i k];omega⟩
  ·by_cases r:(c.getD i Call.z).res= -1
   ·have t:=V3 i hi ⟨k,r⟩
    exact⟨2 * L5 i,by omega,fun _=>by omega,by rw[PP i k r];omega,by rw[PP i k r];omega⟩
   ·obtain⟨o1,o2,o3⟩:=hown i hi ⟨k,r⟩
    have w:=W2 _ (Vm.2 ⟨o1,o2⟩)
    have F:=hf _ o1 o2
    have q:=F.dq i (by rw[o3];exact PO hi ⟨k,r⟩)
    exact⟨Y (own i),by omega,fun _=>by omega,by rw[GW i k r];omega,by rw[GW i k r];omega⟩
 have real: ∀i j,i < c.length→K i≤K j→cO c j i=false:=fun i j hi h=>by
  unfold cO
  refine decide_eq_false fun⟨h1,_,h3,h4⟩=>?_
  obtain⟨p,p1,p2,p3,p4⟩:=pt i hi
  obtain⟨q,q1,q2,q3,q4⟩:=pt j h1
  have:=q2 h3
  omega
 obtain⟨L,L1,L2⟩:=Od K K K K _ (List.range c.length) rfl (fun v _=>⟨Int.le_refl _,Int.le_refl _⟩) (fun u _ v _ h1 h2=>by omega)
 have Lm: ∀{x:Nat},x∈L↔x < c.length:=fun {x}=>by rw[L1.mem_iff,List.mem_range]
 have Ln:L.Nodup:=L1.nodup_iff.2 List.nodup_range
 refine⟨L,?_,fun i hi=>Lm.2 hi,by rw[L1.length_eq,List.length_range]⟩
 have main: ∀(t w:List Nat),w++t=L→Qr c (oJ c V w) w t:=by
  intro t
  induction t with
  |nil=>exact fun _ _=>trivial
  |cons i t ih=>
   intro w e
   have nd:=Ln
   rw[←e]at nd
   obtain⟨nd1,nd2,nd3⟩:=List.nodup_append.1 nd
   have V4:i∉w:=fun h=>nd3 i h i (.head _) rfl
   have hil:i < c.length:=Lm.1 (by rw[←e];simp)
   have pw:=L2
   rw[←e]at pw
   obtain⟨pw1,pw2,pw3⟩:=List.pairwise_append.1 pw
   have within: ∀j∈w,K j≤K i:=fun j hj=>(pw3 j hj i (.head _)).1
   have before: ∀j,j < c.length→K j < K i→j∈w:=fun j hj hk=>by
    have hm:j∈L:=Lm.2 hj
    rw[←e]at hm
    rcases List.mem_append.1 hm with h|h
    ·exact h
    ·exfalso
     rcases List.mem_cons.1 h with rfl|h
     ·omega
     ·have:=((List.pairwise_cons.1 pw2).1 j h).1
      omega
   have wl: ∀j∈w,j < c.length:=fun j hj=>Lm.1 (by rw[←e];exact List.mem_append.2 (.inl hj))
   have ih:=ih (w++[i]) (by rw[←e];simp)
   refine⟨hil,V4,fun j hj=>real j i (wl j hj) (within j hj),?_⟩
   have same: ∀x,x≠i→((c.getD i Call.z).kind=4→(c.getD i Call.z).res≠(c.getD x Call.z).arg)→pr c (w++[i]) x=pr c w x:=fun x hx hr=>by
    rw[Bool.eq_iff_iff,ma,ma]
    constructor
    ·rintro⟨h1,h2⟩
     refine⟨?_,fun d hd=>h2 d (List.mem_append.2 (.inl hd))⟩
     rcases List.mem_append.1 h1 with h|h
     ·exact h
     ·exact(hx (List.mem_singleton.1 h)).elim
    ·rintro⟨h1,h2⟩
     refine⟨List.mem_append.2 (.inl h1),fun d hd=>?_⟩
     rcases List.mem_append.1 hd with h|h
     ·exact h2 d h
     ·rw[List.mem_singleton.1 h]
      exact fun g=>hr g.1 g.2
   rcases Qc.kd i hil with k|k
   ·obtain⟨A,B,hV⟩:=List.append_of_mem (Vm.2 ⟨hil,k⟩)
    have vn:=Vn
    rw[hV]at vn
    obtain⟨vn1,V5,YC⟩:=List.nodup_append.1 vn
    have vp:=W1
    rw[hV]at vp
    obtain⟨_,YD,YE⟩:=List.pairwise_append.1 vp
    have wi:=W2 i (Vm.2 ⟨hil,k⟩)
    have hA: ∀x∈A,pr c (w++[i]) x=pr c w x:=fun x hx=>same x (fun g=>YC x hx i (.head _) g) (fun g=>by omega)
    have hB: ∀x∈B,pr c (w++[i]) x=false∧pr c w x=false:=fun x hx=>by
     have hne:x≠i:=fun g=>(List.nodup_cons.1 V5).1 (g▸hx)
     have hw:pr c w x=false:=by
      rw[←Bool.not_eq_true,ma]
      rintro⟨h1,_⟩
      have h2:=within x h1
      have h3:=(List.pairwise_cons.1 YD).1 x hx
      have IK:x∈V:=by rw[hV];simp[hx]
      rw[d5 i k,d5 x (Vm.1 IK).2]at h2
      omega
     exact⟨by rw[same x hne fun g=>by omega];exact hw,hw⟩
    have hi1:pr c w i=false:=by
     rw[←Bool.not_eq_true,ma]
     exact fun h=>V4 h.1
    have hi2:pr c (w++[i]) i=true:=by
     rw[ma]
     refine⟨by simp,fun d hd hq=>?_⟩
     rcases List.mem_append.1 hd with h|h
     ·have hdl:=wl d h
      have kd:(c.getD d Call.z).kind=4∧(c.getD d Call.z).res≠ -1:=⟨hq.1,by rw[hq.2];exact GV hil k⟩
      have ho:=J3 hil k hdl kd hq.2
      have h2:=within d h
      rw[GW d kd.1 kd.2,ho,d5 i k]at h2
      omega
     ·rw[List.mem_singleton.1 h]at hq
      omega
    have fB: ∀w',(∀x∈B,pr c w' x=false)→B.filter (pr c w')= []:=fun w' h=>List.filter_eq_nil_iff.2 fun x hx=>by rw[h x hx];decide
    have e1:oJ c V w=(A.filter (pr c w)).map fun e=>(c.getD e Call.z).arg:=by
     unfold oJ
     rw[hV,List.filter_append,List.filter_cons,hi1,if_neg (by decide),fB w fun x hx=>(hB x hx).2,List.append_nil]
    have e2:oJ c V (w++[i])=oJ c V w++[(c.getD i Call.z).arg]:=by
     rw[e1]
     unfold oJ
     rw[hV,List.filter_append,List.filter_cons,hi2,if_pos rfl,fB (w++[i]) fun x hx=>(hB x hx).1,List.filter_congr hA,List.map_append]
     rfl
    rw[e2]at ih
    exact .inl ⟨k,ih⟩
   ·by_cases r:(c.getD i Call.z).res= -1
    ·have hc: ∀x∈V,pr c (w++[i]) x=pr c w x:=fun x hx=>by
      obtain⟨x1,x2⟩:=Vm.1 hx
      refine same x (fun g=>by subst g;omega) fun _ g=>?_
      exact GV x1 x2 (by rw[←g,r])
     have tt:=V3 i hil ⟨k,r⟩
     have ti:=Qc.tm i hil
     have hz:oJ c V w= []:=by
      unfold oJ
      rw[List.map_eq_nil_iff]
      refine List.filter_eq_nil_iff.2 fun x hx=>?_
      rw[ma]
      rintro⟨h1,h2⟩
      obtain⟨x1,x2⟩:=Vm.1 hx
      have h3:=within x h1
      rw[PP i k r,d5 x x2]at h3
      have w2:=W2 x hx
      have hT:=w2.2.2.2.2.2.2.2.2.2 (2 * L5 i) ⟨L5 i,rfl,by omega,by omega,tt.2.2⟩
      have F:=hf x x1 x2
      rcases Eo c (c.getD x Call.z).arg c.length with hN|⟨d,hd⟩
      ·rcases F.E3 with⟨d,hd,_⟩|⟨_,_,q⟩
       ·exact hN d hd.1 hd.2.1 hd.2.2.1
       ·omega
      ·have kd:(c.getD d Call.z).kind=4∧(c.getD d Call.z).res≠ -1:=⟨hd.2.1,by rw[hd.2.2.1];exact GV x1 x2⟩
       have ho:=J3 x1 x2 hd.1 kd hd.2.2.1
       refine h2 d (before d hd.1 ?_) ⟨hd.2.1,hd.2.2.1⟩
       rw[GW d kd.1 kd.2,ho,PP i k r]
       omega
     have Pf:oJ c V (w++[i])= []:=by
      have:oJ c V (w++[i])=oJ c V w:=by unfold oJ;rw[List.filter_congr hc]
      rw[this,hz]
     rw[Pf]at ih
     exact .inr (.inl ⟨k,hz,r,ih⟩)
    ·obtain⟨o1,o2,o3⟩:=hown i hil ⟨k,r⟩
     have YF:=Vm.2 ⟨o1,o2⟩
     obtain⟨A,B,hV⟩:=List.append_of_mem YF
     have vn:=Vn
     rw[hV]at vn
     obtain⟨vn1,V5,YC⟩:=List.nodup_append.1 vn
     have vp:=W1
     rw[hV]at vp
     obtain⟨_,YD,YE⟩:=List.pairwise_append.1 vp
     have wo:=W2 _ YF
     have Fo:=hf _ o1 o2
     have qo:=Fo.dq i (by rw[o3];exact PO hil ⟨k,r⟩)
     have ti:=Qc.tm i hil
     have hA: ∀x∈A,pr c (w++[i]) x=false∧pr c w x=false:=fun x hx=>by
      have IK:x∈V:=by rw[hV];simp[hx]
      obtain⟨x1,x2⟩:=Vm.1 IK
      have w2:=W2 x IK
      have h3:=YE x hx (own i) (.head _)
      have F:=hf x x1 x2
      have: ∃d,d∈w∧((c.getD d Call.z).kind=4∧(c.getD d Call.z).res=(c.getD x Call.z).arg):=by
       rcases Eo c (c.getD x Call.z).arg c.length with hN|⟨d,hd⟩
       ·exfalso
        rcases F.E3 with⟨d,hd,_⟩|⟨_,_,q⟩
        ·exact hN d hd.1 hd.2.1 hd.2.2.1
        ·omega
       ·have kd:(c.getD d Call.z).kind=4∧(c.getD d Call.z).res≠ -1:=⟨hd.2.1,by rw[hd.2.2.1];exact GV x1 x2⟩
        have ho:=J3 x1 x2 hd.1 kd hd.2.2.1
        refine⟨d,before d hd.1 ?_,hd.2.1,hd.2.2.1⟩
        rw[GW d kd.1 kd.2,ho,GW i k r]
        omega
      obtain⟨d,d1,d2⟩:=this
      constructor
      ·rw[←Bool.not_eq_true,ma]
       exact fun h=>h.2 d (List.mem_append.2 (.inl d1)) d2
      ·rw[←Bool.not_eq_true,ma]
       exact fun h=>h.2 d d1 d2
     have hB: ∀x∈B,pr c (w++[i]) x=pr c w x:=fun x hx=>by
      have IK:x∈V:=by rw[hV];simp[hx]
      obtain⟨x1,x2⟩:=Vm.1 IK
      refine same x (fun g=>by subst g;omega) fun _ g=>?_
      have:=J3 x1 x2 hil ⟨k,r⟩ g
      exact(List.nodup_cons.1 V5).1 (by rw[this];exact hx)
     have hi1:pr c w (own i)=true:=by
      rw[ma]
      refine⟨before _ o1 (by rw[d5 _ o2,GW i k r];omega),fun d hd hq=>?_⟩
      have kd:(c.getD d Call.z).kind=4∧(c.getD d Call.z).res≠ -1:=⟨hq.1,by rw[hq.2];exact GV o1 o2⟩
      have h1:=PO (wl d hd) kd
      have h2:=PO hil ⟨k,r⟩
      rw[hq.2,o3]at h1
      obtain rfl:=vV h1 h2
      exact V4 hd
     have hi2:pr c (w++[i]) (own i)=false:=by
      rw[←Bool.not_eq_true,ma]
      exact fun h=>h.2 i (by simp) ⟨k,o3.symm⟩
     have fA: ∀w',(∀x∈A,pr c w' x=false)→A.filter (pr c w')= []:=fun w' h=>List.filter_eq_nil_iff.2 fun x hx=>by rw[h x hx];decide
     have e2:oJ c V (w++[i])=(B.filter (pr c w)).map fun e=>(c.getD e Call.z).arg:=by
      unfold oJ
      rw[hV,List.filter_append,List.filter_cons,hi2,if_neg (by decide),fA (w++[i]) fun x hx=>(hA x hx).1,List.filter_congr hB,List.nil_append]
     have e1:oJ c V w=(c.getD i Call.z).res::oJ c V (w++[i]):=by
      rw[e2,←o3]
      unfold oJ
      rw[hV,List.filter_append,List.filter_cons,hi1,if_pos rfl,fA w fun x hx=>(hA x hx).2]
      rfl
     exact .inr (.inr ⟨k,_,e1,ih⟩)
 have qZ:=main L [] rfl
 have h0:oJ c V []= []:=by
  unfold oJ
  rw[List.map_eq_nil_iff]
  refine List.filter_eq_nil_iff.2 fun x _=>?_
  rw[ma]
  exact fun h=>(nomatch h.1)
 rw[h0]at qZ
 exact qZ
theorem YG:S0 [2]= [[]]:=by simp[S0,Ob.xl]
theorem ag{N:Nat}(hN:5000 < N){l:List Event}{c:List Call}{op:List Int}{q:Bool×Int×Int×Int×Int}{w:List Step}{b:Bool}(ht:bo N [2]=some 0)(hl:l.length≤200)(R:cn N [2] l l.length c op)(h9:c.length≤9)(F:wq [2] c (cO c) w b)(hq:dU N l=some q)(h0:q.2.2.2.2=0):b=q.1:=by
 obtain⟨r,hr,h⟩:=rX (by omega) ht hl R
 rw[hq]at hr
 cases hr
 rcases h with⟨_,h⟩|⟨C,h⟩
 ·rw[h]at h0;cases h0
 have Qc:=NS hl R
 have ew: ∀i,i < c.length→(c.getD i Call.z).aB=0:=fun i hi=>by
  have:=(R.wf.one i hi).aB
  simp only[List.length_singleton]at this;omega
 have hA: ∀i,i < c.length→Ob.eJ 2 (c.getD i Call.z).kind (c.getD i Call.z).arg:=fun i hi=>by
  have:=vU R hi
  rw[ew i hi]at this
  exact this
 rcases F with⟨y,g,_⟩|⟨y,_,hno⟩
 ·rw[y]
  have g1:Pl [2] c (cO c) [[]] [] w:=by rw[←YG];exact g.1
  have g2: ∀i,i < c.length→(c.getD i Call.z).au≠ -1→i∈nums w:=fun i hi h=>by simpa using g.2 i hi h
  obtain⟨p1,p2,p3,p4,p5⟩:=Sn C Qc (PK C Qc ew g1) g2
  rw[V0 h p1 p2 p3 p4 p5]
 ·rw[y]
  cases hb:q.1 with
  |false=>rfl
  |true=>
   obtain⟨p1,p2,p3,p4,p5⟩:=Oe h hb
   obtain⟨L,q1,q2,q3⟩:=L4 (by omega) Qc C p1 p2 p3 p4 p5
   refine(hno (L.map fun(i:Nat)=>(⟨(i:Int),(c.getD i Call.z).res⟩:Step)) ⟨?_,?_⟩).elim
   ·rw[YG]
    exact PL hA Qc ew (by simp only[List.length_nil];omega) (fun n h=>(nomatch h)) q1
   ·intro i hi _
    have hm:=q2 i hi
    rw[List.nil_append]
    unfold nums
    rw[List.map_map]
    exact List.mem_map.2 ⟨i,hm,by simp⟩
end Rw
end Go.Proofs.YtjdkkabcenohcaaGreatDoor
