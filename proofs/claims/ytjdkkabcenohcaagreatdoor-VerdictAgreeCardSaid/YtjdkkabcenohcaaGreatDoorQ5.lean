/- VerdictAgree, plainly. -/
import Derived.Test.YtjdkkabcenohcaaGreatDoorP10
import Derived.Test.YtjdkkabcenohcaaGreatDoorP11
import Derived.Test.YtjdkkabcenohcaaGreatDoorP15
import Derived.Test.YtjdkkabcenohcaaGreatDoorQ1
import Derived.Test.YtjdkkabcenohcaaGreatDoorQ2
set_option linter.unusedVariables false
set_option linter.unusedSimpArgs false
set_option linter.unusedSectionVars false
set_option maxRecDepth 100000
namespace Go.Proofs.YtjdkkabcenohcaaGreatDoor
open Go.RowKit
namespace Tk
open Hs
def an(c:List Call):Nat→List Step
 |0=>[]
 |k+1=>if(c.getD k Call.z).au= -1 then an c k else an c k++[⟨(k:Int),(c.getD k Call.z).res⟩]
def fi(p m:List Int):Nat→List Step
 |0=>[]
 |k+1=>fi p m k++[⟨p.getD k 0,m.getD k 0⟩]
def steps(c:List Call):List Step:=an c c.length++fi (pe c c.length) (fD c) (fD c).length
theorem oL{c:List Call}{s:Step}: ∀{k:Nat},s∈an c k↔∃i:Nat,i < k∧cX (c.getD i Call.z)∧s=⟨(i:Int),(c.getD i Call.z).res⟩
 |0=>⟨fun h=>(nomatch h),fun⟨_,h,_⟩=>absurd h (Nat.not_lt_zero _)⟩
 |k+1=>by
  unfold an
  by_cases h:(c.getD k Call.z).au= -1
  ·rw[if_pos h,oL]
   constructor
   ·rintro⟨m,h1,h2⟩
    exact⟨m,by omega,h2⟩
   ·rintro⟨m,h1,h2,h3⟩
    rcases Nat.lt_or_ge m k with g|g
    ·exact⟨m,g,h2,h3⟩
    ·obtain rfl:m=k:=by omega
     exact absurd h h2
  ·rw[if_neg h,List.mem_append,oL,List.mem_singleton]
   constructor
   ·rintro(⟨m,h1,h2⟩|rfl)
    ·exact⟨m,by omega,h2⟩
    ·exact⟨k,by omega,h,rfl⟩
   ·rintro⟨m,h1,h2,h3⟩
    rcases Nat.lt_or_ge m k with g|g
    ·exact .inl ⟨m,g,h2,h3⟩
    ·obtain rfl:m=k:=by omega
     exact .inr h3
theorem sf{p m:List Int}{s:Step}: ∀{k:Nat},s∈fi p m k↔∃i:Nat,i < k∧s=⟨p.getD i 0,m.getD i 0⟩
 |0=>⟨fun h=>(nomatch h),fun⟨_,h,_⟩=>absurd h (Nat.not_lt_zero _)⟩
 |k+1=>by
  unfold fi
  rw[List.mem_append,sf,List.mem_singleton]
  constructor
  ·rintro(⟨i,h1,h2⟩|rfl)
   ·exact⟨i,by omega,h2⟩
   ·exact⟨k,by omega,rfl⟩
  ·rintro⟨i,h1,h2⟩
   rcases Nat.lt_or_ge i k with g|g
   ·exact .inl ⟨i,g,h2⟩
   ·obtain rfl:i=k:=by omega
    exact .inr h2
theorem yZ(c:List Call)(f:Step→Int)(hf: ∀i j,i < j→j < c.length→cX (c.getD i Call.z)→cX (c.getD j Call.z)→f ⟨(i:Int),(c.getD i Call.z).res⟩≠f ⟨(j:Int),(c.getD j Call.z).res⟩): ∀k,k≤c.length→((an c k).map f).Nodup
 |0,_=> .nil
 |k+1,hk=>by
  unfold an
  by_cases h:(c.getD k Call.z).au= -1
  ·rw[if_pos h];exact yZ c f hf k (by omega)
  ·rw[if_neg h,List.map_append]
   refine List.nodup_append.2 ⟨yZ c f hf k (by omega),List.nodup_cons.2 ⟨by simp,.nil⟩,fun a ha b hb=>?_⟩
   obtain⟨s,hs,rfl⟩:=List.mem_map.1 ha
   obtain⟨i,i1,i2,rfl⟩:=oL.1 hs
   rw[List.map_cons,List.map_nil,List.mem_singleton]at hb
   rw[hb]
   exact hf i k i1 (by omega) i2 h
theorem C5(p m:List Int)(f:Step→Int)(n:Nat)(hf: ∀i j,i < j→j < n→f ⟨p.getD i 0,m.getD i 0⟩≠f ⟨p.getD j 0,m.getD j 0⟩): ∀k,k≤n→((fi p m k).map f).Nodup
 |0,_=> .nil
 |k+1,hk=>by
  unfold fi
  rw[List.map_append]
  refine List.nodup_append.2 ⟨C5 p m f n hf k (by omega),List.nodup_cons.2 ⟨by simp,.nil⟩,fun a ha b hb=>?_⟩
  obtain⟨s,hs,rfl⟩:=List.mem_map.1 ha
  obtain⟨i,i1,rfl⟩:=sf.1 hs
  rw[List.map_cons,List.map_nil,List.mem_singleton]at hb
  rw[hb]
  exact hf i k i1 (by omega)
theorem s5{l:List Int}(h:l.Pairwise (· < ·)){i j:Nat}(hij:i < j)(hj:j < l.length):l.getD i 0 < l.getD j 0:=by
 have:=List.pairwise_iff_getElem.1 h i j (by omega) hj hij
 rw[aG (show i < l.length by omega),aG hj];exact this
theorem PQ{c:List Call}{k:Nat}(h:k < (pe c c.length).length): ∃i:Nat,i < c.length∧(pe c c.length).getD k 0=i∧(c.getD i Call.z).au= -1:=by
 have hp:(pe c c.length).getD k 0∈pe c c.length:=by rw[aG h];exact List.getElem_mem _
 obtain⟨i,i1,i2,i3⟩:=pZ.1 hp
 exact⟨i,i1,i2,i3⟩
theorem IL{c:List Call}{k:Nat}(h:k < (fD c).length):(fD c).getD k 0∈fD c:=by rw[aG h];exact List.getElem_mem _
theorem J4{c:List Call}(G:Good c):((steps c).map (·.call)).Nodup:=by
 unfold steps
 rw[List.map_append]
 refine List.nodup_append.2 ⟨yZ c _ (fun i j h _ _ _ e=>?_) _ (Nat.le_refl _),C5 _ _ _ (fD c).length (fun i j h1 h2 e=>?_) _ (Nat.le_refl _),fun a ha b hb=>?_⟩
 ·have:(i:Int)=j:=e
  omega
 ·have:=s5 (sX c c.length) h1 (G.Kv j h2).1
  have e:(pe c c.length).getD i 0=(pe c c.length).getD j 0:=e
  omega
 ·obtain⟨s,hs,rfl⟩:=List.mem_map.1 ha
  obtain⟨i,i1,i2,rfl⟩:=oL.1 hs
  obtain⟨s,hs,rfl⟩:=List.mem_map.1 hb
  obtain⟨k,k1,rfl⟩:=sf.1 hs
  obtain⟨j,j1,j2,j3⟩:=PQ (G.Kv k k1).1
  intro e
  have e:(i:Int)=(pe c c.length).getD k 0:=e
  have:i=j:=by omega
  subst this
  exact i2 j3
theorem L6{c:List Call}(G:Good c):((steps c).map (·.res)).Nodup:=by
 unfold steps
 rw[List.map_append]
 refine List.nodup_append.2 ⟨yZ c _ (fun i j h h2 h3 h4 e=>?_) _ (Nat.le_refl _),C5 _ _ _ (fD c).length (fun i j h1 h2 e=>?_) _ (Nat.le_refl _),fun a ha b hb=>?_⟩
 ·exact G.Pr j i h h2 h4 h3 e.symm
 ·have:=s5 (sY c c.length (mo c c.length+1).toNat) h1 h2
  have e:(fD c).getD i 0=(fD c).getD j 0:=e
  unfold fD at e
  omega
 ·obtain⟨s,hs,rfl⟩:=List.mem_map.1 ha
  obtain⟨i,i1,i2,rfl⟩:=oL.1 hs
  obtain⟨s,hs,rfl⟩:=List.mem_map.1 hb
  obtain⟨k,k1,rfl⟩:=sf.1 hs
  exact(Good.B0.1 (IL k1)).2.2 i i1 i2
theorem L7{c:List Call}(W:Im c){m:Int}:m∈(steps c).map (·.res)↔0≤m∧m < mo c c.length+1:=by
 unfold steps
 rw[List.map_append,List.mem_append]
 constructor
 ·rintro(h|h)
  ·obtain⟨s,hs,rfl⟩:=List.mem_map.1 h
   obtain⟨i,i1,i2,rfl⟩:=oL.1 hs
   have:=Pq i1 i2
   exact⟨(W.res i i1).1,by show(c.getD i Call.z).res < _;omega⟩
  ·obtain⟨s,hs,rfl⟩:=List.mem_map.1 h
   obtain⟨k,k1,rfl⟩:=sf.1 hs
   have:=Good.B0.1 (IL k1)
   exact⟨this.1,by show(fD c).getD k 0 < _;omega⟩
 ·rintro⟨h1,h2⟩
  by_cases h: ∃i,i < c.length∧cX (c.getD i Call.z)∧(c.getD i Call.z).res=m
  ·obtain⟨i,i1,i2,rfl⟩:=h
   exact .inl (List.mem_map.2 ⟨_,oL.2 ⟨i,i1,i2,rfl⟩,rfl⟩)
  ·have hm:m∈fD c:=Good.B0.2 ⟨h1,by omega,fun i hi ha e=>h ⟨i,hi,ha,e⟩⟩
   obtain⟨k,hk,e⟩:=List.getElem_of_mem hm
   exact .inr (List.mem_map.2 ⟨_,sf.2 ⟨k,hk,rfl⟩,by show(fD c).getD k 0=m;rw[aG hk,e]⟩)
theorem Og{l:List Int}{K:Int}(h:l.Pairwise (· ≤ ·))(hn:l.Nodup)(hm: ∀x,x∈l↔0≤x∧x < K): ∀i,i < l.length→l.getD i 0=i:=by
 have hs:l.Pairwise (· < ·):=List.pairwise_iff_getElem.2 fun i j hi hj hij=>by
  have h1:=List.pairwise_iff_getElem.1 h i j hi hj hij
  have h2:=List.pairwise_iff_getElem.1 hn i j hi hj hij
  omega
 intro i
 induction i using Nat.strongRecOn with
 |_ i ih=>
  intro hi
  have lo:(i:Int)≤l.getD i 0:=by
   cases i with
   |zero=>
    have:=(hm (l.getD 0 0)).1 (by rw[aG hi];exact List.getElem_mem _)
    omega
   |succ i=>
    have e:=ih i (by omega) (by omega)
    have:=s5 hs (show i < i+1 by omega) hi
    omega
  have hx:=(hm (l.getD i 0)).1 (by rw[aG hi];exact List.getElem_mem _)
  obtain⟨j,hj,e⟩:=List.getElem_of_mem ((hm (i:Int)).2 ⟨by omega,by omega⟩)
  have e2:l.getD j 0=i:=by rw[aG hj,e]
  rcases Nat.lt_trichotomy j i with h1|h1|h1
  ·have:=ih j h1 hj
   omega
  ·subst h1;exact e2
  ·have:=s5 hs h1 hj
   omega
def zH(c:List Call):List Step:=(steps c).mergeSort fun a b=>decide (a.res≤b.res)
theorem DM(c:List Call):(zH c).Perm (steps c)∧(zH c).Pairwise (fun a b=>a.res≤b.res):=by
 refine⟨List.mergeSort_perm _ _,(List.pairwise_mergeSort ?_ ?_ _).imp fun h=>of_decide_eq_true h⟩
 ·intro a b c h1 h2
  have h1:=of_decide_eq_true h1
  have h2:=of_decide_eq_true h2
  exact decide_eq_true (by omega)
 ·intro a b
  rw[Bool.or_eq_true,decide_eq_true_eq,decide_eq_true_eq]
  omega
theorem Hh{c:List Call}(W:Im c)(G:Good c):(∀i,i < (zH c).length→((zH c).getD i Step.z).res=i)∧∀i j,i < j→j < (zH c).length→((zH c).getD i Step.z).call≠((zH c).getD j Step.z).call:=by
 obtain⟨h1,h2⟩:=DM c
 generalize zH c=w at h1 h2
 have hg: ∀(f:Step→Int) i,i < w.length→(w.map f).getD i 0=f (w.getD i Step.z):=by
  intro f i hi
  rw[aG (by rw[List.length_map];exact hi),aG hi,List.getElem_map]
 refine⟨fun i hi=>?_,fun i j hij hj e=>?_⟩
 ·rw[←hg (·.res) i hi]
  refine Og (K:=mo c c.length+1) ?_ ((h1.map (·.res)).nodup_iff.2 (L6 G)) (fun x=>(h1.map (·.res)).mem_iff.trans (L7 W)) i (by rw[List.length_map];exact hi)
  rw[List.pairwise_map]
  exact h2
 ·have hn:=(h1.map (·.call)).nodup_iff.2 (J4 G)
  have:=List.pairwise_iff_getElem.1 hn i j (by rw[List.length_map];omega) (by rw[List.length_map];exact hj) hij
  rw[List.getElem_map,List.getElem_map]at this
  rw[aG (show i < w.length by omega),aG hj]at e
  exact this e
end Tk
namespace Tk
open Hs
theorem YH{v:Int}(h:0≤v∧v≤1000){kind arg:Int}(hA:Ob.eJ 5 kind arg):Ob.nx 5 [v] kind arg=if v=1000 then none else some ([v+1],v):=by
 unfold Ob.nx
 rw[if_pos ⟨.inl ⟨.inr rfl,v,rfl,h.1,h.2⟩,hA⟩]
 unfold Ob.iH
 rw[if_neg (by decide),if_pos rfl];rfl
theorem PR{c:List Call}{q:Nat→Nat→Bool}(hA: ∀i,i < c.length→Ob.eJ 5 (c.getD i Call.z).kind (c.getD i Call.z).arg)(ew: ∀i,i < c.length→(c.getD i Call.z).aB=0):
  ∀{t:List Step} {v:Int} {w:List Nat},0≤v→v≤1000→(Sr.Pl [5] c q [[v]] w t↔Sr.Ac c q w t∧v+t.length≤1000∧∀i,i < t.length→(t.getD i Step.z).res=v+i)
 | [],v,w,h0,h1=>⟨fun _=>⟨trivial,by simpa using h1,fun i h=>absurd h (Nat.not_lt_zero _)⟩,fun _=>trivial⟩
 |s::t,v,w,h0,h1=>by
  constructor
  ·rintro⟨i,n,g1,g2,g3,g4,g5,g6,g7⟩
   rw[ew i g2]at g6 g7
   have g6:Ob.nx 5 [v] (c.getD i Call.z).kind (c.getD i Call.z).arg=some (n,s.res):=g6
   rw[YH ⟨h0,h1⟩ (hA i g2)]at g6
   by_cases hv:v=1000
   ·rw[if_pos hv]at g6;cases g6
   ·rw[if_neg hv]at g6
    obtain⟨e1,e2⟩:=Prod.mk.inj (Option.some.inj g6)
    subst e1
    have g7:Sr.Pl [5] c q [[v+1]] (w++[i]) t:=g7
    obtain⟨a1,a2,a3⟩:=(PR hA ew (by omega) (by omega)).1 g7
    refine⟨⟨i,g1,g2,g3,g4,g5,a1⟩,by rw[List.length_cons];omega,fun k hk=>?_⟩
    cases k with
    |zero=>show s.res=v+((0:Nat):Int);omega
    |succ k=>
     have:=a3 k (by simpa using hk)
     show(t.getD k Step.z).res=v+((k+1:Nat):Int)
     omega
  ·rintro⟨⟨i,g1,g2,g3,g4,g5,a1⟩,a2,a3⟩
   rw[List.length_cons]at a2
   have hs:s.res=v:=by
    have:=a3 0 (Nat.succ_pos _)
    have e:((s::t).getD 0 Step.z)=s:=rfl
    rw[e]at this;omega
   refine⟨i,[v+1],g1,g2,g3,g4,g5,?_,?_⟩
   ·rw[ew i g2]
    show Ob.nx 5 [v] _ _=_
    rw[YH ⟨h0,h1⟩ (hA i g2),if_neg (by omega),hs]
   ·rw[ew i g2]
    show Sr.Pl [5] c q [[v+1]] _ _
    refine(PR hA ew (by omega) (by omega)).2 ⟨a1,by omega,fun k hk=>?_⟩
    have:=a3 (k+1) (by rw[List.length_cons];omega)
    have e:((s::t).getD (k+1) Step.z)=t.getD k Step.z:=rfl
    rw[e]at this;omega
theorem PS{c:List Call}{q:Nat→Nat→Bool}: ∀{t:List Step} {w:List Nat},(∀i,i < t.length→∃k:Nat,(t.getD i Step.z).call=k∧k < c.length∧k∉w∧(∀j,j∈w→q k j=false)∧((c.getD k Call.z).au≠ -1→(t.getD i Step.z).res=(c.getD k Call.z).res))→
  (∀i j,i < j→j < t.length→(t.getD i Step.z).call≠(t.getD j Step.z).call∧q (t.getD j Step.z).call.toNat (t.getD i Step.z).call.toNat=false)→Sr.Ac c q w t
 | [],_,_,_=>trivial
 |s::t,w,h1,h2=>by
  obtain⟨k,a1,a2,a3,a4,a5⟩:=h1 0 (Nat.succ_pos _)
  refine⟨k,a1,a2,a3,a4,a5,PS (fun i hi=>?_) fun i j hij hj=>h2 (i+1) (j+1) (by omega) (by rw[List.length_cons];omega)⟩
  obtain⟨m,b1,b2,b3,b4,b5⟩:=h1 (i+1) (by rw[List.length_cons];omega)
  have h:=h2 0 (i+1) (by omega) (by rw[List.length_cons];omega)
  have e0:s.call=k:=a1
  have e1:(t.getD i Step.z).call=m:=b1
  have h:s.call≠(t.getD i Step.z).call∧q (t.getD i Step.z).call.toNat s.call.toNat=false:=h
  rw[e0,e1]at h
  simp only[Int.toNat_natCast]at h
  refine⟨m,b1,b2,fun hm=>?_,fun j hj=>?_,b5⟩
  ·rcases List.mem_append.1 hm with x|x
   ·exact b3 x
   ·rw[List.mem_singleton]at x;subst x;exact h.1 rfl
  ·rcases List.mem_append.1 hj with x|x
   ·exact b4 j x
   ·rw[List.mem_singleton]at x;subst x;exact h.2
theorem PT{c:List Call}{q:Nat→Nat→Bool}: ∀{t:List Step} {w:List Nat},Sr.Ac c q w t→∀i,i < t.length→∃k:Nat,(t.getD i Step.z).call=k∧k < c.length∧k∉w∧(∀j,j∈w→q k j=false)∧((c.getD k Call.z).au≠ -1→(t.getD i Step.z).res=(c.getD k Call.z).res)∧∀j,j < i→(t.getD j Step.z).call≠k∧q k (t.getD j Step.z).call.toNat=false
 | [],_,_,i,h=>absurd h (Nat.not_lt_zero _)
 |s::t,w,⟨k,a1,a2,a3,a4,a5,a6⟩,i,hi=>by
  cases i with
  |zero=>exact⟨k,a1,a2,a3,a4,a5,fun j h=>absurd h (Nat.not_lt_zero _)⟩
  |succ i=>
   obtain⟨m,b1,b2,b3,b4,b5,b6⟩:=PT a6 i (by simpa using hi)
   refine⟨m,b1,b2,fun h=>b3 (List.mem_append.2 (.inl h)),fun j h=>b4 j (List.mem_append.2 (.inl h)),b5,fun j hj=>?_⟩
   cases j with
   |zero=>
    show s.call≠m∧q m s.call.toNat=false
    rw[a1,Int.toNat_natCast]
    refine⟨fun e=>b3 (List.mem_append.2 (.inr (List.mem_singleton.2 (by omega)))),b4 k (List.mem_append.2 (.inr (List.mem_singleton.2 rfl)))⟩
   |succ j=>exact b6 j (by omega)
theorem C6{c:List Call}{i j:Nat}:cO c i j=true↔i < c.length∧j < c.length∧(c.getD i Call.z).au≠ -1∧(c.getD i Call.z).au < (c.getD j Call.z).from_:=by unfold cO;exact decide_eq_true_iff
theorem YI:Sr.S0 [5]= [[0]]:=by simp[Sr.S0,Ob.xl]
theorem Ss{c:List Call}(W:Im c)(hA: ∀i,i < c.length→Ob.eJ 5 (c.getD i Call.z).kind (c.getD i Call.z).arg)(ew: ∀i,i < c.length→(c.getD i Call.z).aB=0){t:List Step}(g:Sr.Gd [5] c (cO c) (Sr.S0 [5]) [] t):Good c:=by
 obtain⟨g1,g2⟩:=g
 rw[YI]at g1
 obtain⟨a,hl,hr⟩:=(PR hA ew (by omega) (by omega)).1 g1
 have ix:=PT a
 have hr: ∀i,i < t.length→(t.getD i Step.z).res=i:=fun i hi=>by have:=hr i hi;omega
 have pl: ∀x,x < c.length→cX (c.getD x Call.z)→∃p,p < t.length∧(t.getD p Step.z).call=x∧(c.getD x Call.z).res=p:=by
  intro x hx ha
  have:=g2 x hx ha
  rw[List.nil_append]at this
  obtain⟨s,hs,e⟩:=List.mem_map.1 this
  obtain⟨p,hp,e2⟩:=List.getElem_of_mem hs
  obtain⟨k,k1,k2,_,_,k5,_⟩:=ix p hp
  have e3:t.getD p Step.z=s:=by rw[aG hp,e2]
  have:k=x:=by rw[e3]at k1;rw[k1]at e;simpa using e
  subst this
  exact⟨p,hp,k1,by rw[←k5 ha,hr p hp]⟩
 have no: ∀x p,x < c.length→p < t.length→∀k:Nat,(t.getD p Step.z).call=k→∀u,u < t.length→(t.getD u Step.z).call=x→p < u→cO c x k=false:=by
  intro x p hx hp k hk u hu hxu hpu
  obtain⟨m,m1,m2,_,_,_,m6⟩:=ix u hu
  have:m=x:=by omega
  subst this
  have:=(m6 p hpu).2
  rw[hk,Int.toNat_natCast]at this
  exact this
 refine⟨fun i j h1 h2 h3 h4 e=>?_,fun i j h1 h2 h3 h4 h5=>?_,?_⟩
 ·obtain⟨p,p1,p2,p3⟩:=pl i h2 h3
  obtain⟨u,u1,u2,u3⟩:=pl j (by omega) h4
  have:p=u:=by omega
  subst this
  omega
 ·obtain⟨p,p1,p2,p3⟩:=pl i h1 h3
  obtain⟨u,u1,u2,u3⟩:=pl j h2 h4
  refine Int.not_lt.1 fun h=>?_
  have:=no i u h1 u1 j u2 p p1 p2 (by omega)
  rw[C6.2 ⟨h1,h2,h3,h5⟩]at this
  cases this
 have fm: ∀m,m∈fD c→∃k:Nat,m.toNat < t.length∧0≤m∧(t.getD m.toNat Step.z).call=k∧k < c.length∧(c.getD k Call.z).au= -1:=by
  intro m hm
  obtain⟨m0,m1,m2⟩:=Good.B0.1 hm
  obtain⟨x,x1,x2,x3⟩:=JO (c:=c) (k:=c.length) (by omega)
  obtain⟨p,p1,p2,p3⟩:=pl x x1 x2
  have hlt:m.toNat < t.length:=by omega
  obtain⟨k,k1,k2,_,_,k5,_⟩:=ix m.toNat hlt
  refine⟨k,hlt,m0,k1,k2,Classical.byContradiction fun h=>?_⟩
  have:=k5 h
  rw[hr _ hlt]at this
  exact m2 k k2 h (by omega)
 refine Vj (sX c _) (sY c _ _) (can c) (fun m=>(t.getD m.toNat Step.z).call) (fun m hm=>?_) (fun x hx y hy e=>?_) fun p hp q hq m n h1 h2 h3=>?_
 ·obtain⟨k,k0,k1,k2,k3,k4⟩:=fm m hm
  show(t.getD m.toNat Step.z).call∈_∧can c (t.getD m.toNat Step.z).call m
  rw[k2]
  refine⟨pZ.2 ⟨k,k3,rfl,k4⟩,fun x hx ha hlt=>?_⟩
  rw[Int.toNat_natCast]at hlt
  obtain⟨p,p1,p2,p3⟩:=pl x hx ha
  refine Int.not_le.1 fun h=>?_
  rcases Int.lt_or_eq_of_le h with h4|h4
  ·have:=no x m.toNat hx k0 k k2 p p1 p2 (by omega)
   rw[C6.2 ⟨hx,k3,ha,hlt⟩]at this
   cases this
  ·have:p=m.toNat:=by omega
   subst this
   have:x=k:=by omega
   subst this
   exact ha k4
 ·obtain⟨k,k0,k1,k2,_⟩:=fm x hx
  obtain⟨j,j0,j1,j2,_⟩:=fm y hy
  have e:(t.getD x.toNat Step.z).call=(t.getD y.toNat Step.z).call:=e
  obtain⟨a,a1,_,_,_,_,a6⟩:=ix x.toNat k0
  obtain⟨b,b1,_,_,_,_,b6⟩:=ix y.toNat j0
  rcases Nat.lt_trichotomy x.toNat y.toNat with h|h|h
  ·exact absurd (by rw[e,b1]) (b6 _ h).1
  ·omega
  ·exact absurd (by rw[←e,a1]) (a6 _ h).1
 ·obtain⟨i,i1,rfl,_⟩:=pZ.1 hp
  obtain⟨j,j1,rfl,_⟩:=pZ.1 hq
  exact NL W (by omega) (by omega) h1 h2 h3
theorem Su{c:List Call}(W:Im c)(hA: ∀i,i < c.length→Ob.eJ 5 (c.getD i Call.z).kind (c.getD i Call.z).arg)(ew: ∀i,i < c.length→(c.getD i Call.z).aB=0)(GA:c.length≤200)(G:Good c):Sr.Gd [5] c (cO c) (Sr.S0 [5]) [] (zH c):=by
 obtain⟨f1,f2⟩:=Hh W G
 have hp:=(DM c).1
 generalize zH c=w at f1 f2 hp
 have at_: ∀i,i < w.length→∃k:Nat,(w.getD i Step.z).call=k∧k < c.length∧((cX (c.getD k Call.z)∧(c.getD k Call.z).res=i)∨((c.getD k Call.z).au= -1∧can c k i)):=by
  intro i hi
  have hm:w.getD i Step.z∈steps c:=hp.mem_iff.1 (by rw[aG hi];exact List.getElem_mem _)
  have hr:=f1 i hi
  rcases List.mem_append.1 hm with h|h
  ·obtain⟨k,k1,k2,k3⟩:=oL.1 h
   rw[k3]at hr⊢
   exact⟨k,rfl,k1,.inl ⟨k2,hr⟩⟩
  ·obtain⟨j,j1,j2⟩:=sf.1 h
   rw[j2]at hr⊢
   obtain⟨g1,g2⟩:=G.Kv j j1
   obtain⟨k,k1,k2,k3⟩:=PQ g1
   have hr:(fD c).getD j 0=i:=hr
   rw[k2,hr]at g2
   exact⟨k,k2,k1,.inr ⟨k3,g2⟩⟩
 have ac:Sr.Ac c (cO c) [] w:=by
  refine PS (fun i hi=>?_) fun i j hij hj=>⟨f2 i j hij hj,?_⟩
  ·obtain⟨k,k1,k2,k3⟩:=at_ i hi
   refine⟨k,k1,k2,List.not_mem_nil,fun j hj=>(nomatch hj),fun h=>?_⟩
   rcases k3 with⟨_,h2⟩|⟨h2,_⟩
   ·rw[f1 i hi,h2]
   ·exact absurd h2 h
  ·obtain⟨a,a1,a2,a3⟩:=at_ i (by omega)
   obtain⟨b,b1,b2,b3⟩:=at_ j hj
   rw[a1,b1,Int.toNat_natCast,Int.toNat_natCast]
   refine Bool.eq_false_iff.2 fun h=>?_
   obtain⟨_,_,h3,h4⟩:=C6.1 h
   rcases b3 with⟨_,b3⟩|⟨b3,_⟩
   ·rcases a3 with⟨a3,a4⟩|⟨_,a4⟩
    ·have:=G.ord b a b2 a2 h3 a3 h4
     omega
    ·have:=a4 b b2 h3 (by rw[Int.toNat_natCast];exact h4)
     omega
   ·exact h3 b3
 have O6:=Sr.Ac.len ac
 refine⟨?_,fun i hi ha=>?_⟩
 ·rw[YI]
  exact(PR hA ew (by omega) (by omega)).2 ⟨ac,by omega,fun i hi=>by rw[f1 i hi];omega⟩
 ·rw[List.nil_append]
  exact List.mem_map.2 ⟨⟨(i:Int),(c.getD i Call.z).res⟩,hp.mem_iff.2 (List.mem_append.2 (.inl (oL.2 ⟨i,hi,ha,rfl⟩))),by simp⟩
end Tk
namespace Tk
open Hs
theorem Oh{N:Nat}(hN:5000 < N){l:List Event}{c:List Call}{op:List Int}{e:Int}(hl:l.length≤200)(hc:bk N [5] l=some (c,e,0))(R:cn N [5] l l.length c op):Wp (ch N l) fun r=>(r.1=true↔Good c):=(GB hN hl hc R).mono fun _ h=>h.2
theorem ag{N:Nat}(hN:5000 < N){l:List Event}{c:List Call}{op:List Int}{q:Bool×Int×Int×Int×Int}{w:List Step}{b:Bool}(ht:bo N [5]=some 0)(hl:l.length≤200)(R:cn N [5] l l.length c op)(F:Sr.wq [5] c (cO c) w b)(hq:ch N l=some q):b=q.1:=by
 have hlen:=R.wf.len
 obtain⟨r,hr,k2⟩:=Oh hN hl (pn (by omega) ht hl R) R
 rw[hq]at hr
 cases hr
 have W:=Vo R
 have ew: ∀i,i < c.length→(c.getD i Call.z).aB=0:=fun i hi=>by
  have:=(R.wf.one i hi).aB
  simp only[List.length_singleton]at this;omega
 have hA: ∀i,i < c.length→Ob.eJ 5 (c.getD i Call.z).kind (c.getD i Call.z).arg:=fun i hi=>by
  have:=Sr.vU R hi
  rw[ew i hi]at this
  exact this
 rcases F with⟨y,g,_⟩|⟨y,_,hno⟩
 ·rw[y,k2.2 (Ss W hA ew g)]
 ·rw[y]
  cases hb:q.1 with
  |false=>rfl
  |true=>exact absurd (Su W hA ew (by omega) (k2.1 hb)) (hno _)
end Tk
end Go.Proofs.YtjdkkabcenohcaaGreatDoor
set_option linter.unusedVariables false
set_option linter.unusedSimpArgs false
set_option linter.unusedSectionVars false
set_option maxRecDepth 100000
namespace Go.Proofs.YtjdkkabcenohcaaGreatDoor
open Go.RowKit
namespace Bg
open Rl Hs Sr
theorem ag{N:Nat}(hN:5000 < N){l:List Event}{c:List Call}{op:List Int}{q:List Int×Int}{w:List Step}{b:Bool}(ht:bo N [4]=some 0)(hl:l.length≤200)(R:cn N [4] l l.length c op)(h9:c.length≤9)(hf:dw N [4] l=some (w,b,0))(hq:dV N l=some q)(h0:q.2=0):b=true↔q.1= []:=by
 obtain⟨r,hr,h⟩:=rX (by omega) ht hl R
 rw[hq]at hr
 cases hr
 rcases h with⟨_,h⟩|⟨F,_,K,hK,Vw,sP⟩
 ·rw[h]at h0;cases h0
 obtain⟨r3,qy,_,hk⟩:=Ir (by omega) ht hl R h9
 rw[hf]at qy
 cases qy
 have hnd:K.Nodup:=hK.imp fun h=>by omega
 have key:(∃t,xS c t)↔∀n∈K,okF N l n=true:=by
  constructor
  ·rintro⟨t,L⟩ n _
   obtain⟨p,rf,c',op',idx,pos,q1,q2,q3,q4,P,q5⟩:=GG (by omega) ht hl R (F n)
   exact q5.2 (NN P L)
  ·intro h
   refine LI (N:=N) (types:=[4]) (k:=l.length) (op:=op) (hft R) hnd (fun i hi=>(Vw _).2 ⟨i,hi,rfl⟩) fun n hn=>?_
   obtain⟨p,rf,c',op',idx,pos,q1,q2,q3,q4,P,q5⟩:=GG (by omega) ht hl R (F n)
   obtain⟨t',L⟩:=q5.1 (h n hn)
   exact⟨p,c',op',idx,pos,t',P,L⟩
 refine hk.trans (key.trans ?_)
 rw[sP,List.filter_eq_nil_iff]
 exact forall_congr' fun n=>forall_congr' fun _=>by simp
end Bg
end Go.Proofs.YtjdkkabcenohcaaGreatDoor
set_option linter.unusedVariables false
set_option linter.unusedSimpArgs false
set_option linter.unusedSectionVars false
set_option maxRecDepth 100000
namespace Go.Proofs.YtjdkkabcenohcaaGreatDoor
open Go.RowKit
namespace Vd
open Tx Hs Sr
inductive IM(b:Bool):List Pt→Prop
 |er (r:List Pt):IM b (.s wB:: .s wE::r)
 |no (h:b=true):IM b [.s wB,.s wN]
 |ns (r:List Pt) (h:b=false) (hr: ∀p∈r,∃k,p=Pt.i k):IM b (.s wB::r)
theorem GX{b ok:Bool}{x:bq}{e:Int}(h:e=0→b=ok):IM b (zF ok x e):=by
 unfold zF
 split
 ·exact .er _
 ·rename_i he
  have he:e=0:=Classical.not_not.1 he
  split
  ·rename_i hk
   exact .no (by rw[h he,hk])
  ·rename_i hk
   refine .ns [.i x.kind,.i x.a,.i x.b] (by rw[h he];exact Bool.eq_false_iff.2 hk) fun p hp=>?_
   simp only[List.mem_cons,List.not_mem_nil,or_false]at hp
   rcases hp with rfl|rfl|rfl<;>exact⟨_,rfl⟩
theorem V6{b:Bool}{n:List Int}{e:Int}(h:e=0→(b=true↔n= [])):IM b (GR n e):=by
 unfold GR
 split
 ·exact .er _
 ·rename_i he
  have he:e=0:=Classical.not_not.1 he
  split
  ·rename_i hn
   subst hn
   exact .no ((h he).2 rfl)
  ·rename_i hn
   exact .ns (n.map .i) (Bool.eq_false_iff.2 fun hb=>hn ((h he).1 hb)) fun p hp=>by
    obtain⟨k,_,rfl⟩:=List.mem_map.1 hp
    exact⟨k,rfl⟩
end Vd
namespace Vd
open Tx Hs Sr
theorem L8{d:UInt8}(hd:d.toNat≠45∧¬(48≤d.toNat∧d.toNat≤57)∧32≠d){ps:List Pt}(h: ∀p∈ps,∃k,p= .i k):d∉jn 32 (ps.map eM):=J0 hd.2.2 fun x hx hm=>by
 obtain⟨p,hp,rfl⟩:=List.mem_map.1 hx
 obtain⟨k,rfl⟩:=h p hp
 rcases KW k d hm with h|h
 ·exact hd.1 h
 ·exact hd.2.1 h
theorem V7{N:Nat}{ps:List Pt}(h: ∀p∈ps,∃k,p= .i k):nY N (Tx.fj (jn 32 (ps.map eM))) (⟨#[101,114,114,111,114]⟩:ByteArray)=some false:=by
 unfold nY
 refine congrArg some (show Lib.hasPrefix (bs (Tx.fj _)) [101,114,114,111,114]=false from ?_)
 rw[gf]
 have hn:=L8 (d:=101) (by decide) h
 unfold Lib.hasPrefix
 cases hb:([101,114,114,111,114]:List UInt8).isPrefixOf (jn 32 (ps.map eM))with
 |false=>rfl
 |true=>
  obtain⟨z,hz⟩:=List.isPrefixOf_iff_prefix.1 hb
  rw[←hz]at hn
  exact absurd (by simp) hn
theorem V8{ps:List Pt}(h: ∀p∈ps,∃k,p= .i k):decide (Tx.fj (jn 32 (ps.map eM))=(⟨#[110,111,110,101]⟩:ByteArray))=false:=by
 have hn:=L8 (d:=110) (by decide) h
 refine decide_eq_false fun e=>?_
 have:=congrArg bs e
 rw[gf]at this
 rw[this]at hn
 exact hn (by decide)
theorem Sv{N:Nat}{r:List Pt}:nY N (Tx.fj (jn 32 ((.s wE::r:List Pt).map eM))) (⟨#[101,114,114,111,114]⟩:ByteArray)=some true:=by
 unfold nY
 refine congrArg some (show Lib.hasPrefix (bs (Tx.fj _)) (bs wE)=true from ?_)
 rw[gf,List.map_cons,yG]
 exact List.isPrefixOf_iff_prefix.2 ⟨_,rfl⟩
theorem Sw{N:Nat}(hN:5000 < N){typ:Int}{l:List Event}{c:List Call}{op:List Int}{S:List (List Pt)}{w:List Step}{b:Bool}(ht:bo N [typ]=some 0)(hl:l.length≤200)(R:cn N [typ] l l.length c op)(h9:c.length≤9)(hf:dw N [typ] l=some (w,b,0))(F:wq [typ] c (cO c) w b)(h:LQ N typ l S):S= []∨∃ps,S= [ps]∧IM b ps:=by
 rcases h with⟨rfl,q,hq,rfl⟩|⟨rfl,q,hq,rfl⟩|⟨rfl,q,hq,rfl⟩|⟨rfl,q,hq,rfl⟩|⟨_,_,_,_,rfl⟩
 ·exact .inr ⟨_,rfl,GX fun h0=>Zo.ag hN hf hq h0⟩
 ·exact .inr ⟨_,rfl,GX fun h0=>Rw.ag hN ht hl R h9 F hq h0⟩
 ·exact .inr ⟨_,rfl,GX fun _=>Tk.ag hN ht hl R F hq⟩
 ·exact .inr ⟨_,rfl,V6 fun h0=>Bg.ag hN ht hl R h9 hf hq h0⟩
 ·exact .inl rfl
theorem Oi{N:Nat}(hN:10000 < N)(hv:cD N=some true)(s:ByteArray):j' N s=some true:=by
 refine Wp.eq ?_
 unfold j'
 refine .seq (BF hN s fun _ _ _ _=>Sd (by omega)) fun o _ ⟨⟨L,hL,ho,hS⟩,hz⟩=>?_
 obtain⟨hsh,hl⟩:=VW hS
 refine .aZ (LR (by omega) ho hL hsh (by decide) (by decide) hl hz) (.aZ (LR (by omega) ho hL hsh (by decide) (by decide) hl hz) (.aZ hv ?_))
 have skip: ∀{x y:Option (List UInt8)} {f:Bool→Option Bool},x=none∨y=none→Wp (bd (cond ((((!true)||(!(xY x).2))||(!(xY y).2))==false) (nY N (xY y).1 (⟨#[101,114,114,111,114]⟩:ByteArray)) (some false)) fun r6=>cond ((((!true)||(!(xY x).2))||(!(xY y).2))||r6) (bd (cD N) fun r7=>some r7) (f r6)) fun r=>r=true:=by
  intro x y f h
  have e:(((!true)||(!(xY x).2))||(!(xY y).2))=true:=by
   rcases h with rfl|rfl
   ·rfl
   ·cases x<;>rfl
  rw[e]
  exact .aZ (a:=false) rfl (.aF rfl (.aZ hv (.one rfl)))
 rcases hS with⟨e,a,_,_,rfl⟩|⟨types,l,c,op,W,S,_,ht,hl2,R,hW,hT,rfl⟩
 ·exact skip (.inl rfl)
 rcases hW with⟨h9,H,⟨w,b,x,b2,y,b3,hf,F1,_,_,rfl⟩,_⟩|⟨_,rfl⟩
 case inr=>
  refine skip (.inl ?_)
  rw[l' (by decide)]
  rcases hT with⟨_,h,_⟩|⟨_,rfl⟩
  ·refine GS fun ps hps=>?_
   obtain⟨p,r,rfl⟩:=LT h ps hps
   exact⟨_,_,_,rfl,by decide⟩
  ·rfl
 have a1:cX wT ([.s wK,.i c.length]::(GP b b2 b3 w++S))=some (jn 32 ((.s (yN b)::sb w).map eM)):=by
  rw[l' (by decide)];exact uU
 have a2:cX wB ([.s wK,.i c.length]::(GP b b2 b3 w++S))=cX wB S:=by
  rw[l' (by decide)]
  show cX wB ((.s wT:: .s (yN b)::sb w)::[.s wP,.s (yN b2)]::[.s wC,.s (yN b3)]::S)=_
  rw[l' (by decide),l' (by decide),l' (by decide)]
 rw[a1,a2]
 rcases hT with⟨h1,hs,_⟩|⟨_,rfl⟩
 case inr=>exact skip (.inr rfl)
 obtain⟨typ,rfl⟩: ∃t,types= [t]:=by
  cases types with
  |nil=>cases h1
  |cons t r=>cases r with
   |nil=>exact⟨t,rfl⟩
   |cons=>simp at h1
 rcases Sw (by omega) ht hl2 R h9 hf F1 hs with rfl|⟨ps,rfl,hp⟩
 ·exact skip (.inr rfl)
 cases hp with
 |er r=>
  rw[uU]
  exact .aZ (a:=true) (Sv (N:=N)) (.aF rfl (.aZ hv (.one rfl)))
 |no h=>
  subst h
  rw[uU]
  refine .aZ (a:=false) rfl (.aw rfl (.aZ PE (.one rfl)))
 |ns r h hr=>
  subst h
  rw[uU]
  refine .aZ (a:=false) (V7 (N:=N) hr) (.aw rfl (.aZ PE (.one ?_)))
  show(false==decide (Tx.fj (jn 32 (r.map eM))=(⟨#[110,111,110,101]⟩:ByteArray)))=true
  rw[V8 hr];rfl
end Vd
end Go.Proofs.YtjdkkabcenohcaaGreatDoor
