import Derived.Test.YtjdkkabcenohcaaGreatDoorP9
import Derived.Test.YtjdkkabcenohcaaGreatDoorP10
import Derived.Test.YtjdkkabcenohcaaGreatDoorP11
import Derived.Test.YtjdkkabcenohcaaGreatDoorR0
import Derived.Test.YtjdkkabcenohcaaGreatDoorR1
import Derived.Test.YtjdkkabcenohcaaGreatDoorR2
set_option linter.unusedVariables false
set_option linter.unusedSimpArgs false
set_option linter.unusedSectionVars false
set_option maxRecDepth 100000
namespace Go.Proofs.YtjdkkabcenohcaaGreatDoor
open Go.RowKit
namespace Tk
open Hs
theorem nx5{v:Int}(h:0≤v∧v≤1000){kind arg:Int}(hA:Ob.dz 5 kind arg):Ob.nx 5 [v] kind arg=if v=1000 then none else some ([v+1],v):=by
 unfold Ob.nx
 rw[if_pos ⟨.inl ⟨.inr rfl,v,rfl,h.1,h.2⟩,hA⟩]
 unfold Ob.oA
 rw[if_neg (by decide),if_pos rfl];rfl
theorem pl5{c:List Call}{q:Nat→Nat→Bool}(hA: ∀i,i < c.length→Ob.dz 5 (c.getD i Call.z).kind (c.getD i Call.z).arg)(gk: ∀i,i < c.length→(c.getD i Call.z).aj=0):
  ∀{t:List Step} {v:Int} {w:List Nat},0≤v→v≤1000→(Sr.Pl [5] c q [[v]] w t↔Sr.Ac c q w t∧v+t.length≤1000∧∀i,i < t.length→(t.getD i Step.z).res=v+i)
 | [],v,w,h0,h1=>⟨fun _=>⟨trivial,by simpa using h1,fun i h=>absurd h (Nat.not_lt_zero _)⟩,fun _=>trivial⟩
 |s::t,v,w,h0,h1=>by
  constructor
  ·rintro⟨i,n,g1,g2,g3,g4,g5,g6,g7⟩
   rw[gk i g2]at g6 g7
   have g6:Ob.nx 5 [v] (c.getD i Call.z).kind (c.getD i Call.z).arg=some (n,s.res):=g6
   rw[nx5 ⟨h0,h1⟩ (hA i g2)]at g6
   by_cases hv:v=1000
   ·rw[if_pos hv]at g6;cases g6
   ·rw[if_neg hv]at g6
    obtain⟨e1,e2⟩:=Prod.mk.inj (Option.some.inj g6)
    subst e1
    have g7:Sr.Pl [5] c q [[v+1]] (w++[i]) t:=g7
    obtain⟨a1,a2,a3⟩:=(pl5 hA gk (by omega) (by omega)).1 g7
    refine⟨⟨i,g1,g2,g3,g4,g5,a1⟩,by rw[List.length_cons];omega,fun k hk=>?_⟩
    cases k with
    |zero=>show s.res=v+((0:Nat):Int);omega
    |succ k=>
     have:=a3 k (by simpa using hk)
     show(t.getD k Step.z).res=v+((k+1:Nat):Int)
     omega
  ·rintro⟨⟨i,g1,g2,g3,g4,g5,a1⟩,a2,a3⟩
   rw[List.length_cons]at a2
   have hs:s.res=v:=by
    have:=a3 0 (Nat.succ_pos _)
    have e:((s::t).getD 0 Step.z)=s:=rfl
    rw[e]at this;omega
   refine⟨i,[v+1],g1,g2,g3,g4,g5,?_,?_⟩
   ·rw[gk i g2]
    show Ob.nx 5 [v] _ _=_
    rw[nx5 ⟨h0,h1⟩ (hA i g2),if_neg (by omega),hs]
   ·rw[gk i g2]
    show Sr.Pl [5] c q [[v+1]] _ _
    refine(pl5 hA gk (by omega) (by omega)).2 ⟨a1,by omega,fun k hk=>?_⟩
    have:=a3 (k+1) (by rw[List.length_cons];omega)
    have e:((s::t).getD (k+1) Step.z)=t.getD k Step.z:=rfl
    rw[e]at this;omega
theorem KZ{c:List Call}{q:Nat→Nat→Bool}: ∀{t:List Step} {w:List Nat},Sr.Ac c q w t→∀i,i < t.length→∃k:Nat,(t.getD i Step.z).call=k∧k < c.length∧k∉w∧(∀j,j∈w→q k j=false)∧((c.getD k Call.z).aY≠ -1→(t.getD i Step.z).res=(c.getD k Call.z).res)∧∀j,j < i→(t.getD j Step.z).call≠k∧q k (t.getD j Step.z).call.toNat=false
 | [],_,_,i,h=>absurd h (Nat.not_lt_zero _)
 |s::t,w,⟨k,a1,a2,a3,a4,a5,a6⟩,i,hi=>by
  cases i with
  |zero=>exact⟨k,a1,a2,a3,a4,a5,fun j h=>absurd h (Nat.not_lt_zero _)⟩
  |succ i=>
   obtain⟨m,b1,b2,b3,b4,b5,b6⟩:=KZ a6 i (by simpa using hi)
   refine⟨m,b1,b2,fun h=>b3 (List.mem_append.2 (.inl h)),fun j h=>b4 j (List.mem_append.2 (.inl h)),b5,fun j hj=>?_⟩
   cases j with
   |zero=>
    show s.call≠m∧q m s.call.toNat=false
    rw[a1,Int.toNat_natCast]
    refine⟨fun e=>b3 (List.mem_append.2 (.inr (List.mem_singleton.2 (by omega)))),b4 k (List.mem_append.2 (.inr (List.mem_singleton.2 rfl)))⟩
   |succ j=>exact b6 j (by omega)
theorem D0{c:List Call}{i j:Nat}:fg c i j=true↔i < c.length∧j < c.length∧(c.getD i Call.z).aY≠ -1∧(c.getD i Call.z).aY < (c.getD j Call.z).from_:=by unfold fg;exact decide_eq_true_iff
theorem S05:Sr.S0 [5]= [[0]]:=by simp[Sr.S0,Ob.pU]
theorem Mz{c:List Call}(W:Okl c)(hA: ∀i,i < c.length→Ob.dz 5 (c.getD i Call.z).kind (c.getD i Call.z).arg)(gk: ∀i,i < c.length→(c.getD i Call.z).aj=0){t:List Step}(g:Sr.Gd [5] c (fg c) (Sr.S0 [5]) [] t):Good c:=by
 obtain⟨g1,g2⟩:=g
 rw[S05]at g1
 obtain⟨a,hl,hr⟩:=(pl5 hA gk (by omega) (by omega)).1 g1
 have ix:=KZ a
 have hr: ∀i,i < t.length→(t.getD i Step.z).res=i:=fun i hi=>by have:=hr i hi;omega
 have pl: ∀x,x < c.length→gx (c.getD x Call.z)→∃p,p < t.length∧(t.getD p Step.z).call=x∧(c.getD x Call.z).res=p:=by
  intro x hx ha
  have:=g2 x hx ha
  rw[List.nil_append]at this
  obtain⟨s,hs,e⟩:=List.mem_map.1 this
  obtain⟨p,hp,e2⟩:=List.getElem_of_mem hs
  obtain⟨k,k1,k2,_,_,k5,_⟩:=ix p hp
  have e3:t.getD p Step.z=s:=by rw[aW hp,e2]
  have:k=x:=by rw[e3]at k1;rw[k1]at e;simpa using e
  subst this
  exact⟨p,hp,k1,by rw[←k5 ha,hr p hp]⟩
 have no: ∀x p,x < c.length→p < t.length→∀k:Nat,(t.getD p Step.z).call=k→∀u,u < t.length→(t.getD u Step.z).call=x→p < u→fg c x k=false:=by
  intro x p hx hp k hk u hu hxu K0
  obtain⟨m,m1,m2,_,_,_,m6⟩:=ix u hu
  have:m=x:=by omega
  subst this
  have:=(m6 p K0).2
  rw[hk,Int.toNat_natCast]at this
  exact this
 refine⟨fun i j h1 h2 h3 h4 e=>?_,fun i j h1 h2 h3 h4 h5=>?_,?_⟩
 ·obtain⟨p,p1,p2,p3⟩:=pl i h2 h3
  obtain⟨u,u1,u2,u3⟩:=pl j (by omega) h4
  have:p=u:=by omega
  subst this
  omega
 ·obtain⟨p,p1,p2,p3⟩:=pl i h1 h3
  obtain⟨u,u1,u2,u3⟩:=pl j h2 h4
  refine Int.not_lt.1 fun h=>?_
  have:=no i u h1 u1 j u2 p p1 p2 (by omega)
  rw[D0.2 ⟨h1,h2,h3,h5⟩]at this
  cases this
 have fm: ∀m,m∈um c→∃k:Nat,m.toNat < t.length∧0≤m∧(t.getD m.toNat Step.z).call=k∧k < c.length∧(c.getD k Call.z).aY= -1:=by
  intro m hm
  obtain⟨m0,m1,m2⟩:=Good.XH.1 hm
  obtain⟨x,x1,x2,x3⟩:=Ow (c:=c) (k:=c.length) (by omega)
  obtain⟨p,p1,p2,p3⟩:=pl x x1 x2
  have hlt:m.toNat < t.length:=by omega
  obtain⟨k,k1,k2,_,_,k5,_⟩:=ix m.toNat hlt
  refine⟨k,hlt,m0,k1,k2,Classical.byContradiction fun h=>?_⟩
  have:=k5 h
  rw[hr _ hlt]at this
  exact m2 k k2 h (by omega)
 refine XG (CE c _) (CF c _ _) (can c) (fun m=>(t.getD m.toNat Step.z).call) (fun m hm=>?_) (fun x hx y hy e=>?_) fun p hp q hq m n h1 h2 h3=>?_
 ·obtain⟨k,k0,k1,k2,k3,k4⟩:=fm m hm
  show(t.getD m.toNat Step.z).call∈_∧can c (t.getD m.toNat Step.z).call m
  rw[k2]
  refine⟨uC.2 ⟨k,k3,rfl,k4⟩,fun x hx ha hlt=>?_⟩
  rw[Int.toNat_natCast]at hlt
  obtain⟨p,p1,p2,p3⟩:=pl x hx ha
  refine Int.not_le.1 fun h=>?_
  rcases Int.lt_or_eq_of_le h with h4|h4
  ·have:=no x m.toNat hx k0 k k2 p p1 p2 (by omega)
   rw[D0.2 ⟨hx,k3,ha,hlt⟩]at this
   cases this
  ·have:p=m.toNat:=by omega
   subst this
   have:x=k:=by omega
   subst this
   exact ha k4
 ·obtain⟨k,k0,k1,k2,_⟩:=fm x hx
  obtain⟨j,j0,j1,j2,_⟩:=fm y hy
  have e:(t.getD x.toNat Step.z).call=(t.getD y.toNat Step.z).call:=e
  obtain⟨a,a1,_,_,_,_,a6⟩:=ix x.toNat k0
  obtain⟨b,b1,_,_,_,_,b6⟩:=ix y.toNat j0
  rcases Nat.lt_trichotomy x.toNat y.toNat with h|h|h
  ·exact absurd (by rw[e,b1]) (b6 _ h).1
  ·omega
  ·exact absurd (by rw[←e,a1]) (a6 _ h).1
 ·obtain⟨i,i1,rfl,_⟩:=uC.1 hp
  obtain⟨j,j1,rfl,_⟩:=uC.1 hq
  exact Ri W (by omega) (by omega) h1 h2 h3
end Tk
namespace Tk
open Hs
theorem ez{N:Nat}(hN:5000 < N){l:List Event}{c:List Call}{op:List Int}{q:Bool×Int×Int×Int×Int}{t:List Step}(ht:co N [5]=some 0)(hl:l.length≤200)(R:ex N [5] l l.length c op)(g:Sr.Gd [5] c (fg c) (Sr.S0 [5]) [] t)(hq:fR N l=some q):true=q.1:=by
 obtain⟨r,hr,_,k2⟩:=Jn hN hl (nN (by omega) ht hl R) R
 rw[hq]at hr
 cases hr
 have gk: ∀i,i < c.length→(c.getD i Call.z).aj=0:=fun i hi=>by
  have:=(R.wf.one i hi).aj
  simp only[List.length_singleton]at this;omega
 have hA: ∀i,i < c.length→Ob.dz 5 (c.getD i Call.z).kind (c.getD i Call.z).arg:=fun i hi=>by
  have:=Sr.BU R hi
  rw[gk i hi]at this
  exact this
 rw[k2.2 (Mz (okl R) hA gk g)]
end Tk
end Go.Proofs.YtjdkkabcenohcaaGreatDoor
set_option linter.unusedVariables false
set_option linter.unusedSimpArgs false
set_option linter.unusedSectionVars false
set_option maxRecDepth 100000
namespace Go.Proofs.YtjdkkabcenohcaaGreatDoor
open Go.RowKit
namespace Sr
open Rl Hs
theorem abe: ∀{l:List Do} {S s':List Int},Ob.lS 4 S→(∀d∈l,Ob.dz 4 d.kind d.arg)→Ob.run 4 S l=some s'→∀n,E_ (decide (n∈S)) (fo n l)=true
 | [],_,_,_,_,_,_=>rfl
 |d::l,S,s',hO,hA,h,n=>by
  simp only[Ob.run]at h
  cases DV:Ob.nx 4 S d.kind d.arg with
  |none=>rw[DV]at h;cases h
  |some p=>
   obtain⟨n',r⟩:=p
   rw[DV]at h
   simp only at h
   split at h
   ·rename_i hr
    obtain⟨_,XK,hst,hO'⟩:=Ob.HI DV
    obtain⟨m1,m2⟩:=Ob.Rm hO XK hst
    have ih:=abe hO' (fun x hx=>hA x (.tail _ hx)) h n
    have e1:=aa7 m1 m2
    by_cases e:n=d.arg
    ·subst e
     have hc1:fo d.arg (d::l)=d::fo d.arg l:=by unfold fo;rw[List.filter_cons,if_pos (by simp)]
     rw[hc1]
     show(decide ((nb _ d.kind).2=d.res)&&E_ (nb _ d.kind).1 _)=true
     rw[e1,decide_eq_true hr,ih];rfl
    ·have xp:fo n (d::l)=fo n l:=by unfold fo;rw[List.filter_cons,if_neg (by simpa using Ne.symm e)]
     rw[xp,←G3 m1 e];exact ih
   ·cases h
theorem ahJ{c:List Call}(gk: ∀i,i < c.length→(c.getD i Call.z).aj=0)(hA: ∀i,i < c.length→Ob.dz 4 (c.getD i Call.z).kind (c.getD i Call.z).arg){t:List Step}(g:Gd [4] c (fg c) (S0 [4]) [] t):Mn c t:=by
 obtain⟨hp,hc⟩:=g
 obtain⟨ha,hx⟩:=(DZ (fun m hm=>by rw[gk m hm];exact⟨by decide,by decide⟩) (by simp[S0])).1 hp
 obtain⟨h1,h2⟩:=XI.1 ha
 have hS:(S0 [4]).getD 0 []= []:=by simp[S0,Ob.pU]
 obtain⟨s',hs⟩:=hx 0 (by simp)
 rw[hS,Oy gk h1]at hs
 have hr:=abe (S:=[]) (.inr (.inr ⟨rfl,by simp,by simp,by simp[Ob.qX]⟩)) (fun d hd=>by
  obtain⟨s,hs,rfl⟩:=List.mem_map.1 hd
  have:=(h1 s hs).eJ
  exact hA _ (by omega)) hs
 exact⟨h1,h2,by simpa using hc,fun n=>by have:=hr n;simpa using this⟩
end Sr
namespace Bg
open Rl Hs Sr
theorem ez{N:Nat}(hN:5000 < N){l:List Event}{c:List Call}{op:List Int}{q:List Int×Int}{t:List Step}(ht:co N [4]=some 0)(hl:l.length≤200)(R:ex N [4] l l.length c op)(g:Sr.Gd [4] c (fg c) (S0 [4]) [] t)(hq:iW N l=some q)(h0:q.2=0):q.1= []:=by
 obtain⟨r,hr,h⟩:=yB (by omega) ht hl R
 rw[hq]at hr
 cases hr
 rcases h with⟨_,h⟩|⟨F,_,K,hK,hKm,za⟩
 ·rw[h]at h0;cases h0
 have gk: ∀i,i < c.length→(c.getD i Call.z).aj=0:=fun i hi=>by
  have:=(R.wf.one i hi).aj
  simp only[List.length_singleton]at this;omega
 have hA: ∀i,i < c.length→Ob.dz 4 (c.getD i Call.z).kind (c.getD i Call.z).arg:=fun i hi=>by
  have:=BU R hi
  rw[gk i hi]at this
  exact this
 have L:=ahJ gk hA g
 rw[za,List.filter_eq_nil_iff]
 intro n _
 obtain⟨p,rf,c',op',idx,pos,q1,q2,q3,q4,P,q5⟩:=XM (by omega) ht hl R (F n)
 simp[q5.2 (ZT P L)]
end Bg
end Go.Proofs.YtjdkkabcenohcaaGreatDoor
set_option linter.unusedVariables false
set_option linter.unusedSimpArgs false
set_option linter.unusedSectionVars false
set_option maxRecDepth 100000
namespace Go.Proofs.YtjdkkabcenohcaaGreatDoor
open Go.RowKit
namespace Vd
open Tx Hs Sr
theorem af'{N:Nat}(hN:5000 < N){typ:Int}{l:List Event}{c:List Call}{op:List Int}{S:List (List Pt)}{t:List Step}(ht:co N [typ]=some 0)(hl:l.length≤200)(R:ex N [typ] l l.length c op)(g:Sr.Gd [typ] c (fg c) (S0 [typ]) [] t)(h:XP N typ l S):S= []∨∃ps,S= [ps]∧Nx true ps:=by
 rcases h with⟨rfl,q,hq,rfl⟩|⟨rfl,q,hq,rfl⟩|⟨rfl,q,hq,rfl⟩|⟨rfl,q,hq,rfl⟩|⟨_,_,_,_,rfl⟩
 ·exact .inr ⟨_,rfl,DY fun h0=>Zo.ez hN ht hl R g hq h0⟩
 ·exact .inr ⟨_,rfl,DY fun h0=>Rw.ez hN ht hl R g hq h0⟩
 ·exact .inr ⟨_,rfl,DY fun _=>Tk.ez hN ht hl R g hq⟩
 ·exact .inr ⟨_,rfl,af9 fun h0=>⟨fun _=>Bg.ez hN ht hl R g hq h0,fun _=>rfl⟩⟩
 ·exact .inl rfl
theorem aga{types:List Int}(h:types.length=1):types= [types.getD 0 0]:=by
 cases types with
 |nil=>cases h
 |cons t r=>cases r with
  |nil=>rfl
  |cons=>simp at h
end Vd
end Go.Proofs.YtjdkkabcenohcaaGreatDoor
