import Derived.Test.YtjdkkabcenohcaaGreatDoorP2
import Derived.Test.YtjdkkabcenohcaaGreatDoorV7
set_option linter.unusedVariables false
set_option linter.unusedSimpArgs false
set_option linter.unusedSectionVars false
set_option maxRecDepth 100000
namespace Go.Proofs.YtjdkkabcenohcaaGreatDoor
open Go.RowKit
namespace Rw
open Hs
structure Q(c:List Call):Prop where
 kd: ∀i,i < c.length→(c.getD i Call.z).kind=3∨(c.getD i Call.z).kind=4
 ea: ∀i,i < c.length→(c.getD i Call.z).kind=3→1≤(c.getD i Call.z).arg∧(c.getD i Call.z).arg≤1000∧(c.getD i Call.z).res=0
 da: ∀i,i < c.length→(c.getD i Call.z).kind=4→(c.getD i Call.z).arg=0∧((c.getD i Call.z).aY= -1→(c.getD i Call.z).res=0)∧((c.getD i Call.z).aY≠ -1→(c.getD i Call.z).res= -1∨(1≤(c.getD i Call.z).res∧(c.getD i Call.z).res≤1000))
 tm: ∀i,i < c.length→0≤(c.getD i Call.z).from_∧(c.getD i Call.z).from_ < 200∧((c.getD i Call.z).aY= -1∨((c.getD i Call.z).from_ < (c.getD i Call.z).aY∧(c.getD i Call.z).aY < 200))
 ne: ∀i j,i < c.length→j < c.length→(c.getD i Call.z).aY≠ -1→(c.getD i Call.z).aY≠(c.getD j Call.z).from_
 nf: ∀i j,i < c.length→j < c.length→(c.getD i Call.z).from_=(c.getD j Call.z).from_→i=j
 nt: ∀i j,i < c.length→j < c.length→(c.getD i Call.z).aY≠ -1→(c.getD i Call.z).aY=(c.getD j Call.z).aY→i=j
 inc: ∀i j,i < j→j < c.length→(c.getD i Call.z).from_ < (c.getD j Call.z).from_
theorem ajT{k:Int}(h:yX k=2):k=3∨k=4:=by
 unfold yX at h
 by_cases h1:k=1∨k=2
 ·rw[if_pos h1]at h;omega
 ·rw[if_neg h1]at h
  by_cases h2:k=3∨k=4
  ·exact h2
  ·rw[if_neg h2]at h
   by_cases h3:k=5∨k=6
   ·rw[if_pos h3]at h;omega
   ·rw[if_neg h3]at h
    by_cases h4:k=7∨k=8∨k=9
    ·rw[if_pos h4]at h;omega
    ·rw[if_neg h4]at h
     by_cases h5:k=10
     ·rw[if_pos h5]at h;omega
     ·rw[if_neg h5]at h;omega
theorem w_{N:Nat}{types:List Int}{l:List Event}{k:Nat}{out:List Call}{op:List Int}(R:ex N types l k out op): ∀m,m < out.length→cQ N (out.getD m Call.z).kind (out.getD m Call.z).arg=some true∧((out.getD m Call.z).aY≠ -1→bV N (out.getD m Call.z).kind (out.getD m Call.z).res=some true):=by
 induction R with
 |zero=>exact fun m h=>absurd h (Nat.not_lt_zero _)
 | @succ k out out' op op' R hk S ih=>
  intro m hm
  rcases S.how with⟨_,_,ha,_,rfl,_⟩|⟨_,m0,_,hml,_,hr,rfl,_⟩
  ·rw[List.length_append,List.length_singleton]at hm
   rw[dL]
   by_cases h:m < out.length
   ·rw[if_pos h];exact ih m h
   ·rw[if_neg h,if_pos (by omega)]
    exact⟨ha,fun h=>(h rfl).elim⟩
  ·rw[List.length_set]at hm
   rw[fv hml]
   by_cases e:m=m0
   ·subst e
    rw[if_pos rfl]
    exact⟨(ih m hm).1,fun _=>hr⟩
   ·rw[if_neg e];exact ih m hm
theorem VQ{N:Nat}{l:List Event}{c:List Call}{op:List Int}{n:Nat}(hn:n≤200)(R:ex N [2] l n c op):Q c:=by
 have W:=R.wf
 have hk: ∀i,i < c.length→(c.getD i Call.z).kind=3∨(c.getD i Call.z).kind=4:=fun i hi=>by
  have O:=W.one i hi
  have gk:=O.aj
  simp only[List.length_singleton]at gk
  have e:(c.getD i Call.z).aj.toNat=0:=by omega
  have h2:=O.fit.2
  rw[e]at h2
  exact ajT h2
 refine⟨hk,fun i hi h1=>?_,fun i hi h1=>?_,fun i hi=>?_,fun i j hi hj h1 e=>?_,fun i j hi hj e=>?_,fun i j hi hj h1 e=>?_,fun i j hij hj=>(W.two i j hij hj).fr⟩
 ·have h2:=w_ R i hi
  rw[h1]at h2
  have e:cQ N 3 (c.getD i Call.z).arg=some ((decide (1≤(c.getD i Call.z).arg))&&(decide ((c.getD i Call.z).arg≤1000))):=rfl
  have e2:bV N 3 (c.getD i Call.z).res=some (decide ((c.getD i Call.z).res=0)):=rfl
  rw[e,e2]at h2
  have h3:1≤(c.getD i Call.z).arg∧(c.getD i Call.z).arg≤1000:=by simpa using h2.1
  refine⟨h3.1,h3.2,?_⟩
  by_cases ht:(c.getD i Call.z).aY= -1
  ·have hf:=(W.one i hi).fr
   rcases(W.one i hi).tO with h|h
   ·exact h.2.2
   ·omega
  ·simpa using h2.2 ht
 ·have h2:=w_ R i hi
  rw[h1]at h2
  have e:cQ N 4 (c.getD i Call.z).arg=some (decide ((c.getD i Call.z).arg=0)):=rfl
  have e2:bV N 4 (c.getD i Call.z).res=some ((decide ((c.getD i Call.z).res=(-1)))||((decide (1≤(c.getD i Call.z).res))&&(decide ((c.getD i Call.z).res≤1000)))):=rfl
  rw[e,e2]at h2
  refine⟨by simpa using h2.1,fun ht=>?_,fun ht=>by simpa using h2.2 ht⟩
  have hf:=(W.one i hi).fr
  rcases(W.one i hi).tO with h|h
  ·exact h.2.2
  ·omega
 ·have h1:=(W.one i hi).fr
  rcases(W.one i hi).tO with h|h<;>omega
 ·have h2:=(W.one i hi).evt h1
  have h3:=(W.one j hj).evf
  rw[e,h3.1]at h2
  have:(c.getD j Call.z).kind=0:=congrArg (·.kind) h2
  exact h3.2 this
 ·rcases Nat.lt_trichotomy i j with h|h|h
  ·have:=(W.two i j h hj).fr;omega
  ·exact h
  ·have:=(W.two j i h hi).fr;omega
 ·rcases Nat.lt_trichotomy i j with h|h|h
  ·exact((W.two i j h hj).tO h1 e).elim
  ·exact h
  ·exact((W.two j i h hi).tO (by omega) e.symm).elim
structure p6(c:List Call):Prop where
 dn: ∀i,i < c.length→(c.getD i Call.z).kind=4→(c.getD i Call.z).aY≠ -1
 uq: ∀i j,i < c.length→j < c.length→(c.getD i Call.z).kind=3→(c.getD j Call.z).kind=3→(c.getD i Call.z).arg=(c.getD j Call.z).arg→i=j
def Fd(c:List Call)(k:Nat)(n:Int)(d:Nat):Prop:=d < k∧(c.getD d Call.z).kind=4∧(c.getD d Call.z).res=n∧∀j,j < d→(c.getD j Call.z).kind=4→(c.getD j Call.z).res≠n
def Nd(c:List Call)(k:Nat)(n:Int):Prop:=∀j,j < k→(c.getD j Call.z).kind=4→(c.getD j Call.z).res≠n
theorem VR{c:List Call}{k:Nat}{n:Int}{d d':Nat}(h:Fd c k n d)(h':Fd c k n d'):d=d':=by
 rcases Nat.lt_trichotomy d d' with x|x|x
 ·exact(h'.2.2.2 d x h.2.1 h.2.2.1).elim
 ·exact x
 ·exact(h.2.2.2 d' x h'.2.1 h'.2.2.1).elim
def Af(c:List Call)(k:Nat)(v:aq):Prop:=∃e:Nat,v.oJ=e∧e < c.length∧(c.getD e Call.z).kind=3∧(c.getD e Call.z).arg=v.n∧((v.lG= -1∧Nd c k v.n)∨∃d:Nat,v.lG=d∧Fd c k v.n d)
structure zQ(c:List Call)(k:Nat)(V:List aq):Prop where
 mem: ∀v∈V,Af c k v
 all: ∀e,e < c.length→(c.getD e Call.z).kind=3→∃v∈V,v.oJ=(e:Int)
 len:V.length≤200
theorem AJ{N:Nat}(hN:300 < N)(c:List Call){V:List aq}(hV:V.length≤200)(n:Int):Wp (iy N c V n) fun r=>(r= -1∧∀v∈V,v.n≠n)∨∃k:Nat,r=k∧k < V.length∧(V.getD k aq.z).n=n:=by
 unfold iy iM
 refine .seq (P:=fun(r:Int)=>(r= -1∧∀v∈V,v.n≠n)∨∃k:Nat,r=k∧k < V.length∧(V.getD k aq.z).n=n) (.elim (P:=fun t=>match t with| .inl _=>∀v∈V,v.n≠n| .inr r=>∃k:Nat,r=k∧k < V.length∧(V.getD k aq.z).n=n) (.iter V.length (fun(k:Nat) (v:Int)=>v=(k:Int)∧∀j,j < k→(V.getD j aq.z).n≠n) (by omega) ⟨rfl,fun j h=>absurd h (Nat.not_lt_zero _)⟩ ?_ ?_) (fun _ _ h=> .one (.inl ⟨rfl,h⟩)) (fun r _ h=> .one (.inr h))) fun r _ hr=>?_
 ·rintro k v hk ⟨rfl,hr⟩
  simp only[ib]
  refine .bg (decide_eq_true (by omega)) (.fL aq.z (by omega) (by omega) (.bD rfl ?_))
  simp only[Int.toNat_natCast]
  refine .cond (fun h=> .one ⟨k,rfl,hk,of_decide_eq_true h⟩) fun h=> .bK (by omega) (.one ⟨by simp,fun j hj=>?_⟩)
  rcases Nat.lt_or_ge j k with h1|h1
  ·exact hr j h1
  ·obtain rfl:j=k:=by omega
   exact of_decide_eq_false h
 ·rintro v ⟨rfl,hr⟩
  simp only[ib]
  refine .aL (decide_eq_false (by omega)) (.one fun v hv=>?_)
  obtain⟨j,hj,rfl⟩:=List.mem_iff_getElem.1 hv
  have:=hr j hj
  rwa[aW hj]at this
 ·rcases hr with⟨rfl,h⟩|⟨k,rfl,hk,h⟩
  ·exact .bg rfl (.one (.inl ⟨rfl,h⟩))
  ·exact .aL (decide_eq_false (by omega)) (.ix hk (.one (.inr ⟨k,rfl,hk,h⟩)))
theorem jX{α:Type}{l:List α}{k:Nat}{d:α}(h:k < l.length):l.getD k d∈l:=by rw[aW h];exact List.getElem_mem h
theorem Mo{N:Nat}(hN:300 < N){c:List Call}{k:Nat}{V:List aq}(hV:zQ c k V)(n:Int):Wp (iy N c V n) fun r=>(r= -1∧∀e,e < c.length→(c.getD e Call.z).kind=3→(c.getD e Call.z).arg≠n)∨∃m:Nat,r=m∧m < V.length∧(V.getD m aq.z).n=n∧Af c k (V.getD m aq.z):=by
 refine(AJ hN c hV.len n).mono fun r hr=>?_
 rcases hr with⟨h1,h2⟩|⟨m,h1,h2,h3⟩
 ·refine .inl ⟨h1,fun e he h3 h4=>?_⟩
  obtain⟨v,hv,h5⟩:=hV.all e he h3
  obtain⟨e',g1,g2,g3,g4,_⟩:=hV.mem v hv
  obtain rfl:e'=e:=by omega
  exact h2 v hv (g4▸h4)
 ·exact .inr ⟨m,h1,h2,h3,hV.mem _ (jX h2)⟩
structure Pre(c:List Call)(k:Nat)(V:List aq):Prop where
 mem: ∀v∈V,∃e:Nat,v.oJ=e∧e < k∧(c.getD e Call.z).kind=3∧(c.getD e Call.z).arg=v.n∧v.lG= -1
 all: ∀e,e < k→(c.getD e Call.z).kind=3→∃v∈V,v.oJ=(e:Int)
 len:V.length≤k
 nd:(V.map (·.n)).Nodup
 dn: ∀i,i < k→(c.getD i Call.z).kind=4→(c.getD i Call.z).aY≠ -1
 uq: ∀i j,i < k→j < k→(c.getD i Call.z).kind=3→(c.getD j Call.z).kind=3→(c.getD i Call.z).arg=(c.getD j Call.z).arg→i=j
theorem ZX{N:Nat}(hN:300 < N){c:List Call}(hc:c.length≤200)(a b:Int):Wp (iter (pX N (c,a,b)) N (([]:List aq),0)) fun t=>match t with
  | .inl V=>Pre c c.length V
  | .inr r=>¬p6 c∧r=(false,[],[],6):=by
 refine .iter c.length (fun k st=>Pre c k st.1∧st.2=(k:Int)) (by omega) ⟨⟨fun v h=>(nomatch h),fun e h=>absurd h (Nat.not_lt_zero _),Nat.le_refl _,List.nodup_nil,fun i h=>absurd h (Nat.not_lt_zero _),fun i _ h=>absurd h (Nat.not_lt_zero _)⟩,rfl⟩ ?_ ?_
 ·rintro k ⟨V,v⟩ hk ⟨P,hv⟩
  dsimp only at P hv
  subst hv
  have hlen:=P.len
  simp only[pX]
  refine .bg (decide_eq_true (by show(k:Int) < c.length;omega)) (.fL Call.z (by omega) (by show(k:Int) < c.length;omega) ?_)
  simp only[Int.toNat_natCast]
  refine .cond (fun h=> .one ⟨fun C=>?_,rfl⟩) fun h=>?_
  ·have h:(c.getD k Call.z).kind=4∧(c.getD k Call.z).aY= -1:=by simpa using h
   exact C.dn k hk h.1 h.2
  ·have h4:(c.getD k Call.z).kind=4→(c.getD k Call.z).aY≠ -1:=by simpa using h
   have dn': ∀i,i < k+1→(c.getD i Call.z).kind=4→(c.getD i Call.z).aY≠ -1:=fun i hi=>by
    rcases Nat.lt_or_ge i k with h1|h1
    ·exact P.dn i h1
    ·obtain rfl:i=k:=by omega
     exact h4
   by_cases h3:(c.getD k Call.z).kind=3
   ·refine .seq (P:=fun b=>(b=true∧¬p6 c)∨(b=false∧∀v∈V,v.n≠(c.getD k Call.z).arg)) (.bg (by rw[decide_eq_true h3];rfl) (.seq (AJ hN c (by omega) (c.getD k Call.z).arg) fun r _ hr=> .one ?_)) fun b _ hb=>?_
    ·rw[decide_eq_true h3,Bool.true_and]
     rcases hr with⟨rfl,h1⟩|⟨m,rfl,h1,h2⟩
     ·exact .inr ⟨rfl,h1⟩
     ·refine .inl ⟨by rw[decide_eq_false (by omega)];rfl,fun C=>?_⟩
      obtain⟨e,g1,g2,g3,g4,_⟩:=P.mem _ (jX (d:=aq.z) h1)
      have:=C.uq e k (by omega) hk g3 h3 (g4.trans h2)
      omega
    ·rcases hb with⟨rfl,h1⟩|⟨rfl,h1⟩
     ·exact .bg rfl (.one ⟨h1,rfl⟩)
     ·refine .aL rfl (.bg (decide_eq_true h3) (.ck (eT ⟨?_,?_⟩) (.bK (by omega) (.one ⟨⟨fun v hv=>?_,fun e he hke=>?_,by simp;omega,?_,dn',fun i j hi hj k1 k2 e=>?_⟩,by simp⟩))))
      ·simp only[List.length_singleton];exact Nat.le_trans (m:=2000) (by omega) (by decide)
      ·simp only[List.length_singleton];omega
      ·rcases List.mem_append.1 hv with hv|hv
       ·obtain⟨e,g1,g2,g3⟩:=P.mem v hv
        exact⟨e,g1,by omega,g3⟩
       ·rw[List.mem_singleton.1 hv]
        exact⟨k,rfl,by omega,h3,rfl,rfl⟩
      ·rcases Nat.lt_or_ge e k with h5|h5
       ·obtain⟨v,hv,g⟩:=P.all e h5 hke
        exact⟨v,List.mem_append.2 (.inl hv),g⟩
       ·obtain rfl:e=k:=by omega
        exact⟨_,List.mem_append.2 (.inr (List.mem_singleton.2 rfl)),rfl⟩
      ·rw[List.map_append,List.nodup_append]
       refine⟨P.nd,by simp,fun x hx y hy e=>?_⟩
       obtain⟨v,hv,rfl⟩:=List.mem_map.1 hx
       simp only[List.map_cons,List.map_nil,List.mem_singleton]at hy
       exact h1 v hv (e.trans hy)
      ·have key: ∀i,i < k→(c.getD i Call.z).kind=3→(c.getD i Call.z).arg=(c.getD k Call.z).arg→False:=fun i hi k3 e=>by
        obtain⟨v,hv,g⟩:=P.all i hi k3
        obtain⟨e',g1,g2,g3,g4,_⟩:=P.mem v hv
        obtain rfl:e'=i:=by omega
        exact h1 v hv (g4▸e)
       rcases Nat.lt_or_ge i k with h5|h5
       ·rcases Nat.lt_or_ge j k with h6|h6
        ·exact P.uq i j h5 h6 k1 k2 e
        ·obtain rfl:j=k:=by omega
         exact(key i h5 k1 e).elim
       ·obtain rfl:i=k:=by omega
        rcases Nat.lt_or_ge j i with h6|h6
        ·exact(key j h6 k2 e.symm).elim
        ·omega
   ·refine .bD (a:=false) ((eH (by rw[decide_eq_false h3];rfl)).trans (by rw[decide_eq_false h3];rfl)) (.aL rfl (.aL (decide_eq_false h3) (.bK (by omega) (.one ⟨⟨fun v hv=>?_,fun e he hke=>?_,by simp only;omega,P.nd,dn',fun i j hi hj k1 k2 e=>?_⟩,by simp⟩))))
    ·obtain⟨e,g1,g2,g3⟩:=P.mem v hv
     exact⟨e,g1,by omega,g3⟩
    ·rcases Nat.lt_or_ge e k with h5|h5
     ·exact P.all e h5 hke
     ·obtain rfl:e=k:=by omega
      exact(h3 hke).elim
    ·rcases Nat.lt_or_ge i k with h5|h5
     ·rcases Nat.lt_or_ge j k with h6|h6
      ·exact P.uq i j h5 h6 k1 k2 e
      ·obtain rfl:j=k:=by omega
       exact(h3 k2).elim
     ·obtain rfl:i=k:=by omega
      exact(h3 k1).elim
 ·rintro⟨V,v⟩ ⟨P,hv⟩
  dsimp only at P hv
  subst hv
  simp only[pX]
  exact .aL (decide_eq_false (by show ¬(c.length:Int) < c.length;omega)) (.one P)
theorem ac5{N:Nat}{V:List aq}(h: ∀v∈V,1≤v.n∧v.n≤1000)(hl:V.length≤200): ∃W,L7 N V=some W∧W.Perm V:=by
 have hs:V.all sN=true:=List.all_eq_true.2 fun v hv=>decide_eq_true (by have:=h v hv;omega)
 refine⟨mf sN BI V,?_,(uA Ip hs).1⟩
 show Cv sN BI V=_
 exact if_pos ⟨hs,by omega⟩
theorem XN{c:List Call}{k:Nat}{v:aq}(h:Af c k v)(hk:(c.getD k Call.z).kind=4→(c.getD k Call.z).res=v.n→v.lG≠ -1):Af c (k+1) v:=by
 obtain⟨e,g1,g2,g3,g4,g5⟩:=h
 refine⟨e,g1,g2,g3,g4,?_⟩
 rcases g5 with⟨g5,g6⟩|⟨d,g5,g6,g7⟩
 ·refine .inl ⟨g5,fun j hj h1 h2=>?_⟩
  rcases Nat.lt_or_ge j k with h3|h3
  ·exact g6 j h3 h1 h2
  ·obtain rfl:j=k:=by omega
   exact hk h1 h2 g5
 ·exact .inr ⟨d,g5,by omega,g7⟩
theorem ac6{c:List Call}{k:Nat}{v:aq}(h:Af c k v)(hd:v.lG= -1)(h4:(c.getD k Call.z).kind=4)(hr:(c.getD k Call.z).res=v.n):Af c (k+1) ⟨v.n,v.oJ,(k:Int)⟩:=by
 obtain⟨e,g1,g2,g3,g4,g5⟩:=h
 refine⟨e,g1,g2,g3,g4,.inr ⟨k,rfl,?_⟩⟩
 rcases g5 with⟨_,g6⟩|⟨d,g5,_⟩
 ·exact⟨by omega,h4,hr,g6⟩
 ·omega
theorem CC{α:Type}{l:List α}{i j:Nat}{v d:α}(h:i < l.length):(l.set i v).getD j d=if j=i then v else l.getD j d:=fv h
theorem ZY{N:Nat}(hN:300 < N){c:List Call}(hc:c.length≤200)(a b:Int){V:List aq}(hV:zQ c 0 V)(hn:(V.map (·.n)).Nodup):Wp (iter (pY N (c,a,b)) N (V,0)) fun W=>zQ c c.length W:=by
 refine .iter c.length (fun k st=>zQ c k st.1∧(st.1.map (·.n)).Nodup∧st.2=(k:Int)) (by omega) ⟨hV,hn,rfl⟩ ?_ ?_
 ·rintro k ⟨V,v⟩ hk ⟨hV,hn,hv⟩
  dsimp only at hV hn hv
  subst hv
  have hlen:=hV.len
  simp only[pY]
  refine .bg (decide_eq_true (by show(k:Int) < c.length;omega)) (.fL Call.z (by omega) (by show(k:Int) < c.length;omega) ?_)
  simp only[Int.toNat_natCast]
  have huq: ∀i j,i < V.length→j < V.length→(V.getD i aq.z).n=(V.getD j aq.z).n→i=j:=fun i j hi hj e=>by
   refine(List.getElem?_inj (l:=V.map (·.n)) (by simpa using hi) hn).1 ?_
   rw[List.getElem?_map,List.getElem?_map,List.getElem?_eq_getElem hi,List.getElem?_eq_getElem hj]
   rw[aW hi,aW hj]at e
   simp[e]
  have keep:(∀v∈V,(c.getD k Call.z).kind=4→(c.getD k Call.z).res=v.n→v.lG≠ -1)→zQ c (k+1) V:=fun h=>⟨fun v hv=>XN (hV.mem v hv) (h v hv),hV.all,hV.len⟩
  refine .seq (AJ hN c hV.len (c.getD k Call.z).res) fun r _ hr=>?_
  rcases hr with⟨rfl,h1⟩|⟨m,rfl,h1,h2⟩
  ·have e1:(!(decide ((-1:Int) < 0)))=false:=rfl
   rw[e1,Bool.and_false]
   refine .gd aq.z (fun h=>by cases h) fun x _=> .aL rfl (.bK (by omega) (.one ⟨keep fun v hv _ h=>(h1 v hv h.symm).elim,hn,by simp⟩))
  ·have e1:(!(decide ((m:Int) < 0)))=true:=by rw[decide_eq_false (by omega)];rfl
   rw[e1,Bool.and_true]
   by_cases h4:(c.getD k Call.z).kind=4
   ·refine .MU aq.z (fun _=>⟨by omega,by omega⟩) fun x hx=>?_
    have hx:=hx (by rw[decide_eq_true h4];rfl)
    rw[Int.toNat_natCast]at hx
    subst hx
    rw[decide_eq_true h4,Bool.true_and]
    have hm:=hV.mem _ (jX (d:=aq.z) h1)
    refine .cond (fun h=>?_) fun h=>?_
    ·have h:(V.getD m aq.z).lG < 0:=of_decide_eq_true h
     have hd:(V.getD m aq.z).lG= -1:=by
      obtain⟨e,_,_,_,_,g5⟩:=hm
      rcases g5 with⟨g5,_⟩|⟨d,g5,_⟩
      ·exact g5
      ·omega
     refine .fL aq.z (by omega) (by omega) (.bK (by omega) (.one ⟨⟨fun v hv=>?_,fun e he hke=>?_,by rw[List.length_set];exact hlen⟩,?_,by simp⟩))
     ·simp only[Int.toNat_natCast]at hv
      obtain⟨i,hi,rfl⟩:=List.mem_iff_getElem.1 hv
      rw[List.length_set]at hi
      have:=CC (l:=V) (i:=m) (j:=i) (v:=(⟨(V.getD m aq.z).n,(V.getD m aq.z).oJ,(k:Int)⟩:aq)) (d:=aq.z) h1
      rw[aW (by rw[List.length_set];exact hi)]at this
      rw[this]
      by_cases e:i=m
      ·rw[if_pos e];exact ac6 hm hd h4 h2.symm
      ·rw[if_neg e]
       exact XN (hV.mem _ (jX hi)) fun _ h3=>(e (huq i m hi h1 (h3.symm.trans h2.symm))).elim
     ·obtain⟨v,hv,g⟩:=hV.all e he hke
      obtain⟨i,hi,rfl⟩:=List.mem_iff_getElem.1 hv
      simp only[Int.toNat_natCast]
      refine⟨(V.set m ⟨(V.getD m aq.z).n,(V.getD m aq.z).oJ,(k:Int)⟩).getD i aq.z,jX (by rw[List.length_set];exact hi),?_⟩
      rw[CC h1]
      by_cases e2:i=m
      ·subst e2;rw[if_pos rfl];simp only;rw[aW hi];exact g
      ·rw[if_neg e2,aW hi];exact g
     ·simp only[Int.toNat_natCast]
      rw[List.map_set]
      have e2:(V.map (·.n)).set m (V.getD m aq.z).n=V.map (·.n):=by
       apply List.ext_getElem (by simp)
       intro i h5 h6
       rw[List.getElem_set]
       split
       ·rename_i e3;subst e3;rw[List.getElem_map,aW h1]
       ·rfl
      rw[e2];exact hn
    ·have h: ¬(V.getD m aq.z).lG < 0:=of_decide_eq_false h
     refine .bK (by omega) (.one ⟨keep fun v hv _ h3 h5=>?_,hn,by simp⟩)
     obtain⟨i,hi,rfl⟩:=List.mem_iff_getElem.1 hv
     have:=huq i m hi h1 (by rw[aW hi,h2,h3])
     subst this
     rw[aW hi,h5]at h
     exact h (by decide)
   ·rw[decide_eq_false h4]
    refine .gd aq.z (fun h=>by cases h) fun x _=> .aL rfl (.bK (by omega) (.one ⟨keep fun v hv h=>(h4 h).elim,hn,by simp⟩))
 ·rintro⟨V,v⟩ ⟨hV,hn,hv⟩
  dsimp only at hV hn hv
  subst hv
  simp only[pY]
  exact .aL (decide_eq_false (by show ¬(c.length:Int) < c.length;omega)) (.one hV)
theorem AL{N:Nat}(hN:300 < N){l:List Event}{c:List Call}{op:List Int}(ht:co N [2]=some 0)(hl:l.length≤200)(R:ex N [2] l l.length c op):Wp (ni N l) fun r=>(¬p6 c∧r=(false,[],[],6))∨(p6 c∧r.1=true∧r.2.1=c∧r.2.2.2=0∧zQ c c.length r.2.2.1):=by
 have hcl:=R.wf.len
 have Qc:=VQ hl R
 unfold ni
 refine .bD (nN hN ht hl R) (.aL rfl (.elim (ZX hN (by omega) 0 0) (fun V _ P=>?_) (fun r _ h=> .one (.inl h))))
 have P:Pre c c.length V:=P
 have C:p6 c:=⟨P.dn,P.uq⟩
 have hlen:=P.len
 obtain⟨W,h1,h2⟩:=ac5 (N:=N) (V:=V) (fun v hv=>by
  obtain⟨e,_,g2,g3,g4,_⟩:=P.mem v hv
  have:=Qc.ea e g2 g3
  omega) (by omega)
 refine .bD h1 (.seq (ZY hN (by omega) 0 0 (V:=W) ⟨fun v hv=>?_,fun e he hk=>?_,?_⟩ ?_) fun X _ hX=> .one (.inr ⟨C,rfl,rfl,rfl,hX⟩))
 ·obtain⟨e,g1,g2,g3,g4,g5⟩:=P.mem v (h2.mem_iff.1 hv)
  exact⟨e,g1,g2,g3,g4,.inl ⟨g5,fun j h=>absurd h (Nat.not_lt_zero _)⟩⟩
 ·obtain⟨v,hv,g⟩:=P.all e he hk
  exact⟨v,h2.mem_iff.2 hv,g⟩
 ·rw[h2.length_eq];omega
 ·exact(h2.map (·.n)).nodup_iff.2 P.nd
end Rw
namespace Rw
open Hs
structure gp(c:List Call)(i:Nat):Prop where
 lt:i < c.length
 dq:(c.getD i Call.z).kind=4∧(c.getD i Call.z).res≠ -1
 no: ∀e,e < c.length→(c.getD e Call.z).kind=3→(c.getD e Call.z).arg≠(c.getD i Call.z).res
structure ii(c:List Call)(i:Nat):Prop where
 lt:i < c.length
 dq:(c.getD i Call.z).kind=4∧(c.getD i Call.z).res≠ -1
 is: ∃j,j < i∧(c.getD j Call.z).kind=4∧(c.getD j Call.z).res=(c.getD i Call.z).res
structure iD(c:List Call)(i:Nat):Prop where
 lt:i < c.length
 dq:(c.getD i Call.z).kind=4∧(c.getD i Call.z).res≠ -1
 is: ∃e,e < c.length∧(c.getD e Call.z).kind=3∧(c.getD e Call.z).arg=(c.getD i Call.z).res∧(c.getD i Call.z).aY < (c.getD e Call.z).from_
def Ah(c:List Call)(a b:Nat):Prop:=(c.getD a Call.z).aY≠ -1∧(c.getD a Call.z).aY < (c.getD b Call.z).from_
structure kF(c:List Call)(a b:Nat):Prop where
 la:a < c.length
 lb:b < c.length
 ka:(c.getD a Call.z).kind=3
 kb:(c.getD b Call.z).kind=3
 ah:Ah c a b
 is: ∃d,Fd c c.length (c.getD b Call.z).arg d∧(Nd c c.length (c.getD a Call.z).arg∨∃d',Fd c c.length (c.getD a Call.z).arg d'∧Ah c d d')
def Uc(c:List Call)(t:Int):Prop:=∃e,e < c.length∧(c.getD e Call.z).kind=3∧(c.getD e Call.z).aY≠ -1∧(c.getD e Call.z).aY≤t∧(Nd c c.length (c.getD e Call.z).arg∨∃d,Fd c c.length (c.getD e Call.z).arg d∧t < (c.getD d Call.z).from_)
structure lV(c:List Call)(i:Nat):Prop where
 lt:i < c.length
 dq:(c.getD i Call.z).kind=4∧(c.getD i Call.z).res= -1
 is: ∀t,(c.getD i Call.z).from_≤t→t < (c.getD i Call.z).aY→Uc c t
theorem Z0{N:Nat}(hN:300 < N){c:List Call}(hc:c.length≤200)(C:p6 c)(Qc:Q c){V:List aq}(hV:zQ c c.length V):Wp (tn N c V) fun r=>(r=(0,0)∧¬ ∃i,gp c i)∨∃i:Nat,r.1=1∧r.2=(i:Int)∧gp c i:=by
 unfold tn zJ
 refine .seq (P:=fun r=>(r=(0,0)∧¬ ∃i,gp c i)∨∃i:Nat,r.1=1∧r.2=(i:Int)∧gp c i) (.elim (P:=fun t=>match t with| .inl _=>¬ ∃i,gp c i| .inr r=>∃i:Nat,r.1=1∧r.2=(i:Int)∧gp c i) (.iter c.length (fun k v=>v=(k:Int)∧∀i,i < k→¬gp c i) (by omega) ⟨rfl,fun i h=>absurd h (Nat.not_lt_zero _)⟩ ?_ ?_) (fun _ _ h=> .one (.inl ⟨rfl,h⟩)) (fun r _ h=> .one (.inr h))) fun r _ hr=> .one hr
 ·rintro k v hk ⟨rfl,hr⟩
  simp only[vk]
  refine .bg (decide_eq_true (by omega)) (.fL Call.z (by omega) (by omega) ?_)
  simp only[Int.toNat_natCast]
  have step:(¬gp c k)→∀i,i < k+1→¬gp c i:=fun h i hi=>by
   rcases Nat.lt_or_ge i k with h1|h1
   ·exact hr i h1
   ·obtain rfl:i=k:=by omega
    exact h
  refine .cond (fun h=>?_) fun h=> .bK (by omega) (.one ⟨by simp,step fun S=>?_⟩)
  ·have h:(c.getD k Call.z).kind=4∧(c.getD k Call.z).res≠ -1:=by simpa using h
   refine .seq (P:=fun r=>(r.1=0∧¬gp c k)∨(r.1=1∧r.2=(k:Int)∧gp c k)) ?_ fun r _ hr2=>?_
   ·unfold vj
    refine .seq (Mo hN hV (c.getD k Call.z).res) fun m _ hm=>?_
    rcases hm with⟨rfl,h1⟩|⟨m,rfl,h1,h2,e,g1,g2,g3,g4,_⟩
    ·exact .bg rfl (.one (.inr ⟨rfl,rfl,hk,h,h1⟩))
    ·exact .aL (decide_eq_false (by omega)) (.one (.inl ⟨rfl,fun S=>S.no e g2 g3 (by omega)⟩))
   ·rcases hr2 with⟨h1,h2⟩|⟨h1,h2,h3⟩
    ·exact .aL (by rw[h1];rfl) (.bK (by omega) (.one ⟨by simp,step h2⟩))
    ·exact .bg (by rw[h1];rfl) (.one ⟨k,h1,h2,h3⟩)
  ·have h: ¬((c.getD k Call.z).kind=4∧(c.getD k Call.z).res≠ -1):=by simpa using h
   exact h ⟨S.dq.1,S.dq.2⟩
 ·rintro v ⟨rfl,hr⟩
  simp only[vk]
  refine .aL (decide_eq_false (by omega)) (.one fun⟨i,S⟩=>hr i S.lt S)
theorem Z1{N:Nat}(hN:300 < N){c:List Call}(hc:c.length≤200)(C:p6 c)(Qc:Q c){V:List aq}(hV:zQ c c.length V)(hst: ¬ ∃i,gp c i):Wp (nq N c V) fun r=>(r=(0,0,0)∧¬ ∃i,ii c i)∨∃i:Nat,r.1=2∧r.2.1=(i:Int)∧ii c i:=by
 unfold nq rT
 refine .seq (P:=fun r=>(r=(0,0,0)∧¬ ∃i,ii c i)∨∃i:Nat,r.1=2∧r.2.1=(i:Int)∧ii c i) (.elim (P:=fun t=>match t with| .inl _=>¬ ∃i,ii c i| .inr r=>∃i:Nat,r.1=2∧r.2.1=(i:Int)∧ii c i) (.iter c.length (fun k v=>v=(k:Int)∧∀i,i < k→¬ii c i) (by omega) ⟨rfl,fun i h=>absurd h (Nat.not_lt_zero _)⟩ ?_ ?_) (fun _ _ h=> .one (.inl ⟨rfl,h⟩)) (fun r _ h=> .one (.inr h))) fun r _ hr=> .one hr
 ·rintro k v hk ⟨rfl,hr⟩
  simp only[oL]
  refine .bg (decide_eq_true (by omega)) (.fL Call.z (by omega) (by omega) ?_)
  simp only[Int.toNat_natCast]
  have step:(¬ii c k)→∀i,i < k+1→¬ii c i:=fun h i hi=>by
   rcases Nat.lt_or_ge i k with h1|h1
   ·exact hr i h1
   ·obtain rfl:i=k:=by omega
    exact h
  refine .cond (fun h=>?_) fun h=> .bK (by omega) (.one ⟨by simp,step fun S=>?_⟩)
  ·have h:(c.getD k Call.z).kind=4∧(c.getD k Call.z).res≠ -1:=by simpa using h
   refine .seq (P:=fun r=>(r.1=0∧¬ii c k)∨(r.1=2∧r.2.1=(k:Int)∧ii c k)) ?_ fun r _ hr2=>?_
   ·unfold qM
    refine .seq (Mo hN hV (c.getD k Call.z).res) fun m _ hm=>?_
    rcases hm with⟨rfl,h1⟩|⟨m,rfl,h1,h2,e,g1,g2,g3,g4,g5⟩
    ·exact(hst ⟨k,hk,h,h1⟩).elim
    ·refine .fL aq.z (by omega) (by omega) ?_
     simp only[Int.toNat_natCast]
     rcases g5 with⟨_,g6⟩|⟨d,g5,g6⟩
     ·exact(g6 k hk h.1 h2.symm).elim
     ·simp only[g5]
      rw[h2]at g6
      refine .cond (fun h3=> .fL aq.z (by omega) (by omega) (.one (.inr ⟨rfl,rfl,hk,h,d,?_,g6.2.1,g6.2.2.1⟩))) fun h3=> .one (.inl ⟨rfl,fun S=>?_⟩)
      ·have h3:(d:Int)≠k:=by simpa using h3
       rcases Nat.lt_trichotomy d k with x|x|x
       ·exact x
       ·exact(h3 (by omega)).elim
       ·exact(g6.2.2.2 k x h.1 rfl).elim
      ·have h3:(d:Int)=k:=by simpa using h3
       have h3:d=k:=by omega
       obtain⟨j,j1,j2,j3⟩:=S.is
       subst h3
       exact g6.2.2.2 j j1 j2 j3
   ·rcases hr2 with⟨h1,h2⟩|⟨h1,h2,h3⟩
    ·exact .aL (by rw[h1];rfl) (.bK (by omega) (.one ⟨by simp,step h2⟩))
    ·exact .bg (by rw[h1];rfl) (.one ⟨k,h1,h2,h3⟩)
  ·have h: ¬((c.getD k Call.z).kind=4∧(c.getD k Call.z).res≠ -1):=by simpa using h
   exact h ⟨S.dq.1,S.dq.2⟩
 ·rintro v ⟨rfl,hr⟩
  simp only[oL]
  refine .aL (decide_eq_false (by omega)) (.one fun⟨i,S⟩=>hr i S.lt S)
theorem Z2{N:Nat}(hN:300 < N){c:List Call}(hc:c.length≤200)(C:p6 c)(Qc:Q c){V:List aq}(hV:zQ c c.length V)(hst: ¬ ∃i,gp c i):Wp (nr N c V) fun r=>(r=(0,0,0)∧¬ ∃i,iD c i)∨∃i:Nat,r.1=3∧r.2.1=(i:Int)∧iD c i:=by
 unfold nr rU
 refine .seq (P:=fun r=>(r=(0,0,0)∧¬ ∃i,iD c i)∨∃i:Nat,r.1=3∧r.2.1=(i:Int)∧iD c i) (.elim (P:=fun t=>match t with| .inl _=>¬ ∃i,iD c i| .inr r=>∃i:Nat,r.1=3∧r.2.1=(i:Int)∧iD c i) (.iter c.length (fun k v=>v=(k:Int)∧∀i,i < k→¬iD c i) (by omega) ⟨rfl,fun i h=>absurd h (Nat.not_lt_zero _)⟩ ?_ ?_) (fun _ _ h=> .one (.inl ⟨rfl,h⟩)) (fun r _ h=> .one (.inr h))) fun r _ hr=> .one hr
 ·rintro k v hk ⟨rfl,hr⟩
  simp only[oM]
  refine .bg (decide_eq_true (by omega)) (.fL Call.z (by omega) (by omega) ?_)
  simp only[Int.toNat_natCast]
  have step:(¬iD c k)→∀i,i < k+1→¬iD c i:=fun h i hi=>by
   rcases Nat.lt_or_ge i k with h1|h1
   ·exact hr i h1
   ·obtain rfl:i=k:=by omega
    exact h
  refine .cond (fun h=>?_) fun h=> .bK (by omega) (.one ⟨by simp,step fun S=>?_⟩)
  ·have h:(c.getD k Call.z).kind=4∧(c.getD k Call.z).res≠ -1:=by simpa using h
   refine .seq (P:=fun r=>(r.1=0∧¬iD c k)∨(r.1=3∧r.2.1=(k:Int)∧iD c k)) ?_ fun r _ hr2=>?_
   ·unfold qN
    refine .seq (Mo hN hV (c.getD k Call.z).res) fun m _ hm=>?_
    rcases hm with⟨rfl,h1⟩|⟨m,rfl,h1,h2,e,g1,g2,g3,g4,g5⟩
    ·exact(hst ⟨k,hk,h,h1⟩).elim
    ·refine .fL aq.z (by omega) (by omega) ?_
     simp only[Int.toNat_natCast]
     rw[g1]
     refine .fL Call.z (by omega) (by omega) ?_
     simp only[Int.toNat_natCast]
     refine .cond (fun h3=> .fL aq.z (by omega) (by omega) (.one (.inr ⟨rfl,rfl,hk,h,e,g2,g3,by omega,of_decide_eq_true h3⟩))) fun h3=> .one (.inl ⟨rfl,fun S=>?_⟩)
     obtain⟨e',k1,k2,k3,k4⟩:=S.is
     obtain rfl:=C.uq e' e k1 g2 k2 g3 (by omega)
     exact of_decide_eq_false h3 k4
   ·rcases hr2 with⟨h1,h2⟩|⟨h1,h2,h3⟩
    ·exact .aL (by rw[h1];rfl) (.bK (by omega) (.one ⟨by simp,step h2⟩))
    ·exact .bg (by rw[h1];rfl) (.one ⟨k,h1,h2,h3⟩)
  ·have h: ¬((c.getD k Call.z).kind=4∧(c.getD k Call.z).res≠ -1):=by simpa using h
   exact h ⟨S.dq.1,S.dq.2⟩
 ·rintro v ⟨rfl,hr⟩
  simp only[oM]
  refine .aL (decide_eq_false (by omega)) (.one fun⟨i,S⟩=>hr i S.lt S)
theorem aa8{N:Nat}{c:List Call}(V:List aq){a b:Nat}(ha:a < c.length)(hb:b < c.length): ∃r,nX N (a:Int) (b:Int) c V=some r∧(r=true↔Ah c a b):=by
 show Wp _ fun r=>r=true↔Ah c a b
 unfold nX
 refine .fL Call.z (by omega) (by omega) ?_
 rw[Int.toNat_natCast]
 refine .MU Call.z (fun _=>⟨by omega,by omega⟩) fun x hx=> .MU Call.z (fun _=>⟨by omega,by omega⟩) fun y hy=> .one ?_
 rw[Int.toNat_natCast]at hx hy
 unfold Ah
 by_cases h:(c.getD a Call.z).aY= -1
 ·rw[decide_eq_true h]
  exact⟨fun e=>(by cases e),fun e=>(e.1 h).elim⟩
 ·rw[decide_eq_false h]at hx hy⊢
  rw[hx rfl,hy rfl,Bool.not_false,Bool.true_and,decide_eq_true_eq]
  exact⟨fun e=>⟨h,e⟩,fun e=>e.2⟩
theorem Z3{N:Nat}(hN:300 < N){c:List Call}(hc:c.length≤200)(C:p6 c){V:List aq}(hV:zQ c c.length V):Wp (nu N c V) fun r=>(r=(0,0,0)∧¬ ∃a b,kF c a b)∨∃a b:Nat,r=(6,(c.getD a Call.z).arg,(c.getD b Call.z).arg)∧kF c a b:=by
 have hvl:=hV.len
 have item: ∀i,i < V.length→∃e:Nat,(V.getD i aq.z).oJ=e∧e < c.length∧(c.getD e Call.z).kind=3∧(c.getD e Call.z).arg=(V.getD i aq.z).n∧(((V.getD i aq.z).lG= -1∧Nd c c.length (V.getD i aq.z).n)∨∃d:Nat,(V.getD i aq.z).lG=d∧Fd c c.length (V.getD i aq.z).n d):=fun i hi=>hV.mem _ (jX hi)
 unfold nu
 have fin: ∀k,k≤V.length→∀e:Nat,e < c.length→(c.getD e Call.z).kind=3→∃i,i < V.length∧(V.getD i aq.z).oJ=e:=fun _ _ e he h3=>by
  obtain⟨v,hv,g⟩:=hV.all e he h3
  obtain⟨i,hi,rfl⟩:=List.mem_iff_getElem.1 hv
  exact⟨i,hi,by rw[aW hi];exact g⟩
 refine .elim (P:=fun t=>match t with| .inl _=>¬ ∃a b,kF c a b| .inr r=>∃a b:Nat,r=(6,(c.getD a Call.z).arg,(c.getD b Call.z).arg)∧kF c a b)
  (.iter V.length (fun k v=>v=(k:Int)∧∀i,i < k→∀a:Nat,(V.getD i aq.z).oJ=a→∀b,¬kF c a b) (by omega) ⟨rfl,fun i h=>absurd h (Nat.not_lt_zero _)⟩ ?_ ?_) (fun _ _ h=> .one (.inl ⟨rfl,h⟩)) (fun r _ h=> .one (.inr h))
 ·rintro k v hk ⟨rfl,hr⟩
  obtain⟨a,a1,a2,a3,a4,a5⟩:=item k hk
  simp only[oP]
  refine .bg (decide_eq_true (by omega)) (.elim (P:=fun t=>match t with| .inl _=>∀b,¬kF c a b| .inr r=>∃a b:Nat,r=(6,(c.getD a Call.z).arg,(c.getD b Call.z).arg)∧kF c a b) (.fL aq.z (by omega) (by omega) ?_) (fun _ _ h=> .bK (by omega) (.one ⟨by simp,fun i hi a' ha'=>?_⟩)) (fun r _ h=> .one h))
  ·rw[Int.toNat_natCast]
   refine .iter V.length (fun m v=>v=(m:Int)∧∀j,j < m→∀b:Nat,(V.getD j aq.z).oJ=b→¬kF c a b) (by omega) ⟨rfl,fun i h=>absurd h (Nat.not_lt_zero _)⟩ ?_ ?_
   ·rintro m v hm ⟨rfl,hr⟩
    obtain⟨b,b1,b2,b3,b4,b5⟩:=item m hm
    simp only[oO]
    refine .bg (decide_eq_true (by omega)) (.fL aq.z (by omega) (by omega) ?_)
    rw[Int.toNat_natCast,a1,b1]
    obtain⟨r1,e1,e2⟩:=aa8 (N:=N) V a2 b2
    refine .seq (P:=fun x=>x=true↔kF c a b) (.bD e1 ?_) fun x _ hx=> .cond (fun h=> .one ⟨a,b,by rw[a4,b4],hx.1 h⟩) fun h=> .bK (by omega) (.one ⟨by simp,fun j hj b' hb'=>?_⟩)
    ·have hab:kF c a b↔Ah c a b∧(∃d,Fd c c.length (V.getD m aq.z).n d∧(Nd c c.length (V.getD k aq.z).n∨∃d',Fd c c.length (V.getD k aq.z).n d'∧Ah c d d')):=by
      rw[←a4,←b4]
      exact⟨fun O=>⟨O.ah,O.is⟩,fun⟨h1,h2⟩=>⟨a2,b2,a3,b3,h1,h2⟩⟩
     rw[hab]
     rcases b5 with⟨b5,b6⟩|⟨d,b5,b6⟩
     ·rw[b5,decide_eq_false (by omega: ¬(0:Int)≤ -1),Bool.and_false]
      refine .aL rfl (.one ⟨fun h=>(by cases h),fun h=>?_⟩)
      obtain⟨d,g,_⟩:=h.2
      exact(b6 d g.1 g.2.1 g.2.2.1).elim
     ·rw[b5,decide_eq_true (by omega:(0:Int)≤(d:Int)),Bool.and_true]
      rcases a5 with⟨a5,a6⟩|⟨d',a5,a6⟩
      ·rw[a5]
       refine .aL (by rw[Bool.and_eq_false_iff];right;rfl) (.one ?_)
       have:(decide ((-1:Int) < 0)||false)=true:=rfl
       rw[this,Bool.and_true,e2]
       exact⟨fun h=>⟨h,d,b6,.inl a6⟩,fun h=>h.1⟩
      ·rw[a5,decide_eq_false (by omega: ¬(d':Int) < 0)]
       obtain⟨r2,e3,e4⟩:=aa8 (N:=N) V (a:=d) (b:=d') b6.1 a6.1
       refine .cond (fun h=> .bD e3 (.one ?_)) fun h=> .one ?_
       ·rw[Bool.false_or,Bool.and_eq_true,e2,e4]
        refine and_congr_right fun _=>⟨fun h=>⟨d,b6,.inr ⟨d',a6,h⟩⟩,?_⟩
        rintro⟨x,x1,x2|⟨y,y1,y2⟩⟩
        ·exact(x2 d' a6.1 a6.2.1 a6.2.2.1).elim
        ·rw[VR b6 x1,VR a6 y1];exact y2
       ·have h:r1=false:=by simpa using h
        subst h
        exact⟨fun h=>(by cases h),fun h=>by have:=e2.2 h.1;cases this⟩
    ·rcases Nat.lt_or_ge j m with h1|h1
     ·exact hr j h1 b' hb'
     ·obtain rfl:j=m:=by omega
      obtain rfl:b'=b:=by omega
      intro O
      rw[hx.2 O]at h;cases h
   ·rintro v ⟨rfl,hr⟩
    simp only[oO]
    refine .aL (decide_eq_false (by omega)) (.one fun b O=>?_)
    obtain⟨i,hi,g⟩:=fin _ (Nat.le_refl _) b O.lb O.kb
    exact hr i hi b g O
  ·rcases Nat.lt_or_ge i k with h1|h1
   ·exact hr i h1 a' ha'
   ·obtain rfl:i=k:=by omega
    obtain rfl:a'=a:=by omega
    exact h
 ·rintro v ⟨rfl,hr⟩
  simp only[oP]
  refine .aL (decide_eq_false (by omega)) (.one fun⟨a,b,O⟩=>?_)
  obtain⟨i,hi,g⟩:=fin _ (Nat.le_refl _) a O.la O.ka
  exact hr i hi a g b O
theorem Z4{N:Nat}(hN:300 < N){c:List Call}(hc:c.length≤200)(Qc:Q c){V:List aq}(hV:zQ c c.length V):Wp (tp N c V) fun S=>S.length≤200∧∀t,0≤t→t < 200→((∃s∈S,s.from_≤t∧t≤s.aY)↔Uc c t):=by
 have hvl:=hV.len
 let On:aq→Int→Prop:=fun v t=>∃e:Nat,v.oJ=e∧(c.getD e Call.z).aY≠ -1∧(c.getD e Call.z).aY≤t∧(v.lG= -1∨∃d:Nat,v.lG=d∧t < (c.getD d Call.z).from_)
 unfold tp
 refine .seq (P:=fun S=>S.length≤200∧∀t,0≤t→t < 200→((∃s∈S,s.from_≤t∧t≤s.aY)↔∃v∈V,On v t)) (.iter V.length (fun k st=>st.1.length≤k∧(∀t,0≤t→t < 200→((∃s∈st.1,s.from_≤t∧t≤s.aY)↔∃i,i < k∧On (V.getD i aq.z) t))∧st.2=(k:Int)) (by omega) ⟨Nat.le_refl _,fun t _ _=>⟨fun⟨s,h,_⟩=>(nomatch h),fun⟨i,h,_⟩=>absurd h (Nat.not_lt_zero _)⟩,rfl⟩ ?_ ?_) fun S _ hS=> .one ⟨hS.1,fun t h0 h1=>?_⟩
 ·rintro k ⟨S,v⟩ hk ⟨hl,hS,hv⟩
  dsimp only at hl hS hv
  subst hv
  obtain⟨e,e1,e2,e3,e4,e5⟩:=hV.mem _ (jX (d:=aq.z) hk)
  simp only[uk]
  refine .bg (decide_eq_true (by omega)) (.fL aq.z (by omega) (by omega) ?_)
  rw[Int.toNat_natCast]
  refine .fL Call.z (by omega) (by omega) ?_
  have en:(V.getD k aq.z).oJ.toNat=e:=by omega
  rw[en]
  have te:=Qc.tm e e2
  refine .seq (P:=fun T=>((V.getD k aq.z).lG= -1∧T=199)∨∃d:Nat,(V.getD k aq.z).lG=d∧T=(c.getD d Call.z).from_ - 1) ?_ fun T _ hT=>?_
  ·rcases e5 with⟨h1,_⟩|⟨d,h1,h2⟩
   ·exact .aL (decide_eq_false (by omega)) (.one (.inl ⟨h1,rfl⟩))
   ·have:=h2.1
    have td:=Qc.tm d this
    refine .bg (decide_eq_true (by omega)) (.fL Call.z (by omega) (by omega) ?_)
    have ed:(V.getD k aq.z).lG.toNat=d:=by omega
    rw[ed]
    exact .bK (by omega) (.one (.inr ⟨d,h1,rfl⟩))
  ·have on: ∀t,0≤t→t < 200→(On (V.getD k aq.z) t↔(c.getD e Call.z).aY≠ -1∧(c.getD e Call.z).aY≤t∧t≤T):=by
    intro t t0 t1
    constructor
    ·rintro⟨e',g1,g2,g3,g4⟩
     obtain rfl:e'=e:=by omega
     refine⟨g2,g3,?_⟩
     rcases hT with⟨h1,h2⟩|⟨d,h1,h2⟩
     ·omega
     ·rcases g4 with g4|⟨d',g4,g5⟩
      ·omega
      ·obtain rfl:d'=d:=by omega
       omega
    ·rintro⟨g2,g3,g4⟩
     refine⟨e,e1,g2,g3,?_⟩
     rcases hT with⟨h1,h2⟩|⟨d,h1,h2⟩
     ·exact .inl h1
     ·exact .inr ⟨d,h1,by omega⟩
   have split: ∀t,(∃i,i < k+1∧On (V.getD i aq.z) t)↔(∃i,i < k∧On (V.getD i aq.z) t)∨On (V.getD k aq.z) t:=fun t=>by
    constructor
    ·rintro⟨i,hi,h⟩
     rcases Nat.lt_or_ge i k with h1|h1
     ·exact .inl ⟨i,h1,h⟩
     ·obtain rfl:i=k:=by omega
      exact .inr h
    ·rintro(⟨i,hi,h⟩|h)
     ·exact⟨i,by omega,h⟩
     ·exact⟨k,by omega,h⟩
   refine .cond (fun h=>?_) fun h=>?_
   ·have h:(c.getD e Call.z).aY≠ -1∧(c.getD e Call.z).aY≤T:=by simpa using h
    refine .ck (eT ⟨?_,?_⟩) (.bK (by omega) (.one ⟨by simp;omega,fun t t0 t1=>?_,by simp⟩))
    ·simp only[List.length_singleton];exact Nat.le_trans (m:=2000) (by omega) (by decide)
    ·simp only[List.length_singleton];omega
    ·rw[split,←hS t t0 t1,on t t0 t1]
     constructor
     ·rintro⟨s,hs,h1,h2⟩
      rcases List.mem_append.1 hs with hs|hs
      ·exact .inl ⟨s,hs,h1,h2⟩
      ·rw[List.mem_singleton.1 hs]at h1 h2
       exact .inr ⟨h.1,h1,h2⟩
     ·rintro(⟨s,hs,h1⟩|⟨_,h1,h2⟩)
      ·exact⟨s,List.mem_append.2 (.inl hs),h1⟩
      ·exact⟨_,List.mem_append.2 (.inr (List.mem_singleton.2 rfl)),h1,h2⟩
   ·have h: ¬((c.getD e Call.z).aY≠ -1∧(c.getD e Call.z).aY≤T):=by simpa using h
    refine .bK (by omega) (.one ⟨by simp only;omega,fun t t0 t1=>?_,by simp⟩)
    rw[split,←hS t t0 t1,on t t0 t1]
    exact⟨.inl,fun g=>g.elim id fun g=>(h ⟨g.1,by omega⟩).elim⟩
 ·rintro⟨S,v⟩ ⟨hl,hS,hv⟩
  dsimp only at hl hS hv
  subst hv
  simp only[uk]
  refine .aL (decide_eq_false (by omega)) (.one ⟨by omega,fun t t0 t1=>?_⟩)
  rw[hS t t0 t1]
  constructor
  ·rintro⟨i,hi,h⟩
   exact⟨_,jX hi,h⟩
  ·rintro⟨v,hv,h⟩
   obtain⟨i,hi,rfl⟩:=List.mem_iff_getElem.1 hv
   exact⟨i,hi,by rw[aW hi];exact h⟩
 ·rw[hS.2 t h0 h1]
  constructor
  ·rintro⟨v,hv,e,g1,g2,g3,g4⟩
   obtain⟨e',k1,k2,k3,k4,k5⟩:=hV.mem v hv
   obtain rfl:e'=e:=by omega
   refine⟨e',k2,k3,g2,g3,?_⟩
   rw[k4]
   rcases k5 with⟨k5,k6⟩|⟨d,k5,k6⟩
   ·exact .inl k6
   ·rcases g4 with g4|⟨d',g4,g5⟩
    ·omega
    ·obtain rfl:d'=d:=by omega
     exact .inr ⟨d',k6,g5⟩
  ·rintro⟨e,k1,k2,k3,k4,k5⟩
   obtain⟨v,hv,g⟩:=hV.all e k1 k2
   obtain⟨e',j1,j2,j3,j4,j5⟩:=hV.mem v hv
   obtain rfl:e'=e:=by omega
   refine⟨v,hv,e',g,k3,k4,?_⟩
   rw[j4]at k5
   rcases j5 with⟨j5,j6⟩|⟨d,j5,j6⟩
   ·exact .inl j5
   ·rcases k5 with k5|⟨d',k5,k6⟩
    ·exact(k5 d j6.1 j6.2.1 j6.2.2.1).elim
    ·exact .inr ⟨d,j5,by rw[VR j6 k5];exact k6⟩
theorem Z5{N:Nat}(hN:300 < N){S:List Span}(hS:S.length≤200)(t:Int):Wp (gi N S t) fun b=>b=true↔∃s∈S,s.from_≤t∧t≤s.aY:=by
 unfold gi jz
 refine .seq (P:=fun r=>0≤r↔∃s∈S,s.from_≤t∧t≤s.aY) (.elim (P:=fun x=>match x with| .inl _=>¬ ∃s∈S,s.from_≤t∧t≤s.aY| .inr r=>0≤r∧∃s∈S,s.from_≤t∧t≤s.aY) (.iter S.length (fun k v=>v=(k:Int)∧∀j,j < k→¬((S.getD j Span.z).from_≤t∧t≤(S.getD j Span.z).aY)) (by omega) ⟨rfl,fun i h=>absurd h (Nat.not_lt_zero _)⟩ ?_ ?_) (fun _ _ h=> .one ⟨fun e=>absurd e (by decide),fun e=>(h e).elim⟩) (fun r _ h=> .one ⟨fun _=>h.2,fun _=>h.1⟩)) fun r _ hr=> .one (by rw[decide_eq_true_eq];exact hr)
 ·rintro k v hk ⟨rfl,hr⟩
  simp only[i_]
  refine .bg (decide_eq_true (by omega)) (.fL Span.z (by omega) (by omega) (.bD rfl ?_))
  rw[Int.toNat_natCast]
  refine .cond (fun h=> .one ⟨by omega,_,jX hk,by simpa using h⟩) fun h=> .bK (by omega) (.one ⟨by simp,fun j hj=>?_⟩)
  rcases Nat.lt_or_ge j k with h1|h1
  ·exact hr j h1
  ·obtain rfl:j=k:=by omega
   simpa using h
 ·rintro v ⟨rfl,hr⟩
  simp only[i_]
  refine .aL (decide_eq_false (by omega)) (.one ?_)
  rintro⟨s,hs,h⟩
  obtain⟨j,hj,rfl⟩:=List.mem_iff_getElem.1 hs
  exact hr j hj (by rw[aW hj];exact h)
theorem Z6{N:Nat}(hN:300 < N){c:List Call}(hc:c.length≤200)(C:p6 c)(Qc:Q c){V:List aq}(hV:zQ c c.length V):Wp (tq N c V) fun r=>(r=(0,0)∧¬ ∃i,lV c i)∨∃i:Nat,r=(7,(i:Int))∧lV c i:=by
 unfold tq
 refine .seq (Z4 hN hc Qc hV) fun S _ ⟨hl,hS⟩=> .elim (P:=fun t=>match t with| .inl _=>¬ ∃i,lV c i| .inr r=>∃i:Nat,r=(7,(i:Int))∧lV c i) (.iter c.length (fun k v=>v=(k:Int)∧∀i,i < k→¬lV c i) (by omega) ⟨rfl,fun i h=>absurd h (Nat.not_lt_zero _)⟩ ?_ ?_) (fun _ _ h=> .one (.inl ⟨rfl,h⟩)) (fun r _ h=> .one (.inr h))
 ·rintro k v hk ⟨rfl,hr⟩
  have step:(¬lV c k)→∀i,i < k+1→¬lV c i:=fun h i hi=>by
   rcases Nat.lt_or_ge i k with h1|h1
   ·exact hr i h1
   ·obtain rfl:i=k:=by omega
    exact h
  simp only[sQ]
  refine .bg (decide_eq_true (by omega)) (.elim (P:=fun t=>match t with| .inl _=>¬lV c k| .inr r=>∃i:Nat,r=(7,(i:Int))∧lV c i) (.fL Call.z (by omega) (by omega) ?_) (fun _ _ h=> .bK (by omega) (.one ⟨by simp,step h⟩)) (fun r _ h=> .one h))
  rw[Int.toNat_natCast]
  have tk:=Qc.tm k hk
  refine .cond (fun h=> .one fun E=>?_) fun h=>?_
  ·have h: ¬((c.getD k Call.z).kind=4∧(c.getD k Call.z).res= -1):=by
    intro h2
    rw[decide_eq_true h2.1,decide_eq_true h2.2]at h;cases h
   exact h E.dq
  ·have h:(c.getD k Call.z).kind=4∧(c.getD k Call.z).res= -1:=by simpa using h
   have hd:=C.dn k hk h.1
   refine .seq (P:=fun b=>b=true↔∀t,(c.getD k Call.z).from_≤t→t < (c.getD k Call.z).aY→Uc c t) ?_ fun b _ hb=> .cond (fun h2=> .one ⟨k,rfl,hk,h,hb.1 h2⟩) fun h2=> .one fun E=>by rw[hb.2 E.is]at h2;cases h2
   refine .iter ((c.getD k Call.z).aY - (c.getD k Call.z).from_).toNat (fun m st=>(st.1=true↔∀t,(c.getD k Call.z).from_≤t→t < (c.getD k Call.z).from_+m→Uc c t)∧st.2=(c.getD k Call.z).from_+m) (by omega) ⟨⟨fun _ t h1 h2=>(by omega),fun _=>rfl⟩,by simp⟩ ?_ ?_
   ·rintro m ⟨b,t⟩ hm ⟨hb,hv⟩
    dsimp only at hb hv
    subst hv
    simp only[sP]
    have more: ∀x:Bool,(x=true↔Uc c ((c.getD k Call.z).from_+m))→((b&&x)=true↔∀t,(c.getD k Call.z).from_≤t→t < (c.getD k Call.z).from_+((m+1:Nat):Int)→Uc c t):=fun x hx=>by
     rw[Bool.and_eq_true,hb,hx]
     constructor
     ·rintro⟨g1,g2⟩ t h1 h2
      by_cases e:t=(c.getD k Call.z).from_+m
      ·rw[e];exact g2
      ·exact g1 t h1 (by omega)
     ·intro g
      exact⟨fun t h1 h2=>g t h1 (by omega),g _ (by omega) (by omega)⟩
    refine .bg (decide_eq_true (by omega)) (.cond (fun h3=> .seq (Z5 hN hl _) fun x _ hx=> .bK (by omega) (.one ⟨more x (hx.trans (hS _ (by omega) (by omega))),by simp only;omega⟩)) fun h3=> .bK (by omega) (.one ⟨?_,by simp only;omega⟩))
    have h3:b=false:=by simpa using h3
    subst h3
    refine⟨fun e=>(by cases e),fun g=>?_⟩
    have:=hb.2 fun t h1 h2=>g t h1 (by omega)
    cases this
   ·rintro⟨b,t⟩ ⟨hb,hv⟩
    dsimp only at hb hv
    subst hv
    simp only[sP]
    refine .aL (decide_eq_false (by omega)) (.one ?_)
    have e:(c.getD k Call.z).from_+(((c.getD k Call.z).aY - (c.getD k Call.z).from_).toNat:Int)=(c.getD k Call.z).aY:=by omega
    rw[e]at hb;exact hb
 ·rintro v ⟨rfl,hr⟩
  simp only[sQ]
  exact .aL (decide_eq_false (by omega)) (.one fun⟨i,E⟩=>hr i E.lt E)
def Ni(c:List Call)(r:Bool×Int×Int×Int×Int):Prop:=
 (r=(true,0,0,0,0)∧(¬ ∃i,gp c i)∧(¬ ∃i,ii c i)∧(¬ ∃i,iD c i)∧(¬ ∃a b,kF c a b)∧¬ ∃i,lV c i)∨
 (∃(i:Nat) (b:Int),r=(false,1,(i:Int),b,0)∧gp c i)∨
 (∃(i:Nat) (b:Int),r=(false,2,(i:Int),b,0)∧ii c i∧¬ ∃i,gp c i)∨
 (∃(i:Nat) (b:Int),r=(false,3,(i:Int),b,0)∧iD c i∧(¬ ∃i,gp c i)∧¬ ∃i,ii c i)∨
 (∃a b:Nat,r=(false,6,(c.getD a Call.z).arg,(c.getD b Call.z).arg,0)∧kF c a b∧(¬ ∃i,gp c i)∧(¬ ∃i,ii c i)∧¬ ∃i,iD c i)∨
 (∃(i:Nat) (b:Int),r=(false,7,(i:Int),b,0)∧lV c i∧(¬ ∃i,gp c i)∧(¬ ∃i,ii c i)∧(¬ ∃i,iD c i)∧¬ ∃a b,kF c a b)
theorem yB{N:Nat}(hN:300 < N){l:List Event}{c:List Call}{op:List Int}(ht:co N [2]=some 0)(hl:l.length≤200)(R:ex N [2] l l.length c op):Wp (iV N l) fun r=>(¬p6 c∧r=(false,0,0,0,6))∨(p6 c∧Ni c r):=by
 have hcl:=R.wf.len
 have Qc:=VQ hl R
 unfold iV
 refine .seq (AL hN ht hl R) fun r _ hr=>?_
 rcases hr with⟨h1,rfl⟩|⟨C,h1,h2,h3,hV⟩
 ·exact .bg rfl (.one (.inl ⟨h1,rfl⟩))
 obtain⟨b,c',V,e⟩:=r
 dsimp only at h1 h2 h3 hV
 subst h1;subst h2;subst h3
 refine .aL rfl ?_
 have hc:c'.length≤200:=by omega
 have A0:=Z0 (N:=N) hN hc C Qc hV
 refine .elim (P:=fun t=>match t with| .inl _=>(¬ ∃i,gp c' i)∧(¬ ∃i,ii c' i)∧(¬ ∃i,iD c' i)∧(¬ ∃a b,kF c' a b)∧¬ ∃i,lV c' i| .inr r=>Ni c' r)
  (.ck rfl (.iter 5 (fun k v=>v=(k:Int)∧(0 < k→¬ ∃i,gp c' i)∧(1 < k→¬ ∃i,ii c' i)∧(2 < k→¬ ∃i,iD c' i)∧(3 < k→¬ ∃a b,kF c' a b)∧(4 < k→¬ ∃i,lV c' i)) (by omega) ⟨rfl,fun h=>absurd h (by decide),fun h=>absurd h (by decide),fun h=>absurd h (by decide),fun h=>absurd h (by decide),fun h=>absurd h (by decide)⟩ ?_ ?_)) (fun _ _ h=> .one (.inr ⟨C,.inl ⟨rfl,h⟩⟩)) (fun r _ h=> .one (.inr ⟨C,h⟩))
 ·rintro k v hk ⟨rfl,n0,n1,n2,n3,n4⟩
  simp only[qY]
  refine .bg (decide_eq_true (by omega)) (.ck (by unfold SR;exact decide_eq_true (by omega)) ?_)
  obtain rfl|rfl|rfl|rfl|rfl:k=0∨k=1∨k=2∨k=3∨k=4:=by omega
  ·refine .seq (P:=fun r=>(r.1=0∧¬ ∃i,gp c' i)∨∃i:Nat,r.1=1∧r.2.1=(i:Int)∧gp c' i) (.bg rfl (.seq A0 fun r _ hr=> .one ?_)) fun r _ hr=>?_
   ·rcases hr with⟨rfl,h⟩|⟨i,h1,h2,h3⟩
    ·exact .inl ⟨rfl,h⟩
    ·exact .inr ⟨i,h1,h2,h3⟩
   ·obtain⟨K,A,B⟩:=r
    rcases hr with⟨h1,h⟩|⟨i,h1,h2,h3⟩
    ·exact .aL (by dsimp only at h1⊢;rw[h1];rfl) (.bK (by omega) (.one ⟨by simp,fun _=>h,fun h=>absurd h (by decide),fun h=>absurd h (by decide),fun h=>absurd h (by decide),fun h=>absurd h (by decide)⟩))
    ·dsimp only at h1 h2
     subst h1;subst h2
     exact .bg rfl (.one (.inr (.inl ⟨i,B,rfl,h3⟩)))
  ·refine .seq (P:=fun r=>(r.1=0∧¬ ∃i,ii c' i)∨∃i:Nat,r.1=2∧r.2.1=(i:Int)∧ii c' i) (.aL rfl (.bg rfl (.seq (Z1 hN hc C Qc hV (n0 (by decide))) fun r _ hr=> .one ?_))) fun r _ hr=>?_
   ·rcases hr with⟨rfl,h⟩|⟨i,h1,h2,h3⟩
    ·exact .inl ⟨rfl,h⟩
    ·exact .inr ⟨i,h1,h2,h3⟩
   ·obtain⟨K,A,B⟩:=r
    rcases hr with⟨h1,h⟩|⟨i,h1,h2,h3⟩
    ·exact .aL (by dsimp only at h1⊢;rw[h1];rfl) (.bK (by omega) (.one ⟨by simp,fun _=>n0 (by decide),fun _=>h,fun h=>absurd h (by decide),fun h=>absurd h (by decide),fun h=>absurd h (by decide)⟩))
    ·dsimp only at h1 h2
     subst h1;subst h2
     exact .bg rfl (.one (.inr (.inr (.inl ⟨i,B,rfl,h3,n0 (by decide)⟩))))
  ·refine .seq (P:=fun r=>(r.1=0∧¬ ∃i,iD c' i)∨∃i:Nat,r.1=3∧r.2.1=(i:Int)∧iD c' i) (.aL rfl (.aL rfl (.bg rfl (.seq (Z2 hN hc C Qc hV (n0 (by decide))) fun r _ hr=> .one ?_)))) fun r _ hr=>?_
   ·rcases hr with⟨rfl,h⟩|⟨i,h1,h2,h3⟩
    ·exact .inl ⟨rfl,h⟩
    ·exact .inr ⟨i,h1,h2,h3⟩
   ·obtain⟨K,A,B⟩:=r
    rcases hr with⟨h1,h⟩|⟨i,h1,h2,h3⟩
    ·exact .aL (by dsimp only at h1⊢;rw[h1];rfl) (.bK (by omega) (.one ⟨by simp,fun _=>n0 (by decide),fun _=>n1 (by decide),fun _=>h,fun h=>absurd h (by decide),fun h=>absurd h (by decide)⟩))
    ·dsimp only at h1 h2
     subst h1;subst h2
     exact .bg rfl (.one (.inr (.inr (.inr (.inl ⟨i,B,rfl,h3,n0 (by decide),n1 (by decide)⟩)))))
  ·refine .seq (P:=fun r=>(r.1=0∧¬ ∃a b,kF c' a b)∨∃a b:Nat,r=(6,(c'.getD a Call.z).arg,(c'.getD b Call.z).arg)∧kF c' a b) (.aL rfl (.aL rfl (.aL rfl (.bg rfl (.seq (Z3 hN hc C hV) fun r _ hr=> .one ?_))))) fun r _ hr=>?_
   ·rcases hr with⟨rfl,h⟩|⟨a,b,h1,h3⟩
    ·exact .inl ⟨rfl,h⟩
    ·exact .inr ⟨a,b,h1,h3⟩
   ·obtain⟨K,A,B⟩:=r
    rcases hr with⟨h1,h⟩|⟨a,b,h1,h3⟩
    ·exact .aL (by dsimp only at h1⊢;rw[h1];rfl) (.bK (by omega) (.one ⟨by simp,fun _=>n0 (by decide),fun _=>n1 (by decide),fun _=>n2 (by decide),fun _=>h,fun h=>absurd h (by decide)⟩))
    ·cases h1
     exact .bg rfl (.one (.inr (.inr (.inr (.inr (.inl ⟨a,b,rfl,h3,n0 (by decide),n1 (by decide),n2 (by decide)⟩))))))
  ·refine .seq (P:=fun r=>(r.1=0∧¬ ∃i,lV c' i)∨∃i:Nat,r.1=7∧r.2.1=(i:Int)∧lV c' i) (.aL rfl (.aL rfl (.aL rfl (.aL rfl (.bg rfl (.seq (Z6 hN hc C Qc hV) fun r _ hr=> .one ?_)))))) fun r _ hr=>?_
   ·rcases hr with⟨rfl,h⟩|⟨i,rfl,h3⟩
    ·exact .inl ⟨rfl,h⟩
    ·exact .inr ⟨i,rfl,rfl,h3⟩
   ·obtain⟨K,A,B⟩:=r
    rcases hr with⟨h1,h⟩|⟨i,h1,h2,h3⟩
    ·exact .aL (by dsimp only at h1⊢;rw[h1];rfl) (.bK (by omega) (.one ⟨by simp,fun _=>n0 (by decide),fun _=>n1 (by decide),fun _=>n2 (by decide),fun _=>n3 (by decide),fun _=>h⟩))
    ·dsimp only at h1 h2
     subst h1;subst h2
     exact .bg rfl (.one (.inr (.inr (.inr (.inr (.inr ⟨i,B,rfl,h3,n0 (by decide),n1 (by decide),n2 (by decide),n3 (by decide)⟩))))))
 ·rintro v ⟨rfl,n0,n1,n2,n3,n4⟩
  simp only[qY]
  exact .aL (by decide) (.one ⟨n0 (by decide),n1 (by decide),n2 (by decide),n3 (by decide),n4 (by decide)⟩)
theorem mJ{N:Nat}(hN:300 < N)(l:List Event):Wp (iV N l) fun r=>(r.2.2.2.2≠0∧r=(false,0,0,0,r.2.2.2.2))∨(r.2.2.2.2=0∧co N [2]=some 0∧l.length≤200∧∃c op,ex N [2] l l.length c op∧p6 c∧Ni c r):=by
 obtain⟨q,hq,h⟩:=sG (N:=N) (types:=[2]) (l:=l) hN
 by_cases h0:q.2.2=0
 ·obtain⟨t1,_,t3,_,op,R⟩:=h h0
  refine(yB hN t1 t3 R).mono fun r hr=>?_
  rcases hr with⟨_,rfl⟩|⟨C,hr⟩
  ·exact .inl ⟨by decide,rfl⟩
  ·refine .inr ⟨?_,t1,t3,_,op,R,C,hr⟩
   rcases hr with⟨rfl,_⟩|⟨_,_,rfl,_⟩|⟨_,_,rfl,_⟩|⟨_,_,rfl,_⟩|⟨_,_,rfl,_⟩|⟨_,_,rfl,_⟩<;>rfl
 ·unfold iV ni
  refine .seq (P:=fun r=>r=(false,[],[],q.2.2)) (.bD hq (.bg (by simpa using h0) (.one rfl))) fun r _ hr=>?_
  subst hr
  exact .bg (by simpa using h0) (.one (.inl ⟨h0,rfl⟩))
end Rw
end Go.Proofs.YtjdkkabcenohcaaGreatDoor
