import Derived.Test.YtjdkkabcenohcaaGreatDoorP2
import Derived.Test.YtjdkkabcenohcaaGreatDoorV4
set_option linter.unusedVariables false
set_option linter.unusedSimpArgs false
set_option linter.unusedSectionVars false
set_option maxRecDepth 100000
namespace Go.Proofs.YtjdkkabcenohcaaGreatDoor
open Go.RowKit
namespace Zo
open Hs
def kt(x:Call):Bool:=decide (x.kind=2)&& !decide (x.aY= -1)
def GX:ag:=⟨0,-1,-1,[],⟨0,-1,-1,false⟩,false⟩
def Iu(x:Call)(i:Int):ag:=⟨x.arg,i,x.from_,[],⟨x.arg,if x.aY= -1 then 200 else x.aY,x.from_,false⟩,!decide (x.aY= -1)⟩
def cls(c:List Call):Nat→List ag
 |0=>[GX]
 |k+1=>if(c.getD k Call.z).kind=1 then cls c k++[Iu (c.getD k Call.z) (k:Int)]else cls c k
def w9(z:ag)(x:Call)(i:Int):ag:=
 if kt x=true∧x.res=z.value then⟨z.value,z.write,z.from_,z.reads++[i],⟨z.ba.value,min z.ba.first x.aY,max z.ba.last x.from_,z.ba.forward⟩,true⟩else z
def m5(c:List Call)(z:ag):Nat→ag
 |0=>z
 |k+1=>w9 (m5 c z k) (c.getD k Call.z) (k:Int)
def fwd(z:ag):ag:=⟨z.value,z.write,z.from_,z.reads,⟨z.ba.value,z.ba.first,z.ba.last,decide (z.ba.first < z.ba.last)⟩,z.counts⟩
def fin(c:List Call)(z:ag):ag:=fwd (m5 c z c.length)
theorem HR(c:List Call): ∀k,(cls c k).length≤k+1
 |0=>Nat.le_refl _
 |k+1=>by
  have:=HR c k
  unfold cls
  split
  ·rw[List.length_append,List.length_singleton];omega
  ·omega
theorem ov{c:List Call}{z:ag}: ∀{k:Nat},z∈cls c k↔z=GX∨∃i,i < k∧(c.getD i Call.z).kind=1∧z=Iu (c.getD i Call.z) (i:Int)
 |0=>by
  unfold cls
  rw[List.mem_singleton]
  exact⟨.inl,fun h=>h.elim id fun⟨i,h,_⟩=>absurd h (Nat.not_lt_zero _)⟩
 |k+1=>by
  unfold cls
  constructor
  ·intro h
   split at h
   ·rename_i hk
    rcases List.mem_append.1 h with h|h
    ·rcases ov.1 h with h|⟨i,h1,h2⟩
     ·exact .inl h
     ·exact .inr ⟨i,by omega,h2⟩
    ·exact .inr ⟨k,by omega,hk,List.mem_singleton.1 h⟩
   ·rcases ov.1 h with h|⟨i,h1,h2⟩
    ·exact .inl h
    ·exact .inr ⟨i,by omega,h2⟩
  ·intro h
   have old:z=GX∨(∃i,i < k∧(c.getD i Call.z).kind=1∧z=Iu (c.getD i Call.z) (i:Int))∨((c.getD k Call.z).kind=1∧z=Iu (c.getD k Call.z) (k:Int)):=by
    rcases h with h|⟨i,h1,h2⟩
    ·exact .inl h
    ·rcases Nat.lt_or_ge i k with h3|h3
     ·exact .inr (.inl ⟨i,h3,h2⟩)
     ·obtain rfl:i=k:=by omega
      exact .inr (.inr h2)
   rcases old with h|h|⟨h1,h2⟩
   ·split
    ·exact List.mem_append.2 (.inl (ov.2 (.inl h)))
    ·exact ov.2 (.inl h)
   ·split
    ·exact List.mem_append.2 (.inl (ov.2 (.inr h)))
    ·exact ov.2 (.inr h)
   ·rw[if_pos h1]
    exact List.mem_append.2 (.inr (List.mem_singleton.2 h2))
theorem afT(z:ag)(x:Call)(i:Int):(w9 z x i).value=z.value∧(w9 z x i).write=z.write∧(w9 z x i).from_=z.from_∧(w9 z x i).ba.value=z.ba.value∧(w9 z x i).reads.length≤z.reads.length+1:=by
 unfold w9
 split
 ·exact⟨rfl,rfl,rfl,rfl,by simp⟩
 ·exact⟨rfl,rfl,rfl,rfl,by omega⟩
theorem GY(c:List Call)(z:ag): ∀k,(m5 c z k).value=z.value∧(m5 c z k).write=z.write∧(m5 c z k).from_=z.from_∧(m5 c z k).ba.value=z.ba.value∧(m5 c z k).reads.length≤z.reads.length+k
 |0=>⟨rfl,rfl,rfl,rfl,Nat.le_refl _⟩
 |k+1=>by
  obtain⟨h1,h2,h3,h4,h5⟩:=GY c z k
  obtain⟨g1,g2,g3,g4,g5⟩:=afT (m5 c z k) (c.getD k Call.z) (k:Int)
  exact⟨g1.trans h1,g2.trans h2,g3.trans h3,g4.trans h4,by show(w9 _ _ _).reads.length≤_;omega⟩
structure Zn(c:List Call)(z:ag)(k:Nat)(y:ag):Prop where
 cnt:y.counts=true↔z.counts=true∨∃i,i < k∧kt (c.getD i Call.z)=true∧(c.getD i Call.z).res=z.value
 Rb:y.ba.first≤z.ba.first∧∀i,i < k→kt (c.getD i Call.z)=true→(c.getD i Call.z).res=z.value→y.ba.first≤(c.getD i Call.z).aY
 fat:y.ba.first=z.ba.first∨∃i,i < k∧kt (c.getD i Call.z)=true∧(c.getD i Call.z).res=z.value∧y.ba.first=(c.getD i Call.z).aY
 T3:z.ba.last≤y.ba.last∧∀i,i < k→kt (c.getD i Call.z)=true→(c.getD i Call.z).res=z.value→(c.getD i Call.z).from_≤y.ba.last
 lat:y.ba.last=z.ba.last∨∃i,i < k∧kt (c.getD i Call.z)=true∧(c.getD i Call.z).res=z.value∧y.ba.last=(c.getD i Call.z).from_
theorem T4(c:List Call)(z:ag): ∀k,Zn c z k (m5 c z k)
 |0=>⟨⟨.inl,fun h=>h.elim id fun⟨i,h,_⟩=>absurd h (Nat.not_lt_zero _)⟩,⟨Int.le_refl _,fun i h=>absurd h (Nat.not_lt_zero _)⟩,.inl rfl,⟨Int.le_refl _,fun i h=>absurd h (Nat.not_lt_zero _)⟩,.inl rfl⟩
 |k+1=>by
  have h:=T4 c z k
  have hv:=(GY c z k).1
  show Zn c z (k+1) (w9 (m5 c z k) (c.getD k Call.z) (k:Int))
  generalize m5 c z k=y at h hv⊢
  unfold w9
  rw[hv]
  by_cases hr:kt (c.getD k Call.z)=true∧(c.getD k Call.z).res=z.value
  ·rw[if_pos hr]
   obtain⟨za,hr2⟩:=hr
   refine⟨⟨fun _=> .inr ⟨k,by omega,za,hr2⟩,fun _=>rfl⟩,⟨?_,fun i hi h1 h2=>?_⟩,?_,⟨?_,fun i hi h1 h2=>?_⟩,?_⟩
   ·have:=h.Rb.1;simp only;omega
   ·simp only
    rcases Nat.lt_or_ge i k with h3|h3
    ·have:=h.Rb.2 i h3 h1 h2;omega
    ·obtain rfl:i=k:=by omega
     omega
   ·simp only
    rcases Int.le_total y.ba.first (c.getD k Call.z).aY with h3|h3
    ·rw[Int.min_eq_left h3]
     rcases h.fat with h4|⟨i,h4,h5⟩
     ·exact .inl h4
     ·exact .inr ⟨i,by omega,h5⟩
    ·exact .inr ⟨k,by omega,za,hr2,Int.min_eq_right h3⟩
   ·have:=h.T3.1;simp only;omega
   ·simp only
    rcases Nat.lt_or_ge i k with h3|h3
    ·have:=h.T3.2 i h3 h1 h2;omega
    ·obtain rfl:i=k:=by omega
     omega
   ·simp only
    rcases Int.le_total y.ba.last (c.getD k Call.z).from_ with h3|h3
    ·exact .inr ⟨k,by omega,za,hr2,Int.max_eq_right h3⟩
    ·rw[Int.max_eq_left h3]
     rcases h.lat with h4|⟨i,h4,h5⟩
     ·exact .inl h4
     ·exact .inr ⟨i,by omega,h5⟩
  ·rw[if_neg hr]
   have no: ∀i,i < k+1→kt (c.getD i Call.z)=true→(c.getD i Call.z).res=z.value→i < k:=fun i hi h1 h2=>by
    rcases Nat.lt_or_ge i k with h3|h3
    ·exact h3
    ·obtain rfl:i=k:=by omega
     exact(hr ⟨h1,h2⟩).elim
   refine⟨h.cnt.trans ⟨fun g=>g.imp id fun⟨i,a,b⟩=>⟨i,by omega,b⟩,fun g=>g.imp id fun⟨i,a,b1,b2⟩=>⟨i,no i a b1 b2,b1,b2⟩⟩,⟨h.Rb.1,fun i hi h1 h2=>h.Rb.2 i (no i hi h1 h2) h1 h2⟩,h.fat.imp id fun⟨i,a,b⟩=>⟨i,by omega,b⟩,⟨h.T3.1,fun i hi h1 h2=>h.T3.2 i (no i hi h1 h2) h1 h2⟩,h.lat.imp id fun⟨i,a,b⟩=>⟨i,by omega,b⟩⟩
def vu(c:List Call):Prop:=∀i j,i < j→j < c.length→(c.getD i Call.z).kind=1→(c.getD j Call.z).kind=1→(c.getD i Call.z).arg≠(c.getD j Call.z).arg
theorem nQ{α:Type}(v:α)(k j:Int): ∀m:List (Int×α),gz (kX m k v) j=if k=j then some v else gz m j
 | []=>by
  unfold kX gz
  by_cases h:k=j
  ·rw[if_pos h,if_pos h]
  ·rw[if_neg h,if_neg h];rfl
 |(a,u)::r=>by
  unfold kX
  by_cases h:a=k
  ·subst h
   rw[if_pos rfl]
   unfold gz
   by_cases h2:a=j
   ·rw[if_pos h2,if_pos h2]
   ·rw[if_neg h2,if_neg h2]
    rw[if_neg h2]
  ·rw[if_neg h]
   unfold gz
   by_cases h2:a=j
   ·rw[if_pos h2,if_pos h2,if_neg (fun e=>h (h2.trans e.symm))]
   ·rw[if_neg h2,if_neg h2]
    exact nQ v k j r
theorem XC{N:Nat}(hN:300 < N)(l:List Event){c:List Call}{e er:Int}(hc:cB N [1] l=some (c,e,er))(hl:er=0→c.length≤200):Wp (re N l) fun r=>(r.2≠0∧(r.2=er∨(er=0∧r.2=6∧¬vu c)))∨(r.2=0∧er=0∧r.1=c∧vu c):=by
 unfold re
 refine .bD hc (.cond (fun h=> .one (.inl ⟨by simpa using h,.inl rfl⟩)) fun h=>?_)
 have h0:er=0:=by simpa using h
 have hl:=hl h0
 refine .elim (P:=fun t=>match t with| .inl _=>vu c| .inr r=>¬vu c∧r=([],6)) (.iter c.length (fun k st=>(∀x,(gz st.1 x).getD false=true↔∃i,i < k∧(c.getD i Call.z).kind=1∧(c.getD i Call.z).arg=x)∧(∀i j,i < j→j < k→(c.getD i Call.z).kind=1→(c.getD j Call.z).kind=1→(c.getD i Call.z).arg≠(c.getD j Call.z).arg)∧st.2=(k:Int)) (by omega) ⟨fun x=>⟨fun h=>(nomatch h),fun⟨i,h,_⟩=>absurd h (Nat.not_lt_zero _)⟩,fun i j _ h=>absurd h (Nat.not_lt_zero _),rfl⟩ ?_ ?_) (fun _ _ h=> .one (.inr ⟨rfl,h0,rfl,h⟩)) (fun r _ h=> .one (.inl ⟨by rw[h.2];simp,.inr ⟨h0,by rw[h.2],h.1⟩⟩))
 ·rintro k ⟨m,v⟩ hk ⟨h1,h2,hv⟩
  dsimp only at h1 h2 hv
  subst hv
  simp only[ta]
  refine .bg (decide_eq_true (by show(k:Int) < c.length;omega)) (.fL Call.z (by omega) (by show(k:Int) < c.length;omega) ?_)
  simp only[Int.toNat_natCast]
  have ext: ∀(P:Nat→Prop),(∃i,i < k+1∧P i)↔(∃i,i < k∧P i)∨P k:=fun P=>by
   constructor
   ·rintro⟨i,a,b⟩
    rcases Nat.lt_or_ge i k with h|h
    ·exact .inl ⟨i,h,b⟩
    ·obtain rfl:i=k:=by omega
     exact .inr b
   ·rintro(⟨i,a,b⟩|b)
    ·exact⟨i,by omega,b⟩
    ·exact⟨k,by omega,b⟩
  refine .cond (fun hw=> .cond (fun hs=> .one ⟨fun D=>?_,rfl⟩) fun hs=> .bK (by omega) (.one ⟨fun x=>?_,fun i j hij hj k1 k2=>?_,by simp⟩)) fun hw=> .bK (by omega) (.one ⟨fun x=>?_,fun i j hij hj k1 k2=>?_,by simp⟩)
  ·obtain⟨i,a,b,d⟩:=(h1 _).1 hs
   exact D i k a hk b (of_decide_eq_true hw) d
  ·rw[ext]
   show(gz (kX m _ true) x).getD false=true↔_
   rw[nQ]
   by_cases e:(c.getD k Call.z).arg=x
   ·rw[if_pos e]
    exact⟨fun _=> .inr ⟨of_decide_eq_true hw,e⟩,fun _=>rfl⟩
   ·rw[if_neg e,h1 x]
    exact⟨.inl,fun h=>h.elim id fun h=>(e h.2).elim⟩
  ·rcases Nat.lt_or_ge j k with h|h
   ·exact h2 i j hij h k1 k2
   ·obtain rfl:j=k:=by omega
    intro e
    have:=(h1 _).2 ⟨i,hij,k1,e⟩
    rw[this]at hs;cases hs
  ·have hw: ¬(c.getD k Call.z).kind=1:=of_decide_eq_false hw
   rw[ext,h1 x]
   exact⟨.inl,fun h=>h.elim id fun h=>(hw h.1).elim⟩
  ·have hw: ¬(c.getD k Call.z).kind=1:=of_decide_eq_false hw
   rcases Nat.lt_or_ge j k with h|h
   ·exact h2 i j hij h k1 k2
   ·obtain rfl:j=k:=by omega
    exact(hw k2).elim
 ·rintro⟨m,v⟩ ⟨h1,h2,hv⟩
  dsimp only at h1 h2 hv
  subst hv
  simp only[ta]
  exact .aL (decide_eq_false (by show ¬(c.length:Int) < c.length;omega)) (.one h2)
theorem CC{α:Type}{l:List α}{i j:Nat}{v d:α}(h:i < l.length):(l.set i v).getD j d=if j=i then v else l.getD j d:=by
 simp only[List.getD_eq_getElem?_getD,List.getElem?_set,h,if_true]
 by_cases hj:i=j
 ·subst hj;simp
 ·rw[if_neg hj,if_neg (fun e=>hj e.symm)]
theorem OZ{α:Type}{l:List α}{i:Nat}{v:α}{d:α}(h:i < l.length)(e:v=l.getD i d):l.set i v=l:=by
 subst e
 rw[aW h,List.set_getElem_self]
theorem AA{α:Type}{l:List α}{i:Nat}{a:α}(h:i < l.length):ix (l.set i a) (i:Int)=some a:=by rw[O3,List.getElem?_set_self h]
theorem ZO{N:Nat}(hN:300 < N){c:List Call}(hc:c.length≤200){o:List ag}{i:Nat}(hi:i < o.length)(hr:(o.getD i ag.z).reads.length≤1000):iter (oG N c (i:Int)) N (o,0)=some (o.set i (m5 c (o.getD i ag.z) c.length)):=by
 refine Wp.eq (.iter c.length (fun k st=>st=(o.set i (m5 c (o.getD i ag.z) k),(k:Int))) (by omega) ?_ ?_ ?_)
 ·show(o,(0:Int))=(_,_)
  rw[show m5 c (o.getD i ag.z) 0=o.getD i ag.z from rfl,OZ hi rfl];rfl
 ·rintro k st hk rfl
  simp only[oG]
  have hy:=GY c (o.getD i ag.z) k
  have hnext:m5 c (o.getD i ag.z) (k+1)=w9 (m5 c (o.getD i ag.z) k) (c.getD k Call.z) (k:Int):=rfl
  rw[hnext]
  generalize m5 c (o.getD i ag.z) k=y at hy⊢
  refine .bg (decide_eq_true (by omega)) (.fL Call.z (by omega) (by omega) ?_)
  simp only[Int.toNat_natCast]
  obtain⟨x,hx0⟩: ∃x,c.getD k Call.z=x:=⟨_,rfl⟩
  simp only[hx0]
  have hx:ix (o.set i y) (i:Int)=some y:=AA hi
  have hrd:(decide (x.kind=2)&& !decide (x.aY= -1))=kt x:=rfl
  rw[hrd]
  cases hR:kt x with
  |false=>
   refine .bD (a:=ag.z) rfl (.aL rfl (.bK (by omega) (.one ?_)))
   show(_,_)=(_,_)
   unfold w9
   rw[if_neg (by rw[hR];rintro⟨h,_⟩;cases h)]
   simp
  |true=>
   refine .bD (a:=y) hx ?_
   by_cases he:x.res=y.value
   ·refine .bg (by rw[decide_eq_true he];rfl) (.bD hx (.ck (eT ⟨?_,?_⟩) ?_))
    ·simp only[List.length_singleton];exact Nat.le_trans (m:=2000) (by omega) (by decide)
    ·simp only[List.length_singleton];omega
    refine .bD hx ?_
    simp only[List.set_set,Int.toNat_natCast]
    refine .bD (AA hi) (.bD (AA hi) (.bD (AA hi) (.bD (AA hi) (.bD (AA hi) ?_))))
    refine .bK (by omega) (.one ?_)
    show(_,_)=(_,_)
    unfold w9
    rw[if_pos ⟨hR,he⟩]
    simp
   ·refine .aL (by rw[decide_eq_false he];rfl) (.bK (by omega) (.one ?_))
    show(_,_)=(_,_)
    unfold w9
    rw[if_neg (fun h=>he h.2)]
    simp
 ·rintro st rfl
  simp only[oG]
  exact .aL (decide_eq_false (by omega)) (.one rfl)
theorem ZP{α:Type}{l m:List α}{d:α}(hl:l.length=m.length)(h: ∀i,i < l.length→l.getD i d=m.getD i d):l=m:=by
 apply List.ext_getElem hl
 intro i h1 h2
 have:=h i h1
 rwa[aW h1,aW h2]at this
theorem SF{N:Nat}(hN:300 < N){c:List Call}(hc:c.length≤200):lA N c=bd (DJ N ((cls c c.length).map (fin c))) fun r=>some r:=by
 unfold lA
 have h0:iter (lT N c) N ([GX],0)=some (cls c c.length):=by
  refine Wp.eq (.iter c.length (fun k st=>st=(cls c k,(k:Int))) (by omega) rfl ?_ ?_)
  ·rintro k st hk rfl
   simp only[lT]
   have hl:=HR c k
   have hcl:cls c (k+1)=if(c.getD k Call.z).kind=1 then cls c k++[Iu (c.getD k Call.z) (k:Int)]else cls c k:=rfl
   refine .bg (decide_eq_true (by omega)) (.fL Call.z (by omega) (by omega) ?_)
   simp only[Int.toNat_natCast]
   rw[hcl]
   obtain⟨x,hx0⟩: ∃x,c.getD k Call.z=x:=⟨_,rfl⟩
   simp only[hx0]
   refine .cond (fun h=> .bK (by omega) (.one ?_)) fun h=> .cond (fun h2=> .ck (eT ⟨?_,?_⟩) (.bK (by omega) (.one ?_))) fun h2=> .ck (eT ⟨?_,?_⟩) (.bK (by omega) (.one ?_))
   ·have h: ¬x.kind=1:=by simpa using h
    show(_,_)=(_,_)
    rw[if_neg h];simp
   ·simp only[List.length_singleton];exact Nat.le_trans (m:=2000) (by omega) (by decide)
   ·simp only[List.length_singleton];omega
   ·have h:x.kind=1:=by simpa using h
    show(_,_)=(_,_)
    rw[if_pos h]
    unfold Iu
    rw[if_pos (of_decide_eq_true h2)];simp
   ·simp only[List.length_singleton];exact Nat.le_trans (m:=2000) (by omega) (by decide)
   ·simp only[List.length_singleton];omega
   ·have h:x.kind=1:=by simpa using h
    show(_,_)=(_,_)
    rw[if_pos h]
    unfold Iu
    rw[if_neg (of_decide_eq_false h2)];simp
  ·rintro st rfl
   simp only[lT]
   exact .aL (decide_eq_false (by omega)) (.one rfl)
 have hlen:=HR c c.length
 obtain⟨K,hK⟩: ∃K,K=cls c c.length:=⟨_,rfl⟩
 rw[←hK]at hlen h0⊢
 have hrd: ∀i,(K.getD i ag.z).reads.length≤1000:=fun i=>by
  rcases Nat.lt_or_ge i K.length with h|h
  ·have:K.getD i ag.z∈K:=by rw[aW h];exact List.getElem_mem h
   rw[hK]at this
   rw[hK]
   rcases ov.1 this with h2|⟨j,_,_,h2⟩<;>rw[h2]
   ·show(0:Nat)≤1000;omega
   ·show(0:Nat)≤1000;omega
  ·rw[List.getD_eq_getElem?_getD,List.getElem?_eq_none h];show(0:Nat)≤1000;omega
 have h1:iter (oH N K c) N (K,0)=some (K.map (fin c)):=by
  refine Wp.eq (.iter K.length (fun k st=>st.1.length=K.length∧(∀j,j < K.length→st.1.getD j ag.z=if j < k then fin c (K.getD j ag.z)else K.getD j ag.z)∧st.2=(k:Int)) (by omega) ⟨rfl,fun j _=>by rw[if_neg (Nat.not_lt_zero _)],rfl⟩ ?_ ?_)
  ·rintro k ⟨o,v⟩ hk ⟨g1,g2,hv⟩
   dsimp only at g1 g2 hv
   subst hv
   have hok:=g2 k hk
   rw[if_neg (Nat.lt_irrefl _)]at hok
   simp only[oH]
   have hin:=ZO hN hc (o:=o) (i:=k) (by omega) (by rw[hok];exact hrd k)
   rw[hok]at hin
   refine .bg (decide_eq_true (by omega)) ?_
   refine .seq (P:=fun r=>r=o.set k (fin c (K.getD k ag.z))) (.fL ag.z (by omega) (by omega) (.bD hin (.bD (AA (by omega)) (.bD (AA (by omega)) (.bD (AA (by omega)) (.one ?_)))))) fun r _ hr=> .bK (by omega) (.one ?_)
   ·rw[Int.toNat_natCast,List.set_set];rfl
   ·subst hr
    refine⟨by rw[List.length_set];exact g1,fun j hj=>?_,by simp⟩
    show(o.set k _).getD j _=_
    rw[CC (by omega)]
    by_cases e:j=k
    ·subst e;rw[if_pos rfl,if_pos (by omega)]
    ·rw[if_neg e,g2 j hj]
     by_cases e2:j < k
     ·rw[if_pos e2,if_pos (by omega)]
     ·rw[if_neg e2,if_neg (by omega)]
  ·rintro⟨o,v⟩ ⟨g1,g2,hv⟩
   dsimp only at g1 g2 hv
   subst hv
   simp only[oH]
   refine .aL (decide_eq_false (by omega)) (.one (ZP (d:=ag.z) (by simpa using g1) fun i hi=>?_))
   rw[g2 i (by omega),if_pos (by omega),aW (l:=K.map (fin c)) (by simpa using(by omega:i < K.length)),List.getElem_map,aW (by omega)]
 have h0':iter (lT N c) N ([(ag.mk 0 (-1) (-1) [] (bv.mk 0 (-1) (-1) false) false)],0)=some K:=h0
 rw[h0',bZ,h1,bZ]
structure p6(c:List Call)(K:List ag):Prop where
 len:K.length≤c.length+1
 mem: ∀y,y∈K↔∃z,z∈cls c c.length∧y=fin c z
 Xe:(K.map (·.value)).Nodup
theorem Mk(c:List Call)(z:ag):(fin c z).value=z.value:=(GY c z c.length).1
theorem T5{c:List Call}(D:vu c)(hpos: ∀i,i < c.length→(c.getD i Call.z).kind=1→1≤(c.getD i Call.z).arg): ∀k,k≤c.length→((cls c k).map (·.value)).Nodup
 |0,_=>by unfold cls;simp
 |k+1,hk=>by
  have ih:=T5 D hpos k (by omega)
  unfold cls
  split
  ·rename_i hw
   rw[List.map_append,List.nodup_append]
   refine⟨ih,by simp,fun a ha b hb e=>?_⟩
   subst e
   have hb:a=(c.getD k Call.z).arg:=List.mem_singleton.1 hb
   obtain⟨z,hz,rfl⟩:=List.mem_map.1 ha
   rcases ov.1 hz with h|⟨i,h1,h2,h3⟩
   ·rw[h]at hb
    have hb:(0:Int)=(c.getD k Call.z).arg:=hb
    have:=hpos k (by omega) hw
    omega
   ·rw[h3]at hb
    exact D i k h1 (by omega) h2 hw hb
  ·exact ih
theorem Nr{α β:Type}{f:α→β}: ∀{l:List α},(l.map f).Nodup→∀a∈l,∀b∈l,f a=f b→a=b
 |x::l,h,a,ha,b,hb,e=>by
  rw[List.map_cons,List.nodup_cons]at h
  rcases List.mem_cons.1 ha with ha1|ha2
  ·rcases List.mem_cons.1 hb with hb1|hb2
   ·rw[ha1,hb1]
   ·exact(h.1 (by rw[←ha1,e];exact List.mem_map_of_mem hb2)).elim
  ·rcases List.mem_cons.1 hb with hb1|hb2
   ·exact(h.1 (by rw[←hb1,←e];exact List.mem_map_of_mem ha2)).elim
   ·exact Nr h.2 a ha2 b hb2 e
theorem XD{N:Nat}(hN:300 < N){c:List Call}(hc:c.length≤200)(D:vu c)(hpos: ∀i,i < c.length→(c.getD i Call.z).kind=1→1≤(c.getD i Call.z).arg):Wp (lA N c) (p6 c):=by
 rw[SF hN hc]
 obtain⟨L,hL⟩: ∃L,L=(cls c c.length).map (fin c):=⟨_,rfl⟩
 have afU:(L.map (·.value)).Nodup:=by
  rw[hL,List.map_map]
  have:=T5 D hpos c.length (Nat.le_refl _)
  have e:(cls c c.length).map ((·.value)∘fin c)=(cls c c.length).map (·.value):=List.map_congr_left fun z _=>Mk c z
  rw[e];exact this
 have hlen:=HR c c.length
 have hLl:L.length=(cls c c.length).length:=by rw[hL,List.length_map]
 have hne:L≠ []:=by
  intro e
  have h0:GX∈cls c c.length:=ov.2 (.inl rfl)
  have:fin c GX∈L:=by rw[hL];exact List.mem_map_of_mem h0
  rw[e]at this;cases this
 have hu:HL yk L=true:=by
  unfold HL
  rw[List.all_eq_true]
  intro a ha
  rw[List.all_eq_true]
  intro b hb
  simp only[Bool.or_eq_true,decide_eq_true_eq]
  rcases Int.lt_trichotomy a.value b.value with h|h|h
  ·exact .inl (.inl ((wL _ _).2 h))
  ·right
   exact Nr afU a ha b hb h
  ·exact .inl (.inr ((wL _ _).2 h))
 rw[←hL]
 have hs:DJ N L=some (mf ve yk L):=by
  unfold DJ Ku
  rw[if_pos ⟨hne,List.all_eq_true.2 fun _ _=>rfl,hu,by omega⟩]
 obtain⟨hp,_⟩:=uA (S:=ve) (cf:=yk) Il (xs:=L) (List.all_eq_true.2 fun _ _=>rfl)
 refine .bD hs (.one ⟨by rw[hp.length_eq];omega,fun y=>?_,?_⟩)
 ·rw[hp.mem_iff,hL,List.mem_map]
  exact⟨fun⟨z,a,b⟩=>⟨z,a,b.symm⟩,fun⟨z,a,b⟩=>⟨z,a,b.symm⟩⟩
 ·exact((hp.map (·.value)).nodup_iff).2 afU
end Zo
namespace Sr
open Hs
theorem w_{N:Nat}{types:List Int}{l:List Event}{k:Nat}{out:List Call}{op:List Int}(R:ex N types l k out op): ∀m,m < out.length→cQ N (out.getD m Call.z).kind (out.getD m Call.z).arg=some true∧((out.getD m Call.z).aY≠ -1→bV N (out.getD m Call.z).kind (out.getD m Call.z).res=some true):=by
 induction R with
 |zero=>exact fun m h=>absurd h (Nat.not_lt_zero _)
 | @succ k out out' op op' R hk S ih=>
  intro m hm
  rcases S.how with⟨_,_,ha,_,rfl,_⟩|⟨_,m0,_,hml,_,hr,rfl,_⟩
  ·rw[List.length_append,List.length_singleton]at hm
   rw[dL]
   by_cases h:m < out.length
   ·rw[if_pos h];exact ih m h
   ·rw[if_neg h,if_pos (by omega)]
    exact⟨ha,fun h=>(h rfl).elim⟩
  ·rw[List.length_set]at hm
   rw[fv hml]
   by_cases e:m=m0
   ·subst e
    rw[if_pos rfl]
    exact⟨(ih m hm).1,fun _=>hr⟩
   ·rw[if_neg e];exact ih m hm
theorem T6{N:Nat}{a:Int}(h:cQ N 1 a=some true):1≤a∧a≤1000:=by
 have e:cQ N 1 a=some ((decide (1≤a))&&(decide (a≤1000))):=rfl
 rw[e]at h
 simpa using h
end Sr
namespace Zo
open Hs
def CD(v:Int)(x:Call):Prop:=(x.kind=1∧x.arg=v)∨(kt x=true∧x.res=v)
def Ah(c:List Call)(a b:Int):Prop:=∃j,j < c.length∧CD b (c.getD j Call.z)∧(a=0∨∃i,i < c.length∧CD a (c.getD i Call.z)∧(c.getD i Call.z).aY≠ -1∧(c.getD i Call.z).aY < (c.getD j Call.z).from_)
def Ns(c:List Call)(a:Int):Prop:=∃i,i < c.length∧CD a (c.getD i Call.z)∧(c.getD i Call.z).aY≠ -1
def Af(c:List Call)(a:Int):Prop:=a=0∨∃i,i < c.length∧(c.getD i Call.z).kind=1∧(c.getD i Call.z).arg=a
structure Wc(c:List Call):Prop where
 pW:c.length≤200
 fr: ∀i,i < c.length→0≤(c.getD i Call.z).from_∧(c.getD i Call.z).from_ < 200
 tO: ∀i,i < c.length→(c.getD i Call.z).aY≠ -1→(c.getD i Call.z).from_ < (c.getD i Call.z).aY∧(c.getD i Call.z).aY < 200
 pos: ∀i,i < c.length→(c.getD i Call.z).kind=1→1≤(c.getD i Call.z).arg
theorem jm{x:Call}:kt x=true↔x.kind=2∧x.aY≠ -1:=by
 unfold kt
 rw[Bool.and_eq_true,decide_eq_true_eq,Bool.not_eq_true',decide_eq_false_iff_not]
theorem yA{c:List Call}(D:vu c){i j:Nat}(hi:i < c.length)(hj:j < c.length)(h1:(c.getD i Call.z).kind=1)(h2:(c.getD j Call.z).kind=1)(e:(c.getD i Call.z).arg=(c.getD j Call.z).arg):i=j:=by
 rcases Nat.lt_trichotomy i j with h|h|h
 ·exact(D i j h hj h1 h2 e).elim
 ·exact h
 ·exact(D j i h hi h2 h1 e.symm).elim
section
variable {c:List Call} {K:List ag}
theorem src(C:p6 c K){y:ag}(hy:y∈K): ∃z,Zn c z c.length (m5 c z c.length)∧y.value=z.value∧y.write=z.write∧y.from_=z.from_∧y.ba.value=y.value∧y.ba.first=(m5 c z c.length).ba.first∧y.ba.last=(m5 c z c.length).ba.last∧y.ba.forward=decide (y.ba.first < y.ba.last)∧y.counts=(m5 c z c.length).counts∧
  (z=GX∨∃i,i < c.length∧(c.getD i Call.z).kind=1∧z=Iu (c.getD i Call.z) (i:Int)):=by
 obtain⟨z,hz,rfl⟩:=(C.mem y).1 hy
 obtain⟨h1,h2,h3,h4,_⟩:=GY c z c.length
 have SP:=ov.1 hz
 refine⟨z,T4 c z c.length,h1,h2,h3,?_,rfl,rfl,rfl,rfl,SP⟩
 show(m5 c z c.length).ba.value=(m5 c z c.length).value
 rw[h4,h1]
 rcases SP with h|⟨i,_,_,h⟩<;>rw[h]<;>rfl
theorem Rd(C:p6 c K){v:Int}(h:Af c v): ∃y,y∈K∧y.value=v:=by
 rcases h with rfl|⟨i,h1,h2,h3⟩
 ·exact⟨fin c GX,(C.mem _).2 ⟨GX,ov.2 (.inl rfl),rfl⟩,Mk c GX⟩
 ·exact⟨fin c (Iu (c.getD i Call.z) i),(C.mem _).2 ⟨_,ov.2 (.inr ⟨i,h1,h2,rfl⟩),rfl⟩,(Mk c _).trans h3⟩
theorem Re(C:p6 c K){y:ag}(hy:y∈K):Af c y.value:=by
 obtain⟨z,_,h1,_,_,_,_,_,_,_,h⟩:=src C hy
 rw[h1]
 rcases h with rfl|⟨i,h2,h3,rfl⟩
 ·exact .inl rfl
 ·exact .inr ⟨i,h2,h3,rfl⟩
theorem HT(W:Wc c)(D:vu c)(C:p6 c K){y:ag}(hy:y∈K):y.counts=true↔Ns c y.value:=by
 obtain⟨z,Z,h1,_,_,_,_,_,_,h2,h⟩:=src C hy
 rw[h2,Z.cnt,h1]
 constructor
 ·rintro(h3|⟨i,a,b,d⟩)
  ·rcases h with rfl|⟨i,a,b,rfl⟩
   ·cases h3
   ·have h3:(!decide ((c.getD i Call.z).aY= -1))=true:=h3
    exact⟨i,a,.inl ⟨b,rfl⟩,by simpa using h3⟩
  ·exact⟨i,a,.inr ⟨b,d⟩,(jm.1 b).2⟩
 ·rintro⟨i,a,(⟨b,d⟩|⟨b,d⟩),e⟩
  ·rcases h with rfl|⟨j,a2,b2,rfl⟩
   ·have d:(c.getD i Call.z).arg=0:=d
    have:=W.pos i a b;omega
   ·left
    have:i=j:=yA D a a2 b b2 d
    subst this
    show(!decide ((c.getD i Call.z).aY= -1))=true
    rw[decide_eq_false e];rfl
  ·exact .inr ⟨i,a,b,d⟩
theorem Rf(W:Wc c)(D:vu c)(C:p6 c K){y:ag}(hy:y∈K){t:Int}(h0:0≤t)(h2:t≤200):y.ba.first < t↔y.value=0∨∃i,i < c.length∧CD y.value (c.getD i Call.z)∧(c.getD i Call.z).aY≠ -1∧(c.getD i Call.z).aY < t:=by
 obtain⟨z,Z,e1,_,_,_,e5,_,_,_,h⟩:=src C hy
 rw[e5,e1]
 constructor
 ·intro hl
  rcases Z.fat with h3|⟨i,a,b,d,e⟩
  ·rcases h with rfl|⟨j,a2,b2,rfl⟩
   ·exact .inl rfl
   ·right
    rw[h3]at hl
    have hl:(if(c.getD j Call.z).aY= -1 then(200:Int)else(c.getD j Call.z).aY) < t:=hl
    by_cases hto:(c.getD j Call.z).aY= -1
    ·rw[if_pos hto]at hl;omega
    ·rw[if_neg hto]at hl
     exact⟨j,a2,.inl ⟨b2,rfl⟩,hto,hl⟩
  ·exact .inr ⟨i,a,.inr ⟨b,d⟩,(jm.1 b).2,by omega⟩
 ·rintro(hv|⟨i,a,(⟨b,d⟩|⟨b,d⟩),e,f⟩)
  ·rcases h with rfl|⟨j,a2,b2,rfl⟩
   ·have:(m5 c GX c.length).ba.first≤ -1:=Z.Rb.1
    omega
   ·have hv:(c.getD j Call.z).arg=0:=hv
    have:=W.pos j a2 b2;omega
  ·rcases h with rfl|⟨j,a2,b2,rfl⟩
   ·have d:(c.getD i Call.z).arg=0:=d
    have:=W.pos i a b;omega
   ·have:i=j:=yA D a a2 b b2 d
    subst this
    have h5:=Z.Rb.1
    have h6:(Iu (c.getD i Call.z) (i:Int)).ba.first=(c.getD i Call.z).aY:=if_neg e
    omega
  ·have:=Z.Rb.2 i a b d;omega
theorem acR(W:Wc c)(D:vu c)(C:p6 c K){y:ag}(hy:y∈K):(y.ba.last= -1∨∃j,j < c.length∧CD y.value (c.getD j Call.z)∧y.ba.last=(c.getD j Call.z).from_)∧∀j,j < c.length→CD y.value (c.getD j Call.z)→(c.getD j Call.z).from_≤y.ba.last:=by
 obtain⟨z,Z,e1,_,_,_,_,e6,_,_,h⟩:=src C hy
 rw[e6,e1]
 refine⟨?_,fun j a hj=>?_⟩
 ·rcases Z.lat with h3|⟨i,a,b,d,e⟩
  ·rcases h with rfl|⟨j,a2,b2,rfl⟩
   ·exact .inl h3
   ·exact .inr ⟨j,a2,.inl ⟨b2,rfl⟩,h3⟩
  ·exact .inr ⟨i,a,.inr ⟨b,d⟩,e⟩
 ·rcases hj with⟨b,d⟩|⟨b,d⟩
  ·rcases h with rfl|⟨i,a2,b2,rfl⟩
   ·have d:(c.getD j Call.z).arg=0:=d
    have:=W.pos j a b;omega
   ·have:j=i:=yA D a a2 b b2 d
    subst this
    exact Z.T3.1
  ·exact Z.T3.2 j a b d
theorem ZQ(W:Wc c)(C:p6 c K){y:ag}(hy:y∈K): -1≤y.ba.first:=by
 obtain⟨z,Z,e1,_,_,_,e5,_,_,_,h⟩:=src C hy
 rw[e5]
 rcases Z.fat with h3|⟨i,a,b,d,e⟩
 ·rw[h3]
  rcases h with rfl|⟨j,a2,b2,rfl⟩
  ·exact Int.le_refl _
  ·show -1≤(if(c.getD j Call.z).aY= -1 then(200:Int)else(c.getD j Call.z).aY)
   split
   ·omega
   ·rename_i h;have:=W.tO j a2 h;have:=W.fr j a2;omega
 ·have:=W.tO i a (jm.1 b).2;have:=W.fr i a;omega
theorem Rg(W:Wc c)(D:vu c)(C:p6 c K){x y:ag}(hx:x∈K)(hy:y∈K):x.ba.first < y.ba.last↔Ah c x.value y.value:=by
 obtain⟨h1,h2⟩:=acR W D C hy
 constructor
 ·intro h
  rcases h1 with h1|⟨j,a,b,e⟩
  ·have:=ZQ W C hx;omega
  ·rw[e]at h
   have:=W.fr j a
   exact⟨j,a,b,(Rf W D C hx (by omega) (by omega)).1 h⟩
 ·rintro⟨j,a,b,e⟩
  have:=W.fr j a
  have h3:=(Rf W D C hx (t:=(c.getD j Call.z).from_) (by omega) (by omega)).2 e
  have:=h2 j a b
  omega
structure Good(c:List Call):Prop where
 ahz: ∀i,i < c.length→kt (c.getD i Call.z)=true→Af c (c.getD i Call.z).res
 early: ∀i j,i < c.length→j < c.length→kt (c.getD i Call.z)=true→(c.getD j Call.z).kind=1→(c.getD j Call.z).arg=(c.getD i Call.z).res→¬(c.getD i Call.z).aY < (c.getD j Call.z).from_
 ba: ∀a b,a≠b→Af c a→Af c b→Ns c a→Ns c b→Ah c a a→¬(Ah c a b∧Ah c b a)
def xb(c:List Call)(i:Nat):Prop:=i < c.length∧kt (c.getD i Call.z)=true∧¬Af c (c.getD i Call.z).res
def Early(c:List Call)(i j:Nat):Prop:=i < c.length∧j < c.length∧kt (c.getD i Call.z)=true∧(c.getD j Call.z).kind=1∧(c.getD j Call.z).arg=(c.getD i Call.z).res∧(c.getD i Call.z).aY < (c.getD j Call.z).from_
def VH(c:List Call)(a b:Int):Prop:=a≠b∧Af c a∧Af c b∧Ns c a∧Ns c b∧Ah c a a∧Ah c a b∧Ah c b a
def VI(c:List Call)(a b:Int):Prop:=VH c a b∧Ah c b b
def XE(c:List Call)(a b:Int):Prop:=VH c a b∧¬Ah c b b
def Kd(c:List Call)(r:Int×Int×Int):Prop:=
 (r.1=1∧∃i:Nat,xb c i∧r.2=((i:Int),0))∨
 ((∀i,¬xb c i)∧((r.1=3∧∃i j:Nat,Early c i j∧r.2=((i:Int),(j:Int)))∨
 ((∀i j,¬Early c i j)∧((r.1=4∧VI c r.2.1 r.2.2)∨
 ((∀a b,¬VI c a b)∧((r.1=5∧XE c r.2.1 r.2.2)∨((∀a b,¬XE c a b)∧r=(0,0,0))))))))
theorem Kd.good{r:Int×Int×Int}(h:Kd c r):r.1=0↔Good c:=by
 rcases h with⟨h,i,hi,_⟩|⟨n1,h⟩
 ·rw[h]
  exact⟨fun e=>(by cases e),fun G=>(hi.2.2 (G.ahz i hi.1 hi.2.1)).elim⟩
 rcases h with⟨h,i,j,hi,_⟩|⟨n2,h⟩
 ·rw[h]
  exact⟨fun e=>(by cases e),fun G=>(G.early i j hi.1 hi.2.1 hi.2.2.1 hi.2.2.2.1 hi.2.2.2.2.1 hi.2.2.2.2.2).elim⟩
 rcases h with⟨h,ht,_⟩|⟨n3,h⟩
 ·rw[h]
  obtain⟨a1,a2,a3,a4,a5,a6,a7,a8⟩:=ht
  exact⟨fun e=>(by cases e),fun G=>(G.ba _ _ a1 a2 a3 a4 a5 a6 ⟨a7,a8⟩).elim⟩
 rcases h with⟨h,ht,_⟩|⟨n4,h⟩
 ·rw[h]
  obtain⟨a1,a2,a3,a4,a5,a6,a7,a8⟩:=ht
  exact⟨fun e=>(by cases e),fun G=>(G.ba _ _ a1 a2 a3 a4 a5 a6 ⟨a7,a8⟩).elim⟩
 ·rw[h]
  refine⟨fun _=>⟨fun i h1 h2=>Classical.byContradiction fun h3=>n1 i ⟨h1,h2,h3⟩,fun i j h1 h2 h3 h4 h5 h6=>n2 i j ⟨h1,h2,h3,h4,h5,h6⟩,fun a b h1 h2 h3 h4 h5 h6 h7=>?_⟩,fun _=>rfl⟩
  by_cases hb:Ah c b b
  ·exact n3 a b ⟨⟨h1,h2,h3,h4,h5,h6,h7.1,h7.2⟩,hb⟩
  ·exact n4 a b ⟨⟨h1,h2,h3,h4,h5,h6,h7.1,h7.2⟩,hb⟩
theorem EA{N:Nat}{K:List ag}(hN:K.length < N)(hK:K.length≤1000)(x:Call):Wp (fc N K x) fun r=>(r= -1∧∀y∈K,y.value≠x.res)∨∃p:Nat,r=p∧p < K.length∧(K.getD p ag.z).value=x.res:=by
 unfold fc
 refine .elim (P:=fun t=>match t with| .inl _=>∀y∈K,y.value≠x.res| .inr r=>∃p:Nat,r=p∧p < K.length∧(K.getD p ag.z).value=x.res) (.iter K.length (fun k v=>v=(k:Int)∧∀j,j < k→(K.getD j ag.z).value≠x.res) hN ⟨rfl,fun j h=>absurd h (Nat.not_lt_zero _)⟩ ?_ ?_) (fun _ _ h=> .one (.inl ⟨rfl,h⟩)) (fun r _ h=> .one (.inr h))
 ·rintro k v hk ⟨rfl,h⟩
  simp only[gb]
  refine .bg (decide_eq_true (by omega)) (.fL ag.z (by omega) (by omega) (.bD (a:=()) rfl ?_))
  simp only[Int.toNat_natCast]
  refine .cond (fun h2=> .one ⟨k,rfl,hk,of_decide_eq_true h2⟩) fun h2=> .bK (by omega) (.one ⟨by simp,fun j hj=>?_⟩)
  rcases Nat.lt_or_ge j k with h3|h3
  ·exact h j h3
  ·obtain rfl:j=k:=by omega
   exact of_decide_eq_false h2
 ·rintro v ⟨rfl,h⟩
  simp only[gb]
  refine .aL (decide_eq_false (by omega)) (.one fun y hy=>?_)
  obtain⟨i,hi,rfl⟩:=List.getElem_of_mem hy
  have:=h i hi
  rwa[aW hi]at this
theorem ZR{N:Nat}(hN:300 < N)(W:Wc c)(D:vu c)(C:p6 c K):Wp (rh N c K) fun r=>(r.1=1∧∃i:Nat,xb c i∧r.2=((i:Int),0))∨((∀i,¬xb c i)∧((r.1=3∧∃i j:Nat,Early c i j∧r.2=((i:Int),(j:Int)))∨((∀i j,¬Early c i j)∧r=(0,0,0)))):=by
 have afV:=W.pW
 have hKl:=C.len
 unfold rh
 refine .elim (P:=fun t=>match t with| .inl r=>(∀i,¬xb c i)∧((r.1=3∧∃i j:Nat,Early c i j∧r.2=((i:Int),(j:Int)))∨((∀i j,¬Early c i j)∧r=(0,0,0)))| .inr r=>r.1=1∧∃i:Nat,xb c i∧r.2=((i:Int),0))
  (.iter c.length (fun k st=>(∀i,i < k→¬xb c i)∧((st.1=3∧∃i j:Nat,Early c i j∧st.2.1=(i:Int)∧st.2.2.1=(j:Int))∨((∀i j,i < k→¬Early c i j)∧st.1=0∧st.2.1=0∧st.2.2.1=0))∧st.2.2.2=(k:Int)) (by omega) ⟨fun i h=>absurd h (Nat.not_lt_zero _),.inr ⟨fun i j h=>absurd h (Nat.not_lt_zero _),rfl,rfl,rfl⟩,rfl⟩ ?_ ?_) (fun r _ h=> .one (.inr h)) (fun r _ h=> .one (.inl h))
 ·rintro k ⟨kd,a,b,v⟩ hk ⟨h1,h2,hv⟩
  dsimp only at h1 h2 hv
  subst hv
  simp only[yp]
  refine .bg (decide_eq_true (by omega)) (.fL Call.z (by omega) (by omega) ?_)
  simp only[Int.toNat_natCast]
  have hb:((!decide ((c.getD k Call.z).kind=2))||decide ((c.getD k Call.z).aY= -1))= !kt (c.getD k Call.z):=by
   unfold kt;rw[Bool.not_and,Bool.not_not]
  rw[hb]
  have s1:(¬xb c k)→∀i,i < k+1→¬xb c i:=fun h i hi=>by
   rcases Nat.lt_or_ge i k with h3|h3
   ·exact h1 i h3
   ·obtain rfl:i=k:=by omega
    exact h
  have e1:(∀j,¬Early c k j)→(∀i j,i < k→¬Early c i j)→∀i j,i < k+1→¬Early c i j:=fun h g i j hi=>by
   rcases Nat.lt_or_ge i k with h3|h3
   ·exact g i j h3
   ·obtain rfl:i=k:=by omega
    exact h j
  cases hR:kt (c.getD k Call.z)with
  |false=>
   have n1: ¬xb c k:=fun h=>by rw[h.2.1]at hR;cases hR
   have n2: ∀j,¬Early c k j:=fun j h=>by rw[h.2.2.1]at hR;cases hR
   refine .bg rfl (.bK (by omega) (.one ⟨s1 n1,?_,by simp⟩))
   rcases h2 with h2|⟨g1,g2⟩
   ·exact .inl h2
   ·exact .inr ⟨e1 n2 g1,g2⟩
  |true=>
   refine .aL rfl (.seq (EA (by omega) (by omega) _) fun r _ hr=>?_)
   rcases hr with⟨rfl,hr⟩|⟨p,rfl,hp,hpv⟩
   ·refine .bg (by decide) (.one ⟨rfl,k,⟨hk,hR,fun hval=>?_⟩,rfl⟩)
    obtain⟨y,hy,e⟩:=Rd C hval
    exact hr y hy e
   ·refine .aL (decide_eq_false (by omega)) ?_
    have hy:K.getD p ag.z∈K:=by rw[aW hp];exact List.getElem_mem hp
    have n1: ¬xb c k:=fun h=>h.2.2 (by rw[←hpv];exact Re C hy)
    obtain⟨z,_,e1v,e2,e3,_,_,_,_,_,hz⟩:=src C hy
    have hto:=W.tO k hk (jm.1 hR).2
    have hfr:=W.fr k hk
    have hE:((c.getD k Call.z).aY < (K.getD p ag.z).from_→∃j:Nat,(K.getD p ag.z).write=(j:Int)∧Early c k j)∧(¬(c.getD k Call.z).aY < (K.getD p ag.z).from_→∀j,¬Early c k j):=by
     rw[e2,e3]
     rw[e1v]at hpv
     rcases hz with rfl|⟨j,a2,b2,rfl⟩
     ·refine⟨fun h=>?_,fun _ j hj=>?_⟩
      ·have h:(c.getD k Call.z).aY < -1:=h
       omega
      ·have hpv:(0:Int)=(c.getD k Call.z).res:=hpv
       have:=W.pos j hj.2.1 hj.2.2.2.1
       have:=hj.2.2.2.2.1
       omega
     ·have hpv:(c.getD j Call.z).arg=(c.getD k Call.z).res:=hpv
      refine⟨fun h=>⟨j,rfl,hk,a2,hR,b2,hpv,h⟩,fun h q hq=>?_⟩
      have:q=j:=yA D hq.2.1 a2 hq.2.2.2.1 b2 (hq.2.2.2.2.1.trans hpv.symm)
      subst this
      exact h hq.2.2.2.2.2
    rcases h2 with⟨g1,g2⟩|⟨g1,g2,g3,g4⟩
    ·have rN:decide (kd=0)=false:=decide_eq_false (by omega)
     rw[rN]
     refine .bD (a:=ag.z) rfl (.aL rfl (.bK (by omega) (.one ⟨s1 n1,.inl ⟨g1,g2⟩,by simp⟩)))
    ·have rN:decide (kd=0)=true:=decide_eq_true g2
     rw[rN]
     refine .bD (a:=K.getD p ag.z) (by rw[show((true==true))=true from rfl,cond_true,El hp,aW hp]) ?_
     by_cases hl:(c.getD k Call.z).aY < (K.getD p ag.z).from_
     ·obtain⟨j,q1,q2⟩:=hE.1 hl
      refine .bg (by rw[decide_eq_true hl];rfl) (.bD (a:=K.getD p ag.z) (by rw[El hp,aW hp]) (.bK (by omega) (.one ⟨s1 n1,.inl ⟨rfl,k,j,q2,rfl,q1⟩,by simp⟩)))
     ·refine .aL (by rw[decide_eq_false hl];rfl) (.bK (by omega) (.one ⟨s1 n1,.inr ⟨e1 (hE.2 hl) g1,g2,g3,g4⟩,by simp⟩))
 ·rintro⟨kd,a,b,v⟩ ⟨h1,h2,hv⟩
  dsimp only at h1 h2 hv
  subst hv
  simp only[yp]
  refine .aL (decide_eq_false (by omega)) (.one ⟨fun i h=>h1 i h.1 h,?_⟩)
  rcases h2 with⟨g1,i,j,g2,g3,g4⟩|⟨g1,g2,g3,g4⟩
  ·exact .inl ⟨g1,i,j,g2,Prod.ext g3 g4⟩
  ·exact .inr ⟨fun i j h=>g1 i j h.1 h,Prod.ext g2 (Prod.ext g3 g4)⟩
def meet(a b:bv):Prop:=a.first < b.last∧b.first < a.last
theorem ZS{N:Nat}{z:List bv}(hN:z.length < N)(hz:z.length≤1000):Wp (pq N z) fun r=>(∃i j,i < j∧j < z.length∧(z.getD i bv.z).forward=true∧(z.getD j bv.z).forward=true∧meet (z.getD i bv.z) (z.getD j bv.z)∧r=(4,(z.getD i bv.z).value,(z.getD j bv.z).value))∨
  ((∀i j,i < j→j < z.length→(z.getD i bv.z).forward=true→(z.getD j bv.z).forward=true→¬meet (z.getD i bv.z) (z.getD j bv.z))∧((∃i j,i < z.length∧j < z.length∧(z.getD i bv.z).forward=true∧(z.getD j bv.z).forward=false∧meet (z.getD i bv.z) (z.getD j bv.z)∧r=(5,(z.getD i bv.z).value,(z.getD j bv.z).value))∨
   ((∀i j,i < z.length→j < z.length→(z.getD i bv.z).forward=true→(z.getD j bv.z).forward=false→¬meet (z.getD i bv.z) (z.getD j bv.z))∧r=(0,0,0)))):=by
 have acS: ∀i j,(z.drop i).getD j bv.z=z.getD (i+j) bv.z:=fun i j=>by
  rw[List.getD_eq_getElem?_getD,List.getD_eq_getElem?_getD,List.getElem?_drop]
 unfold pq
 refine .elim (P:=fun t=>match t with| .inl _=>∀i j,i < j→j < z.length→(z.getD i bv.z).forward=true→(z.getD j bv.z).forward=true→¬meet (z.getD i bv.z) (z.getD j bv.z)| .inr r=>∃i j,i < j∧j < z.length∧(z.getD i bv.z).forward=true∧(z.getD j bv.z).forward=true∧meet (z.getD i bv.z) (z.getD j bv.z)∧r=(4,(z.getD i bv.z).value,(z.getD j bv.z).value))
  (.iter z.length (fun k v=>v=(k:Int)∧∀i j,i < k→i < j→j < z.length→(z.getD i bv.z).forward=true→(z.getD j bv.z).forward=true→¬meet (z.getD i bv.z) (z.getD j bv.z)) hN ⟨rfl,fun i j h=>absurd h (Nat.not_lt_zero _)⟩ ?_ ?_) (fun _ _ hno=>?_) (fun r _ h=> .one (.inl h))
 ·rintro k v hk ⟨rfl,h⟩
  simp only[wQ]
  refine .bg (decide_eq_true (by omega)) ?_
  refine .elim (P:=fun t=>match t with| .inl _=>∀j,k < j→j < z.length→(z.getD k bv.z).forward=true→(z.getD j bv.z).forward=true→¬meet (z.getD k bv.z) (z.getD j bv.z)| .inr r=>∃i j,i < j∧j < z.length∧(z.getD i bv.z).forward=true∧(z.getD j bv.z).forward=true∧meet (z.getD i bv.z) (z.getD j bv.z)∧r=(4,(z.getD i bv.z).value,(z.getD j bv.z).value)) (.fL bv.z (by omega) (by omega) (.bK (by omega) (.ck (by simp[pB];omega) ?_))) (fun _ _ h2=> .bK (by omega) (.one ⟨by simp,fun i j hi hij hj f1 f2=>?_⟩)) (fun r _ h2=> .one h2)
  ·simp only[Int.toNat_natCast]
   have hdl:(z.drop (k+1)).length=z.length - (k+1):=List.length_drop
   refine .iter (z.length - (k+1)) (fun q v=>v=(q:Int)∧∀j,k < j→j < k+1+q→(z.getD k bv.z).forward=true→(z.getD j bv.z).forward=true→¬meet (z.getD k bv.z) (z.getD j bv.z)) (by omega) ⟨rfl,fun j h1 h2=>by omega⟩ ?_ ?_
   ·rintro q v hq ⟨rfl,h2⟩
    simp only[wO]
    rw[show((k:Int)+1).toNat=k+1 by omega]
    refine .bg (decide_eq_true (by omega)) (.fL bv.z (by omega) (by omega) ?_)
    simp only[Int.toNat_natCast,acS]
    refine .seq (P:=fun b=>b=true↔(z.getD k bv.z).forward=true∧(z.getD (k+1+q) bv.z).forward=true∧meet (z.getD k bv.z) (z.getD (k+1+q) bv.z)) (.cond (fun hf=> .bD (a:=()) rfl (.one ?_)) fun hf=> .one ?_) fun b _ hb=> .cond (fun h3=> .one ?_) fun h3=> .bK (by omega) (.one ⟨by simp,fun j h4 h5 f1 f2=>?_⟩)
    ·unfold meet;simp only[Bool.and_eq_true,decide_eq_true_eq]
     exact⟨fun⟨⟨a,b⟩,d⟩=>⟨a,b,d⟩,fun⟨a,b,d⟩=>⟨⟨a,b⟩,d⟩⟩
    ·have hf:((z.getD k bv.z).forward&&(z.getD (k+1+q) bv.z).forward)=false:=by simpa using hf
     rw[hf]
     refine⟨fun e=>(by cases e),fun⟨a,b,_⟩=>?_⟩
     rw[a,b]at hf;cases hf
    ·obtain⟨a,b,d⟩:=hb.1 h3
     exact⟨k,k+1+q,by omega,by omega,a,b,d,rfl⟩
    ·by_cases e:j=k+1+q
     ·subst e
      intro h6
      have:=hb.2 ⟨f1,f2,h6⟩
      rw[this]at h3;cases h3
     ·exact h2 j h4 (by omega) f1 f2
   ·rintro v ⟨rfl,h2⟩
    simp only[wO]
    rw[show((k:Int)+1).toNat=k+1 by omega]
    exact .aL (decide_eq_false (by omega)) (.one fun j h4 h5=>h2 j h4 (by omega))
  ·rcases Nat.lt_or_ge i k with h3|h3
   ·exact h i j h3 hij hj f1 f2
   ·obtain rfl:i=k:=by omega
    exact h2 j hij hj f1 f2
 ·rintro v ⟨rfl,h⟩
  simp only[wQ]
  exact .aL (decide_eq_false (by omega)) (.one fun i j hij hj=>h i j (by omega) hij hj)
 ·refine .elim (P:=fun t=>match t with| .inl _=>∀i j,i < z.length→j < z.length→(z.getD i bv.z).forward=true→(z.getD j bv.z).forward=false→¬meet (z.getD i bv.z) (z.getD j bv.z)| .inr r=>∃i j,i < z.length∧j < z.length∧(z.getD i bv.z).forward=true∧(z.getD j bv.z).forward=false∧meet (z.getD i bv.z) (z.getD j bv.z)∧r=(5,(z.getD i bv.z).value,(z.getD j bv.z).value))
   (.iter z.length (fun k v=>v=(k:Int)∧∀i j,i < k→j < z.length→(z.getD i bv.z).forward=true→(z.getD j bv.z).forward=false→¬meet (z.getD i bv.z) (z.getD j bv.z)) hN ⟨rfl,fun i j h=>absurd h (Nat.not_lt_zero _)⟩ ?_ ?_) (fun _ _ Y8=> .one (.inr ⟨hno,.inr ⟨Y8,rfl⟩⟩)) (fun r _ h=> .one (.inr ⟨hno,.inl h⟩))
  ·rintro k v hk ⟨rfl,h⟩
   simp only[wS]
   refine .bg (decide_eq_true (by omega)) ?_
   refine .elim (P:=fun t=>match t with| .inl _=>∀j,j < z.length→(z.getD k bv.z).forward=true→(z.getD j bv.z).forward=false→¬meet (z.getD k bv.z) (z.getD j bv.z)| .inr r=>∃i j,i < z.length∧j < z.length∧(z.getD i bv.z).forward=true∧(z.getD j bv.z).forward=false∧meet (z.getD i bv.z) (z.getD j bv.z)∧r=(5,(z.getD i bv.z).value,(z.getD j bv.z).value)) (.fL bv.z (by omega) (by omega) ?_) (fun _ _ h2=> .bK (by omega) (.one ⟨by simp,fun i j hi hj f1 f2=>?_⟩)) (fun r _ h2=> .one h2)
   ·simp only[Int.toNat_natCast]
    refine .iter z.length (fun q v=>v=(q:Int)∧∀j,j < q→(z.getD k bv.z).forward=true→(z.getD j bv.z).forward=false→¬meet (z.getD k bv.z) (z.getD j bv.z)) hN ⟨rfl,fun j h1=>absurd h1 (Nat.not_lt_zero _)⟩ ?_ ?_
    ·rintro q v hq ⟨rfl,h2⟩
     simp only[wR]
     refine .bg (decide_eq_true (by omega)) (.fL bv.z (by omega) (by omega) ?_)
     simp only[Int.toNat_natCast]
     refine .seq (P:=fun b=>b=true↔(z.getD k bv.z).forward=true∧(z.getD q bv.z).forward=false∧meet (z.getD k bv.z) (z.getD q bv.z)) (.cond (fun hf=> .bD (a:=()) rfl (.one ?_)) fun hf=> .one ?_) fun b _ hb=> .cond (fun h3=> .one ?_) fun h3=> .bK (by omega) (.one ⟨by simp,fun j h4 f1 f2=>?_⟩)
     ·unfold meet;simp only[Bool.and_eq_true,Bool.not_eq_true',decide_eq_true_eq]
      exact⟨fun⟨⟨a,b⟩,d⟩=>⟨a,b,d⟩,fun⟨a,b,d⟩=>⟨⟨a,b⟩,d⟩⟩
     ·have hf:((z.getD k bv.z).forward&& !(z.getD q bv.z).forward)=false:=by simpa using hf
      rw[hf]
      refine⟨fun e=>(by cases e),fun⟨a,b,_⟩=>?_⟩
      rw[a,b]at hf;cases hf
     ·obtain⟨a,b,d⟩:=hb.1 h3
      exact⟨k,q,hk,hq,a,b,d,rfl⟩
     ·by_cases e:j=q
      ·subst e
       intro h6
       have:=hb.2 ⟨f1,f2,h6⟩
       rw[this]at h3;cases h3
      ·exact h2 j (by omega) f1 f2
    ·rintro v ⟨rfl,h2⟩
     simp only[wR]
     exact .aL (decide_eq_false (by omega)) (.one h2)
   ·rcases Nat.lt_or_ge i k with h3|h3
    ·exact h i j h3 hj f1 f2
    ·obtain rfl:i=k:=by omega
     exact h2 j hj f1 f2
  ·rintro v ⟨rfl,h⟩
   simp only[wS]
   exact .aL (decide_eq_false (by omega)) (.one h)
theorem VJ{N:Nat}{K:List ag}(hN:K.length < N)(hK:K.length≤1000):ou N K=some ((K.filter (·.counts)).map (·.ba)):=by
 unfold ou
 refine Wp.eq (.seq (P:=fun r=>r=(K.filter (·.counts)).map (·.ba)) (.iter K.length (fun k st=>st=(((K.take k).filter (·.counts)).map (·.ba),(k:Int))) hN rfl ?_ ?_) fun r _ h=> .one h)
 ·rintro k st hk rfl
  simp only[vf]
  have htk:(K.take (k+1)).filter (·.counts)=(K.take k).filter (·.counts)++if K[k].counts then [K[k]]else []:=by
   rw[←List.take_append_getElem hk,List.filter_append]
   congr 1
   rw[List.filter_cons]
   cases K[k].counts<;>rfl
  have hfl:((K.take k).filter (·.counts)).length≤k:=Nat.le_trans (List.length_filter_le _ _) (by rw[List.length_take];omega)
  refine .bg (decide_eq_true (by omega)) (.ix hk (.cond (fun h=> .ck (eT ⟨?_,?_⟩) (.bK (by omega) (.one ?_))) fun h=> .bK (by omega) (.one ?_)))
  ·simp only[List.length_map,List.length_singleton];exact Nat.le_trans (m:=2000) (by omega) (by decide)
  ·simp only[List.length_map,List.length_singleton];omega
  ·show(_,_)=(_,_)
   rw[htk,if_pos h];simp
  ·show(_,_)=(_,_)
   rw[htk,if_neg (by rw[h];decide)];simp
 ·rintro st rfl
  simp only[vf]
  exact .aL (decide_eq_false (by omega)) (.one (by rw[List.take_length]))
theorem ahA{N:Nat}(hN:300 < N)(W:Wc c)(D:vu c):Wp (bd (lA N c) fun jw=>bd (rh N c jw) fun oD=>bd (α:=(Int×Int×Int)) (cond (decide (oD.1=0)) (bd (ou N jw) fun xu=>bd (pq N xu) fun fZ=>some (fZ.1,fZ.2.1,fZ.2.2)) (some (oD.1,oD.2.1,oD.2.2))) fun r=>some r) (Kd c):=by
 have afV:=W.pW
 refine .seq (XD hN afV D W.pos) fun K _ C=> .seq (ZR hN W D C) fun r _ hr=>?_
 have hKl:=C.len
 rcases hr with⟨h1,h2⟩|⟨n1,⟨h1,h2⟩|⟨n2,rfl⟩⟩
 ·refine .bD (a:=r) (by rw[decide_eq_false (by omega)];rfl) (.one (.inl ⟨h1,h2⟩))
 ·refine .bD (a:=r) (by rw[decide_eq_false (by omega)];rfl) (.one (.inr ⟨n1,.inl ⟨h1,h2⟩⟩))
 obtain⟨z,hz⟩: ∃z,z=(K.filter (·.counts)).map (·.ba):=⟨_,rfl⟩
 have hzl:z.length≤K.length:=by rw[hz,List.length_map];exact List.length_filter_le _ _
 have hat: ∀i,i < z.length→∃y,y∈K∧y.counts=true∧z.getD i bv.z=y.ba:=fun i hi=>by
  have:z.getD i bv.z∈z:=by rw[aW hi];exact List.getElem_mem hi
  rw[hz]at this
  obtain⟨y,hy,e⟩:=List.mem_map.1 this
  obtain⟨a,b⟩:=List.mem_filter.1 hy
  exact⟨y,a,b,by rw[hz];exact e.symm⟩
 have hin: ∀y,y∈K→y.counts=true→∃i,i < z.length∧z.getD i bv.z=y.ba:=fun y hy hc=>by
  have:y.ba∈z:=by rw[hz];exact List.mem_map_of_mem (List.mem_filter.2 ⟨hy,hc⟩)
  obtain⟨i,hi,e⟩:=List.getElem_of_mem this
  exact⟨i,hi,by rw[aW hi];exact e⟩
 have hnd:(z.map (·.value)).Nodup:=by
  rw[hz,List.map_map]
  have e:(K.filter (·.counts)).map ((·.value)∘(·.ba))=(K.filter (·.counts)).map (·.value):=List.map_congr_left fun y hy=>by
   obtain⟨_,_,_,_,_,e,_⟩:=src C (List.mem_filter.1 hy).1
   exact e
  rw[e]
  exact C.Xe.sublist (List.filter_sublist.map _)
 have hval: ∀y,y∈K→y.ba.value=y.value:=fun y hy=>by
  obtain⟨_,_,_,_,_,e,_⟩:=src C hy
  exact e
 have hfw: ∀y,y∈K→(y.ba.forward=true↔Ah c y.value y.value):=fun y hy=>by
  obtain⟨_,_,_,_,_,_,_,_,e,_⟩:=src C hy
  rw[e,decide_eq_true_eq]
  exact Rg W D C hy hy
 have ajP: ∀i j,i < z.length→j < z.length→i≠j→(z.getD i bv.z).value≠(z.getD j bv.z).value:=fun i j hi hj hne e=>by
  refine hne ?_
  have hp:=List.pairwise_iff_getElem.1 hnd
  rcases Nat.lt_trichotomy i j with h|h|h
  ·have:=hp i j (by simpa using hi) (by simpa using hj) h
   rw[List.getElem_map,List.getElem_map]at this
   rw[aW hi,aW hj]at e
   exact(this e).elim
  ·exact h
  ·have:=hp j i (by simpa using hj) (by simpa using hi) h
   rw[List.getElem_map,List.getElem_map]at this
   rw[aW hi,aW hj]at e
   exact(this e.symm).elim
 have aa4: ∀x y,x∈K→y∈K→(meet x.ba y.ba↔Ah c x.value y.value∧Ah c y.value x.value):=fun x y hx hy=>by
  unfold meet
  rw[Rg W D C hx hy,Rg W D C hy hx]
 have key:Wp (pq N z) fun r=>Kd c r:=by
  refine(ZS (by omega) (by omega)).mono fun r hr=>?_
  refine .inr ⟨n1,.inr ⟨n2,?_⟩⟩
  have mk: ∀i j,i < z.length→j < z.length→i≠j→(z.getD i bv.z).forward=true→meet (z.getD i bv.z) (z.getD j bv.z)→VH c (z.getD i bv.z).value (z.getD j bv.z).value∧((z.getD j bv.z).forward=true↔Ah c (z.getD j bv.z).value (z.getD j bv.z).value):=by
   intro i j hi hj hne f1 hm
   have hd:=ajP i j hi hj hne
   obtain⟨x,a1,a2,a3⟩:=hat i hi
   obtain⟨y,b1,b2,b3⟩:=hat j hj
   rw[a3]at f1 hm hd⊢
   rw[b3]at hm hd⊢
   rw[hval x a1,hval y b1]at hd⊢
   have:=(aa4 x y a1 b1).1 hm
   exact⟨⟨hd,Re C a1,Re C b1,(HT W D C a1).1 a2,(HT W D C b1).1 b2,(hfw x a1).1 f1,this.1,this.2⟩,hfw y b1⟩
  have back: ∀a b,VH c a b→∃i j,i < z.length∧j < z.length∧i≠j∧(z.getD i bv.z).value=a∧(z.getD j bv.z).value=b∧(z.getD i bv.z).forward=true∧meet (z.getD i bv.z) (z.getD j bv.z)∧((z.getD j bv.z).forward=true↔Ah c b b):=by
   rintro a b ⟨h1,h2,h3,h4,h5,h6,h7,h8⟩
   obtain⟨x,x1,rfl⟩:=Rd C h2
   obtain⟨y,y1,rfl⟩:=Rd C h3
   obtain⟨i,i1,i2⟩:=hin x x1 ((HT W D C x1).2 h4)
   obtain⟨j,j1,j2⟩:=hin y y1 ((HT W D C y1).2 h5)
   refine⟨i,j,i1,j1,fun e=>h1 ?_,?_,?_,?_,?_,?_⟩
   ·subst e
    rw[i2]at j2
    rw[←hval x x1,←hval y y1,j2]
   ·rw[i2];exact hval x x1
   ·rw[j2];exact hval y y1
   ·rw[i2];exact(hfw x x1).2 h6
   ·rw[i2,j2];exact(aa4 x y x1 y1).2 ⟨h7,h8⟩
   ·rw[j2];exact hfw y y1
  rcases hr with⟨i,j,hij,hj,f1,f2,hm,rfl⟩|⟨n3,hr⟩
  ·obtain⟨t1,t2⟩:=mk i j (by omega) hj (by omega) f1 hm
   exact .inl ⟨rfl,t1,t2.1 f2⟩
  have m3: ∀a b,¬VI c a b:=by
   rintro a b ⟨t,hb⟩
   obtain⟨i,j,i1,j1,hne,e1,e2,f1,hm,f2⟩:=back a b t
   have f2:=f2.2 hb
   rcases Nat.lt_or_ge i j with h|h
   ·exact n3 i j h j1 f1 f2 hm
   ·exact n3 j i (by omega) i1 f2 f1 ⟨hm.2,hm.1⟩
  refine .inr ⟨m3,?_⟩
  rcases hr with⟨i,j,hi,hj,f1,f2,hm,rfl⟩|⟨n4,rfl⟩
  ·obtain⟨t1,t2⟩:=mk i j hi hj (fun e=>by subst e;rw[f1]at f2;cases f2) f1 hm
   exact .inl ⟨rfl,t1,fun h=>by rw[t2.2 h]at f2;cases f2⟩
  ·refine .inr ⟨fun a b ⟨t,hb⟩=>?_,rfl⟩
   obtain⟨i,j,i1,j1,hne,e1,e2,f1,hm,f2⟩:=back a b t
   refine n4 i j i1 j1 f1 ?_ hm
   cases h:(z.getD j bv.z).forward with
   |false=>rfl
   |true=>exact(hb (f2.1 h)).elim
 obtain⟨r,za,hr2⟩:=key
 refine .bD (a:=r) ?_ (.one hr2)
 rw[decide_eq_true rfl,cond_true,VJ (by omega) (by omega),bZ,←hz,za]
 rfl
end
theorem aa5{N:Nat}{l:List Event}{c:List Call}{op:List Int}(hl:l.length≤200)(R:ex N [1] l l.length c op):Wc c:=by
 have W:=R.wf
 have:=W.len
 refine⟨by omega,fun i hi=>?_,fun i hi h=>?_,fun i hi h=>?_⟩
 ·have:=(W.one i hi).fr;omega
 ·rcases(W.one i hi).tO with⟨h2,_⟩|h2
  ·exact(h h2).elim
  ·omega
 ·have h2:=(Sr.w_ R i hi).1
  rw[h]at h2
  exact(Sr.T6 h2).1
theorem vV{N:Nat}(hN:300 < N)(l:List Event):Wp (jL N l) fun r=>(r.2.2.2.2≠0∧r.1=false∧r.2.1=0∧r.2.2.1=0∧r.2.2.2.1=0)∨
  (r.2.2.2.2=0∧co N [1]=some 0∧l.length≤200∧∃c op,ex N [1] l l.length c op∧vu c∧r.1=decide (r.2.1=0)∧Kd c (r.2.1,r.2.2.1,r.2.2.2.1)):=by
 obtain⟨⟨c,e,er⟩,hc,h⟩:=sG (types:=[1]) (l:=l) hN
 have hlen:er=0→c.length≤200:=fun h0=>by
  obtain⟨_,_,h2,_,op,R⟩:=h h0
  have:c.length≤l.length:=R.wf.len
  omega
 unfold jL
 refine .seq (XC hN l hc hlen) fun r _ hr=>?_
 rcases hr with⟨h1,_⟩|⟨h1,h0,rfl,D⟩
 ·exact .bg (by simpa using h1) (.one (.inl ⟨h1,rfl,rfl,rfl,rfl⟩))
 ·obtain⟨ht,_,hl,_,op,R⟩:=h h0
  refine .aL (by simpa using h1) ?_
  obtain⟨q,hq1,TZ⟩:=ahA hN (aa5 hl R) D
  have split: ∀(m:Option (List ag)) (f:List ag→Option (Int×Int×Int)) (g:List ag→Option (Int×Int×Int)) (k:Int×Int×Int→Option (Int×Int×Int)),True:=fun _ _ _ _=>trivial
  cases hcl:lA N r.1 with
  |none=>rw[hcl]at hq1;cases hq1
  |some K=>
   rw[hcl,bZ]at hq1
   refine .bD rfl ?_
   cases hrd:rh N r.1 K with
   |none=>rw[hrd]at hq1;cases hq1
   |some t=>
    rw[hrd,bZ]at hq1
    refine .bD rfl (.seq (P:=fun v=>v=q) ?_ fun v _ hv=>?_)
    ·generalize (bif decide (t.1=0)then bd (ou N K) fun xu=>bd (pq N xu) fun fZ=>some (fZ.1,fZ.2.1,fZ.2.2)else some (t.1,t.2.1,t.2.2))=m at hq1⊢
     cases m with
     |none=>cases hq1
     |some v=>exact⟨v,rfl,Option.some.inj hq1⟩
    ·subst hv
     obtain⟨k1,k2,k3⟩:=v
     exact .one (.inr ⟨rfl,ht,hl,r.1,op,R,D,rfl,TZ⟩)
end Zo
end Go.Proofs.YtjdkkabcenohcaaGreatDoor
