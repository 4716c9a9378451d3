/- Zones, plainly. -/
import Derived.Test.YtjdkkabcenohcaaGreatDoorP2
import Derived.Test.YtjdkkabcenohcaaGreatDoorV4
set_option linter.unusedVariables false
set_option linter.unusedSimpArgs false
set_option linter.unusedSectionVars false
set_option maxRecDepth 100000
namespace Go.Proofs.YtjdkkabcenohcaaGreatDoor
open Go.RowKit
namespace Zo
open Hs
def ep(x:Call):Bool:=decide (x.kind=2)&& !decide (x.au= -1)
def xu:aa:=⟨0,-1,-1,[],⟨0,-1,-1,false⟩,false⟩
def zx(x:Call)(i:Int):aa:=⟨x.arg,i,x.from_,[],⟨x.arg,if x.au= -1 then 200 else x.au,x.from_,false⟩,!decide (x.au= -1)⟩
def cls(c:List Call):Nat→List aa
 |0=>[xu]
 |k+1=>if(c.getD k Call.z).kind=1 then cls c k++[zx (c.getD k Call.z) (k:Int)]else cls c k
def oB(z:aa)(x:Call)(i:Int):aa:=
 if ep x=true∧x.res=z.value then⟨z.value,z.write,z.from_,z.reads++[i],⟨z.aq.value,min z.aq.first x.au,max z.aq.last x.from_,z.aq.forward⟩,true⟩else z
def il(c:List Call)(z:aa):Nat→aa
 |0=>z
 |k+1=>oB (il c z k) (c.getD k Call.z) (k:Int)
def fwd(z:aa):aa:=⟨z.value,z.write,z.from_,z.reads,⟨z.aq.value,z.aq.first,z.aq.last,decide (z.aq.first < z.aq.last)⟩,z.counts⟩
def fin(c:List Call)(z:aa):aa:=fwd (il c z c.length)
theorem yS(c:List Call): ∀k,(cls c k).length≤k+1
 |0=>Nat.le_refl _
 |k+1=>by
  have:=yS c k
  unfold cls
  split
  ·rw[List.length_append,List.length_singleton];omega
  ·omega
theorem jg{c:List Call}{z:aa}: ∀{k:Nat},z∈cls c k↔z=xu∨∃i,i < k∧(c.getD i Call.z).kind=1∧z=zx (c.getD i Call.z) (i:Int)
 |0=>by
  unfold cls
  rw[List.mem_singleton]
  exact⟨.inl,fun h=>h.elim id fun⟨i,h,_⟩=>absurd h (Nat.not_lt_zero _)⟩
 |k+1=>by
  unfold cls
  constructor
  ·intro h
   split at h
   ·rename_i hk
    rcases List.mem_append.1 h with h|h
    ·rcases jg.1 h with h|⟨i,h1,h2⟩
     ·exact .inl h
     ·exact .inr ⟨i,by omega,h2⟩
    ·exact .inr ⟨k,by omega,hk,List.mem_singleton.1 h⟩
   ·rcases jg.1 h with h|⟨i,h1,h2⟩
    ·exact .inl h
    ·exact .inr ⟨i,by omega,h2⟩
  ·intro h
   have old:z=xu∨(∃i,i < k∧(c.getD i Call.z).kind=1∧z=zx (c.getD i Call.z) (i:Int))∨((c.getD k Call.z).kind=1∧z=zx (c.getD k Call.z) (k:Int)):=by
    rcases h with h|⟨i,h1,h2⟩
    ·exact .inl h
    ·rcases Nat.lt_or_ge i k with h3|h3
     ·exact .inr (.inl ⟨i,h3,h2⟩)
     ·obtain rfl:i=k:=by omega
      exact .inr (.inr h2)
   rcases old with h|h|⟨h1,h2⟩
   ·split
    ·exact List.mem_append.2 (.inl (jg.2 (.inl h)))
    ·exact jg.2 (.inl h)
   ·split
    ·exact List.mem_append.2 (.inl (jg.2 (.inr h)))
    ·exact jg.2 (.inr h)
   ·rw[if_pos h1]
    exact List.mem_append.2 (.inr (List.mem_singleton.2 h2))
theorem UX(z:aa)(x:Call)(i:Int):(oB z x i).value=z.value∧(oB z x i).write=z.write∧(oB z x i).from_=z.from_∧(oB z x i).aq.value=z.aq.value∧(oB z x i).reads.length≤z.reads.length+1:=by
 unfold oB
 split
 ·exact⟨rfl,rfl,rfl,rfl,by simp⟩
 ·exact⟨rfl,rfl,rfl,rfl,by omega⟩
theorem xv(c:List Call)(z:aa): ∀k,(il c z k).value=z.value∧(il c z k).write=z.write∧(il c z k).from_=z.from_∧(il c z k).aq.value=z.aq.value∧(il c z k).reads.length≤z.reads.length+k
 |0=>⟨rfl,rfl,rfl,rfl,Nat.le_refl _⟩
 |k+1=>by
  obtain⟨h1,h2,h3,h4,h5⟩:=xv c z k
  obtain⟨g1,g2,g3,g4,g5⟩:=UX (il c z k) (c.getD k Call.z) (k:Int)
  exact⟨g1.trans h1,g2.trans h2,g3.trans h3,g4.trans h4,by show(oB _ _ _).reads.length≤_;omega⟩
structure Zn(c:List Call)(z:aa)(k:Nat)(y:aa):Prop where
 cnt:y.counts=true↔z.counts=true∨∃i,i < k∧ep (c.getD i Call.z)=true∧(c.getD i Call.z).res=z.value
 Gj:y.aq.first≤z.aq.first∧∀i,i < k→ep (c.getD i Call.z)=true→(c.getD i Call.z).res=z.value→y.aq.first≤(c.getD i Call.z).au
 Pe:y.aq.first=z.aq.first∨∃i,i < k∧ep (c.getD i Call.z)=true∧(c.getD i Call.z).res=z.value∧y.aq.first=(c.getD i Call.z).au
 Ic:z.aq.last≤y.aq.last∧∀i,i < k→ep (c.getD i Call.z)=true→(c.getD i Call.z).res=z.value→(c.getD i Call.z).from_≤y.aq.last
 UY:y.aq.last=z.aq.last∨∃i,i < k∧ep (c.getD i Call.z)=true∧(c.getD i Call.z).res=z.value∧y.aq.last=(c.getD i Call.z).from_
theorem Id(c:List Call)(z:aa): ∀k,Zn c z k (il c z k)
 |0=>⟨⟨.inl,fun h=>h.elim id fun⟨i,h,_⟩=>absurd h (Nat.not_lt_zero _)⟩,⟨Int.le_refl _,fun i h=>absurd h (Nat.not_lt_zero _)⟩,.inl rfl,⟨Int.le_refl _,fun i h=>absurd h (Nat.not_lt_zero _)⟩,.inl rfl⟩
 |k+1=>by
  have h:=Id c z k
  have hv:=(xv c z k).1
  show Zn c z (k+1) (oB (il c z k) (c.getD k Call.z) (k:Int))
  generalize il c z k=y at h hv⊢
  unfold oB
  rw[hv]
  by_cases hr:ep (c.getD k Call.z)=true∧(c.getD k Call.z).res=z.value
  ·rw[if_pos hr]
   obtain⟨sP,hr2⟩:=hr
   refine⟨⟨fun _=> .inr ⟨k,by omega,sP,hr2⟩,fun _=>rfl⟩,⟨?_,fun i hi h1 h2=>?_⟩,?_,⟨?_,fun i hi h1 h2=>?_⟩,?_⟩
   ·have:=h.Gj.1;simp only;omega
   ·simp only
    rcases Nat.lt_or_ge i k with h3|h3
    ·have:=h.Gj.2 i h3 h1 h2;omega
    ·obtain rfl:i=k:=by omega
     omega
   ·simp only
    rcases Int.le_total y.aq.first (c.getD k Call.z).au with h3|h3
    ·rw[Int.min_eq_left h3]
     rcases h.Pe with h4|⟨i,h4,h5⟩
     ·exact .inl h4
     ·exact .inr ⟨i,by omega,h5⟩
    ·exact .inr ⟨k,by omega,sP,hr2,Int.min_eq_right h3⟩
   ·have:=h.Ic.1;simp only;omega
   ·simp only
    rcases Nat.lt_or_ge i k with h3|h3
    ·have:=h.Ic.2 i h3 h1 h2;omega
    ·obtain rfl:i=k:=by omega
     omega
   ·simp only
    rcases Int.le_total y.aq.last (c.getD k Call.z).from_ with h3|h3
    ·exact .inr ⟨k,by omega,sP,hr2,Int.max_eq_right h3⟩
    ·rw[Int.max_eq_left h3]
     rcases h.UY with h4|⟨i,h4,h5⟩
     ·exact .inl h4
     ·exact .inr ⟨i,by omega,h5⟩
  ·rw[if_neg hr]
   have no: ∀i,i < k+1→ep (c.getD i Call.z)=true→(c.getD i Call.z).res=z.value→i < k:=fun i hi h1 h2=>by
    rcases Nat.lt_or_ge i k with h3|h3
    ·exact h3
    ·obtain rfl:i=k:=by omega
     exact(hr ⟨h1,h2⟩).elim
   refine⟨h.cnt.trans ⟨fun g=>g.imp id fun⟨i,a,b⟩=>⟨i,by omega,b⟩,fun g=>g.imp id fun⟨i,a,b1,b2⟩=>⟨i,no i a b1 b2,b1,b2⟩⟩,⟨h.Gj.1,fun i hi h1 h2=>h.Gj.2 i (no i hi h1 h2) h1 h2⟩,h.Pe.imp id fun⟨i,a,b⟩=>⟨i,by omega,b⟩,⟨h.Ic.1,fun i hi h1 h2=>h.Ic.2 i (no i hi h1 h2) h1 h2⟩,h.UY.imp id fun⟨i,a,b⟩=>⟨i,by omega,b⟩⟩
def lV(c:List Call):Prop:=∀i j,i < j→j < c.length→(c.getD i Call.z).kind=1→(c.getD j Call.z).kind=1→(c.getD i Call.z).arg≠(c.getD j Call.z).arg
theorem iM{α:Type}(v:α)(k j:Int): ∀m:List (Int×α),cY (fM m k v) j=if k=j then some v else cY m j
 | []=>by
  unfold fM cY
  by_cases h:k=j
  ·rw[if_pos h,if_pos h]
  ·rw[if_neg h,if_neg h];rfl
 |(a,u)::r=>by
  unfold fM
  by_cases h:a=k
  ·subst h
   rw[if_pos rfl]
   unfold cY
   by_cases h2:a=j
   ·rw[if_pos h2,if_pos h2]
   ·rw[if_neg h2,if_neg h2]
    rw[if_neg h2]
  ·rw[if_neg h]
   unfold cY
   by_cases h2:a=j
   ·rw[if_pos h2,if_pos h2,if_neg (fun e=>h (h2.trans e.symm))]
   ·rw[if_neg h2,if_neg h2]
    exact iM v k j r
theorem Lw{N:Nat}(hN:300 < N)(l:List Event){c:List Call}{e er:Int}(hc:bk N [1] l=some (c,e,er))(hl:er=0→c.length≤200):Wp (lf N l) fun r=>(r.2≠0∧(r.2=er∨(er=0∧r.2=6∧¬lV c)))∨(r.2=0∧er=0∧r.1=c∧lV c):=by
 unfold lf
 refine .aZ hc (.cond (fun h=> .one (.inl ⟨by simpa using h,.inl rfl⟩)) fun h=>?_)
 have h0:er=0:=by simpa using h
 have hl:=hl h0
 refine .elim (P:=fun t=>match t with| .inl _=>lV c| .inr r=>¬lV c∧r=([],6)) (.iter c.length (fun k st=>(∀x,(cY st.1 x).getD false=true↔∃i,i < k∧(c.getD i Call.z).kind=1∧(c.getD i Call.z).arg=x)∧(∀i j,i < j→j < k→(c.getD i Call.z).kind=1→(c.getD j Call.z).kind=1→(c.getD i Call.z).arg≠(c.getD j Call.z).arg)∧st.2=(k:Int)) (by omega) ⟨fun x=>⟨fun h=>(nomatch h),fun⟨i,h,_⟩=>absurd h (Nat.not_lt_zero _)⟩,fun i j _ h=>absurd h (Nat.not_lt_zero _),rfl⟩ ?_ ?_) (fun _ _ h=> .one (.inr ⟨rfl,h0,rfl,h⟩)) (fun r _ h=> .one (.inl ⟨by rw[h.2];simp,.inr ⟨h0,by rw[h.2],h.1⟩⟩))
 ·rintro k ⟨m,v⟩ hk ⟨h1,h2,hv⟩
  dsimp only at h1 h2 hv
  subst hv
  simp only[mf]
  refine .aF (decide_eq_true (by show(k:Int) < c.length;omega)) (.cT Call.z (by omega) (by show(k:Int) < c.length;omega) ?_)
  simp only[Int.toNat_natCast]
  have ext: ∀(P:Nat→Prop),(∃i,i < k+1∧P i)↔(∃i,i < k∧P i)∨P k:=fun P=>by
   constructor
   ·rintro⟨i,a,b⟩
    rcases Nat.lt_or_ge i k with h|h
    ·exact .inl ⟨i,h,b⟩
    ·obtain rfl:i=k:=by omega
     exact .inr b
   ·rintro(⟨i,a,b⟩|b)
    ·exact⟨i,by omega,b⟩
    ·exact⟨k,by omega,b⟩
  refine .cond (fun hw=> .cond (fun hs=> .one ⟨fun D=>?_,rfl⟩) fun hs=> .aV (by omega) (.one ⟨fun x=>?_,fun i j hij hj k1 k2=>?_,by simp⟩)) fun hw=> .aV (by omega) (.one ⟨fun x=>?_,fun i j hij hj k1 k2=>?_,by simp⟩)
  ·obtain⟨i,a,b,d⟩:=(h1 _).1 hs
   exact D i k a hk b (of_decide_eq_true hw) d
  ·rw[ext]
   show(cY (fM m _ true) x).getD false=true↔_
   rw[iM]
   by_cases e:(c.getD k Call.z).arg=x
   ·rw[if_pos e]
    exact⟨fun _=> .inr ⟨of_decide_eq_true hw,e⟩,fun _=>rfl⟩
   ·rw[if_neg e,h1 x]
    exact⟨.inl,fun h=>h.elim id fun h=>(e h.2).elim⟩
  ·rcases Nat.lt_or_ge j k with h|h
   ·exact h2 i j hij h k1 k2
   ·obtain rfl:j=k:=by omega
    intro e
    have:=(h1 _).2 ⟨i,hij,k1,e⟩
    rw[this]at hs;cases hs
  ·have hw: ¬(c.getD k Call.z).kind=1:=of_decide_eq_false hw
   rw[ext,h1 x]
   exact⟨.inl,fun h=>h.elim id fun h=>(hw h.1).elim⟩
  ·have hw: ¬(c.getD k Call.z).kind=1:=of_decide_eq_false hw
   rcases Nat.lt_or_ge j k with h|h
   ·exact h2 i j hij h k1 k2
   ·obtain rfl:j=k:=by omega
    exact(hw k2).elim
 ·rintro⟨m,v⟩ ⟨h1,h2,hv⟩
  dsimp only at h1 h2 hv
  subst hv
  simp only[mf]
  exact .aw (decide_eq_false (by show ¬(c.length:Int) < c.length;omega)) (.one h2)
theorem sQ{α:Type}{l:List α}{i j:Nat}{v d:α}(h:i < l.length):(l.set i v).getD j d=if j=i then v else l.getD j d:=by
 simp only[List.getD_eq_getElem?_getD,List.getElem?_set,h,if_true]
 by_cases hj:i=j
 ·subst hj;simp
 ·rw[if_neg hj,if_neg (fun e=>hj e.symm)]
theorem ES{α:Type}{l:List α}{i:Nat}{v:α}{d:α}(h:i < l.length)(e:v=l.getD i d):l.set i v=l:=by
 subst e
 rw[aG h,List.set_getElem_self]
theorem qQ{α:Type}{l:List α}{i:Nat}{a:α}(h:i < l.length):ix (l.set i a) (i:Int)=some a:=by rw[AZ,List.getElem?_set_self h]
theorem Np{N:Nat}(hN:300 < N){c:List Call}(hc:c.length≤200){o:List aa}{i:Nat}(hi:i < o.length)(hr:(o.getD i aa.z).reads.length≤1000):iter (jm N c (i:Int)) N (o,0)=some (o.set i (il c (o.getD i aa.z) c.length)):=by
 refine Wp.eq (.iter c.length (fun k st=>st=(o.set i (il c (o.getD i aa.z) k),(k:Int))) (by omega) ?_ ?_ ?_)
 ·show(o,(0:Int))=(_,_)
  rw[show il c (o.getD i aa.z) 0=o.getD i aa.z from rfl,ES hi rfl];rfl
 ·rintro k st hk rfl
  simp only[jm]
  have hy:=xv c (o.getD i aa.z) k
  have hnext:il c (o.getD i aa.z) (k+1)=oB (il c (o.getD i aa.z) k) (c.getD k Call.z) (k:Int):=rfl
  rw[hnext]
  generalize il c (o.getD i aa.z) k=y at hy⊢
  refine .aF (decide_eq_true (by omega)) (.cT Call.z (by omega) (by omega) ?_)
  simp only[Int.toNat_natCast]
  obtain⟨x,hx0⟩: ∃x,c.getD k Call.z=x:=⟨_,rfl⟩
  simp only[hx0]
  have hx:ix (o.set i y) (i:Int)=some y:=qQ hi
  have hrd:(decide (x.kind=2)&& !decide (x.au= -1))=ep x:=rfl
  rw[hrd]
  cases hR:ep x with
  |false=>
   refine .aZ (a:=aa.z) rfl (.aw rfl (.aV (by omega) (.one ?_)))
   show(_,_)=(_,_)
   unfold oB
   rw[if_neg (by rw[hR];rintro⟨h,_⟩;cases h)]
   simp
  |true=>
   refine .aZ (a:=y) hx ?_
   by_cases he:x.res=y.value
   ·refine .aF (by rw[decide_eq_true he];rfl) (.aZ hx (.ck (cC ⟨?_,?_⟩) ?_))
    ·simp only[List.length_singleton];exact Nat.le_trans (m:=2000) (by omega) (by decide)
    ·simp only[List.length_singleton];omega
    refine .aZ hx ?_
    simp only[List.set_set,Int.toNat_natCast]
    refine .aZ (qQ hi) (.aZ (qQ hi) (.aZ (qQ hi) (.aZ (qQ hi) (.aZ (qQ hi) ?_))))
    refine .aV (by omega) (.one ?_)
    show(_,_)=(_,_)
    unfold oB
    rw[if_pos ⟨hR,he⟩]
    simp
   ·refine .aw (by rw[decide_eq_false he];rfl) (.aV (by omega) (.one ?_))
    show(_,_)=(_,_)
    unfold oB
    rw[if_neg (fun h=>he h.2)]
    simp
 ·rintro st rfl
  simp only[jm]
  exact .aw (decide_eq_false (by omega)) (.one rfl)
theorem Nq{α:Type}{l m:List α}{d:α}(hl:l.length=m.length)(h: ∀i,i < l.length→l.getD i d=m.getD i d):l=m:=by
 apply List.ext_getElem hl
 intro i h1 h2
 have:=h i h1
 rwa[aG h1,aG h2]at this
theorem G'{N:Nat}(hN:300 < N){c:List Call}(hc:c.length≤200):fY N c=bd (uI N ((cls c c.length).map (fin c))) fun r=>some r:=by
 unfold fY
 have h0:iter (gt N c) N ([xu],0)=some (cls c c.length):=by
  refine Wp.eq (.iter c.length (fun k st=>st=(cls c k,(k:Int))) (by omega) rfl ?_ ?_)
  ·rintro k st hk rfl
   simp only[gt]
   have hl:=yS c k
   have hcl:cls c (k+1)=if(c.getD k Call.z).kind=1 then cls c k++[zx (c.getD k Call.z) (k:Int)]else cls c k:=rfl
   refine .aF (decide_eq_true (by omega)) (.cT Call.z (by omega) (by omega) ?_)
   simp only[Int.toNat_natCast]
   rw[hcl]
   obtain⟨x,hx0⟩: ∃x,c.getD k Call.z=x:=⟨_,rfl⟩
   simp only[hx0]
   refine .cond (fun h=> .aV (by omega) (.one ?_)) fun h=> .cond (fun h2=> .ck (cC ⟨?_,?_⟩) (.aV (by omega) (.one ?_))) fun h2=> .ck (cC ⟨?_,?_⟩) (.aV (by omega) (.one ?_))
   ·have h: ¬x.kind=1:=by simpa using h
    show(_,_)=(_,_)
    rw[if_neg h];simp
   ·simp only[List.length_singleton];exact Nat.le_trans (m:=2000) (by omega) (by decide)
   ·simp only[List.length_singleton];omega
   ·have h:x.kind=1:=by simpa using h
    show(_,_)=(_,_)
    rw[if_pos h]
    unfold zx
    rw[if_pos (of_decide_eq_true h2)];simp
   ·simp only[List.length_singleton];exact Nat.le_trans (m:=2000) (by omega) (by decide)
   ·simp only[List.length_singleton];omega
   ·have h:x.kind=1:=by simpa using h
    show(_,_)=(_,_)
    rw[if_pos h]
    unfold zx
    rw[if_neg (of_decide_eq_false h2)];simp
  ·rintro st rfl
   simp only[gt]
   exact .aw (decide_eq_false (by omega)) (.one rfl)
 have hlen:=yS c c.length
 obtain⟨K,hK⟩: ∃K,K=cls c c.length:=⟨_,rfl⟩
 rw[←hK]at hlen h0⊢
 have hrd: ∀i,(K.getD i aa.z).reads.length≤1000:=fun i=>by
  rcases Nat.lt_or_ge i K.length with h|h
  ·have:K.getD i aa.z∈K:=by rw[aG h];exact List.getElem_mem h
   rw[hK]at this
   rw[hK]
   rcases jg.1 this with h2|⟨j,_,_,h2⟩<;>rw[h2]
   ·show(0:Nat)≤1000;omega
   ·show(0:Nat)≤1000;omega
  ·rw[List.getD_eq_getElem?_getD,List.getElem?_eq_none h];show(0:Nat)≤1000;omega
 have h1:iter (jo N K c) N (K,0)=some (K.map (fin c)):=by
  refine Wp.eq (.iter K.length (fun k st=>st.1.length=K.length∧(∀j,j < K.length→st.1.getD j aa.z=if j < k then fin c (K.getD j aa.z)else K.getD j aa.z)∧st.2=(k:Int)) (by omega) ⟨rfl,fun j _=>by rw[if_neg (Nat.not_lt_zero _)],rfl⟩ ?_ ?_)
  ·rintro k ⟨o,v⟩ hk ⟨g1,g2,hv⟩
   dsimp only at g1 g2 hv
   subst hv
   have hok:=g2 k hk
   rw[if_neg (Nat.lt_irrefl _)]at hok
   simp only[jo]
   have hin:=Np hN hc (o:=o) (i:=k) (by omega) (by rw[hok];exact hrd k)
   rw[hok]at hin
   refine .aF (decide_eq_true (by omega)) ?_
   refine .seq (P:=fun r=>r=o.set k (fin c (K.getD k aa.z))) (.cT aa.z (by omega) (by omega) (.aZ hin (.aZ (qQ (by omega)) (.aZ (qQ (by omega)) (.aZ (qQ (by omega)) (.one ?_)))))) fun r _ hr=> .aV (by omega) (.one ?_)
   ·rw[Int.toNat_natCast,List.set_set];rfl
   ·subst hr
    refine⟨by rw[List.length_set];exact g1,fun j hj=>?_,by simp⟩
    show(o.set k _).getD j _=_
    rw[sQ (by omega)]
    by_cases e:j=k
    ·subst e;rw[if_pos rfl,if_pos (by omega)]
    ·rw[if_neg e,g2 j hj]
     by_cases e2:j < k
     ·rw[if_pos e2,if_pos (by omega)]
     ·rw[if_neg e2,if_neg (by omega)]
  ·rintro⟨o,v⟩ ⟨g1,g2,hv⟩
   dsimp only at g1 g2 hv
   subst hv
   simp only[jo]
   refine .aw (decide_eq_false (by omega)) (.one (Nq (d:=aa.z) (by simpa using g1) fun i hi=>?_))
   rw[g2 i (by omega),if_pos (by omega),aG (l:=K.map (fin c)) (by simpa using(by omega:i < K.length)),List.getElem_map,aG (by omega)]
 have h0':iter (gt N c) N ([(aa.mk 0 (-1) (-1) [] (aC.mk 0 (-1) (-1) false) false)],0)=some K:=h0
 rw[h0',uj,h1,uj]
structure jp(c:List Call)(K:List aa):Prop where
 len:K.length≤c.length+1
 mem: ∀y,y∈K↔∃z,z∈cls c c.length∧y=fin c z
 Lo:(K.map (·.value)).Nodup
theorem CN(c:List Call)(z:aa):(fin c z).value=z.value:=(xv c z c.length).1
theorem Ie{c:List Call}(D:lV c)(hpos: ∀i,i < c.length→(c.getD i Call.z).kind=1→1≤(c.getD i Call.z).arg): ∀k,k≤c.length→((cls c k).map (·.value)).Nodup
 |0,_=>by unfold cls;simp
 |k+1,hk=>by
  have ih:=Ie D hpos k (by omega)
  unfold cls
  split
  ·rename_i hw
   rw[List.map_append,List.nodup_append]
   refine⟨ih,by simp,fun a ha b hb e=>?_⟩
   subst e
   have hb:a=(c.getD k Call.z).arg:=List.mem_singleton.1 hb
   obtain⟨z,hz,rfl⟩:=List.mem_map.1 ha
   rcases jg.1 hz with h|⟨i,h1,h2,h3⟩
   ·rw[h]at hb
    have hb:(0:Int)=(c.getD k Call.z).arg:=hb
    have:=hpos k (by omega) hw
    omega
   ·rw[h3]at hb
    exact D i k h1 (by omega) h2 hw hb
  ·exact ih
theorem xw{α β:Type}{f:α→β}: ∀{l:List α},(l.map f).Nodup→∀a∈l,∀b∈l,f a=f b→a=b
 |x::l,h,a,ha,b,hb,e=>by
  rw[List.map_cons,List.nodup_cons]at h
  rcases List.mem_cons.1 ha with ha1|ha2
  ·rcases List.mem_cons.1 hb with hb1|hb2
   ·rw[ha1,hb1]
   ·exact(h.1 (by rw[←ha1,e];exact List.mem_map_of_mem hb2)).elim
  ·rcases List.mem_cons.1 hb with hb1|hb2
   ·exact(h.1 (by rw[←hb1,←e];exact List.mem_map_of_mem ha2)).elim
   ·exact xw h.2 a ha2 b hb2 e
theorem DD{N:Nat}(hN:300 < N){c:List Call}(hc:c.length≤200)(D:lV c)(hpos: ∀i,i < c.length→(c.getD i Call.z).kind=1→1≤(c.getD i Call.z).arg):Wp (fY N c) (jp c):=by
 rw[G' hN hc]
 obtain⟨L,hL⟩: ∃L,L=(cls c c.length).map (fin c):=⟨_,rfl⟩
 have UZ:(L.map (·.value)).Nodup:=by
  rw[hL,List.map_map]
  have:=Ie D hpos c.length (Nat.le_refl _)
  have e:(cls c c.length).map ((·.value)∘fin c)=(cls c c.length).map (·.value):=List.map_congr_left fun z _=>CN c z
  rw[e];exact this
 have hlen:=yS c c.length
 have hLl:L.length=(cls c c.length).length:=by rw[hL,List.length_map]
 have hne:L≠ []:=by
  intro e
  have h0:xu∈cls c c.length:=jg.2 (.inl rfl)
  have:fin c xu∈L:=by rw[hL];exact List.mem_map_of_mem h0
  rw[e]at this;cases this
 have hu:yP pu L=true:=by
  unfold yP
  rw[List.all_eq_true]
  intro a ha
  rw[List.all_eq_true]
  intro b hb
  simp only[Bool.or_eq_true,decide_eq_true_eq]
  rcases Int.lt_trichotomy a.value b.value with h|h|h
  ·exact .inl (.inl ((ou _ _).2 h))
  ·right
   exact xw UZ a ha b hb h
  ·exact .inl (.inr ((ou _ _).2 h))
 rw[←hL]
 have hs:uI N L=some (gI nz pu L):=by
  unfold uI BM
  rw[if_pos ⟨hne,List.all_eq_true.2 fun _ _=>rfl,hu,by omega⟩]
 obtain⟨hp,_⟩:=mN (S:=nz) (cf:=pu) zw (xs:=L) (List.all_eq_true.2 fun _ _=>rfl)
 refine .aZ hs (.one ⟨by rw[hp.length_eq];omega,fun y=>?_,?_⟩)
 ·rw[hp.mem_iff,hL,List.mem_map]
  exact⟨fun⟨z,a,b⟩=>⟨z,a,b.symm⟩,fun⟨z,a,b⟩=>⟨z,a,b.symm⟩⟩
 ·exact((hp.map (·.value)).nodup_iff).2 UZ
end Zo
namespace Sr
open Hs
theorem pY{N:Nat}{types:List Int}{l:List Event}{k:Nat}{out:List Call}{op:List Int}(R:cn N types l k out op): ∀m,m < out.length→bK N (out.getD m Call.z).kind (out.getD m Call.z).arg=some true∧((out.getD m Call.z).au≠ -1→cp N (out.getD m Call.z).kind (out.getD m Call.z).res=some true):=by
 induction R with
 |zero=>exact fun m h=>absurd h (Nat.not_lt_zero _)
 | @succ k out out' op op' R hk S ih=>
  intro m hm
  rcases S.how with⟨_,_,ha,_,rfl,_⟩|⟨_,m0,_,hml,_,hr,rfl,_⟩
  ·rw[List.length_append,List.length_singleton]at hm
   rw[cy]
   by_cases h:m < out.length
   ·rw[if_pos h];exact ih m h
   ·rw[if_neg h,if_pos (by omega)]
    exact⟨ha,fun h=>(h rfl).elim⟩
  ·rw[List.length_set]at hm
   rw[d7 hml]
   by_cases e:m=m0
   ·subst e
    rw[if_pos rfl]
    exact⟨(ih m hm).1,fun _=>hr⟩
   ·rw[if_neg e];exact ih m hm
theorem QW{N:Nat}{a:Int}(h:bK N 1 a=some true):1≤a∧a≤1000:=by
 have e:bK N 1 a=some ((decide (1≤a))&&(decide (a≤1000))):=rfl
 rw[e]at h
 simpa using h
end Sr
namespace Zo
open Hs
def mu(v:Int)(x:Call):Prop:=(x.kind=1∧x.arg=v)∨(ep x=true∧x.res=v)
def Ah(c:List Call)(a b:Int):Prop:=∃j,j < c.length∧mu b (c.getD j Call.z)∧(a=0∨∃i,i < c.length∧mu a (c.getD i Call.z)∧(c.getD i Call.z).au≠ -1∧(c.getD i Call.z).au < (c.getD j Call.z).from_)
def sR(c:List Call)(a:Int):Prop:=∃i,i < c.length∧mu a (c.getD i Call.z)∧(c.getD i Call.z).au≠ -1
def mO(c:List Call)(a:Int):Prop:=a=0∨∃i,i < c.length∧(c.getD i Call.z).kind=1∧(c.getD i Call.z).arg=a
structure Wc(c:List Call):Prop where
 BH:c.length≤200
 fr: ∀i,i < c.length→0≤(c.getD i Call.z).from_∧(c.getD i Call.z).from_ < 200
 tO: ∀i,i < c.length→(c.getD i Call.z).au≠ -1→(c.getD i Call.z).from_ < (c.getD i Call.z).au∧(c.getD i Call.z).au < 200
 pos: ∀i,i < c.length→(c.getD i Call.z).kind=1→1≤(c.getD i Call.z).arg
theorem cz{x:Call}:ep x=true↔x.kind=2∧x.au≠ -1:=by
 unfold ep
 rw[Bool.and_eq_true,decide_eq_true_eq,Bool.not_eq_true',decide_eq_false_iff_not]
theorem mg{c:List Call}(D:lV c){i j:Nat}(hi:i < c.length)(hj:j < c.length)(h1:(c.getD i Call.z).kind=1)(h2:(c.getD j Call.z).kind=1)(e:(c.getD i Call.z).arg=(c.getD j Call.z).arg):i=j:=by
 rcases Nat.lt_trichotomy i j with h|h|h
 ·exact(D i j h hj h1 h2 e).elim
 ·exact h
 ·exact(D j i h hi h2 h1 e.symm).elim
section
variable {c:List Call} {K:List aa}
theorem src(C:jp c K){y:aa}(hy:y∈K): ∃z,Zn c z c.length (il c z c.length)∧y.value=z.value∧y.write=z.write∧y.from_=z.from_∧y.aq.value=y.value∧y.aq.first=(il c z c.length).aq.first∧y.aq.last=(il c z c.length).aq.last∧y.aq.forward=decide (y.aq.first < y.aq.last)∧y.counts=(il c z c.length).counts∧
  (z=xu∨∃i,i < c.length∧(c.getD i Call.z).kind=1∧z=zx (c.getD i Call.z) (i:Int)):=by
 obtain⟨z,hz,rfl⟩:=(C.mem y).1 hy
 obtain⟨h1,h2,h3,h4,_⟩:=xv c z c.length
 have Pf:=jg.1 hz
 refine⟨z,Id c z c.length,h1,h2,h3,?_,rfl,rfl,rfl,rfl,Pf⟩
 show(il c z c.length).aq.value=(il c z c.length).value
 rw[h4,h1]
 rcases Pf with h|⟨i,_,_,h⟩<;>rw[h]<;>rfl
theorem rM(C:jp c K){v:Int}(h:mO c v): ∃y,y∈K∧y.value=v:=by
 rcases h with rfl|⟨i,h1,h2,h3⟩
 ·exact⟨fin c xu,(C.mem _).2 ⟨xu,jg.2 (.inl rfl),rfl⟩,CN c xu⟩
 ·exact⟨fin c (zx (c.getD i Call.z) i),(C.mem _).2 ⟨_,jg.2 (.inr ⟨i,h1,h2,rfl⟩),rfl⟩,(CN c _).trans h3⟩
theorem Gk(C:jp c K){y:aa}(hy:y∈K):mO c y.value:=by
 obtain⟨z,_,h1,_,_,_,_,_,_,_,h⟩:=src C hy
 rw[h1]
 rcases h with rfl|⟨i,h2,h3,rfl⟩
 ·exact .inl rfl
 ·exact .inr ⟨i,h2,h3,rfl⟩
theorem yT(W:Wc c)(D:lV c)(C:jp c K){y:aa}(hy:y∈K):y.counts=true↔sR c y.value:=by
 obtain⟨z,Z,h1,_,_,_,_,_,_,h2,h⟩:=src C hy
 rw[h2,Z.cnt,h1]
 constructor
 ·rintro(h3|⟨i,a,b,d⟩)
  ·rcases h with rfl|⟨i,a,b,rfl⟩
   ·cases h3
   ·have h3:(!decide ((c.getD i Call.z).au= -1))=true:=h3
    exact⟨i,a,.inl ⟨b,rfl⟩,by simpa using h3⟩
  ·exact⟨i,a,.inr ⟨b,d⟩,(cz.1 b).2⟩
 ·rintro⟨i,a,(⟨b,d⟩|⟨b,d⟩),e⟩
  ·rcases h with rfl|⟨j,a2,b2,rfl⟩
   ·have d:(c.getD i Call.z).arg=0:=d
    have:=W.pos i a b;omega
   ·left
    have:i=j:=mg D a a2 b b2 d
    subst this
    show(!decide ((c.getD i Call.z).au= -1))=true
    rw[decide_eq_false e];rfl
  ·exact .inr ⟨i,a,b,d⟩
theorem kL(W:Wc c)(D:lV c)(C:jp c K){y:aa}(hy:y∈K){t:Int}(h0:0≤t)(h2:t≤200):y.aq.first < t↔y.value=0∨∃i,i < c.length∧mu y.value (c.getD i Call.z)∧(c.getD i Call.z).au≠ -1∧(c.getD i Call.z).au < t:=by
 obtain⟨z,Z,e1,_,_,_,e5,_,_,_,h⟩:=src C hy
 rw[e5,e1]
 constructor
 ·intro hl
  rcases Z.Pe with h3|⟨i,a,b,d,e⟩
  ·rcases h with rfl|⟨j,a2,b2,rfl⟩
   ·exact .inl rfl
   ·right
    rw[h3]at hl
    have hl:(if(c.getD j Call.z).au= -1 then(200:Int)else(c.getD j Call.z).au) < t:=hl
    by_cases hto:(c.getD j Call.z).au= -1
    ·rw[if_pos hto]at hl;omega
    ·rw[if_neg hto]at hl
     exact⟨j,a2,.inl ⟨b2,rfl⟩,hto,hl⟩
  ·exact .inr ⟨i,a,.inr ⟨b,d⟩,(cz.1 b).2,by omega⟩
 ·rintro(hv|⟨i,a,(⟨b,d⟩|⟨b,d⟩),e,f⟩)
  ·rcases h with rfl|⟨j,a2,b2,rfl⟩
   ·have:(il c xu c.length).aq.first≤ -1:=Z.Gj.1
    omega
   ·have hv:(c.getD j Call.z).arg=0:=hv
    have:=W.pos j a2 b2;omega
  ·rcases h with rfl|⟨j,a2,b2,rfl⟩
   ·have d:(c.getD i Call.z).arg=0:=d
    have:=W.pos i a b;omega
   ·have:i=j:=mg D a a2 b b2 d
    subst this
    have h5:=Z.Gj.1
    have h6:(zx (c.getD i Call.z) (i:Int)).aq.first=(c.getD i Call.z).au:=if_neg e
    omega
  ·have:=Z.Gj.2 i a b d;omega
theorem uK(W:Wc c)(D:lV c)(C:jp c K){y:aa}(hy:y∈K):(y.aq.last= -1∨∃j,j < c.length∧mu y.value (c.getD j Call.z)∧y.aq.last=(c.getD j Call.z).from_)∧∀j,j < c.length→mu y.value (c.getD j Call.z)→(c.getD j Call.z).from_≤y.aq.last:=by
 obtain⟨z,Z,e1,_,_,_,_,e6,_,_,h⟩:=src C hy
 rw[e6,e1]
 refine⟨?_,fun j a hj=>?_⟩
 ·rcases Z.UY with h3|⟨i,a,b,d,e⟩
  ·rcases h with rfl|⟨j,a2,b2,rfl⟩
   ·exact .inl h3
   ·exact .inr ⟨j,a2,.inl ⟨b2,rfl⟩,h3⟩
  ·exact .inr ⟨i,a,.inr ⟨b,d⟩,e⟩
 ·rcases hj with⟨b,d⟩|⟨b,d⟩
  ·rcases h with rfl|⟨i,a2,b2,rfl⟩
   ·have d:(c.getD j Call.z).arg=0:=d
    have:=W.pos j a b;omega
   ·have:j=i:=mg D a a2 b b2 d
    subst this
    exact Z.Ic.1
  ·exact Z.Ic.2 j a b d
theorem Gl(W:Wc c)(C:jp c K){y:aa}(hy:y∈K): -1≤y.aq.first:=by
 obtain⟨z,Z,e1,_,_,_,e5,_,_,_,h⟩:=src C hy
 rw[e5]
 rcases Z.Pe with h3|⟨i,a,b,d,e⟩
 ·rw[h3]
  rcases h with rfl|⟨j,a2,b2,rfl⟩
  ·exact Int.le_refl _
  ·show -1≤(if(c.getD j Call.z).au= -1 then(200:Int)else(c.getD j Call.z).au)
   split
   ·omega
   ·rename_i h;have:=W.tO j a2 h;have:=W.fr j a2;omega
 ·have:=W.tO i a (cz.1 b).2;have:=W.fr i a;omega
theorem rN(W:Wc c)(D:lV c)(C:jp c K){x y:aa}(hx:x∈K)(hy:y∈K):x.aq.first < y.aq.last↔Ah c x.value y.value:=by
 obtain⟨h1,h2⟩:=uK W D C hy
 constructor
 ·intro h
  rcases h1 with h1|⟨j,a,b,e⟩
  ·have:=Gl W C hx;omega
  ·rw[e]at h
   have:=W.fr j a
   exact⟨j,a,b,(kL W D C hx (by omega) (by omega)).1 h⟩
 ·rintro⟨j,a,b,e⟩
  have:=W.fr j a
  have h3:=(kL W D C hx (t:=(c.getD j Call.z).from_) (by omega) (by omega)).2 e
  have:=h2 j a b
  omega
structure Good(c:List Call):Prop where
 JB: ∀i,i < c.length→ep (c.getD i Call.z)=true→mO c (c.getD i Call.z).res
 early: ∀i j,i < c.length→j < c.length→ep (c.getD i Call.z)=true→(c.getD j Call.z).kind=1→(c.getD j Call.z).arg=(c.getD i Call.z).res→¬(c.getD i Call.z).au < (c.getD j Call.z).from_
 aq: ∀a b,a≠b→mO c a→mO c b→sR c a→sR c b→Ah c a a→¬(Ah c a b∧Ah c b a)
def oC(c:List Call)(i:Nat):Prop:=i < c.length∧ep (c.getD i Call.z)=true∧¬mO c (c.getD i Call.z).res
def Early(c:List Call)(i j:Nat):Prop:=i < c.length∧j < c.length∧ep (c.getD i Call.z)=true∧(c.getD j Call.z).kind=1∧(c.getD j Call.z).arg=(c.getD i Call.z).res∧(c.getD i Call.z).au < (c.getD j Call.z).from_
def JC(c:List Call)(a b:Int):Prop:=a≠b∧mO c a∧mO c b∧sR c a∧sR c b∧Ah c a a∧Ah c a b∧Ah c b a
def JD(c:List Call)(a b:Int):Prop:=JC c a b∧Ah c b b
def Lx(c:List Call)(a b:Int):Prop:=JC c a b∧¬Ah c b b
def Kd(c:List Call)(r:Int×Int×Int):Prop:=
 (r.1=1∧∃i:Nat,oC c i∧r.2=((i:Int),0))∨
 ((∀i,¬oC c i)∧((r.1=3∧∃i j:Nat,Early c i j∧r.2=((i:Int),(j:Int)))∨
 ((∀i j,¬Early c i j)∧((r.1=4∧JD c r.2.1 r.2.2)∨
 ((∀a b,¬JD c a b)∧((r.1=5∧Lx c r.2.1 r.2.2)∨((∀a b,¬Lx c a b)∧r=(0,0,0))))))))
theorem Kd.good{r:Int×Int×Int}(h:Kd c r):r.1=0↔Good c:=by
 rcases h with⟨h,i,hi,_⟩|⟨n1,h⟩
 ·rw[h]
  exact⟨fun e=>(by cases e),fun G=>(hi.2.2 (G.JB i hi.1 hi.2.1)).elim⟩
 rcases h with⟨h,i,j,hi,_⟩|⟨n2,h⟩
 ·rw[h]
  exact⟨fun e=>(by cases e),fun G=>(G.early i j hi.1 hi.2.1 hi.2.2.1 hi.2.2.2.1 hi.2.2.2.2.1 hi.2.2.2.2.2).elim⟩
 rcases h with⟨h,ht,_⟩|⟨n3,h⟩
 ·rw[h]
  obtain⟨a1,a2,a3,a4,a5,a6,a7,a8⟩:=ht
  exact⟨fun e=>(by cases e),fun G=>(G.aq _ _ a1 a2 a3 a4 a5 a6 ⟨a7,a8⟩).elim⟩
 rcases h with⟨h,ht,_⟩|⟨n4,h⟩
 ·rw[h]
  obtain⟨a1,a2,a3,a4,a5,a6,a7,a8⟩:=ht
  exact⟨fun e=>(by cases e),fun G=>(G.aq _ _ a1 a2 a3 a4 a5 a6 ⟨a7,a8⟩).elim⟩
 ·rw[h]
  refine⟨fun _=>⟨fun i h1 h2=>Classical.byContradiction fun h3=>n1 i ⟨h1,h2,h3⟩,fun i j h1 h2 h3 h4 h5 h6=>n2 i j ⟨h1,h2,h3,h4,h5,h6⟩,fun a b h1 h2 h3 h4 h5 h6 h7=>?_⟩,fun _=>rfl⟩
  by_cases hb:Ah c b b
  ·exact n3 a b ⟨⟨h1,h2,h3,h4,h5,h6,h7.1,h7.2⟩,hb⟩
  ·exact n4 a b ⟨⟨h1,h2,h3,h4,h5,h6,h7.1,h7.2⟩,hb⟩
theorem vt{N:Nat}{K:List aa}(hN:K.length < N)(hK:K.length≤1000)(x:Call):Wp (bW N K x) fun r=>(r= -1∧∀y∈K,y.value≠x.res)∨∃p:Nat,r=p∧p < K.length∧(K.getD p aa.z).value=x.res:=by
 unfold bW
 refine .elim (P:=fun t=>match t with| .inl _=>∀y∈K,y.value≠x.res| .inr r=>∃p:Nat,r=p∧p < K.length∧(K.getD p aa.z).value=x.res) (.iter K.length (fun k v=>v=(k:Int)∧∀j,j < k→(K.getD j aa.z).value≠x.res) hN ⟨rfl,fun j h=>absurd h (Nat.not_lt_zero _)⟩ ?_ ?_) (fun _ _ h=> .one (.inl ⟨rfl,h⟩)) (fun r _ h=> .one (.inr h))
 ·rintro k v hk ⟨rfl,h⟩
  simp only[cG]
  refine .aF (decide_eq_true (by omega)) (.cT aa.z (by omega) (by omega) (.aZ (a:=()) rfl ?_))
  simp only[Int.toNat_natCast]
  refine .cond (fun h2=> .one ⟨k,rfl,hk,of_decide_eq_true h2⟩) fun h2=> .aV (by omega) (.one ⟨by simp,fun j hj=>?_⟩)
  rcases Nat.lt_or_ge j k with h3|h3
  ·exact h j h3
  ·obtain rfl:j=k:=by omega
   exact of_decide_eq_false h2
 ·rintro v ⟨rfl,h⟩
  simp only[cG]
  refine .aw (decide_eq_false (by omega)) (.one fun y hy=>?_)
  obtain⟨i,hi,rfl⟩:=List.getElem_of_mem hy
  have:=h i hi
  rwa[aG hi]at this
theorem Nr{N:Nat}(hN:300 < N)(W:Wc c)(D:lV c)(C:jp c K):Wp (lg N c K) fun r=>(r.1=1∧∃i:Nat,oC c i∧r.2=((i:Int),0))∨((∀i,¬oC c i)∧((r.1=3∧∃i j:Nat,Early c i j∧r.2=((i:Int),(j:Int)))∨((∀i j,¬Early c i j)∧r=(0,0,0)))):=by
 have U0:=W.BH
 have XV:=C.len
 unfold lg
 refine .elim (P:=fun t=>match t with| .inl r=>(∀i,¬oC c i)∧((r.1=3∧∃i j:Nat,Early c i j∧r.2=((i:Int),(j:Int)))∨((∀i j,¬Early c i j)∧r=(0,0,0)))| .inr r=>r.1=1∧∃i:Nat,oC c i∧r.2=((i:Int),0))
  (.iter c.length (fun k st=>(∀i,i < k→¬oC c i)∧((st.1=3∧∃i j:Nat,Early c i j∧st.2.1=(i:Int)∧st.2.2.1=(j:Int))∨((∀i j,i < k→¬Early c i j)∧st.1=0∧st.2.1=0∧st.2.2.1=0))∧st.2.2.2=(k:Int)) (by omega) ⟨fun i h=>absurd h (Nat.not_lt_zero _),.inr ⟨fun i j h=>absurd h (Nat.not_lt_zero _),rfl,rfl,rfl⟩,rfl⟩ ?_ ?_) (fun r _ h=> .one (.inr h)) (fun r _ h=> .one (.inl h))
 ·rintro k ⟨kd,a,b,v⟩ hk ⟨h1,h2,hv⟩
  dsimp only at h1 h2 hv
  subst hv
  simp only[pv]
  refine .aF (decide_eq_true (by omega)) (.cT Call.z (by omega) (by omega) ?_)
  simp only[Int.toNat_natCast]
  have hb:((!decide ((c.getD k Call.z).kind=2))||decide ((c.getD k Call.z).au= -1))= !ep (c.getD k Call.z):=by
   unfold ep;rw[Bool.not_and,Bool.not_not]
  rw[hb]
  have s1:(¬oC c k)→∀i,i < k+1→¬oC c i:=fun h i hi=>by
   rcases Nat.lt_or_ge i k with h3|h3
   ·exact h1 i h3
   ·obtain rfl:i=k:=by omega
    exact h
  have e1:(∀j,¬Early c k j)→(∀i j,i < k→¬Early c i j)→∀i j,i < k+1→¬Early c i j:=fun h g i j hi=>by
   rcases Nat.lt_or_ge i k with h3|h3
   ·exact g i j h3
   ·obtain rfl:i=k:=by omega
    exact h j
  cases hR:ep (c.getD k Call.z)with
  |false=>
   have n1: ¬oC c k:=fun h=>by rw[h.2.1]at hR;cases hR
   have n2: ∀j,¬Early c k j:=fun j h=>by rw[h.2.2.1]at hR;cases hR
   refine .aF rfl (.aV (by omega) (.one ⟨s1 n1,?_,by simp⟩))
   rcases h2 with h2|⟨g1,g2⟩
   ·exact .inl h2
   ·exact .inr ⟨e1 n2 g1,g2⟩
  |true=>
   refine .aw rfl (.seq (vt (by omega) (by omega) _) fun r _ hr=>?_)
   rcases hr with⟨rfl,hr⟩|⟨p,rfl,hp,hpv⟩
   ·refine .aF (by decide) (.one ⟨rfl,k,⟨hk,hR,fun hval=>?_⟩,rfl⟩)
    obtain⟨y,hy,e⟩:=rM C hval
    exact hr y hy e
   ·refine .aw (decide_eq_false (by omega)) ?_
    have hy:K.getD p aa.z∈K:=by rw[aG hp];exact List.getElem_mem hp
    have n1: ¬oC c k:=fun h=>h.2.2 (by rw[←hpv];exact Gk C hy)
    obtain⟨z,_,e1v,e2,e3,_,_,_,_,_,hz⟩:=src C hy
    have hto:=W.tO k hk (cz.1 hR).2
    have hfr:=W.fr k hk
    have hE:((c.getD k Call.z).au < (K.getD p aa.z).from_→∃j:Nat,(K.getD p aa.z).write=(j:Int)∧Early c k j)∧(¬(c.getD k Call.z).au < (K.getD p aa.z).from_→∀j,¬Early c k j):=by
     rw[e2,e3]
     rw[e1v]at hpv
     rcases hz with rfl|⟨j,a2,b2,rfl⟩
     ·refine⟨fun h=>?_,fun _ j hj=>?_⟩
      ·have h:(c.getD k Call.z).au < -1:=h
       omega
      ·have hpv:(0:Int)=(c.getD k Call.z).res:=hpv
       have:=W.pos j hj.2.1 hj.2.2.2.1
       have:=hj.2.2.2.2.1
       omega
     ·have hpv:(c.getD j Call.z).arg=(c.getD k Call.z).res:=hpv
      refine⟨fun h=>⟨j,rfl,hk,a2,hR,b2,hpv,h⟩,fun h q hq=>?_⟩
      have:q=j:=mg D hq.2.1 a2 hq.2.2.2.1 b2 (hq.2.2.2.2.1.trans hpv.symm)
      subst this
      exact h hq.2.2.2.2.2
    rcases h2 with⟨g1,g2⟩|⟨g1,g2,g3,g4⟩
    ·have HU:decide (kd=0)=false:=decide_eq_false (by omega)
     rw[HU]
     refine .aZ (a:=aa.z) rfl (.aw rfl (.aV (by omega) (.one ⟨s1 n1,.inl ⟨g1,g2⟩,by simp⟩)))
    ·have HU:decide (kd=0)=true:=decide_eq_true g2
     rw[HU]
     refine .aZ (a:=K.getD p aa.z) (by rw[show((true==true))=true from rfl,cond_true,D' hp,aG hp]) ?_
     by_cases hl:(c.getD k Call.z).au < (K.getD p aa.z).from_
     ·obtain⟨j,q1,q2⟩:=hE.1 hl
      refine .aF (by rw[decide_eq_true hl];rfl) (.aZ (a:=K.getD p aa.z) (by rw[D' hp,aG hp]) (.aV (by omega) (.one ⟨s1 n1,.inl ⟨rfl,k,j,q2,rfl,q1⟩,by simp⟩)))
     ·refine .aw (by rw[decide_eq_false hl];rfl) (.aV (by omega) (.one ⟨s1 n1,.inr ⟨e1 (hE.2 hl) g1,g2,g3,g4⟩,by simp⟩))
 ·rintro⟨kd,a,b,v⟩ ⟨h1,h2,hv⟩
  dsimp only at h1 h2 hv
  subst hv
  simp only[pv]
  refine .aw (decide_eq_false (by omega)) (.one ⟨fun i h=>h1 i h.1 h,?_⟩)
  rcases h2 with⟨g1,i,j,g2,g3,g4⟩|⟨g1,g2,g3,g4⟩
  ·exact .inl ⟨g1,i,j,g2,Prod.ext g3 g4⟩
  ·exact .inr ⟨fun i j h=>g1 i j h.1 h,Prod.ext g2 (Prod.ext g3 g4)⟩
def meet(a b:aC):Prop:=a.first < b.last∧b.first < a.last
theorem Ns{N:Nat}{z:List aC}(hN:z.length < N)(hz:z.length≤1000):Wp (jA N z) fun r=>(∃i j,i < j∧j < z.length∧(z.getD i aC.z).forward=true∧(z.getD j aC.z).forward=true∧meet (z.getD i aC.z) (z.getD j aC.z)∧r=(4,(z.getD i aC.z).value,(z.getD j aC.z).value))∨
  ((∀i j,i < j→j < z.length→(z.getD i aC.z).forward=true→(z.getD j aC.z).forward=true→¬meet (z.getD i aC.z) (z.getD j aC.z))∧((∃i j,i < z.length∧j < z.length∧(z.getD i aC.z).forward=true∧(z.getD j aC.z).forward=false∧meet (z.getD i aC.z) (z.getD j aC.z)∧r=(5,(z.getD i aC.z).value,(z.getD j aC.z).value))∨
   ((∀i j,i < z.length→j < z.length→(z.getD i aC.z).forward=true→(z.getD j aC.z).forward=false→¬meet (z.getD i aC.z) (z.getD j aC.z))∧r=(0,0,0)))):=by
 have QX: ∀i j,(z.drop i).getD j aC.z=z.getD (i+j) aC.z:=fun i j=>by
  rw[List.getD_eq_getElem?_getD,List.getD_eq_getElem?_getD,List.getElem?_drop]
 unfold jA
 refine .elim (P:=fun t=>match t with| .inl _=>∀i j,i < j→j < z.length→(z.getD i aC.z).forward=true→(z.getD j aC.z).forward=true→¬meet (z.getD i aC.z) (z.getD j aC.z)| .inr r=>∃i j,i < j∧j < z.length∧(z.getD i aC.z).forward=true∧(z.getD j aC.z).forward=true∧meet (z.getD i aC.z) (z.getD j aC.z)∧r=(4,(z.getD i aC.z).value,(z.getD j aC.z).value))
  (.iter z.length (fun k v=>v=(k:Int)∧∀i j,i < k→i < j→j < z.length→(z.getD i aC.z).forward=true→(z.getD j aC.z).forward=true→¬meet (z.getD i aC.z) (z.getD j aC.z)) hN ⟨rfl,fun i j h=>absurd h (Nat.not_lt_zero _)⟩ ?_ ?_) (fun _ _ hno=>?_) (fun r _ h=> .one (.inl h))
 ·rintro k v hk ⟨rfl,h⟩
  simp only[oy]
  refine .aF (decide_eq_true (by omega)) ?_
  refine .elim (P:=fun t=>match t with| .inl _=>∀j,k < j→j < z.length→(z.getD k aC.z).forward=true→(z.getD j aC.z).forward=true→¬meet (z.getD k aC.z) (z.getD j aC.z)| .inr r=>∃i j,i < j∧j < z.length∧(z.getD i aC.z).forward=true∧(z.getD j aC.z).forward=true∧meet (z.getD i aC.z) (z.getD j aC.z)∧r=(4,(z.getD i aC.z).value,(z.getD j aC.z).value)) (.cT aC.z (by omega) (by omega) (.aV (by omega) (.ck (by simp[nH];omega) ?_))) (fun _ _ h2=> .aV (by omega) (.one ⟨by simp,fun i j hi hij hj f1 f2=>?_⟩)) (fun r _ h2=> .one h2)
  ·simp only[Int.toNat_natCast]
   have hdl:(z.drop (k+1)).length=z.length - (k+1):=List.length_drop
   refine .iter (z.length - (k+1)) (fun q v=>v=(q:Int)∧∀j,k < j→j < k+1+q→(z.getD k aC.z).forward=true→(z.getD j aC.z).forward=true→¬meet (z.getD k aC.z) (z.getD j aC.z)) (by omega) ⟨rfl,fun j h1 h2=>by omega⟩ ?_ ?_
   ·rintro q v hq ⟨rfl,h2⟩
    simp only[ox]
    rw[show((k:Int)+1).toNat=k+1 by omega]
    refine .aF (decide_eq_true (by omega)) (.cT aC.z (by omega) (by omega) ?_)
    simp only[Int.toNat_natCast,QX]
    refine .seq (P:=fun b=>b=true↔(z.getD k aC.z).forward=true∧(z.getD (k+1+q) aC.z).forward=true∧meet (z.getD k aC.z) (z.getD (k+1+q) aC.z)) (.cond (fun hf=> .aZ (a:=()) rfl (.one ?_)) fun hf=> .one ?_) fun b _ hb=> .cond (fun h3=> .one ?_) fun h3=> .aV (by omega) (.one ⟨by simp,fun j h4 h5 f1 f2=>?_⟩)
    ·unfold meet;simp only[Bool.and_eq_true,decide_eq_true_eq]
     exact⟨fun⟨⟨a,b⟩,d⟩=>⟨a,b,d⟩,fun⟨a,b,d⟩=>⟨⟨a,b⟩,d⟩⟩
    ·have hf:((z.getD k aC.z).forward&&(z.getD (k+1+q) aC.z).forward)=false:=by simpa using hf
     rw[hf]
     refine⟨fun e=>(by cases e),fun⟨a,b,_⟩=>?_⟩
     rw[a,b]at hf;cases hf
    ·obtain⟨a,b,d⟩:=hb.1 h3
     exact⟨k,k+1+q,by omega,by omega,a,b,d,rfl⟩
    ·by_cases e:j=k+1+q
     ·subst e
      intro h6
      have:=hb.2 ⟨f1,f2,h6⟩
      rw[this]at h3;cases h3
     ·exact h2 j h4 (by omega) f1 f2
   ·rintro v ⟨rfl,h2⟩
    simp only[ox]
    rw[show((k:Int)+1).toNat=k+1 by omega]
    exact .aw (decide_eq_false (by omega)) (.one fun j h4 h5=>h2 j h4 (by omega))
  ·rcases Nat.lt_or_ge i k with h3|h3
   ·exact h i j h3 hij hj f1 f2
   ·obtain rfl:i=k:=by omega
    exact h2 j hij hj f1 f2
 ·rintro v ⟨rfl,h⟩
  simp only[oy]
  exact .aw (decide_eq_false (by omega)) (.one fun i j hij hj=>h i j (by omega) hij hj)
 ·refine .elim (P:=fun t=>match t with| .inl _=>∀i j,i < z.length→j < z.length→(z.getD i aC.z).forward=true→(z.getD j aC.z).forward=false→¬meet (z.getD i aC.z) (z.getD j aC.z)| .inr r=>∃i j,i < z.length∧j < z.length∧(z.getD i aC.z).forward=true∧(z.getD j aC.z).forward=false∧meet (z.getD i aC.z) (z.getD j aC.z)∧r=(5,(z.getD i aC.z).value,(z.getD j aC.z).value))
   (.iter z.length (fun k v=>v=(k:Int)∧∀i j,i < k→j < z.length→(z.getD i aC.z).forward=true→(z.getD j aC.z).forward=false→¬meet (z.getD i aC.z) (z.getD j aC.z)) hN ⟨rfl,fun i j h=>absurd h (Nat.not_lt_zero _)⟩ ?_ ?_) (fun _ _ M3=> .one (.inr ⟨hno,.inr ⟨M3,rfl⟩⟩)) (fun r _ h=> .one (.inr ⟨hno,.inl h⟩))
  ·rintro k v hk ⟨rfl,h⟩
   simp only[oA]
   refine .aF (decide_eq_true (by omega)) ?_
   refine .elim (P:=fun t=>match t with| .inl _=>∀j,j < z.length→(z.getD k aC.z).forward=true→(z.getD j aC.z).forward=false→¬meet (z.getD k aC.z) (z.getD j aC.z)| .inr r=>∃i j,i < z.length∧j < z.length∧(z.getD i aC.z).forward=true∧(z.getD j aC.z).forward=false∧meet (z.getD i aC.z) (z.getD j aC.z)∧r=(5,(z.getD i aC.z).value,(z.getD j aC.z).value)) (.cT aC.z (by omega) (by omega) ?_) (fun _ _ h2=> .aV (by omega) (.one ⟨by simp,fun i j hi hj f1 f2=>?_⟩)) (fun r _ h2=> .one h2)
   ·simp only[Int.toNat_natCast]
    refine .iter z.length (fun q v=>v=(q:Int)∧∀j,j < q→(z.getD k aC.z).forward=true→(z.getD j aC.z).forward=false→¬meet (z.getD k aC.z) (z.getD j aC.z)) hN ⟨rfl,fun j h1=>absurd h1 (Nat.not_lt_zero _)⟩ ?_ ?_
    ·rintro q v hq ⟨rfl,h2⟩
     simp only[oz]
     refine .aF (decide_eq_true (by omega)) (.cT aC.z (by omega) (by omega) ?_)
     simp only[Int.toNat_natCast]
     refine .seq (P:=fun b=>b=true↔(z.getD k aC.z).forward=true∧(z.getD q aC.z).forward=false∧meet (z.getD k aC.z) (z.getD q aC.z)) (.cond (fun hf=> .aZ (a:=()) rfl (.one ?_)) fun hf=> .one ?_) fun b _ hb=> .cond (fun h3=> .one ?_) fun h3=> .aV (by omega) (.one ⟨by simp,fun j h4 f1 f2=>?_⟩)
     ·unfold meet;simp only[Bool.and_eq_true,Bool.not_eq_true',decide_eq_true_eq]
      exact⟨fun⟨⟨a,b⟩,d⟩=>⟨a,b,d⟩,fun⟨a,b,d⟩=>⟨⟨a,b⟩,d⟩⟩
     ·have hf:((z.getD k aC.z).forward&& !(z.getD q aC.z).forward)=false:=by simpa using hf
      rw[hf]
      refine⟨fun e=>(by cases e),fun⟨a,b,_⟩=>?_⟩
      rw[a,b]at hf;cases hf
     ·obtain⟨a,b,d⟩:=hb.1 h3
      exact⟨k,q,hk,hq,a,b,d,rfl⟩
     ·by_cases e:j=q
      ·subst e
       intro h6
       have:=hb.2 ⟨f1,f2,h6⟩
       rw[this]at h3;cases h3
      ·exact h2 j (by omega) f1 f2
    ·rintro v ⟨rfl,h2⟩
     simp only[oz]
     exact .aw (decide_eq_false (by omega)) (.one h2)
   ·rcases Nat.lt_or_ge i k with h3|h3
    ·exact h i j h3 hj f1 f2
    ·obtain rfl:i=k:=by omega
     exact h2 j hj f1 f2
  ·rintro v ⟨rfl,h⟩
   simp only[oA]
   exact .aw (decide_eq_false (by omega)) (.one h)
theorem JE{N:Nat}{K:List aa}(hN:K.length < N)(hK:K.length≤1000):jf N K=some ((K.filter (·.counts)).map (·.aq)):=by
 unfold jf
 refine Wp.eq (.seq (P:=fun r=>r=(K.filter (·.counts)).map (·.aq)) (.iter K.length (fun k st=>st=(((K.take k).filter (·.counts)).map (·.aq),(k:Int))) hN rfl ?_ ?_) fun r _ h=> .one h)
 ·rintro k st hk rfl
  simp only[nA]
  have htk:(K.take (k+1)).filter (·.counts)=(K.take k).filter (·.counts)++if K[k].counts then [K[k]]else []:=by
   rw[←List.take_append_getElem hk,List.filter_append]
   congr 1
   rw[List.filter_cons]
   cases K[k].counts<;>rfl
  have hfl:((K.take k).filter (·.counts)).length≤k:=Nat.le_trans (List.length_filter_le _ _) (by rw[List.length_take];omega)
  refine .aF (decide_eq_true (by omega)) (.ix hk (.cond (fun h=> .ck (cC ⟨?_,?_⟩) (.aV (by omega) (.one ?_))) fun h=> .aV (by omega) (.one ?_)))
  ·simp only[List.length_map,List.length_singleton];exact Nat.le_trans (m:=2000) (by omega) (by decide)
  ·simp only[List.length_map,List.length_singleton];omega
  ·show(_,_)=(_,_)
   rw[htk,if_pos h];simp
  ·show(_,_)=(_,_)
   rw[htk,if_neg (by rw[h];decide)];simp
 ·rintro st rfl
  simp only[nA]
  exact .aw (decide_eq_false (by omega)) (.one (by rw[List.take_length]))
theorem WJ{N:Nat}(hN:300 < N)(W:Wc c)(D:lV c):Wp (bd (fY N c) fun ex=>bd (lg N c ex) fun kp=>bd (α:=(Int×Int×Int)) (cond (decide (kp.1=0)) (bd (jf N ex) fun DC=>bd (jA N DC) fun gz=>some (gz.1,gz.2.1,gz.2.2)) (some (kp.1,kp.2.1,kp.2.2))) fun r=>some r) (Kd c):=by
 have U0:=W.BH
 refine .seq (DD hN U0 D W.pos) fun K _ C=> .seq (Nr hN W D C) fun r _ hr=>?_
 have XV:=C.len
 rcases hr with⟨h1,h2⟩|⟨n1,⟨h1,h2⟩|⟨n2,rfl⟩⟩
 ·refine .aZ (a:=r) (by rw[decide_eq_false (by omega)];rfl) (.one (.inl ⟨h1,h2⟩))
 ·refine .aZ (a:=r) (by rw[decide_eq_false (by omega)];rfl) (.one (.inr ⟨n1,.inl ⟨h1,h2⟩⟩))
 obtain⟨z,hz⟩: ∃z,z=(K.filter (·.counts)).map (·.aq):=⟨_,rfl⟩
 have hzl:z.length≤K.length:=by rw[hz,List.length_map];exact List.length_filter_le _ _
 have hat: ∀i,i < z.length→∃y,y∈K∧y.counts=true∧z.getD i aC.z=y.aq:=fun i hi=>by
  have:z.getD i aC.z∈z:=by rw[aG hi];exact List.getElem_mem hi
  rw[hz]at this
  obtain⟨y,hy,e⟩:=List.mem_map.1 this
  obtain⟨a,b⟩:=List.mem_filter.1 hy
  exact⟨y,a,b,by rw[hz];exact e.symm⟩
 have hin: ∀y,y∈K→y.counts=true→∃i,i < z.length∧z.getD i aC.z=y.aq:=fun y hy hc=>by
  have:y.aq∈z:=by rw[hz];exact List.mem_map_of_mem (List.mem_filter.2 ⟨hy,hc⟩)
  obtain⟨i,hi,e⟩:=List.getElem_of_mem this
  exact⟨i,hi,by rw[aG hi];exact e⟩
 have hnd:(z.map (·.value)).Nodup:=by
  rw[hz,List.map_map]
  have e:(K.filter (·.counts)).map ((·.value)∘(·.aq))=(K.filter (·.counts)).map (·.value):=List.map_congr_left fun y hy=>by
   obtain⟨_,_,_,_,_,e,_⟩:=src C (List.mem_filter.1 hy).1
   exact e
  rw[e]
  exact C.Lo.sublist (List.filter_sublist.map _)
 have hval: ∀y,y∈K→y.aq.value=y.value:=fun y hy=>by
  obtain⟨_,_,_,_,_,e,_⟩:=src C hy
  exact e
 have Pg: ∀y,y∈K→(y.aq.forward=true↔Ah c y.value y.value):=fun y hy=>by
  obtain⟨_,_,_,_,_,_,_,_,e,_⟩:=src C hy
  rw[e,decide_eq_true_eq]
  exact rN W D C hy hy
 have ZP: ∀i j,i < z.length→j < z.length→i≠j→(z.getD i aC.z).value≠(z.getD j aC.z).value:=fun i j hi hj hne e=>by
  refine hne ?_
  have hp:=List.pairwise_iff_getElem.1 hnd
  rcases Nat.lt_trichotomy i j with h|h|h
  ·have:=hp i j (by simpa using hi) (by simpa using hj) h
   rw[List.getElem_map,List.getElem_map]at this
   rw[aG hi,aG hj]at e
   exact(this e).elim
  ·exact h
  ·have:=hp j i (by simpa using hj) (by simpa using hi) h
   rw[List.getElem_map,List.getElem_map]at this
   rw[aG hi,aG hj]at e
   exact(this e.symm).elim
 have Ph: ∀x y,x∈K→y∈K→(meet x.aq y.aq↔Ah c x.value y.value∧Ah c y.value x.value):=fun x y hx hy=>by
  unfold meet
  rw[rN W D C hx hy,rN W D C hy hx]
 have key:Wp (jA N z) fun r=>Kd c r:=by
  refine(Ns (by omega) (by omega)).mono fun r hr=>?_
  refine .inr ⟨n1,.inr ⟨n2,?_⟩⟩
  have mk: ∀i j,i < z.length→j < z.length→i≠j→(z.getD i aC.z).forward=true→meet (z.getD i aC.z) (z.getD j aC.z)→JC c (z.getD i aC.z).value (z.getD j aC.z).value∧((z.getD j aC.z).forward=true↔Ah c (z.getD j aC.z).value (z.getD j aC.z).value):=by
   intro i j hi hj hne f1 hm
   have hd:=ZP i j hi hj hne
   obtain⟨x,a1,a2,a3⟩:=hat i hi
   obtain⟨y,b1,b2,b3⟩:=hat j hj
   rw[a3]at f1 hm hd⊢
   rw[b3]at hm hd⊢
   rw[hval x a1,hval y b1]at hd⊢
   have:=(Ph x y a1 b1).1 hm
   exact⟨⟨hd,Gk C a1,Gk C b1,(yT W D C a1).1 a2,(yT W D C b1).1 b2,(Pg x a1).1 f1,this.1,this.2⟩,Pg y b1⟩
  have back: ∀a b,JC c a b→∃i j,i < z.length∧j < z.length∧i≠j∧(z.getD i aC.z).value=a∧(z.getD j aC.z).value=b∧(z.getD i aC.z).forward=true∧meet (z.getD i aC.z) (z.getD j aC.z)∧((z.getD j aC.z).forward=true↔Ah c b b):=by
   rintro a b ⟨h1,h2,h3,h4,h5,h6,h7,h8⟩
   obtain⟨x,x1,rfl⟩:=rM C h2
   obtain⟨y,y1,rfl⟩:=rM C h3
   obtain⟨i,i1,i2⟩:=hin x x1 ((yT W D C x1).2 h4)
   obtain⟨j,j1,j2⟩:=hin y y1 ((yT W D C y1).2 h5)
   refine⟨i,j,i1,j1,fun e=>h1 ?_,?_,?_,?_,?_,?_⟩
   ·subst e
    rw[i2]at j2
    rw[←hval x x1,←hval y y1,j2]
   ·rw[i2];exact hval x x1
   ·rw[j2];exact hval y y1
   ·rw[i2];exact(Pg x x1).2 h6
   ·rw[i2,j2];exact(Ph x y x1 y1).2 ⟨h7,h8⟩
   ·rw[j2];exact Pg y y1
  rcases hr with⟨i,j,hij,hj,f1,f2,hm,rfl⟩|⟨n3,hr⟩
  ·obtain⟨t1,t2⟩:=mk i j (by omega) hj (by omega) f1 hm
   exact .inl ⟨rfl,t1,t2.1 f2⟩
  have m3: ∀a b,¬JD c a b:=by
   rintro a b ⟨t,hb⟩
   obtain⟨i,j,i1,j1,hne,e1,e2,f1,hm,f2⟩:=back a b t
   have f2:=f2.2 hb
   rcases Nat.lt_or_ge i j with h|h
   ·exact n3 i j h j1 f1 f2 hm
   ·exact n3 j i (by omega) i1 f2 f1 ⟨hm.2,hm.1⟩
  refine .inr ⟨m3,?_⟩
  rcases hr with⟨i,j,hi,hj,f1,f2,hm,rfl⟩|⟨n4,rfl⟩
  ·obtain⟨t1,t2⟩:=mk i j hi hj (fun e=>by subst e;rw[f1]at f2;cases f2) f1 hm
   exact .inl ⟨rfl,t1,fun h=>by rw[t2.2 h]at f2;cases f2⟩
  ·refine .inr ⟨fun a b ⟨t,hb⟩=>?_,rfl⟩
   obtain⟨i,j,i1,j1,hne,e1,e2,f1,hm,f2⟩:=back a b t
   refine n4 i j i1 j1 f1 ?_ hm
   cases h:(z.getD j aC.z).forward with
   |false=>rfl
   |true=>exact(hb (f2.1 h)).elim
 obtain⟨r,sP,hr2⟩:=key
 refine .aZ (a:=r) ?_ (.one hr2)
 rw[decide_eq_true rfl,cond_true,JE (by omega) (by omega),uj,←hz,sP]
 rfl
end
theorem JF{N:Nat}{l:List Event}{c:List Call}{op:List Int}(hl:l.length≤200)(R:cn N [1] l l.length c op):Wc c:=by
 have W:=R.wf
 have:=W.len
 refine⟨by omega,fun i hi=>?_,fun i hi h=>?_,fun i hi h=>?_⟩
 ·have:=(W.one i hi).fr;omega
 ·rcases(W.one i hi).tO with⟨h2,_⟩|h2
  ·exact(h h2).elim
  ·omega
 ·have h2:=(Sr.pY R i hi).1
  rw[h]at h2
  exact(Sr.QW h2).1
theorem nN{N:Nat}(hN:300 < N)(l:List Event):Wp (fk N l) fun r=>(r.2.2.2.2≠0∧r.1=false∧r.2.1=0∧r.2.2.1=0∧r.2.2.2.1=0)∨
  (r.2.2.2.2=0∧bo N [1]=some 0∧l.length≤200∧∃c op,cn N [1] l l.length c op∧lV c∧r.1=decide (r.2.1=0)∧Kd c (r.2.1,r.2.2.1,r.2.2.2.1)):=by
 obtain⟨⟨c,e,er⟩,hc,h⟩:=lR (types:=[1]) (l:=l) hN
 have hlen:er=0→c.length≤200:=fun h0=>by
  obtain⟨_,_,h2,_,op,R⟩:=h h0
  have:c.length≤l.length:=R.wf.len
  omega
 unfold fk
 refine .seq (Lw hN l hc hlen) fun r _ hr=>?_
 rcases hr with⟨h1,_⟩|⟨h1,h0,rfl,D⟩
 ·exact .aF (by simpa using h1) (.one (.inl ⟨h1,rfl,rfl,rfl,rfl⟩))
 ·obtain⟨ht,_,hl,_,op,R⟩:=h h0
  refine .aw (by simpa using h1) ?_
  obtain⟨q,hq1,U1⟩:=WJ hN (JF hl R) D
  have split: ∀(m:Option (List aa)) (f:List aa→Option (Int×Int×Int)) (g:List aa→Option (Int×Int×Int)) (k:Int×Int×Int→Option (Int×Int×Int)),True:=fun _ _ _ _=>trivial
  cases hcl:fY N r.1 with
  |none=>rw[hcl]at hq1;cases hq1
  |some K=>
   rw[hcl,uj]at hq1
   refine .aZ rfl ?_
   cases hrd:lg N r.1 K with
   |none=>rw[hrd]at hq1;cases hq1
   |some t=>
    rw[hrd,uj]at hq1
    refine .aZ rfl (.seq (P:=fun v=>v=q) ?_ fun v _ hv=>?_)
    ·generalize (bif decide (t.1=0)then bd (jf N K) fun DC=>bd (jA N DC) fun gz=>some (gz.1,gz.2.1,gz.2.2)else some (t.1,t.2.1,t.2.2))=m at hq1⊢
     cases m with
     |none=>cases hq1
     |some v=>exact⟨v,rfl,Option.some.inj hq1⟩
    ·subst hv
     obtain⟨k1,k2,k3⟩:=v
     exact .one (.inr ⟨rfl,ht,hl,r.1,op,R,D,rfl,U1⟩)
end Zo
end Go.Proofs.YtjdkkabcenohcaaGreatDoor
