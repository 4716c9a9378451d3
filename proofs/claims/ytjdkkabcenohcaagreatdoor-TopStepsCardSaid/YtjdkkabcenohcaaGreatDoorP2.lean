import Derived.Test.YtjdkkabcenohcaaGreatDoorP1
import Derived.Test.YtjdkkabcenohcaaGreatDoorBit
set_option linter.unusedVariables false
set_option linter.unusedSimpArgs false
set_option linter.unusedSectionVars false
set_option maxRecDepth 100000
namespace Go.Proofs.YtjdkkabcenohcaaGreatDoor
open Go.RowKit
namespace Hs
def yX(k:Int):Int:=if k=1∨k=2 then 1 else if k=3∨k=4 then 2 else if k=5∨k=6 then 3 else if k=7∨k=8∨k=9 then 4 else if k=10 then 5 else 0
theorem W0(N:Nat)(k:Int):nk N k=some (yX k):=by
 by_cases h1:k=1;·subst h1;rfl
 by_cases h2:k=2;·subst h2;rfl
 by_cases h3:k=3;·subst h3;rfl
 by_cases h4:k=4;·subst h4;rfl
 by_cases h5:k=5;·subst h5;rfl
 by_cases h6:k=6;·subst h6;rfl
 by_cases h7:k=7;·subst h7;rfl
 by_cases h8:k=8;·subst h8;rfl
 by_cases h9:k=9;·subst h9;rfl
 by_cases h10:k=10;·subst h10;rfl
 simp[nk,yX,bd,h1,h2,h3,h4,h5,h6,h7,h8,h9,h10]
theorem HB(N:Nat)(t k:Int):jH N t k=some (decide (t≠0∧yX k=t)):=by
 unfold jH
 rw[W0]
 by_cases h:t=0
 ·subst h;rfl
 ·simp[h,bd]
theorem zB(N:Nat)(k n:Int): ∃b,cQ N k n=some b:=by
 unfold cQ
 by_cases h1:k=2;·subst h1;exact⟨_,rfl⟩
 by_cases h2:k=4;·subst h2;exact⟨_,rfl⟩
 by_cases h3:k=6;·subst h3;exact⟨_,rfl⟩
 by_cases h4:k=10;·subst h4;exact⟨_,rfl⟩
 simp only[h1,h2,h3,h4,decide_false,cond_false]
 exact⟨_,rfl⟩
theorem CV(N:Nat)(k n:Int): ∃b,bV N k n=some b:=by
 unfold bV
 by_cases h1:k=2;·subst h1;exact⟨_,rfl⟩
 by_cases h2:k=10;·subst h2;exact⟨_,rfl⟩
 by_cases h3:k=4;·subst h3;exact⟨_,rfl⟩
 by_cases h4:k=6;·subst h4;exact⟨_,rfl⟩
 by_cases h5:k=7;·subst h5;exact⟨_,rfl⟩
 by_cases h6:k=8;·subst h6;exact⟨_,rfl⟩
 by_cases h7:k=9;·subst h7;exact⟨_,rfl⟩
 simp only[h1,h2,h3,h4,h5,h6,h7,decide_false,cond_false]
 exact⟨_,rfl⟩
structure Stp(types:List Int)(out:List Call)(op:List Int)(i:Int)(v:Event)(out':List Call)(op':List Int):Prop where
 who:0≤v.who∧v.who < 8
 aj:0≤v.aj∧v.aj < types.length
 how:(v.kind≠0∧(types.getD v.aj.toNat 0≠0∧yX v.kind=types.getD v.aj.toNat 0)∧op.getD v.who.toNat 0≤0∧out'=out++[⟨v.who,v.aj,v.kind,v.value,0,i,-1⟩]∧op'=fb 8 0 op v.who ((out.length:Int)+1))∨
  (v.kind=0∧∃m:Nat,op.getD v.who.toNat 0=m+1∧∃c,m < out.length∧out.getD m Call.z=c∧c.aj=v.aj∧out'=out.set m ⟨c.who,c.aj,c.kind,c.arg,v.value,c.from_,i⟩∧op'=fb 8 0 op v.who 0)
theorem EB{N:Nat}{types:List Int}{out:List Call}{op:List Int}{i:Int}{v:Event}(hl:out.length≤1000)(ho: ∀w,w < 8→0≤op.getD w 0∧op.getD w 0≤out.length):
  Wp (ep N types out op i v) fun r=>r.2.2=0→Stp types out op i v r.1 r.2.1:=by
 unfold ep
 refine .cond (fun _=> .one (by simp)) (fun h=>?_)
 simp only[Bool.or_eq_true,Bool.and_eq_true,Bool.not_eq_true',Bool.not_eq_false',Bool.or_eq_false_iff,Bool.and_eq_false_imp,decide_eq_true_eq,decide_eq_false_iff_not,beq_iff_eq,not_or,Int.not_lt,Int.not_le,Bool.false_eq_true,not_false_eq_true,not_true_eq_false,Decidable.not_not]at *
 have h8:=ho v.who.toNat (by omega)
 have hw:0≤v.who∧v.who < 8:=by omega
 have ht:0≤v.aj∧v.aj < types.length:=by omega
 refine .ax (by omega) (by omega) (.cond (fun hk=>?_) (fun hk=>?_))
 ·refine .fL 0 (by omega) (by omega) (.bD (HB ..) ?_)
  obtain⟨b,hb⟩:=zB N v.kind v.value
  refine .gd b (fun _=>hb) fun x _=> .cond (fun _=> .one (by simp)) (fun hf=> .cond (fun _=> .one (by simp)) (fun hn=> .ck (eT ⟨?_,?_⟩) (.ax (by omega) (by omega) (.one fun _=>?_))))
  ·simp only[List.length_singleton];exact Nat.le_trans (m:=2000) (by omega) (by decide)
  ·simp only[List.length_singleton];omega
  ·simp only[Bool.or_eq_false_iff,Bool.not_eq_false',decide_eq_true_eq,decide_eq_false_iff_not,Bool.not_eq_true']at hf hn hk
   exact⟨hw,ht,.inl ⟨hk,hf.1,by omega,rfl,by simp⟩⟩
 ·refine .cond (fun _=> .one (by simp)) (fun hn=>?_)
  simp only[decide_eq_false_iff_not,Bool.not_eq_false',decide_eq_true_eq]at hn hk
  obtain⟨m,hm⟩: ∃m:Nat,op.getD v.who.toNat 0=m+1:=⟨(op.getD v.who.toNat 0 - 1).toNat,by omega⟩
  rw[hm]
  simp only[show((m:Int)+1 - 1)=(m:Int) by omega]
  refine .bK (by omega) (.fL Call.z (by omega) (by omega) ?_)
  simp only[Int.toNat_natCast]
  obtain⟨b,hb⟩:=CV N (out.getD m Call.z).kind v.value
  refine .gd b (fun _=>hb) fun x _=> .cond (fun _=> .one (by simp)) (fun hf=> .ax (by omega) (by omega) (.one fun _=>?_))
  simp only[Bool.or_eq_false_iff,Bool.not_eq_false',decide_eq_true_eq]at hf
  exact⟨hw,ht,.inr ⟨hk,m,hm,_,by omega,rfl,hf.1,rfl,rfl⟩⟩
structure Okc(types:List Int)(l:List Event)(k:Nat)(op:List Int)(m:Nat)(c:Call):Prop where
 who:0≤c.who∧c.who < 8
 aj:0≤c.aj∧c.aj < types.length
 fit:types.getD c.aj.toNat 0≠0∧yX c.kind=types.getD c.aj.toNat 0
 fr:0≤c.from_∧c.from_ < k
 tO:(c.aY= -1∧op.getD c.who.toNat 0=m+1∧c.res=0)∨(c.from_ < c.aY∧c.aY < k)
 evf:l.getD c.from_.toNat Event.z=⟨c.who,c.aj,c.kind,c.arg⟩∧c.kind≠0
 evt:c.aY≠ -1→l.getD c.aY.toNat Event.z=⟨c.who,c.aj,0,c.res⟩
structure Two(c d:Call):Prop where
 fr:c.from_ < d.from_
 own:c.who=d.who→c.aY≠ -1∧c.aY < d.from_
 tO:c.aY≠ -1→c.aY≠d.aY
structure WF(types:List Int)(l:List Event)(k:Nat)(out:List Call)(op:List Int):Prop where
 len:out.length≤k
 cnt:out.length+out.countP (fun c=>!decide (c.aY= -1))=k
 qk: ∀w,w < 8→0≤op.getD w 0∧op.getD w 0≤out.length∧∀m:Nat,op.getD w 0=m+1→(out.getD m Call.z).who=w∧(out.getD m Call.z).aY= -1
 one: ∀m,m < out.length→Okc types l k op m (out.getD m Call.z)
 two: ∀i j,i < j→j < out.length→Two (out.getD i Call.z) (out.getD j Call.z)
 all: ∀e,e < k→∃m,m < out.length∧((out.getD m Call.z).from_=e∨(out.getD m Call.z).aY=e)
theorem dL{α:Type}{l:List α}{x d:α}{i:Nat}:(l++[x]).getD i d=if i < l.length then l.getD i d else if i=l.length then x else d:=by
 simp only[List.getD_eq_getElem?_getD]
 by_cases h:i < l.length
 ·rw[if_pos h,List.getElem?_append_left h]
 ·rw[if_neg h,List.getElem?_append_right (by omega)]
  by_cases h2:i=l.length
  ·subst h2;simp
  ·rw[if_neg h2,List.getElem?_eq_none (by simp;omega)];rfl
theorem fv{α:Type}{l:List α}{i j:Nat}{v d:α}(h:i < l.length):(l.set i v).getD j d=if j=i then v else l.getD j d:=by
 simp only[List.getD_eq_getElem?_getD,List.getElem?_set,h,if_true]
 by_cases hj:i=j
 ·subst hj;simp
 ·rw[if_neg hj,if_neg (fun e=>hj e.symm)]
theorem count_set{p:Call→Bool}: ∀{l:List Call} {m:Nat} {c:Call},m < l.length→p (l.getD m Call.z)=false→p c=true→(l.set m c).countP p=l.countP p+1
 | [],m,c,h,_,_=>by simp at h
 |a::l,0,c,_,h1,h2=>by
  have h1:p a=false:=h1
  simp[List.countP_cons,h1,h2]
 |a::l,m+1,c,h,h1,h2=>by
  simp only[List.set_cons_succ,List.countP_cons]
  rw[count_set (l:=l) (m:=m) (by simpa using h) (by simpa using h1) h2]
  omega
theorem Tf(types:List Int)(l:List Event):WF types l 0 [] []:=by
 refine⟨Nat.le_refl _,rfl,fun w _=>⟨by simp,by simp,fun m h=>by simp at h;omega⟩,fun m h=>absurd h (Nat.not_lt_zero _),fun i j _ h=>absurd h (Nat.not_lt_zero _),fun e h=>absurd h (Nat.not_lt_zero _)⟩
end Hs
namespace Hs
theorem Okc.later{types:List Int}{l:List Event}{k:Nat}{op op':List Int}{m:Nat}{c:Call}(h:Okc types l k op m c)(ho:c.aY= -1→op'.getD c.who.toNat 0=op.getD c.who.toNat 0):Okc types l (k+1) op' m c:=by
 refine⟨h.who,h.aj,h.fit,by have:=h.fr;omega,?_,h.evf,h.evt⟩
 rcases h.tO with h1|h1
 ·exact .inl ⟨h1.1,by rw[ho h1.1];exact h1.2.1,h1.2.2⟩
 ·exact .inr (by omega)
theorem Tg{types:List Int}{l:List Event}{k:Nat}{out out':List Call}{op op':List Int}{v:Event}(W:WF types l k out op)(S:Stp types out op (k:Int) v out' op')(hv:l.getD k Event.z=v):WF types l (k+1) out' op':=by
 have hw:=S.who
 have ht:=S.aj
 have hop:=W.qk v.who.toNat (by omega)
 rcases S.how with⟨hk,hf,hn,rfl,rfl⟩|⟨hk,m,hm,c,hml,rfl,hct,rfl,rfl⟩
 ·have hnew: ∀i,(out++[(⟨v.who,v.aj,v.kind,v.value,0,(k:Int),-1⟩:Call)]).getD i Call.z=if i < out.length then out.getD i Call.z else if i=out.length then⟨v.who,v.aj,v.kind,v.value,0,(k:Int),-1⟩else Call.z:=fun i=>dL
  have CW: ∀w,w < 8→(fb 8 0 op v.who ((out.length:Int)+1)).getD w 0=if w=v.who.toNat then(out.length:Int)+1 else op.getD w 0:=fun w hw=>gy hw
  refine⟨by have:=W.len;simp;omega,?_,fun w Gl=>?_,fun m hm=>?_,fun i j hij hj=>?_,fun e he=>?_⟩
  ·have:=W.cnt
   rw[List.countP_append]
   simp only[List.length_append,List.length_singleton,List.countP_singleton]
   simp
   omega
  ·rw[CW w Gl]
   simp only[hnew,List.length_append,List.length_singleton]
   by_cases h:w=v.who.toNat
   ·rw[if_pos h]
    refine⟨by omega,by omega,fun m hm=>?_⟩
    obtain rfl:m=out.length:=by omega
    rw[if_neg (by omega),if_pos rfl]
    exact⟨by simp only;omega,rfl⟩
   ·rw[if_neg h]
    have h1:=W.qk w Gl
    refine⟨h1.1,by omega,fun m hm=>?_⟩
    rw[if_pos (by omega)]
    exact h1.2.2 m hm
  ·simp only[List.length_append,List.length_singleton]at hm
   rw[hnew]
   by_cases h:m < out.length
   ·rw[if_pos h]
    have h1:=W.one m h
    refine h1.later fun hto=>?_
    have h2:=h1.who
    have h5:=h1.fr
    rw[CW _ (by omega),if_neg]
    intro he
    rcases h1.tO with h3|h3
    ·rw[he]at h3;omega
    ·omega
   ·obtain rfl:m=out.length:=by omega
    rw[if_neg h,if_pos rfl]
    exact⟨hw,ht,hf,by simp only;omega,.inl ⟨rfl,by rw[CW _ (by simp only;omega),if_pos rfl],rfl⟩,⟨by simp only[Int.toNat_natCast];rw[hv],hk⟩,fun h=>absurd rfl h⟩
  ·simp only[List.length_append,List.length_singleton]at hj
   rw[hnew,hnew,if_pos (show i < out.length by omega)]
   by_cases h:j < out.length
   ·rw[if_pos h];exact W.two i j hij h
   ·rw[if_neg h,if_pos (by omega)]
    have h1:=W.one i (by omega)
    have h2:=h1.fr
    refine⟨by simp only;omega,fun cq=>?_,fun h=>h⟩
    simp only at cq⊢
    rcases h1.tO with h3|h3
    ·rw[cq]at h3;omega
    ·omega
  ·rcases Nat.lt_or_ge e k with h|h
   ·obtain⟨m,hm,he⟩:=W.all e h
    exact⟨m,by simp;omega,by rw[hnew,if_pos hm];exact he⟩
   ·obtain rfl:e=k:=by omega
    exact⟨out.length,by simp,.inl (by rw[hnew,if_neg (by omega),if_pos rfl])⟩
 ·have hnew: ∀i,(out.set m ⟨(out.getD m Call.z).who,(out.getD m Call.z).aj,(out.getD m Call.z).kind,(out.getD m Call.z).arg,v.value,(out.getD m Call.z).from_,(k:Int)⟩).getD i Call.z=if i=m then⟨(out.getD m Call.z).who,(out.getD m Call.z).aj,(out.getD m Call.z).kind,(out.getD m Call.z).arg,v.value,(out.getD m Call.z).from_,(k:Int)⟩else out.getD i Call.z:=fun i=>fv hml
  have CW: ∀w,w < 8→(fb 8 0 op v.who 0).getD w 0=if w=v.who.toNat then 0 else op.getD w 0:=fun w hw=>gy hw
  have hp:=hop.2.2 m hm
  have hO:=W.one m hml
  have hOw:=hO.who
  have hOf:=hO.fr
  refine⟨by have:=W.len;simp;omega,?_,fun w Gl=>?_,fun i hi=>?_,fun i j hij hj=>?_,fun e he=>?_⟩
  ·have:=W.cnt
   rw[count_set hml (by simpa using hp.2) (by simp)]
   simp only[List.length_set]
   omega
  ·rw[CW w Gl]
   simp only[hnew,List.length_set]
   by_cases h:w=v.who.toNat
   ·rw[if_pos h]
    exact⟨by omega,by omega,fun m hm=>by omega⟩
   ·rw[if_neg h]
    have h1:=W.qk w Gl
    refine⟨h1.1,h1.2.1,fun i hi=>?_⟩
    have h2:=h1.2.2 i hi
    rw[if_neg]
    ·exact h2
    ·rintro rfl;omega
  ·simp only[List.length_set]at hi
   rw[hnew]
   by_cases h:i=m
   ·subst h
    rw[if_pos rfl]
    refine⟨hO.who,hO.aj,hO.fit,by simp only;omega,.inr (by simp only;omega),hO.evf,fun _=>?_⟩
    simp only[Int.toNat_natCast]
    rw[hv,hct,show(out.getD i Call.z).who=v.who by omega]
    rw[show v=⟨v.who,v.aj,v.kind,v.value⟩from rfl,hk]
   ·rw[if_neg h]
    have h1:=W.one i hi
    have h2:=h1.who
    have h5:=h1.fr
    refine h1.later fun hto=>?_
    rw[CW _ (by omega),if_neg]
    intro he
    rcases h1.tO with h3|h3
    ·rw[he]at h3;omega
    ·omega
  ·simp only[List.length_set]at hj
   have T:=W.two i j hij hj
   rw[hnew,hnew]
   by_cases h:i=m
   ·subst h
    rw[if_pos rfl,if_neg (by omega)]
    have hj1:=W.one j hj
    refine⟨T.fr,fun hw=>absurd hp.2 (T.own hw).1,fun _=>?_⟩
    simp only
    rcases hj1.tO with h3|h3<;>omega
   ·rw[if_neg h]
    by_cases h2:j=m
    ·subst h2
     rw[if_pos rfl]
     refine⟨T.fr,T.own,fun _=>?_⟩
     simp only
     have hi1:=W.one i (by omega)
     rcases hi1.tO with h3|h3<;>omega
    ·rw[if_neg h2];exact T
  ·simp only[List.length_set]
   rcases Nat.lt_or_ge e k with h|h
   ·obtain⟨i,hi,he⟩:=W.all e h
    refine⟨i,hi,?_⟩
    rw[hnew]
    by_cases h2:i=m
    ·subst h2
     rw[if_pos rfl]
     simp only
     omega
    ·rw[if_neg h2];exact he
   ·obtain rfl:e=k:=by omega
    exact⟨m,hml,.inr (by rw[hnew,if_pos rfl])⟩
theorem uW{N:Nat}{types:List Int}(hN:300 < N):Wp (co N types) fun e=>e=0→1≤types.length∧types.length≤4∧∀x∈types,1≤x∧x≤5:=by
 unfold co
 by_cases hl:1≤types.length∧types.length≤4
 ·have hg:(((decide (((types).length:Int) < 1))||(decide (4 < ((types).length:Int))))==false)=true:=by simp;omega
  refine .seq (P:=fun b=>b=false→∀x∈types,1≤x∧x≤5) (.bg hg ?_) fun b _ hb=> .cond (fun _=> .one (by simp)) (fun h=> .one fun _=>⟨hl.1,hl.2,hb (by simp only[Bool.or_eq_true,Bool.and_eq_true,Bool.not_eq_true',Bool.not_eq_false',Bool.or_eq_false_iff,Bool.and_eq_false_imp,decide_eq_true_eq,decide_eq_false_iff_not,beq_iff_eq,not_or,Int.not_lt,Int.not_le,Bool.false_eq_true,not_false_eq_true,not_true_eq_false,Decidable.not_not]at *;exact h.2)⟩)
  unfold lR
  refine .seq (P:=fun r=>r < 0→∀x∈types,1≤x∧x≤5) ?_ fun r _ hr=> .one fun h=>hr (by simpa using h)
  unfold nJ
  refine .elim (P:=fun t=>match t with| .inl _=>∀x∈types,1≤x∧x≤5| .inr r=>0≤r) (.iter types.length (fun k v=>v=(k:Int)∧∀j,j < k→1≤types.getD j 0∧types.getD j 0≤5) (by omega) ⟨rfl,fun j h=>absurd h (Nat.not_lt_zero _)⟩ ?_ ?_) (fun _ _ h=> .one fun _=>h) (fun r _ h=> .one fun h2=>?_)
  ·rintro k v hk ⟨rfl,hr⟩
   simp only[lQ]
   refine .bg (decide_eq_true (by omega)) (.ix hk (.bD rfl (.cond (fun _=> .one (by simp)) (fun h=> .bK (by omega) (.one ⟨by simp,fun j hj=>?_⟩)))))
   rcases Nat.lt_or_ge j k with h1|h1
   ·exact hr j h1
   ·obtain rfl:j=k:=by omega
    simp only[Bool.or_eq_true,Bool.and_eq_true,Bool.not_eq_true',Bool.not_eq_false',Bool.or_eq_false_iff,Bool.and_eq_false_imp,decide_eq_true_eq,decide_eq_false_iff_not,beq_iff_eq,not_or,Int.not_lt,Int.not_le,Bool.false_eq_true,not_false_eq_true,not_true_eq_false,Decidable.not_not]at *
    rw[aW hk]
    omega
  ·rintro v ⟨rfl,hr⟩
   simp only[lQ]
   refine .aL (decide_eq_false (by omega)) (.one fun x hx=>?_)
   obtain⟨j,hj,rfl⟩:=List.mem_iff_getElem.1 hx
   have:=hr j hj
   rw[aW hj]at this
   exact this
  ·have h:0≤r:=h
   omega
 ·have hg:(((decide (((types).length:Int) < 1))||(decide (4 < ((types).length:Int))))==false)=false:=by
   rw[Bool.eq_false_iff];simp;omega
  refine .seq (P:=fun _=>True) (.aL hg (.one trivial)) fun b _ _=> .bg (by simp only[Bool.or_eq_true,Bool.and_eq_true,Bool.not_eq_true',Bool.not_eq_false',Bool.or_eq_false_iff,Bool.and_eq_false_imp,decide_eq_true_eq,decide_eq_false_iff_not,beq_iff_eq,not_or,Int.not_lt,Int.not_le,Bool.false_eq_true,not_false_eq_true,not_true_eq_false,Decidable.not_not]at *;omega) (.one (by simp))
structure His(N:Nat)(types:List Int)(l:List Event)(c:List Call):Prop where
 ty:co N types=some 0
 tys:1≤types.length∧types.length≤4∧∀x∈types,1≤x∧x≤5
 len:l.length≤200
 wf: ∃op,WF types l l.length c op
theorem PL{N:Nat}{types:List Int}{l:List Event}(hN:300 < N):Wp (cB N types l) fun r=>r.2.2=0→His N types l r.1∧r.2.1=0:=by
 unfold cB
 refine .seq (uW hN) fun e hte ht=> .cond (fun h=> .one fun h2=>?_) (fun h=> .cond (fun _=> .one (by simp)) (fun hl=>?_))
 ·simp only[Bool.or_eq_true,Bool.and_eq_true,Bool.not_eq_true',Bool.not_eq_false',Bool.or_eq_false_iff,Bool.and_eq_false_imp,decide_eq_true_eq,decide_eq_false_iff_not,beq_iff_eq,not_or,Int.not_lt,Int.not_le,Bool.false_eq_true,not_false_eq_true,not_true_eq_false,Decidable.not_not]at *;exact absurd h2 h
 ·simp only[Bool.or_eq_true,Bool.and_eq_true,Bool.not_eq_true',Bool.not_eq_false',Bool.or_eq_false_iff,Bool.and_eq_false_imp,decide_eq_true_eq,decide_eq_false_iff_not,beq_iff_eq,not_or,Int.not_lt,Int.not_le,Bool.false_eq_true,not_false_eq_true,not_true_eq_false,Decidable.not_not]at *
  subst h
  refine .elim (P:=fun t=>match t with| .inl s=>WF types l l.length s.1 s.2| .inr r=>r.2.2≠0) (.iter l.length (fun k s=>s.2.2=(k:Int)∧WF types l k s.1 s.2.1) (by omega) ⟨rfl,Tf types l⟩ ?_ ?_) (fun s _ h=> .one fun _=>⟨⟨hte,ht rfl,by omega,s.2,h⟩,rfl⟩) (fun r _ h=> .one fun h2=>absurd h2 h)
  ·rintro k ⟨out,op,v⟩ hk ⟨hv,W⟩
   simp only at hv W
   subst hv
   simp only[gB]
   have hle:=W.len
   refine .bg (decide_eq_true (by omega)) (.ix hk (.seq (EB (by omega) fun w hw=>⟨(W.qk w hw).1,(W.qk w hw).2.1⟩) fun r _ hr=> .cond (fun h=> .one (by simpa using h)) (fun h=> .bK (by omega) (.one ⟨by simp,?_⟩))))
   simp only[Bool.or_eq_true,Bool.and_eq_true,Bool.not_eq_true',Bool.not_eq_false',Bool.or_eq_false_iff,Bool.and_eq_false_imp,decide_eq_true_eq,decide_eq_false_iff_not,beq_iff_eq,not_or,Int.not_lt,Int.not_le,Bool.false_eq_true,not_false_eq_true,not_true_eq_false,Decidable.not_not]at *
   exact Tg W (hr h) (aW hk)
  ·rintro⟨out,op,v⟩ ⟨hv,W⟩
   simp only at hv W
   subst hv
   simp only[gB]
   exact .aL (decide_eq_false (by omega)) (.one W)
end Hs
namespace Hs
theorem Kb{α β:Type}{m:Option α}{f:α→Option β}{b:β}(h:bd m f=some b): ∃a,m=some a∧f a=some b:=by
 cases m with
 |none=>cases h
 |some a=>exact⟨a,rfl,h⟩
theorem EC{α:Type}{c:Bool}{x y:Option α}{b:α}(h:cond c x y=some b):(c=true∧x=some b)∨(c=false∧y=some b):=by
 cases c with
 |true=>exact .inl ⟨rfl,h⟩
 |false=>exact .inr ⟨rfl,h⟩
def sF(v:Event)(i:Int):Call:=⟨v.who,v.aj,v.kind,v.value,0,i,-1⟩
def ia(c:Call)(r i:Int):Call:=⟨c.who,c.aj,c.kind,c.arg,r,c.from_,i⟩
structure uX(N:Nat)(types:List Int)(out:List Call)(op:List Int)(i:Int)(v:Event)(out':List Call)(op':List Int):Prop where
 who:0≤v.who∧v.who < 8
 aj:0≤v.aj∧v.aj < types.length
 how:(v.kind≠0∧(types.getD v.aj.toNat 0≠0∧yX v.kind=types.getD v.aj.toNat 0)∧cQ N v.kind v.value=some true∧op.getD v.who.toNat 0≤0∧out'=out++[sF v i]∧op'=fb 8 0 op v.who ((out.length:Int)+1))∨
  (v.kind=0∧∃m:Nat,op.getD v.who.toNat 0=m+1∧m < out.length∧(out.getD m Call.z).aj=v.aj∧bV N (out.getD m Call.z).kind v.value=some true∧out'=out.set m (ia (out.getD m Call.z) v.value i)∧op'=fb 8 0 op v.who 0)
theorem uX.oA{N:Nat}{types:List Int}{out out':List Call}{op op':List Int}{i:Int}{v:Event}(S:uX N types out op i v out' op'):Stp types out op i v out' op':=by
 obtain⟨h1,h2,h⟩:=S
 refine⟨h1,h2,?_⟩
 rcases h with⟨a,b,c,d,e,f⟩|⟨a,m,b,c,d,e,f,g⟩
 ·exact .inl ⟨a,b,d,e,f⟩
 ·exact .inr ⟨a,m,b,_,c,rfl,d,f,g⟩
theorem Ti{N:Nat}{types:List Int}{out:List Call}{op:List Int}{i:Int}{v:Event}(hl:out.length≤1000)(ho: ∀w,w < 8→0≤op.getD w 0∧op.getD w 0≤out.length):
  Wp (ep N types out op i v) fun r=>r.2.2=0→uX N types out op i v r.1 r.2.1:=by
 unfold ep
 refine .cond (fun _=> .one (by simp)) (fun h=>?_)
 simp only[Bool.or_eq_true,Bool.and_eq_true,Bool.not_eq_true',Bool.not_eq_false',Bool.or_eq_false_iff,Bool.and_eq_false_imp,decide_eq_true_eq,decide_eq_false_iff_not,beq_iff_eq,not_or,Int.not_lt,Int.not_le,Bool.false_eq_true,not_false_eq_true,not_true_eq_false,Decidable.not_not]at *
 have h8:=ho v.who.toNat (by omega)
 have hw:0≤v.who∧v.who < 8:=by omega
 have ht:0≤v.aj∧v.aj < types.length:=by omega
 refine .ax (by omega) (by omega) (.cond (fun hk=>?_) (fun hk=>?_))
 ·refine .fL 0 (by omega) (by omega) (.bD (HB ..) ?_)
  obtain⟨b,hb⟩:=zB N v.kind v.value
  refine .gd b (fun _=>hb) fun x hx=> .cond (fun _=> .one (by simp)) (fun hf=> .cond (fun _=> .one (by simp)) (fun hn=> .ck (eT ⟨?_,?_⟩) (.ax (by omega) (by omega) (.one fun _=>?_))))
  ·simp only[List.length_singleton];exact Nat.le_trans (m:=2000) (by omega) (by decide)
  ·simp only[List.length_singleton];omega
  ·simp only[Bool.or_eq_false_iff,Bool.not_eq_false',decide_eq_true_eq,decide_eq_false_iff_not,Bool.not_eq_true']at hf hn hk
   have hx':=hx (by rw[decide_eq_true hf.1];rfl)
   rw[hf.2]at hx'
   exact⟨hw,ht,.inl ⟨hk,hf.1,by rw[hb,←hx'],by omega,rfl,by simp⟩⟩
 ·refine .cond (fun _=> .one (by simp)) (fun hn=>?_)
  simp only[decide_eq_false_iff_not,Bool.not_eq_false',decide_eq_true_eq]at hn hk
  obtain⟨m,hm⟩: ∃m:Nat,op.getD v.who.toNat 0=m+1:=⟨(op.getD v.who.toNat 0 - 1).toNat,by omega⟩
  rw[hm]
  simp only[show((m:Int)+1 - 1)=(m:Int) by omega]
  refine .bK (by omega) (.fL Call.z (by omega) (by omega) ?_)
  simp only[Int.toNat_natCast]
  obtain⟨b,hb⟩:=CV N (out.getD m Call.z).kind v.value
  refine .gd b (fun _=>hb) fun x hx=> .cond (fun _=> .one (by simp)) (fun hf=> .ax (by omega) (by omega) (.one fun _=>?_))
  simp only[Bool.or_eq_false_iff,Bool.not_eq_false',decide_eq_true_eq]at hf
  have hx':=hx (by rw[decide_eq_true hf.1];rfl)
  rw[hf.2]at hx'
  exact⟨hw,ht,.inr ⟨hk,m,hm,by omega,hf.1,by rw[hb,←hx'],rfl,rfl⟩⟩
theorem YP{N:Nat}{types:List Int}{out out':List Call}{op op':List Int}{i:Int}{v:Event}(hl:out.length≤1000)(S:uX N types out op i v out' op'):
  ep N types out op i v=some (out',op',0):=by
 obtain⟨hw,ht,h⟩:=S
 refine Wp.eq ?_
 unfold ep
 refine .aL (by simp;omega) (.ax (by omega) (by omega) ?_)
 rcases h with⟨hk,hf,ha,hn,rfl,rfl⟩|⟨hk,m,hm,hml,gk,hr,rfl,rfl⟩
 ·refine .bg (by simpa using hk) (.fL 0 (by omega) (by omega) (.bD (HB ..) ?_))
  rw[decide_eq_true hf]
  refine .gd true (fun _=>ha) fun x hx=>?_
  rw[hx rfl]
  refine .aL rfl (.aL (decide_eq_false (by omega)) (.ck (eT ⟨?_,?_⟩) (.ax (by omega) (by omega) (.one ?_))))
  ·simp only[List.length_singleton];exact Nat.le_trans (m:=2000) (by omega) (by decide)
  ·simp only[List.length_singleton];omega
  ·simp[sF]
 ·refine .aL (by simp[hk]) (.aL (by rw[hm];exact decide_eq_false (by omega)) ?_)
  rw[hm]
  simp only[show((m:Int)+1 - 1)=(m:Int) by omega]
  refine .bK (by omega) (.fL Call.z (by omega) (by omega) ?_)
  simp only[Int.toNat_natCast]
  refine .gd true (fun _=>hr) fun x hx=>?_
  rw[hx (by rw[decide_eq_true gk];rfl)]
  exact .aL (by rw[decide_eq_true gk];rfl) (.ax (by omega) (by omega) (.one rfl))
inductive ex(N:Nat)(types:List Int)(l:List Event):Nat→List Call→List Int→Prop
 |zero:ex N types l 0 [] []
 |succ {k:Nat} {out out':List Call} {op op':List Int}:ex N types l k out op→k < l.length→uX N types out op (k:Int) (l.getD k Event.z) out' op'→ex N types l (k+1) out' op'
theorem ex.wf{N:Nat}{types:List Int}{l:List Event}{k:Nat}{out:List Call}{op:List Int}(R:ex N types l k out op):WF types l k out op:=by
 induction R with
 |zero=>exact Tf types l
 |succ _ _ S ih=>exact Tg ih S.oA rfl
theorem ex.fn{N:Nat}{types:List Int}{l:List Event}{n:Nat}{c:List Call}{op:List Int}(R:ex N types l n c op):
  ∃f:Nat→List Call×List Int,f 0=([],[])∧f n=(c,op)∧∀k,k < n→ex N types l k (f k).1 (f k).2∧uX N types (f k).1 (f k).2 (k:Int) (l.getD k Event.z) (f (k+1)).1 (f (k+1)).2:=by
 induction R with
 |zero=>exact⟨fun _=>([],[]),rfl,rfl,fun k h=>absurd h (Nat.not_lt_zero _)⟩
 | @succ k out out' op op' R hk S ih=>
  obtain⟨f,h0,hn,hs⟩:=ih
  refine⟨fun j=>if j≤k then f j else(out',op'),by simp[h0],if_neg (by omega),fun j hj=>?_⟩
  rcases Nat.lt_or_ge j k with h|h
  ·simp only[if_pos (show j≤k by omega),if_pos (show j+1≤k by omega)]
   exact hs j h
  ·obtain rfl:j=k:=by omega
   simp only[if_pos (Nat.le_refl j),if_neg (show ¬j+1≤j by omega),hn]
   exact⟨R,S⟩
theorem nN{N:Nat}{types:List Int}{l:List Event}{c:List Call}{op:List Int}(hN:300 < N)(ht:co N types=some 0)(hl:l.length≤200)(R:ex N types l l.length c op):cB N types l=some (c,0,0):=by
 obtain⟨f,h0,hn,hs⟩:=R.fn
 refine Wp.eq ?_
 unfold cB
 refine .bD ht (.aL rfl (.aL (decide_eq_false (by omega)) (.bD (a:= .inl (c,op)) ?_ ⟨(c,0,0),rfl,rfl⟩)))
 refine SZ (ρ:=(List Call×List Int) ⊕(List Call×Int×Int)) (fun k=>((f k).1,(f k).2,(k:Int))) (Sum.inl (c,op)) l.length _ (by simp only[h0];rfl) (fun k hk=>Wp.eq ?_) (Wp.eq ?_) N (by omega)
 ·simp only[gB]
  obtain⟨hr,hx⟩:=hs k hk
  have hle:=hr.wf.len
  rw[aW hk]at hx
  exact .bg (decide_eq_true (by omega)) (.ix hk (.bD (YP (by omega) hx) (.aL rfl (.bK (by omega) (.one (by simp))))))
 ·simp only[gB]
  exact .aL (decide_eq_false (by omega)) (.one (by rw[hn]))
theorem sG{N:Nat}{types:List Int}{l:List Event}(hN:300 < N):Wp (cB N types l) fun r=>r.2.2=0→co N types=some 0∧(1≤types.length∧types.length≤4)∧l.length≤200∧r.2.1=0∧∃op,ex N types l l.length r.1 op:=by
 unfold cB
 refine .seq (uW hN) fun e hte ht=> .cond (fun h=> .one fun h2=>?_) (fun h=> .cond (fun _=> .one (by simp)) (fun hl=>?_))
 ·simp only[Bool.or_eq_true,Bool.and_eq_true,Bool.not_eq_true',Bool.not_eq_false',Bool.or_eq_false_iff,Bool.and_eq_false_imp,decide_eq_true_eq,decide_eq_false_iff_not,beq_iff_eq,not_or,Int.not_lt,Int.not_le,Bool.false_eq_true,not_false_eq_true,not_true_eq_false,Decidable.not_not]at *;exact absurd h2 h
 ·simp only[Bool.or_eq_true,Bool.and_eq_true,Bool.not_eq_true',Bool.not_eq_false',Bool.or_eq_false_iff,Bool.and_eq_false_imp,decide_eq_true_eq,decide_eq_false_iff_not,beq_iff_eq,not_or,Int.not_lt,Int.not_le,Bool.false_eq_true,not_false_eq_true,not_true_eq_false,Decidable.not_not]at *
  subst h
  refine .elim (P:=fun t=>match t with| .inl s=>ex N types l l.length s.1 s.2| .inr r=>r.2.2≠0) (.iter l.length (fun k s=>s.2.2=(k:Int)∧ex N types l k s.1 s.2.1) (by omega) ⟨rfl,.zero⟩ ?_ ?_) (fun s _ h=> .one fun _=>⟨hte,⟨(ht rfl).1,(ht rfl).2.1⟩,by omega,rfl,s.2,h⟩) (fun r _ h=> .one fun h2=>absurd h2 h)
  ·rintro k ⟨out,op,v⟩ hk ⟨hv,R⟩
   simp only at hv R
   subst hv
   simp only[gB]
   have W:=R.wf
   have hle:=W.len
   refine .bg (decide_eq_true (by omega)) (.ix hk (.seq (Ti (by omega) fun w hw=>⟨(W.qk w hw).1,(W.qk w hw).2.1⟩) fun r _ hr=> .cond (fun h=> .one (by simpa using h)) (fun h=> .bK (by omega) (.one ⟨by simp,?_⟩))))
   simp only[Bool.or_eq_true,Bool.and_eq_true,Bool.not_eq_true',Bool.not_eq_false',Bool.or_eq_false_iff,Bool.and_eq_false_imp,decide_eq_true_eq,decide_eq_false_iff_not,beq_iff_eq,not_or,Int.not_lt,Int.not_le,Bool.false_eq_true,not_false_eq_true,not_true_eq_false,Decidable.not_not]at *
   exact .succ R hk (by rw[aW hk];exact hr h)
  ·rintro⟨out,op,v⟩ ⟨hv,W⟩
   simp only at hv W
   subst hv
   simp only[gB]
   exact .aL (decide_eq_false (by omega)) (.one W)
end Hs
end Go.Proofs.YtjdkkabcenohcaaGreatDoor
