import Derived.Test.YtjdkkabcenohcaaGreatDoorP2
set_option linter.unusedVariables false
set_option linter.unusedSimpArgs false
set_option linter.unusedSectionVars false
set_option maxRecDepth 100000
namespace Go.Proofs.YtjdkkabcenohcaaGreatDoor
open Go.RowKit
namespace Tx
open Hs
theorem Ua{N:Nat}{k n:Int}(h:cQ N k n=some true):if s9 k=true then n=0 else 1≤n∧n≤1000:=by
 unfold cQ at h
 by_cases h1:k=2;·subst h1;exact of_decide_eq_true (Option.some.inj h)
 by_cases h2:k=4;·subst h2;exact of_decide_eq_true (Option.some.inj h)
 by_cases h3:k=6;·subst h3;exact of_decide_eq_true (Option.some.inj h)
 by_cases h4:k=10;·subst h4;exact of_decide_eq_true (Option.some.inj h)
 simp only[h1,h2,h3,h4,decide_false,cond_false]at h
 have h:=Option.some.inj h
 simp only[Bool.and_eq_true,decide_eq_true_eq]at h
 simp only[s9,h1,h2,h3,h4,decide_false,Bool.or_false,Bool.false_eq_true,if_false]
 exact h
theorem acX{N:Nat}{k n:Int}(h:bV N k n=some true): -1≤n∧n≤1000:=by
 unfold bV at h
 have fin: ∀{b:Bool},some b=some true→b=true:=fun h=>Option.some.inj h
 by_cases h1:k=2
 ·subst h1
  have h:=fin h
  simp only[Bool.and_eq_true,decide_eq_true_eq]at h;omega
 by_cases h2:k=10
 ·subst h2
  have h:=fin h
  simp only[Bool.and_eq_true,decide_eq_true_eq]at h;omega
 by_cases h3:k=4
 ·subst h3
  have h:=fin h
  simp only[Bool.and_eq_true,Bool.or_eq_true,decide_eq_true_eq]at h;omega
 by_cases h4:k=6
 ·subst h4
  have h:=fin h
  simp only[Bool.and_eq_true,Bool.or_eq_true,decide_eq_true_eq]at h;omega
 by_cases h5:k=7
 ·subst h5
  have h:=fin h
  simp only[Bool.or_eq_true,decide_eq_true_eq]at h;omega
 by_cases h6:k=8
 ·subst h6
  have h:=fin h
  simp only[Bool.or_eq_true,decide_eq_true_eq]at h;omega
 by_cases h7:k=9
 ·subst h7
  have h:=fin h
  simp only[Bool.or_eq_true,decide_eq_true_eq]at h;omega
 simp only[h1,h2,h3,h4,h5,h6,h7,decide_false,cond_false]at h
 have h:=fin h
 simp only[decide_eq_true_eq]at h;omega
theorem acY{k:Int}(h:yX k≠0):1≤k∧k≤10:=by
 unfold yX at h
 repeat' split at h
 all_goals first|omega|exact absurd rfl h
theorem acZ{N:Nat}{types:List Int}{l:List Event}{k:Nat}{out:List Call}{op:List Int}(R:ex N types l k out op):types.length≤4→∀j,j < k→ry (l.getD j Event.z):=by
 induction R with
 |zero=>exact fun _ j h=>absurd h (Nat.not_lt_zero _)
 | @succ k out out' op op' R hk S ih=>
  intro h4 j hj
  rcases Nat.lt_or_ge j k with h|h
  ·exact ih h4 j h
  obtain rfl:j=k:=by omega
  have hw:=S.who
  have ht:=S.aj
  rcases S.how with⟨hk0,hf,ha,_⟩|⟨hk0,m,_,_,_,hr,_⟩
  ·have h1:=acY (by rw[hf.2];exact hf.1)
   have h2:=Ua ha
   refine⟨by omega,by omega,by omega,?_⟩
   split at h2
   ·rename_i hb;rw[if_pos hb];exact h2
   ·rename_i hb;rw[if_neg hb];omega
  ·have h2:=acX hr
   refine⟨by omega,by omega,by omega,?_⟩
   rw[if_neg (by rw[hk0];decide)]
   omega
theorem ac3{N:Nat}{types:List Int}(hN:300 < N):Wp (co N types) fun e=>e=0∨e=1:=by
 obtain⟨e,he,_⟩:=uW (types:=types) hN
 refine⟨e,he,?_⟩
 unfold co at he
 obtain⟨r,hr,he⟩:=al he
 cases hc:(((decide (((types).length:Int) < 1))||(decide (4 < ((types).length:Int))))||r)with
 |true=>rw[hc]at he;cases he;exact .inr rfl
 |false=>rw[hc]at he;cases he;exact .inl rfl
theorem ac4{N:Nat}{types:List Int}{out:List Call}{op:List Int}{i:Int}{v:Event}(hl:out.length≤1000)(ho: ∀w,w < 8→0≤op.getD w 0∧op.getD w 0≤out.length):
  Wp (ep N types out op i v) fun r=>r.2.2=0∨r.2.2=3∨r.2.2=4∨r.2.2=5:=by
 unfold ep
 refine .cond (fun _=> .one (by simp)) (fun h=>?_)
 simp only[Bool.or_eq_true,Bool.and_eq_true,Bool.not_eq_true',Bool.not_eq_false',Bool.or_eq_false_iff,Bool.and_eq_false_imp,decide_eq_true_eq,decide_eq_false_iff_not,beq_iff_eq,not_or,Int.not_lt,Int.not_le,Bool.false_eq_true,not_false_eq_true,not_true_eq_false,Decidable.not_not]at *
 have h8:=ho v.who.toNat (by omega)
 refine .ax (by omega) (by omega) (.cond (fun hk=>?_) (fun hk=>?_))
 ·refine .fL 0 (by omega) (by omega) (.bD (HB ..) ?_)
  obtain⟨b,hb⟩:=zB N v.kind v.value
  refine .gd b (fun _=>hb) fun x hx=> .cond (fun _=> .one (by simp)) (fun hf=> .cond (fun _=> .one (by simp)) (fun hn=> .ck (eT ⟨?_,?_⟩) (.ax (by omega) (by omega) (.one (by simp)))))
  ·simp only[List.length_singleton];exact Nat.le_trans (m:=2000) (by omega) (by decide)
  ·simp only[List.length_singleton];omega
 ·refine .cond (fun _=> .one (by simp)) (fun hn=>?_)
  simp only[decide_eq_false_iff_not,Bool.not_eq_false',decide_eq_true_eq]at hn hk
  obtain⟨m,hm⟩: ∃m:Nat,op.getD v.who.toNat 0=m+1:=⟨(op.getD v.who.toNat 0 - 1).toNat,by omega⟩
  rw[hm]
  simp only[show((m:Int)+1 - 1)=(m:Int) by omega]
  refine .bK (by omega) (.fL Call.z (by omega) (by omega) ?_)
  simp only[Int.toNat_natCast]
  obtain⟨b,hb⟩:=CV N (out.getD m Call.z).kind v.value
  exact .gd b (fun _=>hb) fun x hx=> .cond (fun _=> .one (by simp)) (fun hf=> .ax (by omega) (by omega) (.one (by simp)))
theorem Wp.and{α:Type}{m:Option α}{P Q:α→Prop}(h:Wp m P)(k:Wp m Q):Wp m fun a=>P a∧Q a:=by
 obtain⟨a,ha,hp⟩:=h
 obtain⟨b,hb,hq⟩:=k
 rw[ha]at hb
 cases hb
 exact⟨a,ha,hp,hq⟩
theorem AB{N:Nat}{types:List Int}{l:List Event}(hN:300 < N):Wp (cB N types l) fun r=>(r.2.2=0→qz types∧(∀e∈l,ry e)∧l.length≤200)∧(r.2.2≠0→r.2.2≠7∧(0≤r.2.1∧r.2.1≤l.length)):=by
 refine Wp.and ?_ ?_
 ·refine(Wp.and (sG hN) (PL hN)).mono fun r ⟨h1,h2⟩ h0=>?_
  obtain⟨_,hl,hle,_,op,R⟩:=h1 h0
  have hH:=(h2 h0).1
  refine⟨⟨hH.tys.1 |> fun _=>⟨hH.tys.1,hH.tys.2.1⟩,hH.tys.2.2⟩,fun e he=>?_,hle⟩
  obtain⟨j,hj,rfl⟩:=List.mem_iff_getElem.1 he
  have:=acZ R hl.2 j hj
  rwa[aW hj]at this
 ·unfold cB
  refine .seq (ac3 hN) fun e hte ht=> .cond (fun h=> .one fun h2=>?_) (fun h=> .cond (fun _=> .one (by simp)) (fun hl=>?_))
  ·simp only at h2⊢
   rcases ht with rfl|rfl
   ·exact absurd rfl h2
   ·exact⟨by decide,by simp⟩
  ·simp only[Bool.or_eq_true,Bool.and_eq_true,Bool.not_eq_true',Bool.not_eq_false',Bool.or_eq_false_iff,Bool.and_eq_false_imp,decide_eq_true_eq,decide_eq_false_iff_not,beq_iff_eq,not_or,Int.not_lt,Int.not_le,Bool.false_eq_true,not_false_eq_true,not_true_eq_false,Decidable.not_not]at *
   refine .elim (P:=fun t=>match t with| .inl s=>True| .inr r=>r.2.2≠7∧0≤r.2.1∧r.2.1≤l.length) (.iter l.length (fun k s=>s.2.2=(k:Int)∧ex N types l k s.1 s.2.1) (by omega) ⟨rfl,.zero⟩ ?_ ?_) (fun s _ h=> .one fun h2=>absurd rfl h2) (fun r _ h=> .one fun h2=>h)
   ·rintro k ⟨out,op,v⟩ hk ⟨hv,R⟩
    simp only at hv R
    subst hv
    simp only[gB]
    have W:=R.wf
    have hle:=W.len
    refine .bg (decide_eq_true (by omega)) (.ix hk (.seq (Wp.and (Ti (by omega) fun w hw=>⟨(W.qk w hw).1,(W.qk w hw).2.1⟩) (ac4 (by omega) fun w hw=>⟨(W.qk w hw).1,(W.qk w hw).2.1⟩)) fun r _ hr=> .cond (fun h=> .one ?_) (fun h=> .bK (by omega) (.one ⟨by simp,?_⟩))))
    ·simp only
     refine⟨by rcases hr.2 with h|h|h|h<;>rw[h]<;>decide,by omega,by omega⟩
    ·simp only[Bool.or_eq_true,Bool.and_eq_true,Bool.not_eq_true',Bool.not_eq_false',Bool.or_eq_false_iff,Bool.and_eq_false_imp,decide_eq_true_eq,decide_eq_false_iff_not,beq_iff_eq,not_or,Int.not_lt,Int.not_le,Bool.false_eq_true,not_false_eq_true,not_true_eq_false,Decidable.not_not]at *
     exact .succ R hk (by rw[aW hk];exact hr.1 h)
   ·rintro⟨out,op,v⟩ ⟨hv,R⟩
    simp only at hv R
    subst hv
    simp only[gB]
    exact .aL (decide_eq_false (by omega)) (.one trivial)
end Tx
namespace Tx
open Hs
def BV(i:Nat)(x:List UInt8):Prop:=if i=0 then ∃t,qz t∧x=rO t else ∃e,ry e∧x=om e
def J(ls:List (List UInt8))(k:Nat)(types:List Int)(l:List Event):Prop:=
 if k=0 then types= []∧l= []else qz types∧(∀e∈l,ry e)∧(if k=ls.length then ls=rO types::(l.map om++[[]])else ls.take k=rO types::l.map om)
theorem KO{ls:List (List UInt8)}{t:List Int}{l:List Event}{r:List (List UInt8)}(ht:qz t)(hl: ∀e∈l,ry e)(h:ls=rO t::(l.map om++r)){j:Nat}{x:List UInt8}(hj:j < l.length+1)(hx:ls[j]? =some x):BV j x:=by
 subst h
 unfold BV
 cases j with
 |zero=>
  rw[List.getElem?_cons_zero]at hx
  cases hx
  exact⟨t,ht,rfl⟩
 |succ j=>
  rw[if_neg (by omega)]
  rw[List.getElem?_cons_succ,List.getElem?_append_left (by simp;omega),List.getElem?_map]at hx
  have hj2:j < l.length:=by omega
  rw[List.getElem?_eq_getElem hj2]at hx
  exact⟨l[j],hl _ (List.getElem_mem hj2),(Option.some.inj hx).symm⟩
theorem ahE{ls:List (List UInt8)}{k:Nat}{types:List Int}{l:List Event}(h:J ls k types l)(hk:k≤ls.length):l.length≤k:=by
 unfold J at h
 split at h
 ·rw[h.2];simp
 ·obtain⟨_,_,h⟩:=h
  split at h
  ·have:=congrArg List.length h;simp at this;omega
  ·have:=congrArg List.length h;simp at this;omega
theorem ajS{ls:List (List UInt8)}{k:Nat}{types:List Int}{l:List Event}(h:J ls k types l)(hk:k < ls.length){j:Nat}{x:List UInt8}(hj:j < k)(hx:ls[j]? =some x):BV j x:=by
 unfold J at h
 rw[if_neg (by omega)]at h
 obtain⟨ht,hl,h⟩:=h
 rw[if_neg (by omega)]at h
 have hlen:=congrArg List.length h
 simp at hlen
 refine KO (ls:=ls.take k) (r:=[]) ht hl (by simpa using h) (by omega) ?_
 rw[List.getElem?_take,if_pos hj,hx]
def dh(ls:List (List UInt8))(k:Nat):Prop:=
 k < ls.length∧(∀j x,j < k→ls[j]? =some x→BV j x)∧(if k+1=ls.length then ¬(ls[k]? =some []∧1 < ls.length)else ∀x,ls[k]? =some x→¬BV k x)
theorem ZW{N:Nat}{ls:List (List UInt8)}(hN:10000 < N)(hn:ls≠ [])(h9:ls.length≤9000)(hsz: ∀p∈ls,p.length≤8192):
  Wp (iter (wv N (ls.map jS)) N ([],[],0)) fun x=>match x with
   | .inl s=>qz s.1∧(∀e∈s.2,ry e)∧ls=rO s.1::(s.2.map om++[[]])
   | .inr r=>∃k:Nat,r=([],[],(k:Int),7)∧dh ls k:=by
 have hpos:0 < ls.length:=List.length_pos_iff.2 hn
 refine .iter ls.length (fun k s=>s.2.2=(k:Int)∧J ls k s.1 s.2.1) (by omega) ⟨rfl,by unfold J;exact⟨rfl,rfl⟩⟩ ?_ ?_
 ·rintro k ⟨types,l,v⟩ hk ⟨hv,hJ⟩
  simp only at hv hJ
  subst hv
  simp only[wv,List.length_map]
  have DW:=ahE hJ (by omega)
  have hx:ls[k]? =some ls[k]:=List.getElem?_eq_getElem hk
  have hsk:=hsz _ (List.getElem_mem hk)
  refine .bg (decide_eq_true (by omega)) (.ix (by simpa using hk) ?_)
  rw[List.getElem_map]
  generalize ls[k]=x at hx hsk⊢
  have htk:ls.take (k+1)=ls.take k++[x]:=by rw[List.take_add_one,hx];rfl
  refine .seq (P:=fun t=>(t.2.2=true→J ls (k+1) t.1 t.2.1)∧(t.2.2=false→if k+1=ls.length then ¬(x= []∧1 < ls.length)else ¬BV k x)) (.cond (fun qR=> .one ⟨fun h=>?_,fun h=>?_⟩) (fun qR=> .cond (fun h0=> .seq (Nf (by omega) (by rw[fV];exact hsk)) fun r _ hr=> .one ⟨fun h=>?_,fun h=>?_⟩) (fun h0=> .seq (EB (by omega) (by rw[fV];exact hsk)) fun r _ hr=> .ck (eT ⟨?_,?_⟩) (.one ⟨fun h=>?_,fun h=>?_⟩)))) fun t _ ht=> .cond (fun hok=> .one ⟨k,rfl,hk,fun j y hj hy=>ajS hJ hk hj hy,?_⟩) (fun hok=> .bK (by omega) (.one ⟨by simp,ht.1 (by simpa using hok)⟩))
  ·have qR:(k:Int)=(ls.length:Int) - 1:=of_decide_eq_true qR
   simp only[Bool.and_eq_true,decide_eq_true_eq]at h
   have hx0:x= []:=by rw[←kA x,h.1];rfl
   have iU:k+1=ls.length:=by omega
   unfold J at hJ⊢
   rw[if_neg (by omega)]at hJ
   rw[if_neg (by omega),if_pos iU]
   rw[if_neg (show ¬k=ls.length by omega)]at hJ
   refine⟨hJ.1,hJ.2.1,?_⟩
   rw[iU,List.take_length]at htk
   rw[htk,hJ.2.2,hx0]
   rfl
  ·have qR:(k:Int)=(ls.length:Int) - 1:=of_decide_eq_true qR
   rw[if_pos (by omega)]
   rintro⟨rfl,h1⟩
   simp only[Bool.and_eq_false_iff,decide_eq_false_iff_not]at h
   rcases h with h|h
   ·exact h rfl
   ·omega
  ·have qR: ¬(k:Int)=(ls.length:Int) - 1:=of_decide_eq_false qR
   have h0:(k:Int)=0:=of_decide_eq_true h0
   obtain rfl:k=0:=by omega
   simp only[kA]at hr
   have h2:=hr.1 h
   unfold J at hJ⊢
   rw[if_pos rfl]at hJ
   rw[if_neg (by omega),if_neg (by omega),hJ.2]
   refine⟨h2.1,by simp,?_⟩
   rw[htk,←h2.2];rfl
  ·have qR: ¬(k:Int)=(ls.length:Int) - 1:=of_decide_eq_false qR
   have h0:(k:Int)=0:=of_decide_eq_true h0
   obtain rfl:k=0:=by omega
   rw[if_neg (by omega)]
   rintro⟨t,ht,rfl⟩
   simp only[kA]at hr
   rw[hr.2 t ht rfl]at h
   simp at h
  ·simp only[List.length_singleton];exact Nat.le_trans (m:=400000) (by omega) (by decide)
  ·simp only[List.length_singleton];omega
  ·have qR: ¬(k:Int)=(ls.length:Int) - 1:=of_decide_eq_false qR
   have h0: ¬(k:Int)=0:=of_decide_eq_false h0
   simp only[kA]at hr
   have h2:=hr.1 h
   unfold J at hJ⊢
   rw[if_neg (by omega),if_neg (by omega)]at hJ
   rw[if_neg (by omega),if_neg (by omega)]
   refine⟨hJ.1,fun e he=>?_,?_⟩
   ·rcases List.mem_append.1 he with he|he
    ·exact hJ.2.1 e he
    ·rw[List.mem_singleton.1 he];exact h2.1
   ·rw[htk,hJ.2.2,List.map_append,List.map_cons,List.map_nil,←h2.2];rfl
  ·have qR: ¬(k:Int)=(ls.length:Int) - 1:=of_decide_eq_false qR
   have h0: ¬(k:Int)=0:=of_decide_eq_false h0
   rw[if_neg (by omega)]
   intro hL
   unfold BV at hL
   rw[if_neg (by omega)]at hL
   obtain⟨e,he,rfl⟩:=hL
   simp only[kA]at hr
   rw[hr.2 e he rfl]at h
   simp at h
  ·have h2:=ht.2 (by simpa using hok)
   split at h2
   ·rename_i iU
    rw[if_pos iU,hx]
    rintro⟨h3,h4⟩
    exact h2 ⟨Option.some.inj h3,h4⟩
   ·rename_i iU
    rw[if_neg iU,hx]
    intro y hy
    cases hy
    exact h2
 ·rintro⟨types,l,v⟩ ⟨hv,hJ⟩
  simp only at hv hJ
  subst hv
  simp only[wv,List.length_map]
  refine .aL (decide_eq_false (by omega)) (.one ?_)
  unfold J at hJ
  rw[if_neg (by omega),if_pos rfl]at hJ
  exact hJ
structure KP(s:ByteArray)(types:List Int)(l:List Event):Prop where
 ty:qz types
 ev: ∀e∈l,ry e
 ls:jv 10 (bs s)=rO types::(l.map om++[[]])
theorem AL{N:Nat}{s:ByteArray}(hN:10000 < N):Wp (ox N s) fun r=>(8192 < s.size∧r=([],[],0,2))∨(s.size≤8192∧((∃k:Nat,r=([],[],(k:Int),7)∧dh (jv 10 (bs s)) k)∨
  ∃types l q,KP s types l∧cB N types l=some q∧((q.2.2=2∧r=([],[],0,2))∨(q.2.2≠2∧q.2.2≠0∧q.2.2≠7∧0≤q.2.1∧q.2.1≤l.length∧r=([],[],q.2.1+1,q.2.2))∨(q.2.2=0∧r=(types,l,0,0))))):=by
 unfold ox
 refine .cond (fun h=> .one (.inl ⟨by have:=of_decide_eq_true h;omega,rfl⟩)) (fun h=>?_)
 have hs:s.size≤8192:=by have:=of_decide_eq_false h;omega
 have hl:=LH 10 (bs s)
 have hc:(bs s).count 10≤(bs s).length:=List.count_le_length
 have Cr:=nM s
 refine .bD (IR 10 (by omega)) (.bK (by simp only[List.length_map];omega) (.elim (ZW hN (Dw 10 _) (by omega) (fun p hp=>by have:=PI hp;omega)) ?_ ?_))
 ·rintro⟨types,l⟩ _ ⟨h1,h2,h3⟩
  obtain⟨q,hq,hq1,TZ⟩:=AB (types:=types) (l:=l) (show 300 < N by omega)
  have hL:KP s types l:=⟨h1,h2,h3⟩
  have DW:l.length+2=(jv 10 (bs s)).length:=by rw[h3];simp
  refine .bD hq (.cond (fun he=> .one (.inr ⟨hs,.inr ⟨types,l,q,hL,hq,.inl ⟨of_decide_eq_true he,by rw[of_decide_eq_true he]⟩⟩⟩)) (fun he=> .cond (fun Ub=>?_) (fun Ub=> .one (.inr ⟨hs,.inr ⟨types,l,q,hL,hq,.inr (.inr ⟨by simpa using Ub,rfl⟩)⟩⟩))))
  have Ub:q.2.2≠0:=by simpa using Ub
  obtain⟨h7,h0,hle⟩:=TZ Ub
  exact .bK (by omega) (.one (.inr ⟨hs,.inr ⟨types,l,q,hL,hq,.inr (.inl ⟨of_decide_eq_false he,Ub,h7,h0,hle,rfl⟩)⟩⟩))
 ·rintro r _ ⟨k,rfl,hB⟩
  exact .one (.inr ⟨hs,.inl ⟨k,rfl,hB⟩⟩)
theorem HU{N:Nat}{s:ByteArray}(hN:10000 < N){r:List Int×List Event×Int×Int}(h:ox N s=some r)(h0:r.2.2.2=0):s.size≤8192∧KP s r.1 r.2.1∧r.2.1.length≤200∧r.2.2.1=0∧∃q,cB N r.1 r.2.1=some q∧q.2.2=0:=by
 obtain⟨r',hr',hw⟩:=AL (s:=s) hN
 rw[h]at hr'
 cases hr'
 rcases hw with⟨_,rfl⟩|⟨hs,⟨k,rfl,_⟩|⟨types,l,q,hL,hq,hh⟩⟩
 ·exact absurd h0 (by decide)
 ·exact absurd (show(7:Int)=0 from h0) (by decide)
 ·rcases hh with⟨_,rfl⟩|⟨_,h2,_,_,_,rfl⟩|⟨hq0,rfl⟩
  ·exact absurd h0 (by decide)
  ·exact absurd h0 h2
  ·obtain⟨q',Ft,hq1,_⟩:=AB (types:=types) (l:=l) (show 300 < N by omega)
   rw[hq]at Ft
   cases Ft
   exact⟨hs,hL,(hq1 hq0).2.2,rfl,q,hq,hq0⟩
end Tx
end Go.Proofs.YtjdkkabcenohcaaGreatDoor
