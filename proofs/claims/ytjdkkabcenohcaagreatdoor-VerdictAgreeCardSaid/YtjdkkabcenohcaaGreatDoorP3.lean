/- Reading, plainly. -/
import Derived.Test.YtjdkkabcenohcaaGreatDoorP2
set_option linter.unusedVariables false
set_option linter.unusedSimpArgs false
set_option linter.unusedSectionVars false
set_option maxRecDepth 100000
namespace Go.Proofs.YtjdkkabcenohcaaGreatDoor
open Go.RowKit
namespace Tx
open Hs
theorem Iu{N:Nat}{k n:Int}(h:bK N k n=some true):if pJ k=true then n=0 else 1≤n∧n≤1000:=by
 unfold bK at h
 by_cases h1:k=2;·subst h1;exact of_decide_eq_true (Option.some.inj h)
 by_cases h2:k=4;·subst h2;exact of_decide_eq_true (Option.some.inj h)
 by_cases h3:k=6;·subst h3;exact of_decide_eq_true (Option.some.inj h)
 by_cases h4:k=10;·subst h4;exact of_decide_eq_true (Option.some.inj h)
 simp only[h1,h2,h3,h4,decide_false,cond_false]at h
 have h:=Option.some.inj h
 simp only[Bool.and_eq_true,decide_eq_true_eq]at h
 simp only[pJ,h1,h2,h3,h4,decide_false,Bool.or_false,Bool.false_eq_true,if_false]
 exact h
theorem RK{N:Nat}{k n:Int}(h:cp N k n=some true): -1≤n∧n≤1000:=by
 unfold cp at h
 have fin: ∀{b:Bool},some b=some true→b=true:=fun h=>Option.some.inj h
 by_cases h1:k=2
 ·subst h1
  have h:=fin h
  simp only[Bool.and_eq_true,decide_eq_true_eq]at h;omega
 by_cases h2:k=10
 ·subst h2
  have h:=fin h
  simp only[Bool.and_eq_true,decide_eq_true_eq]at h;omega
 by_cases h3:k=4
 ·subst h3
  have h:=fin h
  simp only[Bool.and_eq_true,Bool.or_eq_true,decide_eq_true_eq]at h;omega
 by_cases h4:k=6
 ·subst h4
  have h:=fin h
  simp only[Bool.and_eq_true,Bool.or_eq_true,decide_eq_true_eq]at h;omega
 by_cases h5:k=7
 ·subst h5
  have h:=fin h
  simp only[Bool.or_eq_true,decide_eq_true_eq]at h;omega
 by_cases h6:k=8
 ·subst h6
  have h:=fin h
  simp only[Bool.or_eq_true,decide_eq_true_eq]at h;omega
 by_cases h7:k=9
 ·subst h7
  have h:=fin h
  simp only[Bool.or_eq_true,decide_eq_true_eq]at h;omega
 simp only[h1,h2,h3,h4,h5,h6,h7,decide_false,cond_false]at h
 have h:=fin h
 simp only[decide_eq_true_eq]at h;omega
theorem RL{k:Int}(h:sJ k≠0):1≤k∧k≤10:=by
 unfold sJ at h
 repeat' split at h
 all_goals first|omega|exact absurd rfl h
theorem RM{N:Nat}{types:List Int}{l:List Event}{k:Nat}{out:List Call}{op:List Int}(R:cn N types l k out op):types.length≤4→∀j,j < k→pm (l.getD j Event.z):=by
 induction R with
 |zero=>exact fun _ j h=>absurd h (Nat.not_lt_zero _)
 | @succ k out out' op op' R hk S ih=>
  intro h4 j hj
  rcases Nat.lt_or_ge j k with h|h
  ·exact ih h4 j h
  obtain rfl:j=k:=by omega
  have hw:=S.who
  have ht:=S.aB
  rcases S.how with⟨hk0,hf,ha,_⟩|⟨hk0,m,_,_,_,hr,_⟩
  ·have h1:=RL (by rw[hf.2];exact hf.1)
   have h2:=Iu ha
   refine⟨by omega,by omega,by omega,?_⟩
   split at h2
   ·rename_i hb;rw[if_pos hb];exact h2
   ·rename_i hb;rw[if_neg hb];omega
  ·have h2:=RK hr
   refine⟨by omega,by omega,by omega,?_⟩
   rw[if_neg (by rw[hk0];decide)]
   omega
theorem RN{N:Nat}{types:List Int}(hN:300 < N):Wp (bo N types) fun e=>e=0∨e=1:=by
 obtain⟨e,he,_⟩:=z7 (types:=types) hN
 refine⟨e,he,?_⟩
 unfold bo at he
 obtain⟨r,hr,he⟩:=aj he
 cases hc:(((decide (((types).length:Int) < 1))||(decide (4 < ((types).length:Int))))||r)with
 |true=>rw[hc]at he;cases he;exact .inr rfl
 |false=>rw[hc]at he;cases he;exact .inl rfl
theorem RO{N:Nat}{types:List Int}{out:List Call}{op:List Int}{i:Int}{v:Event}(hl:out.length≤1000)(ho: ∀w,w < 8→0≤op.getD w 0∧op.getD w 0≤out.length):
  Wp (bO N types out op i v) fun r=>r.2.2=0∨r.2.2=3∨r.2.2=4∨r.2.2=5:=by
 unfold bO
 refine .cond (fun _=> .one (by simp)) (fun h=>?_)
 simp only[Bool.or_eq_true,Bool.and_eq_true,Bool.not_eq_true',Bool.not_eq_false',Bool.or_eq_false_iff,Bool.and_eq_false_imp,decide_eq_true_eq,decide_eq_false_iff_not,beq_iff_eq,not_or,Int.not_lt,Int.not_le,Bool.false_eq_true,not_false_eq_true,not_true_eq_false,Decidable.not_not]at *
 have h8:=ho v.who.toNat (by omega)
 refine .ax (by omega) (by omega) (.cond (fun hk=>?_) (fun hk=>?_))
 ·refine .cT 0 (by omega) (by omega) (.aZ (yJ ..) ?_)
  obtain⟨b,hb⟩:=qg N v.kind v.value
  refine .gd b (fun _=>hb) fun x hx=> .cond (fun _=> .one (by simp)) (fun hf=> .cond (fun _=> .one (by simp)) (fun hn=> .ck (cC ⟨?_,?_⟩) (.ax (by omega) (by omega) (.one (by simp)))))
  ·simp only[List.length_singleton];exact Nat.le_trans (m:=2000) (by omega) (by decide)
  ·simp only[List.length_singleton];omega
 ·refine .cond (fun _=> .one (by simp)) (fun hn=>?_)
  simp only[decide_eq_false_iff_not,Bool.not_eq_false',decide_eq_true_eq]at hn hk
  obtain⟨m,hm⟩: ∃m:Nat,op.getD v.who.toNat 0=m+1:=⟨(op.getD v.who.toNat 0 - 1).toNat,by omega⟩
  rw[hm]
  simp only[show((m:Int)+1 - 1)=(m:Int) by omega]
  refine .aV (by omega) (.cT Call.z (by omega) (by omega) ?_)
  simp only[Int.toNat_natCast]
  obtain⟨b,hb⟩:=tn N (out.getD m Call.z).kind v.value
  exact .gd b (fun _=>hb) fun x hx=> .cond (fun _=> .one (by simp)) (fun hf=> .ax (by omega) (by omega) (.one (by simp)))
theorem Wp.and{α:Type}{m:Option α}{P Q:α→Prop}(h:Wp m P)(k:Wp m Q):Wp m fun a=>P a∧Q a:=by
 obtain⟨a,ha,hp⟩:=h
 obtain⟨b,hb,hq⟩:=k
 rw[ha]at hb
 cases hb
 exact⟨a,ha,hp,hq⟩
theorem B3{N:Nat}{types:List Int}{l:List Event}(hN:300 < N):Wp (bk N types l) fun r=>(r.2.2=0→oe types∧(∀e∈l,pm e)∧l.length≤200)∧(r.2.2≠0→r.2.2≠7∧(0≤r.2.1∧r.2.1≤l.length)):=by
 refine Wp.and ?_ ?_
 ·refine(Wp.and (lR hN) (Fx hN)).mono fun r ⟨h1,h2⟩ h0=>?_
  obtain⟨_,hl,hle,_,op,R⟩:=h1 h0
  have hH:=(h2 h0).1
  refine⟨⟨hH.tys.1 |> fun _=>⟨hH.tys.1,hH.tys.2.1⟩,hH.tys.2.2⟩,fun e he=>?_,hle⟩
  obtain⟨j,hj,rfl⟩:=List.mem_iff_getElem.1 he
  have:=RM R hl.2 j hj
  rwa[aG hj]at this
 ·unfold bk
  refine .seq (RN hN) fun e hte ht=> .cond (fun h=> .one fun h2=>?_) (fun h=> .cond (fun _=> .one (by simp)) (fun hl=>?_))
  ·simp only at h2⊢
   rcases ht with rfl|rfl
   ·exact absurd rfl h2
   ·exact⟨by decide,by simp⟩
  ·simp only[Bool.or_eq_true,Bool.and_eq_true,Bool.not_eq_true',Bool.not_eq_false',Bool.or_eq_false_iff,Bool.and_eq_false_imp,decide_eq_true_eq,decide_eq_false_iff_not,beq_iff_eq,not_or,Int.not_lt,Int.not_le,Bool.false_eq_true,not_false_eq_true,not_true_eq_false,Decidable.not_not]at *
   refine .elim (P:=fun t=>match t with| .inl s=>True| .inr r=>r.2.2≠7∧0≤r.2.1∧r.2.1≤l.length) (.iter l.length (fun k s=>s.2.2=(k:Int)∧cn N types l k s.1 s.2.1) (by omega) ⟨rfl,.zero⟩ ?_ ?_) (fun s _ h=> .one fun h2=>absurd rfl h2) (fun r _ h=> .one fun h2=>h)
   ·rintro k ⟨out,op,v⟩ hk ⟨hv,R⟩
    simp only at hv R
    subst hv
    simp only[cZ]
    have W:=R.wf
    have hle:=W.len
    refine .aF (decide_eq_true (by omega)) (.ix hk (.seq (Wp.and (HX (by omega) fun w hw=>⟨(W.qA w hw).1,(W.qA w hw).2.1⟩) (RO (by omega) fun w hw=>⟨(W.qA w hw).1,(W.qA w hw).2.1⟩)) fun r _ hr=> .cond (fun h=> .one ?_) (fun h=> .aV (by omega) (.one ⟨by simp,?_⟩))))
    ·simp only
     refine⟨by rcases hr.2 with h|h|h|h<;>rw[h]<;>decide,by omega,by omega⟩
    ·simp only[Bool.or_eq_true,Bool.and_eq_true,Bool.not_eq_true',Bool.not_eq_false',Bool.or_eq_false_iff,Bool.and_eq_false_imp,decide_eq_true_eq,decide_eq_false_iff_not,beq_iff_eq,not_or,Int.not_lt,Int.not_le,Bool.false_eq_true,not_false_eq_true,not_true_eq_false,Decidable.not_not]at *
     exact .succ R hk (by rw[aG hk];exact hr.1 h)
   ·rintro⟨out,op,v⟩ ⟨hv,R⟩
    simp only at hv R
    subst hv
    simp only[cZ]
    exact .aw (decide_eq_false (by omega)) (.one trivial)
end Tx
namespace Tx
open Hs
def rY(i:Nat)(x:List UInt8):Prop:=if i=0 then ∃t,oe t∧x=xe t else ∃e,pm e∧x=uC e
def J(ls:List (List UInt8))(k:Nat)(types:List Int)(l:List Event):Prop:=
 if k=0 then types= []∧l= []else oe types∧(∀e∈l,pm e)∧(if k=ls.length then ls=xe types::(l.map uC++[[]])else ls.take k=xe types::l.map uC)
theorem JU{ls:List (List UInt8)}{t:List Int}{l:List Event}{r:List (List UInt8)}(ht:oe t)(hl: ∀e∈l,pm e)(h:ls=xe t::(l.map uC++r)){j:Nat}{x:List UInt8}(hj:j < l.length+1)(hx:ls[j]? =some x):rY j x:=by
 subst h
 unfold rY
 cases j with
 |zero=>
  rw[List.getElem?_cons_zero]at hx
  cases hx
  exact⟨t,ht,rfl⟩
 |succ j=>
  rw[if_neg (by omega)]
  rw[List.getElem?_cons_succ,List.getElem?_append_left (by simp;omega),List.getElem?_map]at hx
  have hj2:j < l.length:=by omega
  rw[List.getElem?_eq_getElem hj2]at hx
  exact⟨l[j],hl _ (List.getElem_mem hj2),(Option.some.inj hx).symm⟩
theorem WZ{ls:List (List UInt8)}{k:Nat}{types:List Int}{l:List Event}(h:J ls k types l)(hk:k≤ls.length):l.length≤k:=by
 unfold J at h
 split at h
 ·rw[h.2];simp
 ·obtain⟨_,_,h⟩:=h
  split at h
  ·have:=congrArg List.length h;simp at this;omega
  ·have:=congrArg List.length h;simp at this;omega
theorem aae{ls:List (List UInt8)}{k:Nat}{types:List Int}{l:List Event}(h:J ls k types l)(hk:k < ls.length){j:Nat}{x:List UInt8}(hj:j < k)(hx:ls[j]? =some x):rY j x:=by
 unfold J at h
 rw[if_neg (by omega)]at h
 obtain⟨ht,hl,h⟩:=h
 rw[if_neg (by omega)]at h
 have hlen:=congrArg List.length h
 simp at hlen
 refine JU (ls:=ls.take k) (r:=[]) ht hl (by simpa using h) (by omega) ?_
 rw[List.getElem?_take,if_pos hj,hx]
def bq(ls:List (List UInt8))(k:Nat):Prop:=
 k < ls.length∧(∀j x,j < k→ls[j]? =some x→rY j x)∧(if k+1=ls.length then ¬(ls[k]? =some []∧1 < ls.length)else ∀x,ls[k]? =some x→¬rY k x)
theorem NR{N:Nat}{ls:List (List UInt8)}(hN:10000 < N)(hn:ls≠ [])(h9:ls.length≤9000)(hsz: ∀p∈ls,p.length≤8192):
  Wp (iter (od N (ls.map fj)) N ([],[],0)) fun x=>match x with
   | .inl s=>oe s.1∧(∀e∈s.2,pm e)∧ls=xe s.1::(s.2.map uC++[[]])
   | .inr r=>∃k:Nat,r=([],[],(k:Int),7)∧bq ls k:=by
 have hpos:0 < ls.length:=List.length_pos_iff.2 hn
 refine .iter ls.length (fun k s=>s.2.2=(k:Int)∧J ls k s.1 s.2.1) (by omega) ⟨rfl,by unfold J;exact⟨rfl,rfl⟩⟩ ?_ ?_
 ·rintro k ⟨types,l,v⟩ hk ⟨hv,hJ⟩
  simp only at hv hJ
  subst hv
  simp only[od,List.length_map]
  have X_:=WZ hJ (by omega)
  have hx:ls[k]? =some ls[k]:=List.getElem?_eq_getElem hk
  have hsk:=hsz _ (List.getElem_mem hk)
  refine .aF (decide_eq_true (by omega)) (.ix (by simpa using hk) ?_)
  rw[List.getElem_map]
  generalize ls[k]=x at hx hsk⊢
  have htk:ls.take (k+1)=ls.take k++[x]:=by rw[List.take_add_one,hx];rfl
  refine .seq (P:=fun t=>(t.2.2=true→J ls (k+1) t.1 t.2.1)∧(t.2.2=false→if k+1=ls.length then ¬(x= []∧1 < ls.length)else ¬rY k x)) (.cond (fun mr=> .one ⟨fun h=>?_,fun h=>?_⟩) (fun mr=> .cond (fun h0=> .seq (K0 (by omega) (by rw[rr];exact hsk)) fun r _ hr=> .one ⟨fun h=>?_,fun h=>?_⟩) (fun h0=> .seq (z6 (by omega) (by rw[rr];exact hsk)) fun r _ hr=> .ck (cC ⟨?_,?_⟩) (.one ⟨fun h=>?_,fun h=>?_⟩)))) fun t _ ht=> .cond (fun hok=> .one ⟨k,rfl,hk,fun j y hj hy=>aae hJ hk hj hy,?_⟩) (fun hok=> .aV (by omega) (.one ⟨by simp,ht.1 (by simpa using hok)⟩))
  ·have mr:(k:Int)=(ls.length:Int) - 1:=of_decide_eq_true mr
   simp only[Bool.and_eq_true,decide_eq_true_eq]at h
   have hx0:x= []:=by rw[←gf x,h.1];rfl
   have jT:k+1=ls.length:=by omega
   unfold J at hJ⊢
   rw[if_neg (by omega)]at hJ
   rw[if_neg (by omega),if_pos jT]
   rw[if_neg (show ¬k=ls.length by omega)]at hJ
   refine⟨hJ.1,hJ.2.1,?_⟩
   rw[jT,List.take_length]at htk
   rw[htk,hJ.2.2,hx0]
   rfl
  ·have mr:(k:Int)=(ls.length:Int) - 1:=of_decide_eq_true mr
   rw[if_pos (by omega)]
   rintro⟨rfl,h1⟩
   simp only[Bool.and_eq_false_iff,decide_eq_false_iff_not]at h
   rcases h with h|h
   ·exact h rfl
   ·omega
  ·have mr: ¬(k:Int)=(ls.length:Int) - 1:=of_decide_eq_false mr
   have h0:(k:Int)=0:=of_decide_eq_true h0
   obtain rfl:k=0:=by omega
   simp only[gf]at hr
   have h2:=hr.1 h
   unfold J at hJ⊢
   rw[if_pos rfl]at hJ
   rw[if_neg (by omega),if_neg (by omega),hJ.2]
   refine⟨h2.1,by simp,?_⟩
   rw[htk,←h2.2];rfl
  ·have mr: ¬(k:Int)=(ls.length:Int) - 1:=of_decide_eq_false mr
   have h0:(k:Int)=0:=of_decide_eq_true h0
   obtain rfl:k=0:=by omega
   rw[if_neg (by omega)]
   rintro⟨t,ht,rfl⟩
   simp only[gf]at hr
   rw[hr.2 t ht rfl]at h
   simp at h
  ·simp only[List.length_singleton];exact Nat.le_trans (m:=400000) (by omega) (by decide)
  ·simp only[List.length_singleton];omega
  ·have mr: ¬(k:Int)=(ls.length:Int) - 1:=of_decide_eq_false mr
   have h0: ¬(k:Int)=0:=of_decide_eq_false h0
   simp only[gf]at hr
   have h2:=hr.1 h
   unfold J at hJ⊢
   rw[if_neg (by omega),if_neg (by omega)]at hJ
   rw[if_neg (by omega),if_neg (by omega)]
   refine⟨hJ.1,fun e he=>?_,?_⟩
   ·rcases List.mem_append.1 he with he|he
    ·exact hJ.2.1 e he
    ·rw[List.mem_singleton.1 he];exact h2.1
   ·rw[htk,hJ.2.2,List.map_append,List.map_cons,List.map_nil,←h2.2];rfl
  ·have mr: ¬(k:Int)=(ls.length:Int) - 1:=of_decide_eq_false mr
   have h0: ¬(k:Int)=0:=of_decide_eq_false h0
   rw[if_neg (by omega)]
   intro hL
   unfold rY at hL
   rw[if_neg (by omega)]at hL
   obtain⟨e,he,rfl⟩:=hL
   simp only[gf]at hr
   rw[hr.2 e he rfl]at h
   simp at h
  ·have h2:=ht.2 (by simpa using hok)
   split at h2
   ·rename_i jT
    rw[if_pos jT,hx]
    rintro⟨h3,h4⟩
    exact h2 ⟨Option.some.inj h3,h4⟩
   ·rename_i jT
    rw[if_neg jT,hx]
    intro y hy
    cases hy
    exact h2
 ·rintro⟨types,l,v⟩ ⟨hv,hJ⟩
  simp only at hv hJ
  subst hv
  simp only[od,List.length_map]
  refine .aw (decide_eq_false (by omega)) (.one ?_)
  unfold J at hJ
  rw[if_neg (by omega),if_pos rfl]at hJ
  exact hJ
structure JV(s:ByteArray)(types:List Int)(l:List Event):Prop where
 ty:oe types
 ev: ∀e∈l,pm e
 ls:eX 10 (bs s)=xe types::(l.map uC++[[]])
theorem uN{N:Nat}{s:ByteArray}(hN:10000 < N):Wp (kl N s) fun r=>(8192 < s.size∧r=([],[],0,2))∨(s.size≤8192∧((∃k:Nat,r=([],[],(k:Int),7)∧bq (eX 10 (bs s)) k)∨
  ∃types l q,JV s types l∧bk N types l=some q∧((q.2.2=2∧r=([],[],0,2))∨(q.2.2≠2∧q.2.2≠0∧q.2.2≠7∧0≤q.2.1∧q.2.1≤l.length∧r=([],[],q.2.1+1,q.2.2))∨(q.2.2=0∧r=(types,l,0,0))))):=by
 unfold kl
 refine .cond (fun h=> .one (.inl ⟨by have:=of_decide_eq_true h;omega,rfl⟩)) (fun h=>?_)
 have hs:s.size≤8192:=by have:=of_decide_eq_false h;omega
 have hl:=Co 10 (bs s)
 have hc:(bs s).count 10≤(bs s).length:=List.count_le_length
 have XL:=k9 s
 refine .aZ (vr 10 (by omega)) (.aV (by simp only[List.length_map];omega) (.elim (NR hN (uA 10 _) (by omega) (fun p hp=>by have:=KX hp;omega)) ?_ ?_))
 ·rintro⟨types,l⟩ _ ⟨h1,h2,h3⟩
  obtain⟨q,hq,hq1,U1⟩:=B3 (types:=types) (l:=l) (show 300 < N by omega)
  have hL:JV s types l:=⟨h1,h2,h3⟩
  have X_:l.length+2=(eX 10 (bs s)).length:=by rw[h3];simp
  refine .aZ hq (.cond (fun he=> .one (.inr ⟨hs,.inr ⟨types,l,q,hL,hq,.inl ⟨of_decide_eq_true he,by rw[of_decide_eq_true he]⟩⟩⟩)) (fun he=> .cond (fun Iv=>?_) (fun Iv=> .one (.inr ⟨hs,.inr ⟨types,l,q,hL,hq,.inr (.inr ⟨by simpa using Iv,rfl⟩)⟩⟩))))
  have Iv:q.2.2≠0:=by simpa using Iv
  obtain⟨h7,h0,hle⟩:=U1 Iv
  exact .aV (by omega) (.one (.inr ⟨hs,.inr ⟨types,l,q,hL,hq,.inr (.inl ⟨of_decide_eq_false he,Iv,h7,h0,hle,rfl⟩)⟩⟩))
 ·rintro r _ ⟨k,rfl,hB⟩
  exact .one (.inr ⟨hs,.inl ⟨k,rfl,hB⟩⟩)
theorem yV{N:Nat}{s:ByteArray}(hN:10000 < N){r:List Int×List Event×Int×Int}(h:kl N s=some r)(h0:r.2.2.2=0):s.size≤8192∧JV s r.1 r.2.1∧r.2.1.length≤200∧r.2.2.1=0∧∃q,bk N r.1 r.2.1=some q∧q.2.2=0:=by
 obtain⟨r',hr',hw⟩:=uN (s:=s) hN
 rw[h]at hr'
 cases hr'
 rcases hw with⟨_,rfl⟩|⟨hs,⟨k,rfl,_⟩|⟨types,l,q,hL,hq,hh⟩⟩
 ·exact absurd h0 (by decide)
 ·exact absurd (show(7:Int)=0 from h0) (by decide)
 ·rcases hh with⟨_,rfl⟩|⟨_,h2,_,_,_,rfl⟩|⟨Px,rfl⟩
  ·exact absurd h0 (by decide)
  ·exact absurd h0 h2
  ·obtain⟨q',Hu,hq1,_⟩:=B3 (types:=types) (l:=l) (show 300 < N by omega)
   rw[hq]at Hu
   cases Hu
   exact⟨hs,hL,(hq1 Px).2.2,rfl,q,hq,Px⟩
end Tx
end Go.Proofs.YtjdkkabcenohcaaGreatDoor
