import Derived.Test.YtjdkkabcenohcaaGreatDoorP6
import Derived.Test.YtjdkkabcenohcaaGreatDoorWt4
import Derived.Test.YtjdkkabcenohcaaGreatDoorP4
set_option linter.unusedVariables false
set_option linter.unusedSimpArgs false
set_option linter.unusedSectionVars false
set_option maxRecDepth 100000
namespace Go.Proofs.YtjdkkabcenohcaaGreatDoor
open Go.RowKit
namespace Th
open Ob
structure M where
 states:List (List Int)
 aa:List au
 events:List Event
 steps:List Step
 calls:Int
def M.t(m:M):(List (List Int))×(List au)×(List Event)×(List Step)×Int:=(m.states,m.aa,m.events,m.steps,m.calls)
def M.who(m:M)(w:Nat):au:=m.aa.getD w au.z
noncomputable def iG(types:List Int)(m:M)(who:Int):M:=
 match(m.who who.toNat).program with
 | []=>m
 |a::rest=>
  if(m.who who.toNat).pending=false then {m with aa:=m.aa.set who.toNat ⟨a::rest,true,m.calls,false,(m.who who.toNat).failed,(m.who who.toNat).res⟩,events:=m.events++[⟨who,a.aj,a.kind,a.arg⟩],calls:=m.calls+1}
  else if(m.who who.toNat).done=false then
   match Ob.nx (types.getD a.aj.toNat 0) (m.states.getD a.aj.toNat []) a.kind a.arg with
   |some (s,res)=>{m with states:=m.states.set a.aj.toNat s,aa:=m.aa.set who.toNat ⟨a::rest,(m.who who.toNat).pending,(m.who who.toNat).call,true,false,res⟩,steps:=m.steps++[⟨(m.who who.toNat).call,res⟩]}
   |none=>{m with aa:=m.aa.set who.toNat ⟨a::rest,(m.who who.toNat).pending,(m.who who.toNat).call,true,true,0⟩}
  else if(m.who who.toNat).failed=false then {m with aa:=m.aa.set who.toNat ⟨rest,false,(m.who who.toNat).call,(m.who who.toNat).done,(m.who who.toNat).failed,(m.who who.toNat).res⟩,events:=m.events++[⟨who,a.aj,0,(m.who who.toNat).res⟩]}
  else m
structure Inv(types:List Int)(np k:Nat)(m:M):Prop where
 sl:m.states.length=types.length
 pl:m.aa.length=np
 ask: ∀p∈m.aa,∀a∈p.program,0≤a.aj∧a.aj < types.length
 pend: ∀p∈m.aa,p.pending=true→p.program≠ []
 ev:m.events.length≤k
 st:m.steps.length≤k
 ca:0≤m.calls∧m.calls≤k
theorem mem_set{α:Type}{l:List α}{i:Nat}{a x:α}(h:x∈l.set i a):x=a∨x∈l:=by
 rcases List.mem_or_eq_of_mem_set h with h|h
 ·exact .inr h
 ·exact .inl h
theorem Inv.later{types:List Int}{np k:Nat}{m:M}(h:Inv types np k m):Inv types np (k+1) m:=⟨h.sl,h.pl,h.ask,h.pend,Nat.le_succ_of_le h.ev,Nat.le_succ_of_le h.st,h.ca.1,by have:=h.ca.2;omega⟩
theorem TY{N:Nat}(hN:300 < N){types:List Int}{np k:Nat}{m:M}(h:Inv types np k m){who:Int}(h0:0≤who)(h1:who < np)(hk:k≤1000):
  mZ N types m.states m.aa m.events m.steps m.calls who=some (iG types m who).t∧Inv types np (k+1) (iG types m who)∧(∃e,(iG types m who).events=m.events++e∧e.length≤1)∧∃s,(iG types m who).steps=m.steps++s∧s.length≤1:=by
 obtain⟨w,rfl⟩: ∃w:Nat,who=w:=⟨who.toNat,by omega⟩
 have hpl:=h.pl
 have hw:w < m.aa.length:=by omega
 have hx:ix m.aa (w:Int)=some (m.who w):=by rw[El hw];unfold M.who;rw[aW hw]
 have hm:m.who w∈m.aa:=by unfold M.who;rw[aW hw];exact List.getElem_mem hw
 have px:=h.ask _ hm
 have h_:=h.pend _ hm
 have hev:=h.ev
 have hst:=h.st
 have hca:=h.ca
 unfold mZ iG
 rw[hx,Int.toNat_natCast]
 simp only[bZ]
 generalize m.who w=p at hm px h_⊢
 obtain⟨prog,pending,call,done,failed,res⟩:=p
 simp only at px h_⊢
 cases prog with
 |nil=>
  have:pending=false:=by cases pending with
   |false=>rfl
   |true=>exact(h_ rfl rfl).elim
  subst this
  exact⟨rfl,h.later,⟨[],by simp⟩,[],by simp⟩
 |cons a rest=>
  obtain⟨ha0,ha1⟩:=px a (.head _)
  have hkeep: ∀q:au,q.program=a::rest∨q.program=rest→(q.pending=true→q.program≠ [])→∀ev st ca,ev.length≤k+1→st.length≤k+1→0≤ca∧ca≤((k+1:Nat):Int)→∀S:List (List Int),S.length=types.length→Inv types np (k+1) ⟨S,m.aa.set w q,ev,st,ca⟩:=by
   intro q hq TZ ev st ca h2 h3 h4 S hS
   refine⟨hS,by simpa using hpl,fun p hp=>?_,fun p hp=>?_,h2,h3,h4⟩
   ·rcases mem_set hp with rfl|hp
    ·intro b hb
     rcases hq with e|e
     ·rw[e]at hb;exact px b hb
     ·rw[e]at hb;exact px b (.tail _ hb)
    ·exact h.ask p hp
   ·rcases mem_set hp with rfl|hp
    ·exact TZ
    ·exact h.pend p hp
  cases pending with
  |false=>
   refine⟨?_,hkeep _ (.inl rfl) (fun _=>by simp) _ _ _ (by simp;omega) (by omega) (by omega) _ h.sl,⟨[_],rfl,by simp⟩,[],by simp⟩
   have e0:decide ((((a::rest:List Ask)).length:Int)=0)=false:=decide_eq_false (by simp;omega)
   simp only[e0,Bool.not_false,Bool.and_false,cond_false,cond_true]
   have e1:ix (a::rest) 0=some a:=rfl
   rw[e1,bZ,O0 (by simp;omega) (by simp;omega),bK (by omega)]
   simp[M.t,List.set_set]
  |true=>
   cases done with
   |false=>
    have e1:ix (a::rest) 0=some a:=rfl
    have ht:=h.sl
    have e2:ix types a.aj=some (types.getD a.aj.toNat 0):=by rw[wk ha0 ha1,aW]
    have e3:ix m.states a.aj=some (m.states.getD a.aj.toNat []):=by rw[wk ha0 (by omega),aW]
    rcases TC hN (types.getD a.aj.toNat 0) (m.states.getD a.aj.toNat []) a.kind a.arg with⟨n,r,g1,g2⟩|⟨g1,e,he,g2⟩
    ·simp only[g1]
     refine⟨?_,hkeep _ (.inl rfl) (fun _=>by simp) _ _ _ (by omega) (by simp;omega) (by omega) _ (by simpa using h.sl),⟨[],by simp⟩,[_],rfl,by simp⟩
     simp only[Bool.not_true,Bool.false_and,Bool.not_false,cond_false,cond_true,e1,bZ,e2,e3,g2]
     rw[O0 (by simp;omega) (by simp;omega)]
     simp[M.t,List.set_set]
    ·simp only[g1]
     refine⟨?_,hkeep _ (.inl rfl) (fun _=>by simp) _ _ _ (by omega) (by omega) (by omega) _ h.sl,⟨[],by simp⟩,[],by simp⟩
     simp only[Bool.not_true,Bool.false_and,Bool.not_false,cond_false,cond_true,e1,bZ,e2,e3,g2,decide_eq_false he]
     simp[M.t,List.set_set]
   |true=>
    cases failed with
    |false=>
     refine⟨?_,hkeep _ (.inr rfl) (fun h=>by cases h) _ _ _ (by simp;omega) (by omega) (by omega) _ h.sl,⟨[_],rfl,by simp⟩,[],by simp⟩
     have e1:ix (a::rest) 0=some a:=rfl
     simp only[Bool.not_true,Bool.false_and,Bool.not_false,cond_false,cond_true,e1,bZ]
     rw[O0 (by simp;omega) (by simp;omega)]
     have e2:pB (a::rest).length 1 ((a::rest).length:Int)=true:=by simp[pB];omega
     rw[jr e2]
     simp[M.t,List.set_set]
    |true=>
     exact⟨rfl,h.later,⟨[],by simp⟩,[],by simp⟩
noncomputable def runM(types:List Int)(m:M)(turns:List Int):M:=turns.foldl (iG types) m
theorem Jk(types:List Int)(m:M)(a b:List Int):runM types m (a++b)=runM types (runM types m a) b:=List.foldl_append
theorem zc{N:Nat}(hN:300 < N){types:List Int}{np:Nat}: ∀{turns:List Int} {k:Nat} {m:M},Inv types np k m→(∀t∈turns,0≤t∧t < np)→k+turns.length≤1000→
  Inv types np (k+turns.length) (runM types m turns)∧(∃e,(runM types m turns).events=m.events++e∧e.length≤turns.length)∧∃s,(runM types m turns).steps=m.steps++s∧s.length≤turns.length
 | [],k,m,h,_,_=>⟨h,⟨[],by simp[runM]⟩,[],by simp[runM]⟩
 |t::turns,k,m,h,ht,hk=>by
  have hk':k+(turns.length+1)≤1000:=hk
  obtain⟨_,h2,⟨e1,h3,h3'⟩,s1,h4,h4'⟩:=TY hN h (ht t (.head _)).1 (ht t (.head _)).2 (by omega)
  obtain⟨h5,⟨e2,h6,h6'⟩,s2,h7,h7'⟩:=zc hN h2 (fun x hx=>ht x (.tail _ hx)) (by omega)
  have e:runM types m (t::turns)=runM types (iG types m t) turns:=rfl
  rw[e]
  refine⟨by
   have e2:k+(t::turns).length=k+1+turns.length:=by simp;omega
   rw[e2];exact h5,⟨e1++e2,by rw[h6,h3,List.append_assoc],by simp;omega⟩,s1++s2,by rw[h7,h4,List.append_assoc],by simp;omega⟩
def m0(types:List Int)(aa:List (List Ask)):M:=⟨types.map pU,aa.map fun l=>⟨l,false,0,false,false,0⟩,[],[],0⟩
structure iH(types:List Int)(aa:List (List Ask)):Prop where
 ty:1≤types.length∧types.length≤4∧∀x∈types,1≤x∧x≤5
 pW:aa.length≤8
 ask: ∀l∈aa,∀a∈l,(0≤a.aj∧a.aj < types.length)∧dz (types.getD a.aj.toNat 0) a.kind a.arg
theorem sU{t k n:Int}:dz t k n↔(t≠0∧t8 k=t)∧(((k=2∨k=4∨k=6∨k=10)→n=0)∧(¬(k=2∨k=4∨k=6∨k=10)→gH n)):=by unfold dz;exact⟨fun h=>⟨⟨h.1,h.2.1⟩,h.2.2⟩,fun h=>⟨h.1.1,h.1.2,h.2⟩⟩
theorem mJ{N:Nat}(hN:5000 < N){types:List Int}{aa:List (List Ask)}(hl: ∀l∈aa,l.length < N∧l.length≤9223372036854775807):Wp (dw N types aa) fun e=>e=0→iH types aa:=by
 unfold dw
 refine .seq (Hs.uW (by omega)) fun r _ hr=> .cond (fun _=> .one (by simp)) fun hc=>?_
 simp only[Bool.or_eq_false_iff,Bool.not_eq_false',decide_eq_true_eq,decide_eq_false_iff_not]at hc
 obtain⟨rfl,h8⟩:=hc
 have hT:=hr rfl
 have h8:aa.length≤8:=by omega
 refine .seq (P:=fun _=>True) (.iter aa.length (fun k st=>st.2=(k:Int)) (by omega) rfl ?_ ?_) fun n _ _=> .cond (fun _=> .one (by simp)) fun _=>?_
 ·rintro k ⟨n,v⟩ hk hv
  simp only at hv
  subst hv
  simp only[ey]
  exact .bg (decide_eq_true (by omega)) (.ix hk (.bK (by omega) (.one (by simp))))
 ·rintro⟨n,v⟩ hv
  simp only at hv
  subst hv
  simp only[ey]
  exact .aL (decide_eq_false (by omega)) (.one trivial)
 refine .elim (P:=fun t=>match t with| .inl _=>∀l∈aa,∀a∈l,(0≤a.aj∧a.aj < types.length)∧dz (types.getD a.aj.toNat 0) a.kind a.arg| .inr r=>r≠0)
  (.iter aa.length (fun k v=>v=(k:Int)∧∀j,j < k→∀a∈aa.getD j [],(0≤a.aj∧a.aj < types.length)∧dz (types.getD a.aj.toNat 0) a.kind a.arg) (by omega) ⟨rfl,fun j h=>absurd h (Nat.not_lt_zero _)⟩ ?_ ?_) (fun _ _ h=> .one fun _=>⟨hT,h8,h⟩) (fun r _ h=> .one fun e=>(h e).elim)
 ·rintro k v hk ⟨rfl,hI⟩
  simp only[fE]
  refine .bg (decide_eq_true (by omega)) ?_
  have hlk:=hl aa[k] (List.getElem_mem hk)
  refine .elim (P:=fun t=>match t with| .inl _=>∀a∈aa[k],(0≤a.aj∧a.aj < types.length)∧dz (types.getD a.aj.toNat 0) a.kind a.arg| .inr r=>r≠0) (.ix hk ?_) (fun _ _ h=> .bK (by omega) (.one ⟨by simp,fun j hj=>?_⟩)) (fun r _ h=> .one h)
  ·refine .iter aa[k].length (fun i v=>v=(i:Int)∧∀j,j < i→(0≤(aa[k].getD j Ask.z).aj∧(aa[k].getD j Ask.z).aj < types.length)∧dz (types.getD (aa[k].getD j Ask.z).aj.toNat 0) (aa[k].getD j Ask.z).kind (aa[k].getD j Ask.z).arg) hlk.1 ⟨rfl,fun j h=>absurd h (Nat.not_lt_zero _)⟩ ?_ ?_
   ·rintro i v hi ⟨rfl,hJ⟩
    simp only[fD]
    refine .bg (decide_eq_true (by omega)) (.fL Ask.z (by omega) (by omega) ?_)
    simp only[Int.toNat_natCast]
    obtain⟨A,hA⟩: ∃A,aa[k].getD i Ask.z=A:=⟨_,rfl⟩
    simp only[hA]
    by_cases h1:0≤A.aj∧A.aj < types.length
    ·have e1:(decide (A.aj < 0)||decide ((types.length:Int)≤A.aj))=false:=by simp;omega
     rw[e1]
     refine .bD (a:=types.getD A.aj.toNat 0) ((et rfl).trans (by rw[wk h1.1 h1.2,aW])) ?_
     refine .bD (a:=decide (types.getD A.aj.toNat 0≠0∧t8 A.kind=types.getD A.aj.toNat 0)) ((et rfl).trans (HH ..)) ?_
     by_cases h2:types.getD A.aj.toNat 0≠0∧t8 A.kind=types.getD A.aj.toNat 0
     ·rw[decide_eq_true h2]
      refine .bD (by rw[et (by rfl),pm,LP]) ?_
      by_cases h3:((A.kind=2∨A.kind=4∨A.kind=6∨A.kind=10)→A.arg=0)∧(¬(A.kind=2∨A.kind=4∨A.kind=6∨A.kind=10)→gH A.arg)
      ·rw[decide_eq_true h3]
       refine .aL rfl (.bK (by omega) (.one ⟨by simp,fun j hj=>?_⟩))
       rcases Nat.lt_or_ge j i with h4|h4
       ·exact hJ j h4
       ·obtain rfl:j=i:=by omega
        rw[hA]
        exact⟨h1,sU.2 ⟨h2,h3⟩⟩
      ·rw[decide_eq_false h3]
       exact .bg rfl (.one (by simp))
     ·rw[decide_eq_false h2]
      exact .bD (a:=false) rfl (.bg rfl (.one (by simp)))
    ·have e1:(decide (A.aj < 0)||decide ((types.length:Int)≤A.aj))=true:=by simp;omega
     rw[e1]
     exact .bD (a:=0) rfl (.bD (a:=false) rfl (.bD (a:=false) rfl (.bg rfl (.one (by simp)))))
   ·rintro v ⟨rfl,hJ⟩
    simp only[fD]
    refine .aL (decide_eq_false (by omega)) (.one fun a ha=>?_)
    obtain⟨j,hj,rfl⟩:=List.getElem_of_mem ha
    have:=hJ j hj
    rwa[aW hj]at this
  ·rcases Nat.lt_or_ge j k with h4|h4
   ·exact hI j h4
   ·obtain rfl:j=k:=by omega
    rw[aW hk];exact h
 ·rintro v ⟨rfl,hI⟩
  simp only[fE]
  refine .aL (decide_eq_false (by omega)) (.one fun l hl2=>?_)
  obtain⟨j,hj,rfl⟩:=List.getElem_of_mem hl2
  have:=hI j hj
  rwa[aW hj]at this
theorem E9{N:Nat}(hN:5000 < N)(np:Int)(turns:List Int):Wp (jR N np 300 turns) fun e=>(e=0∧turns.length≤300∧∀t∈turns,0≤t∧t < np)∨(e≠0∧¬(turns.length≤300∧∀t∈turns,0≤t∧t < np)∧(e=2↔¬turns.length≤300)):=by
 unfold jR
 refine .cond (fun h=> .one (.inr ⟨by simp,fun h2=>?_,fun _=>?_,fun _=>rfl⟩)) fun h=>?_
 ·have:=of_decide_eq_true h;omega
 ·have:=of_decide_eq_true h;omega
 have hl:turns.length≤300:=by have:=of_decide_eq_false h;omega
 refine .elim (P:=fun t=>match t with| .inl _=>∀t∈turns,0≤t∧t < np| .inr r=>r=1∧¬ ∀t∈turns,0≤t∧t < np)
  (.iter turns.length (fun k v=>v=(k:Int)∧∀j,j < k→0≤turns.getD j 0∧turns.getD j 0 < np) (by omega) ⟨rfl,fun j h=>absurd h (Nat.not_lt_zero _)⟩ ?_ ?_) (fun _ _ h=> .one (.inl ⟨rfl,hl,h⟩)) (fun r _ h=> .one (.inr ⟨by omega,fun h2=>h.2 h2.2,fun e=>by omega,fun h2=>(h2 hl).elim⟩))
 ·rintro k v hk ⟨rfl,hI⟩
  simp only[j7]
  refine .bg (decide_eq_true (by omega)) (.fL 0 (by omega) (by omega) ?_)
  simp only[Int.toNat_natCast]
  refine .cond (fun h=> .one ⟨rfl,fun h2=>?_⟩) fun h=> .bK (by omega) (.one ⟨by simp,fun j hj=>?_⟩)
  ·have:=h2 (turns.getD k 0) (by rw[aW hk];exact List.getElem_mem hk)
   simp only[Bool.or_eq_true,decide_eq_true_eq]at h
   omega
  ·rcases Nat.lt_or_ge j k with h4|h4
   ·exact hI j h4
   ·obtain rfl:j=k:=by omega
    simp only[Bool.or_eq_false_iff,decide_eq_false_iff_not]at h
    omega
 ·rintro v ⟨rfl,hI⟩
  simp only[j7]
  refine .aL (decide_eq_false (by omega)) (.one fun t ht=>?_)
  obtain⟨j,hj,rfl⟩:=List.getElem_of_mem ht
  have:=hI j hj
  rwa[aW hj]at this
theorem Jl{types:List Int}{aa:List (List Ask)}(h:iH types aa):Inv types aa.length 0 (m0 types aa):=by
 refine⟨by simp[m0],by simp[m0],fun p hp a ha=>?_,fun p hp hp2=>?_,Nat.le_refl _,Nat.le_refl _,Int.le_refl _,Int.le_refl _⟩
 ·obtain⟨l,hl,rfl⟩:=List.mem_map.1 hp
  exact(h.ask l hl a ha).1
 ·obtain⟨l,hl,rfl⟩:=List.mem_map.1 hp
  cases hp2
theorem Mj{N:Nat}(hN:5000 < N){types:List Int}{aa:List (List Ask)}(hl: ∀l∈aa,l.length < N∧l.length≤9223372036854775807)(turns:List Int):
  ∃e,dw N types aa=some e∧Wp (w8 N types aa turns) fun r=>
   (e≠0∧r=([],[],e))∨(e=0∧iH types aa∧(turns.length≤300∧∀t∈turns,0≤t∧t < aa.length)∧r=((runM types (m0 types aa) turns).events,(runM types (m0 types aa) turns).steps,0))∨
   (e=0∧iH types aa∧¬(turns.length≤300∧∀t∈turns,0≤t∧t < aa.length)∧r.1= []∧r.2.1= []∧r.2.2≠0∧(r.2.2=2↔¬turns.length≤300)):=by
 obtain⟨e,he,hok⟩:=mJ hN (types:=types) hl
 refine⟨e,he,?_⟩
 unfold w8
 refine .bD he (.cond (fun h=> .one (.inl ⟨by simpa using h,rfl⟩)) fun h=>?_)
 obtain rfl:e=0:=by simpa using h
 have hP:=hok rfl
 refine .seq (E9 hN aa.length turns) fun r _ hr=> .cond (fun h=> .one (.inr (.inr ?_))) fun h=>?_
 ·have h:r≠0:=by simpa using h
  rcases hr with⟨rfl,_⟩|⟨h1,h2,h3⟩
  ·exact(h rfl).elim
  ·exact⟨rfl,hP,h2,rfl,rfl,h1,h3⟩
 obtain rfl:r=0:=by simpa using h
 have hT:turns.length≤300∧∀t∈turns,0≤t∧t < aa.length:=by
  rcases hr with⟨_,h⟩|⟨h,_⟩
  ·exact h
  ·exact(h rfl).elim
 have h8:=hP.pW
 have h4:=hP.ty
 refine .seq (P:=fun s=>s=types.map pU) (.iter types.length (fun k st=>st=((types.take k).map pU,(k:Int))) (by omega) rfl ?_ ?_) fun s _ hs=>?_
 ·rintro k st hk rfl
  simp only[w6]
  refine .bg (decide_eq_true (by omega)) (.ix hk (.bD (Bv ..) (.ck (eT ⟨?_,?_⟩) (.bK (by omega) (.one ?_)))))
  ·simp;exact Nat.le_trans (m:=100) (by omega) (by unfold maxLen;decide)
  ·simp;omega
  ·rw[if_pos (show Ty types[k]from h4.2.2 types[k] (List.getElem_mem hk))]
   refine Prod.ext ?_ (by simp)
   show _=(types.take (k+1)).map pU
   rw[←List.take_append_getElem hk,List.map_append]
   rfl
 ·rintro st rfl
  simp only[w6]
  refine .aL (decide_eq_false (by simp)) (.one ?_)
  simp
 subst hs
 refine .seq (P:=fun s=>s=aa.map fun l=>(⟨l,false,0,false,false,0⟩:au)) (.iter aa.length (fun k st=>st=((aa.take k).map fun l=>(⟨l,false,0,false,false,0⟩:au),(k:Int))) (by omega) rfl ?_ ?_) fun s _ hs=>?_
 ·rintro k st hk rfl
  simp only[w7]
  refine .bg (decide_eq_true (by omega)) (.ix hk (.ck (eT ⟨?_,?_⟩) (.bK (by omega) (.one ?_))))
  ·simp;exact Nat.le_trans (m:=100) (by omega) (by unfold maxLen;decide)
  ·simp;omega
  ·refine Prod.ext ?_ (by simp)
   show _=(aa.take (k+1)).map _
   rw[←List.take_append_getElem hk,List.map_append]
   rfl
 ·rintro st rfl
  simp only[w7]
  refine .aL (decide_eq_false (by simp)) (.one ?_)
  simp
 subst hs
 refine .seq (P:=fun s=>s=(runM types (m0 types aa) turns).t) (.iter turns.length (fun k st=>st=((runM types (m0 types aa) (turns.take k)).states,(runM types (m0 types aa) (turns.take k)).aa,(runM types (m0 types aa) (turns.take k)).events,(runM types (m0 types aa) (turns.take k)).steps,(runM types (m0 types aa) (turns.take k)).calls,(k:Int))) (by omega) rfl ?_ ?_) fun s _ hs=>?_
 ·rintro k st hk rfl
  simp only[vr]
  have h1:=(zc (by omega:300 < N) (Jl hP) (turns:=turns.take k) (fun t ht=>hT.2 t (List.mem_of_mem_take ht)) (by simp;omega)).1
  have h2:=hT.2 turns[k] (List.getElem_mem hk)
  have h3:=TY (by omega:300 < N) h1 h2.1 h2.2 (by simp;omega)
  refine .bg (decide_eq_true (by omega)) (.ix hk (.bD h3.1 (.bK (by omega) (.one ?_))))
  rw[←List.take_append_getElem hk,Jk]
  rfl
 ·rintro st rfl
  simp only[vr]
  refine .aL (decide_eq_false (by simp)) (.one ?_)
  rw[List.take_length]
  rfl
 subst hs
 exact .one (.inr (.inl ⟨rfl,hP,hT,rfl⟩))
end Th
namespace Sr
open Hs
theorem KL(N:Nat){typ:Int}{s:List Int}{kind arg:Int}{n:List Int}{res:Int}(h:Ob.nx typ s kind arg=some (n,res)):bV N kind res=some true:=by
 obtain⟨hO,hA,hs,_⟩:=Ob.HI h
 obtain⟨h0,hk,_,_⟩:=hA
 have hinv:=Ob.DI hk h0
 clear hk h
 unfold Ob.oA at hs
 have d2: ∀m,bV N 2 m=some ((decide (0≤m))&&(decide (m≤1000))):=fun _=>rfl
 have d10: ∀m,bV N 10 m=some ((decide (0≤m))&&(decide (m≤1000))):=fun _=>rfl
 have d4: ∀m,bV N 4 m=some ((decide (m=(-1)))||((decide (1≤m))&&(decide (m≤1000)))):=fun _=>rfl
 have d6: ∀m,bV N 6 m=some ((decide (m=(-1)))||((decide (1≤m))&&(decide (m≤1000)))):=fun _=>rfl
 have d7: ∀m,bV N 7 m=some ((decide (m=0))||(decide (m=1))):=fun _=>rfl
 have d8: ∀m,bV N 8 m=some ((decide (m=0))||(decide (m=1))):=fun _=>rfl
 have d9: ∀m,bV N 9 m=some ((decide (m=0))||(decide (m=1))):=fun _=>rfl
 have z1:bV N 1 0=some true:=rfl
 have z3:bV N 3 0=some true:=rfl
 have z5:bV N 5 0=some true:=rfl
 have get: ∀(i:Nat),(∀m∈s,Ob.gH m)→i < s.length→(decide (s.getD i 0= -1)||(decide (1≤s.getD i 0)&&decide (s.getD i 0≤1000)))=true:=fun i hm hi=>by
  have:=hm _ (List.getElem_mem hi)
  rw[aW hi]
  unfold Ob.gH at this
  rw[decide_eq_true this.1,decide_eq_true this.2]
  simp
 rcases hinv with⟨rfl,hk⟩|⟨rfl,hk⟩|⟨rfl,hk⟩|⟨rfl,hk⟩|⟨rfl,hk⟩
 ·rcases hO with⟨_,v,rfl,v0,v1⟩|⟨h,_⟩|⟨h,_⟩
  ·rcases hk with rfl|rfl
   ·cases hs;exact z1
   ·cases hs
    rw[d2]
    simp[v0,v1]
  ·omega
  ·omega
 ·rcases hO with⟨h,_⟩|⟨_,hl,hm⟩|⟨h,_⟩
  ·omega
  ·rcases hk with rfl|rfl
   ·simp only[show ¬((2:Int)=1) by decide,show ¬((2:Int)=5) by decide,if_false,if_true]at hs
    split at hs
    ·cases hs
    ·cases hs;exact z3
   ·simp only[show ¬((2:Int)=1) by decide,show ¬((2:Int)=5) by decide,show ¬((4:Int)=3) by decide,if_false,if_true]at hs
    split at hs
    ·cases hs;rfl
    ·rename_i h1
     cases hs
     rw[d4,get 0 hm (by omega)]
  ·omega
 ·rcases hO with⟨h,_⟩|⟨_,hl,hm⟩|⟨h,_⟩
  ·omega
  ·rcases hk with rfl|rfl
   ·simp only[show ¬((3:Int)=1) by decide,show ¬((3:Int)=5) by decide,show ¬((3:Int)=2) by decide,if_false,if_true]at hs
    split at hs
    ·cases hs
    ·cases hs;exact z5
   ·simp only[show ¬((3:Int)=1) by decide,show ¬((3:Int)=5) by decide,show ¬((3:Int)=2) by decide,show ¬((6:Int)=5) by decide,if_false,if_true]at hs
    split at hs
    ·cases hs;rfl
    ·rename_i h1
     cases hs
     rw[d6,get (s.length - 1) hm (by omega)]
  ·omega
 ·simp only[show ¬((4:Int)=1) by decide,show ¬((4:Int)=5) by decide,show ¬((4:Int)=2) by decide,show ¬((4:Int)=3) by decide,if_false]at hs
  rcases hk with rfl|rfl|rfl
  ·rw[if_pos rfl]at hs
   split at hs
   ·cases hs;rfl
   ·split at hs
    ·cases hs
    ·cases hs;rfl
  ·rw[if_neg (by decide),if_pos rfl]at hs
   split at hs
   ·cases hs;rfl
   ·cases hs;rfl
  ·rw[if_neg (by decide),if_neg (by decide)]at hs
   cases hs
   rw[d9]
   split<;>rfl
 ·rcases hO with⟨_,v,rfl,v0,v1⟩|⟨h,_⟩|⟨h,_⟩
  ·simp only[show ¬((5:Int)=1) by decide,if_false,if_true]at hs
   subst hk
   split at hs
   ·cases hs
   ·cases hs
    rw[d10]
    simp[v0,v1]
  ·omega
  ·omega
def Ad(c:List Call)(s:Step):Call:=c.getD s.call.toNat Call.z
end Sr
end Go.Proofs.YtjdkkabcenohcaaGreatDoor
set_option linter.unusedVariables false
set_option linter.unusedSimpArgs false
set_option linter.unusedSectionVars false
set_option maxRecDepth 100000
namespace Go.Proofs.YtjdkkabcenohcaaGreatDoor
open Go.RowKit
namespace Th
open Ob Hs
theorem gl{m:M}{w v:Nat}{p:au}(hw:w < m.aa.length):(m.aa.set w p).getD v au.z=if v=w then p else m.who v:=by
 unfold M.who
 simp only[List.getD_eq_getElem?_getD]
 by_cases e:v=w
 ·subst e;rw[if_pos rfl];simp[hw]
 ·rw[if_neg e,List.getElem?_set_ne (fun e2=>e e2.symm)]
def jc(p:au)(c:Int):au:=⟨p.program,true,c,false,p.failed,p.res⟩
def Ae(p:au)(f:Bool)(r:Int):au:=⟨p.program,p.pending,p.call,true,f,r⟩
def BS(p:au):au:=⟨p.program.drop 1,false,p.call,p.done,p.failed,p.res⟩
inductive Q9(types:List Int)(m:M)(w:Nat)(out:List Call)(op:List Int):M→List Call→List Int→Prop
 |same (h:(m.who w).program= []∨((m.who w).pending=true∧(m.who w).done=true∧(m.who w).failed=true)):Q9 types m w out op m out op
 |call (a:Ask) (r:List Ask) (hp:(m.who w).program=a::r) (hn:(m.who w).pending=false):Q9 types m w out op ⟨m.states,m.aa.set w (jc (m.who w) m.calls),m.events++[⟨w,a.aj,a.kind,a.arg⟩],m.steps,m.calls+1⟩ (out++[⟨w,a.aj,a.kind,a.arg,0,m.events.length,-1⟩]) (fb 8 0 op w ((out.length:Int)+1))
 |did (a:Ask) (r:List Ask) (s:List Int) (res:Int) (hp:(m.who w).program=a::r) (hn:(m.who w).pending=true) (hd:(m.who w).done=false) (hx:Ob.nx (types.getD a.aj.toNat 0) (m.states.getD a.aj.toNat []) a.kind a.arg=some (s,res)):
   Q9 types m w out op ⟨m.states.set a.aj.toNat s,m.aa.set w (Ae (m.who w) false res),m.events,m.steps++[⟨(m.who w).call,res⟩],m.calls⟩ out op
 |fail (a:Ask) (r:List Ask) (hp:(m.who w).program=a::r) (hn:(m.who w).pending=true) (hd:(m.who w).done=false) (hx:Ob.nx (types.getD a.aj.toNat 0) (m.states.getD a.aj.toNat []) a.kind a.arg=none):
   Q9 types m w out op ⟨m.states,m.aa.set w (Ae (m.who w) true 0),m.events,m.steps,m.calls⟩ out op
 |gx (a:Ask) (r:List Ask) (i:Nat) (hp:(m.who w).program=a::r) (hn:(m.who w).pending=true) (hd:(m.who w).done=true) (hf:(m.who w).failed=false) (hc:(m.who w).call=i) (hi:i < out.length):
   Q9 types m w out op ⟨m.states,m.aa.set w (BS (m.who w)),m.events++[⟨w,a.aj,0,(m.who w).res⟩],m.steps,m.calls⟩ (out.set i (ia (out.getD i Call.z) (m.who w).res m.events.length)) (fb 8 0 op w 0)
def rem(p:au):Nat:=p.program.length - (if p.pending=true then 1 else 0)
def cnt(out:List Call)(w:Nat):Nat:=out.countP fun c=>decide (c.who=(w:Int))
def tot(P0:List (List Ask)):Nat:=(P0.map List.length).sum
structure H(N:Nat)(types:List Int)(P0:List (List Ask))(m:M)(out:List Call)(op:List Int):Prop where
 rn:ex N types m.events m.events.length out op
 cl:m.calls=out.length
 pl:m.aa.length=P0.length
 np: ∀w,w < 8→(P0.length≤w∨(m.who w).pending=false)→op.getD w 0=0
 pe: ∀w,w < P0.length→(m.who w).pending=true→∃a r,(m.who w).program=a::r∧∃i:Nat,(m.who w).call=i∧i < out.length∧op.getD w 0=i+1∧((out.getD i Call.z).aj=a.aj∧(out.getD i Call.z).kind=a.kind∧(out.getD i Call.z).arg=a.arg)∧((m.who w).done=true→(m.who w).failed=false→bV N a.kind (m.who w).res=some true)
 pr: ∀w,w < P0.length→∃d,(m.who w).program=(P0.getD w []).drop d∧d≤(P0.getD w []).length∧cnt out w=d+if(m.who w).pending=true then 1 else 0
 ZK: ∀i,i < out.length→∃(w:Nat) (a:Ask),(out.getD i Call.z).who=w∧w < P0.length∧(P0.getD w [])[cnt (out.take i) w]? =some a∧a.aj=(out.getD i Call.z).aj∧a.kind=(out.getD i Call.z).kind∧a.arg=(out.getD i Call.z).arg
 sum:(m.aa.map rem).sum+out.length=tot P0
theorem Q_{N:Nat}{types:List Int}{l e:List Event}{k:Nat}{out:List Call}{op:List Int}(R:ex N types l k out op):k≤l.length→ex N types (l++e) k out op:=by
 induction R with
 |zero=>exact fun _=> .zero
 | @succ k out out' op op' R hk S ih=>
  intro h
  refine .succ (ih (by omega)) (by rw[List.length_append];omega) ?_
  have e1:(l++e).getD k Event.z=l.getD k Event.z:=by
   rw[aW hk,aW (by rw[List.length_append];omega),List.getElem_append_left hk]
  rw[e1];exact S
theorem DS{N:Nat}{types:List Int}{l:List Event}{v:Event}{out out':List Call}{op op':List Int}(R:ex N types l l.length out op)(S:uX N types out op (l.length:Int) v out' op'):ex N types (l++[v]) (l++[v]).length out' op':=by
 have e:(l++[v]).length=l.length+1:=by simp
 rw[e]
 refine .succ (Q_ R (Nat.le_refl _)) (by rw[e];omega) ?_
 have e1:(l++[v]).getD l.length Event.z=v:=by rw[aW (by rw[e];omega)];simp
 rw[e1];exact S
theorem ny: ∀{l:List Nat} {i:Nat} {a:Nat} (h:i < l.length),(l.set i a).sum+l[i]=l.sum+a
 | [],_,_,h=>absurd h (Nat.not_lt_zero _)
 |x::l,0,a,_=>by simp;omega
 |x::l,i+1,a,h=>by
  have:=ny (l:=l) (i:=i) (a:=a) (by simpa using h)
  simp only[List.set_cons_succ,List.sum_cons,List.getElem_cons_succ]
  omega
theorem qQ{m:M}(f:au→Nat){w:Nat}(hw:w < m.aa.length)(p:au):((m.aa.set w p).map f).sum+f (m.who w)=(m.aa.map f).sum+f p:=by
 have:=ny (l:=m.aa.map f) (i:=w) (a:=f p) (by simpa using hw)
 rw[←List.map_set]at this
 have e:(m.aa.map f)[w]'(by simpa using hw)=f (m.who w):=by unfold M.who;rw[aW hw];simp
 rw[e]at this
 exact this
theorem Ra{N:Nat}{t k n:Int}(h:dz t k n):cQ N k n=some true:=by
 rw[pm,LP,decide_eq_true h.2.2]
theorem acO(k:Int):yX k=t8 k:=rfl
theorem acP{t k n:Int}(h:dz t k n):k≠0:=by
 intro e
 subst e
 exact h.1 (h.2.1.symm)
theorem acQ(out:List Call)(c:Call)(w:Nat):cnt (out++[c]) w=cnt out w+if c.who=(w:Int)then 1 else 0:=by
 unfold cnt
 rw[List.countP_append]
 simp only[List.countP_cons,List.countP_nil]
 by_cases h:c.who=(w:Int)
 ·simp[h]
 ·simp[h]
theorem DT{out:List Call}{i:Nat}{c:Call}(hi:i < out.length)(h:c.who=(out.getD i Call.z).who)(w:Nat):cnt (out.set i c) w=cnt out w:=by
 have key: ∀(l:List Call) (i:Nat) (hi:i < l.length),c.who=l[i].who→(l.set i c).countP (fun c=>decide (c.who=(w:Int)))=l.countP (fun c=>decide (c.who=(w:Int))):=by
  intro l
  induction l with
  |nil=>intro i hi;exact absurd hi (Nat.not_lt_zero _)
  |cons x l ih=>
   intro i hi h
   cases i with
   |zero=>
    have h:c.who=x.who:=h
    simp[List.countP_cons,h]
   |succ i=>
    simp only[List.set_cons_succ,List.countP_cons]
    rw[ih i (by simpa using hi) h]
 exact key out i hi (by rw[h,aW hi])
theorem SE{α:Type}{l:List α}{i j:Nat}{a:α}(h:j≤i):(l.set i a).take j=l.take j:=by
 rw[List.take_set_of_le h]
theorem ZL{N:Nat}{types:List Int}{P0:List (List Ask)}{m:M}{out:List Call}{op:List Int}(hP:iH types P0)(h:H N types P0 m out op){w:Nat}(hw:w < P0.length):
  ∃out' op',Q9 types m w out op (iG types m w) out' op'∧H N types P0 (iG types m w) out' op':=by
 have hpl:=h.pl
 have hw':w < m.aa.length:=by omega
 have h8:=hP.pW
 have hpe:=h.pe w hw
 obtain⟨d,hd1,hd2,hd3⟩:=h.pr w hw
 unfold iG
 rw[Int.toNat_natCast]
 have hp0: ∀a r,(m.who w).program=a::r→(0≤a.aj∧a.aj < types.length)∧dz (types.getD a.aj.toNat 0) a.kind a.arg:=by
  intro a r e
  have hw0:P0.getD w []∈P0:=by rw[aW hw];exact List.getElem_mem hw
  refine hP.ask _ hw0 a ?_
  have:a∈(P0.getD w []).drop d:=by rw[←hd1,e];exact .head _
  exact List.mem_of_mem_drop this
 cases hprog:(m.who w).program with
 |nil=>exact⟨out,op,.same (.inl hprog),h⟩
 |cons a r=>
  obtain⟨gk,px⟩:=hp0 a r hprog
  simp only
  cases h_:(m.who w).pending with
  |false=>
   rw[if_pos rfl]
   have e1:(au.mk (a::r) true m.calls false (m.who w).failed (m.who w).res)=jc (m.who w) m.calls:=by unfold jc;rw[hprog]
   rw[e1]
   refine⟨_,_,.call a r hprog h_,?_⟩
   have hop:=h.np w (by omega) (.inr h_)
   have R:=DS h.rn (v:=⟨w,a.aj,a.kind,a.arg⟩) (out':=out++[⟨w,a.aj,a.kind,a.arg,0,m.events.length,-1⟩]) (op':=fb 8 0 op (w:Int) ((out.length:Int)+1))
    ⟨by simp only;omega,gk,.inl ⟨acP px,⟨px.1,px.2.1⟩,Ra px,by simp only[Int.toNat_natCast];omega,rfl,rfl⟩⟩
   have zd: ∀v,v < 8→(fb 8 0 op (w:Int) ((out.length:Int)+1)).getD v 0=if v=w then(out.length:Int)+1 else op.getD v 0:=fun v hv=>by rw[gy hv,Int.toNat_natCast]
   have cq: ∀v,(M.who ⟨m.states,m.aa.set w (jc (m.who w) m.calls),m.events++[⟨w,a.aj,a.kind,a.arg⟩],m.steps,m.calls+1⟩ v)=if v=w then jc (m.who w) m.calls else m.who v:=fun v=>gl hw'
   refine⟨R,by simp[h.cl],by simpa using hpl,fun v hv hc=>?_,fun v hv hc=>?_,fun v hv=>?_,fun i hi=>?_,?_⟩
   ·rw[zd v hv]
    rw[cq]at hc
    split
    ·rename_i e
     subst e
     rw[if_pos rfl]at hc
     rcases hc with hc|hc
     ·omega
     ·cases hc
    ·rename_i e
     rw[if_neg e]at hc
     exact h.np v hv hc
   ·rw[cq]at hc⊢
    by_cases e:v=w
    ·subst e
     rw[if_pos rfl]
     refine⟨a,r,hprog,out.length,h.cl,by simp,?_,?_,fun e=>by cases e⟩
     ·rw[zd v (by omega),if_pos rfl]
     ·simp
    ·rw[if_neg e]at hc⊢
     obtain⟨b,q,g1,i,g2,g3,g4,g5,g6⟩:=h.pe v hv hc
     refine⟨b,q,g1,i,g2,by simp;omega,?_,?_,g6⟩
     ·rw[zd v (by omega),if_neg e,g4]
     ·have e3:(out++[(⟨w,a.aj,a.kind,a.arg,0,m.events.length,-1⟩:Call)]).getD i Call.z=out.getD i Call.z:=by rw[dL,if_pos g3]
      rw[e3];exact g5
   ·rw[cq,acQ]
    by_cases e:v=w
    ·subst e
     rw[if_pos rfl]
     refine⟨d,by unfold jc;exact hd1,hd2,?_⟩
     rw[hd3,h_]
     simp[jc]
    ·rw[if_neg e]
     obtain⟨d',g1,g2,g3⟩:=h.pr v hv
     refine⟨d',g1,g2,?_⟩
     rw[g3,if_neg (show ¬(w:Int)=(v:Int) by omega)]
     rfl
   ·rcases Nat.lt_or_ge i out.length with hi'|hi'
    ·have e3:(out++[(⟨w,a.aj,a.kind,a.arg,0,m.events.length,-1⟩:Call)]).getD i Call.z=out.getD i Call.z:=by rw[dL,if_pos hi']
     rw[e3,List.take_append_of_le_length (by omega)]
     exact h.ZK i hi'
    ·have e2:i=out.length:=by simp at hi;omega
     subst e2
     have e3:(out++[(⟨w,a.aj,a.kind,a.arg,0,m.events.length,-1⟩:Call)]).getD out.length Call.z=⟨w,a.aj,a.kind,a.arg,0,m.events.length,-1⟩:=by rw[dL,if_neg (by omega),if_pos rfl]
     rw[e3,List.take_left]
     refine⟨w,a,rfl,hw,?_,rfl,rfl,rfl⟩
     rw[hd3,h_]
     have:((P0.getD w []).drop d)[0]? =some a:=by rw[←hd1,hprog];rfl
     simpa using this
   ·have hs:=qQ rem hw' (jc (m.who w) m.calls)
    have h1:rem (m.who w)=r.length+1:=by unfold rem;rw[hprog,h_];simp
    have h2:rem (jc (m.who w) m.calls)=r.length:=by unfold rem jc;rw[hprog];simp
    have:=h.sum
    show((m.aa.set w _).map rem).sum+_=_
    simp only[List.length_append,List.length_singleton]
    omega
  |true=>
   rw[if_neg (by simp)]
   obtain⟨a',r',q1,i,q2,q3,q4,q5,q6⟩:=hpe h_
   rw[hprog]at q1
   obtain⟨rfl,rfl⟩:a=a'∧r=r':=by simpa using q1
   have other: ∀(S:List (List Int)) (st:List Step) (f:Bool) (res:Int),(f=false→bV N a.kind res=some true)→H N types P0 ⟨S,m.aa.set w (Ae (m.who w) f res),m.events,st,m.calls⟩ out op:=by
    intro S st f res hres
    have cq: ∀v,(M.who ⟨S,m.aa.set w (Ae (m.who w) f res),m.events,st,m.calls⟩ v)=if v=w then Ae (m.who w) f res else m.who v:=fun v=>gl hw'
    refine⟨h.rn,h.cl,by simpa using hpl,fun v hv hc=>?_,fun v hv hc=>?_,fun v hv=>?_,h.ZK,?_⟩
    ·rw[cq]at hc
     by_cases e:v=w
     ·subst e
      rw[if_pos rfl]at hc
      rcases hc with hc|hc
      ·omega
      ·rw[show(Ae (m.who v) f res).pending=(m.who v).pending from rfl,h_]at hc;cases hc
     ·rw[if_neg e]at hc
      exact h.np v hv hc
    ·rw[cq]at hc⊢
     by_cases e:v=w
     ·subst e
      rw[if_pos rfl]
      exact⟨a,r,hprog,i,q2,q3,q4,q5,fun _ hf=>hres hf⟩
     ·rw[if_neg e]at hc⊢
      exact h.pe v hv hc
    ·rw[cq]
     by_cases e:v=w
     ·subst e
      rw[if_pos rfl]
      exact⟨d,hd1,hd2,hd3⟩
     ·rw[if_neg e]
      exact h.pr v hv
    ·have hs:=qQ rem hw' (Ae (m.who w) f res)
     have h1:rem (Ae (m.who w) f res)=rem (m.who w):=rfl
     have:=h.sum
     show((m.aa.set w _).map rem).sum+_=_
     omega
   cases hdone:(m.who w).done with
   |false=>
    rw[if_pos rfl]
    cases hx:Ob.nx (types.getD a.aj.toNat 0) (m.states.getD a.aj.toNat []) a.kind a.arg with
    |none=>
     have e1:(au.mk (a::r) true (m.who w).call true true 0)=Ae (m.who w) true 0:=by unfold Ae;rw[hprog,h_]
     simp only
     rw[e1]
     exact⟨out,op,.fail a r hprog h_ hdone hx,other _ _ _ _ (fun e=>by cases e)⟩
    |some x=>
     obtain⟨s,res⟩:=x
     have e1:(au.mk (a::r) true (m.who w).call true false res)=Ae (m.who w) false res:=by unfold Ae;rw[hprog,h_]
     simp only
     rw[e1]
     exact⟨out,op,.did a r s res hprog h_ hdone hx,other _ _ _ _ (fun _=>Sr.KL N hx)⟩
   |true=>
    rw[if_neg (by simp)]
    cases Ou:(m.who w).failed with
    |true=>
     rw[if_neg (by simp)]
     exact⟨out,op,.same (.inr ⟨h_,hdone,Ou⟩),h⟩
    |false=>
     rw[if_pos rfl]
     have e1:(au.mk r false (m.who w).call true false (m.who w).res)=BS (m.who w):=by unfold BS;rw[hprog,hdone,Ou];rfl
     rw[e1]
     refine⟨_,_,.gx a r i hprog h_ hdone Ou q2 q3,?_⟩
     have W:=h.rn.wf
     obtain⟨_,_,Nq⟩:=W.qk w (by omega)
     obtain⟨ZM,wto⟩:=Nq i q4
     have hres:=q6 hdone Ou
     have R:=DS h.rn (v:=⟨w,a.aj,0,(m.who w).res⟩) (out':=out.set i (ia (out.getD i Call.z) (m.who w).res m.events.length)) (op':=fb 8 0 op (w:Int) 0)
      ⟨by simp only;omega,gk,.inr ⟨rfl,i,by simp only[Int.toNat_natCast];exact q4,q3,q5.1,by rw[q5.2.1];exact hres,rfl,rfl⟩⟩
     have zd: ∀v,v < 8→(fb 8 0 op (w:Int) 0).getD v 0=if v=w then 0 else op.getD v 0:=fun v hv=>by rw[gy hv,Int.toNat_natCast]
     have cq: ∀v,(M.who ⟨m.states,m.aa.set w (BS (m.who w)),m.events++[⟨w,a.aj,0,(m.who w).res⟩],m.steps,m.calls⟩ v)=if v=w then BS (m.who w)else m.who v:=fun v=>gl hw'
     have VG: ∀j,(out.set i (ia (out.getD i Call.z) (m.who w).res m.events.length)).getD j Call.z=if j=i then ia (out.getD i Call.z) (m.who w).res m.events.length else out.getD j Call.z:=fun j=>fv q3
     refine⟨R,by simpa using h.cl,by simpa using hpl,fun v hv hc=>?_,fun v hv hc=>?_,fun v hv=>?_,fun j hj=>?_,?_⟩
     ·rw[zd v hv]
      rw[cq]at hc
      split
      ·rfl
      ·rename_i e
       rw[if_neg e]at hc
       exact h.np v hv hc
     ·rw[cq]at hc⊢
      by_cases e:v=w
      ·subst e
       rw[if_pos rfl]at hc
       cases hc
      ·rw[if_neg e]at hc⊢
       obtain⟨b,q,g1,j,g2,g3,g4,g5,g6⟩:=h.pe v hv hc
       refine⟨b,q,g1,j,g2,by simpa using g3,?_,?_,g6⟩
       ·rw[zd v (by omega),if_neg e,g4]
       ·rw[VG]
        split
        ·rename_i e2
         subst e2
         have:=(W.qk v (by omega)).2.2 j g4
         rw[ZM]at this
         exact absurd this.1 (by omega)
        ·exact g5
     ·rw[cq,DT (c:=ia (out.getD i Call.z) (m.who w).res m.events.length) q3 rfl]
      by_cases e:v=w
      ·subst e
       rw[if_pos rfl]
       refine⟨d+1,?_,?_,?_⟩
       ·show(m.who v).program.drop 1=_
        rw[hd1,List.drop_drop]
       ·have:((P0.getD v []).drop d).length=(a::r).length:=by rw[←hd1,hprog]
        simp at this;simp;omega
       ·rw[hd3,h_];simp[BS]
      ·rw[if_neg e]
       exact h.pr v hv
     ·have hj':j < out.length:=by simpa using hj
      obtain⟨v,b,g1,g2,g3,g4⟩:=h.ZK j hj'
      have hct:cnt ((out.set i (ia (out.getD i Call.z) (m.who w).res m.events.length)).take j) v=cnt (out.take j) v:=by
       rcases Nat.lt_or_ge i j with hij|hij
       ·rw[List.take_set]
        have e0:(out.take j).getD i Call.z=out.getD i Call.z:=by
         rw[aW (by simp;omega),aW q3];simp
        exact DT (by simp;omega) (by rw[e0];rfl) v
       ·rw[SE hij]
      rw[VG]
      split
      ·rename_i e2
       subst e2
       exact⟨v,b,g1,g2,by rw[hct];exact g3,g4⟩
      ·exact⟨v,b,g1,g2,by rw[hct];exact g3,g4⟩
     ·have hs:=qQ rem hw' (BS (m.who w))
      have h1:rem (BS (m.who w))=r.length:=by unfold rem BS;rw[hprog];simp
      have h2:rem (m.who w)=r.length:=by unfold rem;rw[hprog,h_];simp
      have:=h.sum
      show((m.aa.set w _).map rem).sum+_=_
      simp only[List.length_set]
      omega
theorem h0{N:Nat}{types:List Int}{P0:List (List Ask)}:H N types P0 (m0 types P0) [] []:=by
 have hw: ∀w,(m0 types P0).who w=⟨P0.getD w [],false,0,false,false,0⟩:=by
  intro w
  unfold M.who m0
  simp only[List.getD_eq_getElem?_getD,List.getElem?_map]
  cases P0[w]? <;>rfl
 refine⟨.zero,rfl,by simp[m0],fun w _ _=>by simp,fun w _ h=>(by rw[hw]at h;cases h),fun w _=>⟨0,by rw[hw];simp,Nat.zero_le _,by rw[hw];simp[cnt]⟩,fun i hi=>absurd hi (Nat.not_lt_zero _),?_⟩
 unfold tot m0
 simp only[List.map_map,List.length_nil,Nat.add_zero]
 congr 1
end Th
namespace Th
open Ob Hs
theorem ZN(P0:List (List Ask)){k:Nat}(hk:k < P0.length):tot (P0.take (k+1))=tot (P0.take k)+P0[k].length:=by
 rw[←List.take_append_getElem hk]
 unfold tot
 rw[List.map_append,List.sum_append]
 simp
theorem afS(P0:List (List Ask)): ∀k,tot (P0.take k)≤tot P0:=by
 intro k
 have:tot P0=tot (P0.take k)+tot (P0.drop k):=by
  unfold tot
  rw[←List.sum_append,←List.map_append,List.take_append_drop]
 omega
theorem T0{B:Nat}: ∀(P0:List (List Ask)),(∀q∈P0,q.length≤B)→tot P0≤P0.length * B
 | [],_=>Nat.zero_le _
 |q::r,h=>by
  have h1:=T0 r fun x hx=>h x (List.mem_cons_of_mem _ hx)
  have h2:=h q List.mem_cons_self
  unfold tot at *
  rw[List.map_cons,List.sum_cons,List.length_cons,Nat.add_mul]
  omega
theorem XA{N:Nat}(hN:5000 < N){types:List Int}{P0:List (List Ask)}(h:dw N types P0=some 0)(XB: ∀q∈P0,q.length≤10000000000000):tot P0≤90:=by
 unfold dw at h
 obtain⟨r,hr,h⟩:=Kb h
 rcases EC h with⟨_,h⟩|⟨hc,h⟩
 ·cases h
 simp only[Bool.or_eq_false_iff,decide_eq_false_iff_not]at hc
 have h8:P0.length≤8:=by omega
 have hb:tot P0≤80000000000000:=Nat.le_trans (T0 P0 XB) (Nat.le_trans (Nat.mul_le_mul_right _ h8) (by decide))
 obtain⟨n,hn,h⟩:=Kb h
 rcases EC h with⟨_,h⟩|⟨xp,_⟩
 ·cases h
 have h9:=of_decide_eq_false xp
 obtain⟨n',hn',e⟩:Wp (iter (ey N P0) N (0,0)) fun n=>n=(tot P0:Int):=by
  refine .iter P0.length (fun k st=>st=((tot (P0.take k):Int),(k:Int))) (by omega) (by simp[tot]) ?_ ?_
  ·rintro k st hk rfl
   simp only[ey]
   refine .bg (decide_eq_true (by omega)) (.ix hk (.bK (by omega) (.one ?_)))
   refine Prod.ext ?_ (by simp)
   show IntKind.i64.wrap _=((tot (P0.take (k+1)):Nat):Int)
   have h1:=ZN P0 hk
   have h2:=afS P0 (k+1)
   rw[wrap64_in _ (by omega),h1]
   omega
  ·rintro st rfl
   simp only[ey]
   refine .aL (decide_eq_false (by omega)) (.one ?_)
   rw[List.take_length]
 rw[hn']at hn
 cases hn
 omega
end Th
end Go.Proofs.YtjdkkabcenohcaaGreatDoor
