import Derived.Test.YtjdkkabcenohcaaGreatDoorP2
import Derived.Test.YtjdkkabcenohcaaGreatDoorV2
set_option linter.unusedVariables false
set_option linter.unusedSimpArgs false
set_option linter.unusedSectionVars false
set_option maxRecDepth 100000
namespace Go.Proofs.YtjdkkabcenohcaaGreatDoor
open Go.RowKit
namespace Ob
def gH(n:Int):Prop:=1≤n∧n≤1000
def qX:List Int→Prop
 | []=>True
 | [_]=>True
 |a::b::r=>a < b∧qX (b::r)
def lS(typ:Int)(s:List Int):Prop:=
 ((typ=1∨typ=5)∧∃v,s= [v]∧0≤v∧v≤1000)∨((typ=2∨typ=3)∧s.length≤50∧∀n∈s,gH n)∨(typ=4∧s.length≤50∧(∀n∈s,gH n)∧qX s)
theorem LO{N:Nat}(hN:300 < N){s:List Int}(hs:s.length≤60)(a:cW):Wp (kN N a s) fun b=>(b=true∧∀n∈s,gH n)∨(b=false∧¬ ∀n∈s,gH n):=by
 unfold kN ld mI
 refine .seq (P:=fun b=>(b=false∧∀n∈s,gH n)∨(b=true∧¬ ∀n∈s,gH n)) (.seq (P:=fun i=>(i= -1∧∀n∈s,gH n)∨(0≤i∧¬ ∀n∈s,gH n)) ?_ fun i _ hi=> .one ?_) fun b _ hb=> .one ?_
 ·refine .elim (P:=fun t=>match t with| .inl _=>∀n∈s,gH n| .inr i=>0≤i∧¬ ∀n∈s,gH n) (.iter s.length (fun k v=>v=(k:Int)∧∀j,j < k→gH (s.getD j 0)) (by omega) ⟨rfl,fun j h=>absurd h (Nat.not_lt_zero _)⟩ ?_ ?_) (fun _ _ h=> .one (.inl ⟨rfl,h⟩)) (fun i _ h=> .one (.inr h))
  ·rintro k v hk ⟨rfl,hr⟩
   simp only[lc]
   refine .bg (decide_eq_true (by omega)) (.fL 0 (by omega) (by omega) ?_)
   simp only[Int.toNat_natCast]
   refine .bD (a:=()) rfl (.cond (fun h=> .one ⟨by omega,fun hall=>?_⟩) fun h=> .bK (by omega) (.one ⟨by simp,fun j hj=>?_⟩))
   ·have:=hall (s.getD k 0) (by rw[aW hk];exact List.getElem_mem hk)
    unfold gH at this
    simp only[Bool.or_eq_true,decide_eq_true_eq]at h
    omega
   ·rcases Nat.lt_or_ge j k with h1|h1
    ·exact hr j h1
    ·obtain rfl:j=k:=by omega
     simp only[Bool.or_eq_false_iff,decide_eq_false_iff_not]at h
     unfold gH
     omega
  ·rintro v ⟨rfl,hr⟩
   simp only[lc]
   refine .aL (decide_eq_false (by omega)) (.one ?_)
   intro n hn
   obtain⟨j,hj,rfl⟩:=List.getElem_of_mem hn
   have:=hr j hj
   rwa[aW hj]at this
 ·rcases hi with⟨rfl,h⟩|⟨h0,h⟩
  ·exact .inl ⟨rfl,h⟩
  ·exact .inr ⟨decide_eq_true h0,h⟩
 ·rcases hb with⟨rfl,h⟩|⟨rfl,h⟩
  ·exact .inl ⟨rfl,h⟩
  ·exact .inr ⟨rfl,h⟩
theorem HG: ∀s:List Int,qX s↔∀j,j+1 < s.length→s.getD j 0 < s.getD (j+1) 0
 | []=>⟨fun _ j h=>by simp at h,fun _=>trivial⟩
 | [a]=>⟨fun _ j h=>by simp at h,fun _=>trivial⟩
 |a::b::r=>by
  have ih:=HG (b::r)
  constructor
  ·rintro⟨h1,h2⟩ j hj
   cases j with
   |zero=>exact h1
   |succ j=>exact ih.1 h2 j (by simp at hj⊢;omega)
  ·intro h
   exact⟨h 0 (by simp),ih.2 fun j hj=>h (j+1) (by simp at hj⊢;omega)⟩
theorem aeS{N:Nat}(hN:300 < N){s:List Int}(hs:s.length≤60)(a:jk):Wp (qG N a s) fun b=>(b=true∧(∀n∈s,gH n)∧qX s)∨(b=false∧¬((∀n∈s,gH n)∧qX s)):=by
 unfold qG
 refine .elim (P:=fun t=>match t with| .inl _=>qX s| .inr b=>b=false∧¬qX s) (.iter (s.length - 1) (fun k v=>v=(k:Int)+1∧∀j,j < k→s.getD j 0 < s.getD (j+1) 0) (by omega) ⟨rfl,fun j h=>absurd h (Nat.not_lt_zero _)⟩ ?_ ?_) (fun _ _ h=>?_) (fun b _ h=> .one (.inr ⟨h.1,fun h2=>h.2 h2.2⟩))
 ·rintro k v hk ⟨rfl,hr⟩
  simp only[rB]
  refine .bg (decide_eq_true (by omega)) (.bK (by omega) (.fL 0 (by omega) (by omega) (.fL 0 (by omega) (by omega) ?_)))
  simp only[show((k:Int)+1 - 1).toNat=k by omega,show((k:Int)+1).toNat=k+1 by omega]
  refine .cond (fun h=> .one ⟨rfl,fun hi=>?_⟩) fun h=> .bK (by omega) (.one ⟨by simp,fun j hj=>?_⟩)
  ·have:=(HG s).1 hi k (by omega)
   have:=of_decide_eq_true h
   omega
  ·rcases Nat.lt_or_ge j k with h1|h1
   ·exact hr j h1
   ·obtain rfl:j=k:=by omega
    have:=of_decide_eq_false h
    omega
 ·rintro v ⟨rfl,hr⟩
  simp only[rB]
  exact .aL (decide_eq_false (by omega)) (.one ((HG s).2 fun j hj=>hr j (by omega)))
 ·have h:qX s:=h
  refine .seq (LO hN hs _) fun b _ hb=> .one ?_
  rcases hb with⟨rfl,h2⟩|⟨rfl,h2⟩
  ·exact .inl ⟨rfl,h2,h⟩
  ·exact .inr ⟨rfl,fun h3=>h2 h3.1⟩
theorem Ng{N:Nat}{s:List Int}(a:cW):Wp (lp N a s) fun b=>(b=true∧∃v,s= [v]∧0≤v∧v≤1000)∨(b=false∧¬ ∃v,s= [v]∧0≤v∧v≤1000):=by
 unfold lp
 match s with
 | [v]=>
  refine⟨(decide (0≤v)&&decide (v≤1000)),?_,?_⟩
  ·by_cases h:0≤v
   ·simp[ix,bd,h]
   ·simp[ix,bd,h]
  ·by_cases h:0≤v∧v≤1000
   ·exact .inl ⟨by simp[h.1,h.2],v,rfl,h⟩
   ·refine .inr ⟨?_,fun⟨u,e,h2⟩=>h (by cases e;exact h2)⟩
    by_cases h1:0≤v
    ·have: ¬v≤1000:=fun h2=>h ⟨h1,h2⟩
     simp[h1,this]
    ·simp[h1]
 | []=>exact⟨false,rfl,.inr ⟨rfl,fun⟨v,h,_⟩=>by cases h⟩⟩
 |a::b::r=>
  have e:decide ((((a::b::r):List Int).length:Int)=1)=false:=by simp;omega
  refine⟨false,?_,.inr ⟨rfl,fun⟨v,h,_⟩=>by cases h⟩⟩
  rw[e];rfl
def Ty(typ:Int):Prop:=1≤typ∧typ≤5
theorem mJ{N:Nat}(hN:300 < N)(typ:Int)(s:List Int):Wp (wF N typ s) fun e=>(e=0∧lS typ s)∨(e≠0∧¬lS typ s):=by
 unfold wF
 by_cases hlen:s.length≤50
 ·have hs:s.length≤60:=by omega
  have hl:decide (50 < (s.length:Int))=false:=decide_eq_false (by omega)
  by_cases h1:typ=1
  ·subst h1
   refine .bD (a:=197) rfl (.aL rfl (.aL hl (.seq (P:=fun b=>(b=false∧lS 1 s)∨(b=true∧¬lS 1 s)) (.bg rfl (.seq (Ng _) fun b _ hb=> .one ?_)) fun b _ hb=> .cond (fun h=> .one (.inr ⟨by simp,?_⟩)) fun h=> .one (.inl ⟨rfl,?_⟩))))
   ·rcases hb with⟨rfl,h⟩|⟨rfl,h⟩
    ·exact .inl ⟨rfl,.inl ⟨.inl rfl,h⟩⟩
    ·refine .inr ⟨rfl,fun h2=>?_⟩
     rcases h2 with⟨_,h2⟩|⟨h2,_⟩|⟨h2,_⟩
     ·exact h h2
     ·omega
     ·omega
   ·rcases hb with⟨rfl,h2⟩|⟨_,h2⟩
    ·cases h
    ·exact h2
   ·rcases hb with⟨_,h2⟩|⟨rfl,h2⟩
    ·exact h2
    ·cases h
  by_cases h5:typ=5
  ·subst h5
   refine .bD (a:=203) rfl (.aL rfl (.aL hl (.seq (P:=fun b=>(b=false∧lS 5 s)∨(b=true∧¬lS 5 s)) (.aL rfl (.aL rfl (.aL rfl (.aL rfl (.bg rfl (.seq (Ng _) fun b _ hb=> .one ?_)))))) fun b _ hb=> .cond (fun h=> .one (.inr ⟨by simp,?_⟩)) fun h=> .one (.inl ⟨rfl,?_⟩))))
   ·rcases hb with⟨rfl,h⟩|⟨rfl,h⟩
    ·exact .inl ⟨rfl,.inl ⟨.inr rfl,h⟩⟩
    ·refine .inr ⟨rfl,fun h2=>?_⟩
     rcases h2 with⟨_,h2⟩|⟨h2,_⟩|⟨h2,_⟩
     ·exact h h2
     ·omega
     ·omega
   ·rcases hb with⟨rfl,h2⟩|⟨_,h2⟩
    ·cases h
    ·exact h2
   ·rcases hb with⟨_,h2⟩|⟨rfl,h2⟩
    ·exact h2
    ·cases h
  by_cases h2:typ=2
  ·subst h2
   refine .bD (a:=200) rfl (.aL rfl (.aL hl (.seq (P:=fun b=>(b=false∧lS 2 s)∨(b=true∧¬lS 2 s)) (.aL rfl (.bg rfl (.seq (LO hN hs _) fun b _ hb=> .one ?_))) fun b _ hb=> .cond (fun h=> .one (.inr ⟨by simp,?_⟩)) fun h=> .one (.inl ⟨rfl,?_⟩))))
   ·rcases hb with⟨rfl,h⟩|⟨rfl,h⟩
    ·exact .inl ⟨rfl,.inr (.inl ⟨.inl rfl,hlen,h⟩)⟩
    ·refine .inr ⟨rfl,fun h2=>?_⟩
     rcases h2 with⟨h2,_⟩|⟨_,_,h2⟩|⟨h2,_⟩
     ·omega
     ·exact h h2
     ·omega
   ·rcases hb with⟨rfl,h2⟩|⟨_,h2⟩
    ·cases h
    ·exact h2
   ·rcases hb with⟨_,h2⟩|⟨rfl,h2⟩
    ·exact h2
    ·cases h
  by_cases h3:typ=3
  ·subst h3
   refine .bD (a:=201) rfl (.aL rfl (.aL hl (.seq (P:=fun b=>(b=false∧lS 3 s)∨(b=true∧¬lS 3 s)) (.aL rfl (.aL rfl (.bg rfl (.seq (LO hN hs _) fun b _ hb=> .one ?_)))) fun b _ hb=> .cond (fun h=> .one (.inr ⟨by simp,?_⟩)) fun h=> .one (.inl ⟨rfl,?_⟩))))
   ·rcases hb with⟨rfl,h⟩|⟨rfl,h⟩
    ·exact .inl ⟨rfl,.inr (.inl ⟨.inr rfl,hlen,h⟩)⟩
    ·refine .inr ⟨rfl,fun h2=>?_⟩
     rcases h2 with⟨h2,_⟩|⟨_,_,h2⟩|⟨h2,_⟩
     ·omega
     ·exact h h2
     ·omega
   ·rcases hb with⟨rfl,h2⟩|⟨_,h2⟩
    ·cases h
    ·exact h2
   ·rcases hb with⟨_,h2⟩|⟨rfl,h2⟩
    ·exact h2
    ·cases h
  by_cases h4:typ=4
  ·subst h4
   refine .bD (a:=202) rfl (.aL rfl (.aL hl (.seq (P:=fun b=>(b=false∧lS 4 s)∨(b=true∧¬lS 4 s)) (.aL rfl (.aL rfl (.aL rfl (.bg rfl (.seq (aeS hN hs _) fun b _ hb=> .one ?_))))) fun b _ hb=> .cond (fun h=> .one (.inr ⟨by simp,?_⟩)) fun h=> .one (.inl ⟨rfl,?_⟩))))
   ·rcases hb with⟨rfl,h⟩|⟨rfl,h⟩
    ·exact .inl ⟨rfl,.inr (.inr ⟨rfl,hlen,h⟩)⟩
    ·refine .inr ⟨rfl,fun h2=>?_⟩
     rcases h2 with⟨h2,_⟩|⟨h2,_⟩|⟨_,_,h2⟩
     ·omega
     ·omega
     ·exact h h2
   ·rcases hb with⟨rfl,h2⟩|⟨_,h2⟩
    ·cases h
    ·exact h2
   ·rcases hb with⟨_,h2⟩|⟨rfl,h2⟩
    ·exact h2
    ·cases h
  ·have he:ql N typ=some 0:=by
    unfold ql
    rw[decide_eq_false h1,decide_eq_false h2,decide_eq_false h3,decide_eq_false h4,decide_eq_false h5];rfl
   refine .bD he (.bg rfl (.one (.inr ⟨by simp,fun h=>?_⟩)))
   rcases h with⟨h,_⟩|⟨h,_⟩|⟨h,_⟩<;>omega
 ·have hno: ¬lS typ s:=by
   rintro(⟨_,v,rfl,_⟩|⟨_,h,_⟩|⟨_,h,_⟩)
   ·simp at hlen
   ·exact hlen h
   ·exact hlen h
  refine .seq (P:=fun _=>True) ?_ fun r _ _=> .cond (fun _=> .one (.inr ⟨by simp,hno⟩)) fun _=> .bg (decide_eq_true (by omega)) (.one (.inr ⟨by simp,hno⟩))
  unfold ql
  exact .cond (fun _=> .one trivial) fun _=> .cond (fun _=> .one trivial) fun _=> .cond (fun _=> .one trivial) fun _=> .cond (fun _=> .one trivial) fun _=> .cond (fun _=> .one trivial) fun _=> .one trivial
def t8(k:Int):Int:=if k=1∨k=2 then 1 else if k=3∨k=4 then 2 else if k=5∨k=6 then 3 else if k=7∨k=8∨k=9 then 4 else if k=10 then 5 else 0
theorem W7(N:Nat)(k:Int):nk N k=some (t8 k):=by
 by_cases h:1≤k∧k≤10
 ·have:k=1∨k=2∨k=3∨k=4∨k=5∨k=6∨k=7∨k=8∨k=9∨k=10:=by omega
  rcases this with h|h|h|h|h|h|h|h|h|h<;>subst h<;>rfl
 ·have e: ∀n:Int,1≤n→n≤10→¬k=n:=fun n h1 h2 e=>h (by omega)
  unfold nk t8
  simp[e,bd]
def dz(typ kind arg:Int):Prop:=typ≠0∧t8 kind=typ∧((kind=2∨kind=4∨kind=6∨kind=10)→arg=0)∧(¬(kind=2∨kind=4∨kind=6∨kind=10)→gH arg)
instance(n:Int):Decidable (gH n):=by unfold gH;infer_instance
instance(typ kind arg:Int):Decidable (dz typ kind arg):=by unfold dz gH;infer_instance
theorem pm(N:Nat)(k n:Int):cQ N k n=some (if k=2∨k=4∨k=6∨k=10 then decide (n=0)else(decide (1≤n)&&decide (n≤1000))):=by
 unfold cQ
 by_cases h2:k=2
 ·subst h2;rfl
 by_cases h4:k=4
 ·subst h4;rfl
 by_cases h6:k=6
 ·subst h6;rfl
 by_cases h10:k=10
 ·subst h10;rfl
 simp[h2,h4,h6,h10,bd]
theorem HH(N:Nat)(typ k:Int):jH N typ k=some (decide (typ≠0∧t8 k=typ)):=by
 unfold jH
 by_cases h:typ=0
 ·subst h;simp[bd]
 ·rw[W7]
  simp[bd,h]
theorem LP(k n:Int):(if k=2∨k=4∨k=6∨k=10 then decide (n=0)else(decide (1≤n)&&decide (n≤1000)))=decide (((k=2∨k=4∨k=6∨k=10)→n=0)∧(¬(k=2∨k=4∨k=6∨k=10)→gH n)):=by
 by_cases h:k=2∨k=4∨k=6∨k=10
 ·rw[if_pos h];exact decide_eq_decide.2 ⟨fun e=>⟨fun _=>e,fun g=>(g h).elim⟩,fun e=>e.1 h⟩
 ·rw[if_neg h]
  unfold gH
  rw[←Bool.decide_and]
  exact decide_eq_decide.2 ⟨fun e=>⟨fun g=>(h g).elim,fun _=>e⟩,fun e=>e.2 h⟩
def oA(typ:Int)(s:List Int)(kind arg:Int):Option (List Int×Int):=
 if typ=1 then(if kind=1 then some ([arg],0)else some (s,s.getD 0 0))
 else if typ=5 then(if s.getD 0 0=1000 then none else some ([s.getD 0 0+1],s.getD 0 0))
 else if typ=2 then(if kind=3 then(if s.length=50 then none else some (s++[arg],0))else if s.length=0 then some (s,-1)else some (s.drop 1,s.getD 0 0))
 else if typ=3 then(if kind=5 then(if s.length=50 then none else some (s++[arg],0))else if s.length=0 then some (s,-1)else some (s.take (s.length - 1),s.getD (s.length - 1) 0))
 else if kind=7 then(if arg∈s then some (s,0)else if s.length=50 then none else some (s.takeWhile (· < arg)++[arg]++s.dropWhile (· < arg),1))
 else if kind=8 then(if arg∈s then some (s.takeWhile (· < arg)++(s.dropWhile (· < arg)).drop 1,1)else some (s,0))
 else some (s,if arg∈s then 1 else 0)
end Ob
theorem abY{z:Int}(h0:0≤z)(h:z < 9223372036854775808):IntKind.i64.wrap z=z:=by
 have e:z % 2 ^ 64=z:=Int.emod_eq_of_lt h0 (by show z < 2 ^ 64;omega)
 unfold IntKind.wrap
 simp only[IntKind.bits,IntKind.signed,Bool.true_and,e]
 exact if_neg (by simp;omega)
namespace Ob
theorem half{a:Nat}(h:a < 9223372036854775808):IntKind.i64.wrap (kx .u64 (IntKind.u64.wrap (a:Int)) 1)=((a / 2:Nat):Int):=by
 rw[Dr (by omega) (by omega)]
 have:kx .u64 (a:Int) 1=((a / 2:Nat):Int):=by
  unfold kx
  show(a:Int).fdiv (2 ^ (min 1 64))=_
  rw[Int.fdiv_eq_ediv_of_nonneg _ (by decide)]
  simp
 rw[this,abY (by omega) (by omega)]
theorem Kl{s:List Int}(h:qX s){k:Nat}: ∀{m:Nat},k < m→m < s.length→s.getD k 0 < s.getD m 0
 |0,h1,_=>absurd h1 (Nat.not_lt_zero _)
 |m+1,h1,h2=>by
  have h3:=(HG s).1 h m h2
  rcases Nat.lt_or_ge k m with h4|h4
  ·have:=Kl h h4 (by omega)
   omega
  ·obtain rfl:k=m:=by omega
   exact h3
theorem abZ(N:Nat)(x y:Int):cmp_Less_int N x y=some ():=by
 unfold cmp_Less_int cmp_isNaN_int
 simp[bd]
structure At(s:List Int)(arg:Int)(i:Nat):Prop where
 le:i≤s.length
 lo: ∀k,k < i→s.getD k 0 < arg
 hi: ∀k,i≤k→k < s.length→arg≤s.getD k 0
theorem At.mem{s:List Int}{arg:Int}{i:Nat}(h:At s arg i)(hs:qX s):arg∈s↔i < s.length∧s.getD i 0=arg:=by
 constructor
 ·intro hm
  obtain⟨k,hk,rfl⟩:=List.getElem_of_mem hm
  have e:=aW (d:=(0:Int)) hk
  have h1:i≤k:=by
   rcases Nat.lt_or_ge k i with h1|h1
   ·have:=h.lo k h1;omega
   ·exact h1
  rcases Nat.lt_or_ge i k with h2|h2
  ·have h3:=Kl hs h2 hk
   have:=h.hi i (Nat.le_refl _) (by omega)
   omega
  ·obtain rfl:i=k:=by omega
   exact⟨hk,e⟩
 ·rintro⟨h1,h2⟩
  rw[aW h1]at h2
  rw[←h2]
  exact List.getElem_mem h1
theorem aaV{N:Nat}(hN:300 < N){s:List Int}(hl:s.length≤60)(hs:qX s)(arg:Int):Wp (jE N s arg) fun r=>∃i:Nat,r=((i:Int),decide (arg∈s))∧At s arg i:=by
 unfold jE
 refine .seq (P:=fun(i:Int)=>∃n:Nat,i=n∧At s arg n) (.loop (s:=((0:Int),(s.length:Int))) (fun st=>∃i j:Nat,st=((i:Int),(j:Int))∧i≤j∧j≤s.length∧(∀k,k < i→s.getD k 0 < arg)∧∀k,j≤k→k < s.length→arg≤s.getD k 0) (fun st=>(st.2 - st.1).toNat) (show((s.length:Int) - 0).toNat < N by omega) ⟨0,s.length,rfl,Nat.zero_le _,Nat.le_refl _,fun k h=>absurd h (Nat.not_lt_zero _),fun k h1 h2=>by omega⟩ ?_) fun v _ hv=>?_
 ·rintro st ⟨i,j,rfl,hij,hj,h1,h2⟩
  simp only[oC]
  have e:(i:Int)+(j:Int)=((i+j:Nat):Int):=by omega
  rw[e,half (by omega)]
  refine .cond (fun h=>?_) fun h=> .one ?_
  ·have h:=of_decide_eq_true h
   have hm:(i+j) / 2 < s.length:=by omega
   refine .bK (by omega) (.fL 0 (by omega) (by omega) (.bD (abZ ..) ?_))
   rw[Int.toNat_natCast]
   refine .cond (fun h3=> .bK (by omega) (.one ⟨⟨(i+j) / 2+1,j,by simp,by omega,hj,fun k hk=>?_,h2⟩,by simp only;omega⟩)) fun h3=> .one ⟨⟨i,(i+j) / 2,rfl,by omega,by omega,h1,fun k hk hk2=>?_⟩,by simp only;omega⟩
   ·have h3:s.getD ((i+j) / 2) 0 < arg:=by simpa using h3
    rcases Nat.lt_or_ge k ((i+j) / 2)with h4|h4
    ·have:=Kl hs h4 hm
     omega
    ·obtain rfl:k=(i+j) / 2:=by omega
     exact h3
   ·have h3: ¬s.getD ((i+j) / 2) 0 < arg:=by
     intro h4
     have h4:decide (s.getD ((i+j) / 2) 0 < arg)=true:=decide_eq_true h4
     rw[h4,Bool.or_true]at h3
     cases h3
    rcases Nat.lt_or_ge ((i+j) / 2) k with h4|h4
    ·have:=Kl hs h4 hk2
     omega
    ·obtain rfl:k=(i+j) / 2:=by omega
     omega
  ·have h:=of_decide_eq_false h
   obtain rfl:i=j:=by omega
   exact⟨i,rfl,hj,h1,h2⟩
 ·obtain⟨n,rfl,hn⟩:=hv
  refine .MU 0 (fun h=>⟨by omega,by simpa using h⟩) fun x hx=> .MU 0 (fun h=>⟨by omega,by
   have:=(Bool.and_eq_true .. ▸h).1
   simpa using this⟩) fun y _=>?_
  refine .seq (P:=fun _=>True) (.cond (fun _=> .one trivial) fun _=> .one trivial) fun _ _ _=> .seq (P:=fun _=>True) (.cond (fun _=> .one trivial) fun _=> .one trivial) fun _ _ _=> .one ⟨n,?_,hn⟩
  rw[Prod.mk.injEq]
  refine⟨rfl,?_⟩
  have em:decide (arg∈s)=decide (n < s.length∧s.getD n 0=arg):=decide_eq_decide.2 (hn.mem hs)
  rw[em]
  by_cases h:n < s.length
  ·have hx:=hx (by simpa using h)
   rw[Int.toNat_natCast]at hx
   rw[hx]
   have:decide ((n:Int) < (s.length:Int))=true:=decide_eq_true (by omega)
   rw[this]
   simp[h]
  ·have:decide ((n:Int) < (s.length:Int))=false:=decide_eq_false (by omega)
   rw[this]
   simp[h]
theorem At.tw: ∀{s:List Int} {arg:Int} {i:Nat},At s arg i→s.takeWhile (· < arg)=s.take i∧s.dropWhile (· < arg)=s.drop i
 | [],arg,i,h=>by simp
 |a::s,arg,0,h=>by
  have h1:=h.hi 0 (Nat.le_refl _) (by simp)
  have h2: ¬a < arg:=by simpa using h1
  simp[List.takeWhile_cons,List.dropWhile_cons,h2]
 |a::s,arg,i+1,h=>by
  have h1:a < arg:=by simpa using h.lo 0 (by omega)
  have ih:=At.tw (s:=s) (arg:=arg) (i:=i) ⟨by have:=h.le;simp at this;omega,fun k hk=>by simpa using h.lo (k+1) (by omega),fun k h1 h2=>by simpa using h.hi (k+1) (by omega) (by simp;omega)⟩
  simp[List.takeWhile_cons,List.dropWhile_cons,h1,ih.1,ih.2]
def Sp(typ:Int)(s:List Int)(kind arg:Int)(r:List Int×Int×Int):Prop:=(∃n res,oA typ s kind arg=some (n,res)∧n.length≤60∧r=(n,res,0))∨(oA typ s kind arg=none∧r=([],0,2))
theorem W8{N:Nat}{s:List Int}(hl:s.length≤50)(a:cW)(arg:Int):oB N a s arg=some (if s.length=50 then([],2)else(s++[arg],0)):=by
 unfold oB
 by_cases h:s.length=50
 ·rw[et (decide_eq_true (by omega)),if_pos h]
 ·rw[eH (decide_eq_false (by omega)),if_neg h,jr (eT ⟨by unfold maxLen;simp;omega,by simp;omega⟩)]
theorem DI{k t:Int}(h:t8 k=t)(ht:t≠0):(t=1∧(k=1∨k=2))∨(t=2∧(k=3∨k=4))∨(t=3∧(k=5∨k=6))∨(t=4∧(k=7∨k=8∨k=9))∨(t=5∧k=10):=by
 unfold t8 at h
 split at h
 ·exact .inl ⟨h.symm,by assumption⟩
 split at h
 ·exact .inr (.inl ⟨h.symm,by assumption⟩)
 split at h
 ·exact .inr (.inr (.inl ⟨h.symm,by assumption⟩))
 split at h
 ·exact .inr (.inr (.inr (.inl ⟨h.symm,by assumption⟩)))
 split at h
 ·exact .inr (.inr (.inr (.inr ⟨h.symm,by assumption⟩)))
 ·exact(ht h.symm).elim
theorem Y3{N:Nat}{s:List Int}(hl:s.length≤50)(a:jk){kind:Int}(hk:kind=3∨kind=4)(arg:Int):Wp (pI N a s kind arg) (Sp 2 s kind arg):=by
 unfold pI Sp oA
 rcases hk with rfl|rfl
 ·refine .bg rfl (.bD (W8 hl _ arg) (.one ?_))
  by_cases h:s.length=50
  ·right
   simp[h]
  ·left
   refine⟨s++[arg],0,by simp[h],by simp;omega,by simp[h]⟩
 ·refine .aL rfl (.cond (fun h=> .one ?_) fun h=>?_)
  ·have h:s.length=0:=by have:=of_decide_eq_true h;omega
   exact .inl ⟨s,-1,by simp[h],by omega,rfl⟩
  ·have h:s.length≠0:=by have:=of_decide_eq_false h;omega
   refine .ck (by simp[pB];omega) (.fL 0 (by omega) (by omega) (.one (.inl ⟨s.drop 1,s.getD 0 0,by simp[h],by simp;omega,rfl⟩)))
theorem Y4{N:Nat}{s:List Int}(hl:s.length≤50)(a:jk){kind:Int}(hk:kind=5∨kind=6)(arg:Int):Wp (pJ N a s kind arg) (Sp 3 s kind arg):=by
 unfold pJ Sp oA
 rcases hk with rfl|rfl
 ·refine .bg rfl (.bD (W8 hl _ arg) (.one ?_))
  by_cases h:s.length=50
  ·right
   simp[h]
  ·left
   refine⟨s++[arg],0,by simp[h],by simp;omega,by simp[h]⟩
 ·refine .aL rfl (.cond (fun h=> .one ?_) fun h=>?_)
  ·have h:s.length=0:=by have:=of_decide_eq_true h;omega
   exact .inl ⟨s,-1,by simp[h],by omega,rfl⟩
  ·have h:s.length≠0:=by have:=of_decide_eq_false h;omega
   refine .bK (by omega) (.ck (by simp[pB];omega) (.bK (by omega) (.fL 0 (by omega) (by omega) (.one (.inl ⟨s.take (s.length - 1),s.getD (s.length - 1) 0,by simp[h],by simp;omega,?_⟩)))))
   rw[show((s.length:Int) - 1).toNat=s.length - 1 by omega]
theorem W9{N:Nat}{v:Int}(hv:0≤v∧v≤1000)(a:js)(kind arg:Int):Wp (oE N a [v] kind arg) (Sp 5 [v] kind arg):=by
 unfold oE Sp oA
 refine .bD (a:=v) rfl (.cond (fun h=> .one (.inr ⟨?_,rfl⟩)) fun h=> .bK (by omega) (.one (.inl ⟨[v+1],v,?_,by simp,rfl⟩)))
 ·have h:=of_decide_eq_true h
  simp[h]
 ·have h:=of_decide_eq_false h
  simp[h]
theorem aeT{N:Nat}{v:Int}(a:js){kind:Int}(hk:kind=1∨kind=2)(arg:Int):Wp (mW N a [v] kind arg) fun r=>oA 1 [v] kind arg=some r∧r.1.length≤60:=by
 unfold mW oA
 rcases hk with rfl|rfl
 ·exact .bg rfl (.one ⟨rfl,by simp⟩)
 ·exact .aL rfl (.bD (a:=v) rfl (.one ⟨rfl,by simp⟩))
theorem Sv{N:Nat}(hN:300 < N){s:List Int}(hl:s.length≤50)(hs:qX s)(a:jk){kind:Int}(hk:kind=7∨kind=8∨kind=9)(arg:Int):Wp (rQ N a s kind arg) (Sp 4 s kind arg):=by
 unfold rQ Sp oA
 refine .seq (aaV hN (by omega) hs arg) fun r _ hr=>?_
 obtain⟨i,rfl,hi⟩:=hr
 have hle:=hi.le
 have hm:=hi.mem hs
 obtain⟨t1,t2⟩:=hi.tw
 simp only
 rcases hk with rfl|rfl|rfl
 ·by_cases h:arg∈s
  ·rw[decide_eq_true h]
   exact .aL rfl (.aL rfl (.bg rfl (.one (.inl ⟨s,0,by simp[h],by omega,rfl⟩))))
  ·rw[decide_eq_false h]
   by_cases h5:s.length=50
   ·exact .bg (by simp;omega) (.one (.inr ⟨by simp[h,h5],rfl⟩))
   ·refine .aL (by simp;omega) (.bg rfl ?_)
    have e:kL N s (i:Int) [arg]=some (s.take i++[arg]++s.drop i):=by
     unfold kL
     rw[if_pos ⟨by omega,by omega,by simp,by simp;omega⟩,Int.toNat_natCast]
    refine .bD e (.one (.inl ⟨s.take i++[arg]++s.drop i,1,?_,by simp;omega,rfl⟩))
    rw[←t1,←t2]
    simp[h,h5]
 ·by_cases h:arg∈s
  ·rw[decide_eq_true h]
   obtain⟨hlt,_⟩:=hm.1 h
   have e:slices_Delete_int N s (i:Int) ((i:Int)+1)=some (s.take i++s.drop (i+1)):=by
    unfold slices_Delete_int
    rw[if_pos ⟨by omega,by omega,by omega,by omega⟩,Int.toNat_natCast,show((i:Int)+1).toNat=i+1 by omega]
   refine .aL rfl (.aL rfl (.aL rfl (.bg rfl (.bK (by omega) (.bD e (.one (.inl ⟨s.take i++s.drop (i+1),1,?_,by simp;omega,rfl⟩)))))))
   rw[←t1,show s.drop (i+1)=(s.dropWhile (· < arg)).drop 1 by rw[t2,List.drop_drop]]
   simp[h]
  ·rw[decide_eq_false h]
   exact .aL rfl (.aL rfl (.bg rfl (.one (.inl ⟨s,0,by simp[h],by omega,rfl⟩))))
 ·by_cases h:arg∈s
  ·rw[decide_eq_true h]
   exact .aL rfl (.aL rfl (.aL rfl (.aL rfl (.one (.inl ⟨s,1,by simp[h],by omega,rfl⟩)))))
  ·rw[decide_eq_false h]
   exact .aL rfl (.aL rfl (.bg rfl (.one (.inl ⟨s,0,by simp[h],by omega,rfl⟩))))
def St(typ:Int)(s:List Int)(kind arg:Int)(r:List Int×Int×Int):Prop:=
 (lS typ s∧dz typ kind arg∧((∃n res,oA typ s kind arg=some (n,res)∧r=(n,res,0))∨(oA typ s kind arg=none∧r=([],0,2))))∨(¬(lS typ s∧dz typ kind arg)∧∃e,e≠0∧r=([],0,e))
theorem ab0{N:Nat}(hN:300 < N)(typ:Int)(s:List Int)(kind arg:Int):Wp (nh N typ s kind arg) (St typ s kind arg):=by
 unfold nh St
 refine .seq (mJ hN typ s) fun e _ he=>?_
 by_cases h0:e≠0
 ·rcases he with⟨h1,_⟩|⟨_,hO⟩
  ·exact(h0 h1).elim
  ·exact .bg (by simpa using h0) (.one (.inr ⟨fun h=>hO h.1,e,h0,rfl⟩))
 obtain⟨rfl,hO⟩:e=0∧lS typ s:=by
  rcases he with h|⟨h,_⟩
  ·exact h
  ·exact(h0 h).elim
 refine .aL rfl (.bD (HH ..) ?_)
 by_cases hf:typ≠0∧t8 kind=typ
 ·rw[decide_eq_true hf]
  refine .bD (by rw[et (by rfl),pm,LP]) ?_
  by_cases ha:((kind=2∨kind=4∨kind=6∨kind=10)→arg=0)∧(¬(kind=2∨kind=4∨kind=6∨kind=10)→gH arg)
  ·rw[decide_eq_true ha]
   have hA:dz typ kind arg:=⟨hf.1,hf.2,ha⟩
   have hlen:s.length≤50:=by
    rcases hO with⟨_,v,rfl,_⟩|⟨_,h,_⟩|⟨_,h,_⟩
    ·simp
    ·exact h
    ·exact h
   have hlim:eY 8 s.length=true:=eT ⟨by unfold maxLen;omega,by omega⟩
   refine .aL rfl (.seq (P:=Sp typ s kind arg) ?_ fun r _ hr=>?_)
   ·rcases DI hf.2 hf.1 with⟨rfl,hk⟩|⟨rfl,hk⟩|⟨rfl,hk⟩|⟨rfl,hk⟩|⟨rfl,hk⟩
    ·obtain⟨v,rfl,_⟩: ∃v,s= [v]∧0≤v∧v≤1000:=by
      rcases hO with⟨_,h⟩|⟨h,_⟩|⟨h,_⟩
      ·exact h
      ·omega
      ·omega
     refine .bD (a:=197) rfl (.bg rfl (.ck hlim (.seq (aeT _ hk arg) fun r _ hr=> .one (.inl ⟨r.1,r.2,hr.1,hr.2,rfl⟩))))
    ·refine .bD (a:=200) rfl (.aL rfl (.bg rfl (.ck hlim (.seq (Y3 hlen _ hk arg) fun r _ hr=> .one hr))))
    ·refine .bD (a:=201) rfl (.aL rfl (.aL rfl (.bg rfl (.ck hlim (.seq (Y4 hlen _ hk arg) fun r _ hr=> .one hr)))))
    ·have hs:qX s:=by
      rcases hO with⟨h,_⟩|⟨h,_⟩|⟨_,_,_,h⟩
      ·omega
      ·omega
      ·exact h
     refine .bD (a:=202) rfl (.aL rfl (.aL rfl (.aL rfl (.bg rfl (.ck hlim (.seq (Sv hN hlen hs _ hk arg) fun r _ hr=> .one hr))))))
    ·obtain⟨v,rfl,hv⟩: ∃v,s= [v]∧0≤v∧v≤1000:=by
      rcases hO with⟨_,h⟩|⟨h,_⟩|⟨h,_⟩
      ·exact h
      ·omega
      ·omega
     refine .bD (a:=203) rfl (.aL rfl (.aL rfl (.aL rfl (.aL rfl (.bg rfl (.ck hlim (.seq (W9 hv _ kind arg) fun r _ hr=> .one hr)))))))
   ·rcases hr with⟨n,res,h1,h2,rfl⟩|⟨h1,rfl⟩
    ·exact .ck (eT ⟨by unfold maxLen;omega,by omega⟩) (.one (.inl ⟨hO,hA,.inl ⟨n,res,h1,rfl⟩⟩))
    ·exact .ck rfl (.one (.inl ⟨hO,hA,.inr ⟨h1,rfl⟩⟩))
  ·rw[decide_eq_false ha]
   exact .bg rfl (.one (.inr ⟨fun h=>ha h.2.2.2,3,by decide,rfl⟩))
 ·rw[decide_eq_false hf]
  exact .bD (a:=false) rfl (.bg rfl (.one (.inr ⟨fun h=>hf ⟨h.2.1,h.2.2.1⟩,3,by decide,rfl⟩)))
end Ob
structure Do where
 kind:Int
 arg:Int
 res:Int
deriving DecidableEq
namespace Ob
theorem Km: ∀s:List Int,qX s↔s.Pairwise (· < ·)
 | []=>⟨fun _=> .nil,fun _=>trivial⟩
 | [a]=>⟨fun _=>by simp,fun _=>trivial⟩
 |a::b::r=>by
  have ih:=Km (b::r)
  constructor
  ·rintro⟨h1,h2⟩
   have h3:=ih.1 h2
   refine List.pairwise_cons.2 ⟨fun x hx=>?_,h3⟩
   rcases List.mem_cons.1 hx with rfl|hx
   ·exact h1
   ·have:=(List.pairwise_cons.1 h3).1 x hx
    omega
  ·intro h
   obtain⟨h1,h2⟩:=List.pairwise_cons.1 h
   exact⟨h1 b (.head _),ih.2 h2⟩
theorem Ve{s:List Int}(hl:s.length≤60)(hs:qX s)(arg:Int): ∃i,At s arg i:=by
 obtain⟨r,_,i,_,h⟩:=aaV (N:=301) (by decide) hl hs arg
 exact⟨i,h⟩
def ins(s:List Int)(a:Int):List Int:=s.takeWhile (· < a)++[a]++s.dropWhile (· < a)
def del(s:List Int)(a:Int):List Int:=s.takeWhile (· < a)++(s.dropWhile (· < a)).drop 1
theorem TA{s:List Int}{a x:Int}:x∈ins s a↔x=a∨x∈s:=by
 unfold ins
 rw[List.mem_append,List.mem_append,List.mem_singleton]
 conv=>rhs;rw[←List.takeWhile_append_dropWhile (p:=(· < a)) (l:=s),List.mem_append]
 constructor
 ·rintro((h|h)|h)
  ·exact .inr (.inl h)
  ·exact .inl h
  ·exact .inr (.inr h)
 ·rintro(h|h|h)
  ·exact .inl (.inr h)
  ·exact .inl (.inl h)
  ·exact .inr h
theorem Ij{s:List Int}{a:Int}{i:Nat}(h:At s a i){x:Int}(hx:x∈s.drop i):a≤x:=by
 obtain⟨k,hk,rfl⟩:=List.getElem_of_mem hx
 rw[List.length_drop]at hk
 have:=h.hi (i+k) (by omega) (by omega)
 rw[aW (by omega)]at this
 rw[List.getElem_drop]
 exact this
theorem Ik{s:List Int}{a:Int}{i:Nat}(h:At s a i){x:Int}(hx:x∈s.take i):x < a:=by
 obtain⟨k,hk,rfl⟩:=List.getElem_of_mem hx
 rw[List.length_take]at hk
 have:=h.lo k (by omega)
 rw[aW (by omega)]at this
 rw[List.getElem_take]
 exact this
theorem ab1{s:List Int}(hl:s.length≤60)(hs:qX s){a:Int}(ha:a∉s):qX (ins s a):=by
 obtain⟨i,hi⟩:=Ve hl hs a
 unfold ins
 rw[hi.tw.1,hi.tw.2]
 rw[Km]at hs⊢
 rw[List.append_assoc,List.pairwise_append]
 refine⟨hs.sublist (List.take_sublist i s),?_,fun x hx y hy=>?_⟩
 ·rw[List.singleton_append,List.pairwise_cons]
  refine⟨fun y hy=>?_,hs.sublist (List.drop_sublist i s)⟩
  have h1:=Ij hi hy
  have h2:y≠a:=fun e=>ha (e▸List.mem_of_mem_drop hy)
  omega
 ·have h1:=Ik hi hx
  rcases List.mem_append.1 hy with hy|hy
  ·rw[List.mem_singleton.1 hy];exact h1
  ·have:=Ij hi hy
   omega
theorem TB(s:List Int)(a:Int):(del s a).Sublist s:=by
 unfold del
 conv=>rhs;rw[←List.takeWhile_append_dropWhile (p:=(· < a)) (l:=s)]
 exact List.Sublist.append_left (List.drop_sublist _ _) _
theorem ab2{s:List Int}(hs:qX s)(a:Int):qX (del s a):=by
 rw[Km]at hs⊢
 exact hs.sublist (TB s a)
theorem lS.len{typ:Int}{s:List Int}(h:lS typ s):s.length≤50:=by
 rcases h with⟨_,v,rfl,_⟩|⟨_,h,_⟩|⟨_,h,_⟩
 ·simp
 ·exact h
 ·exact h
theorem ab4(s:List Int)(a:Int):(ins s a).length=s.length+1:=by
 have:=congrArg List.length (List.takeWhile_append_dropWhile (p:=(· < a)) (l:=s))
 rw[List.length_append]at this
 unfold ins
 simp only[List.length_append,List.length_cons,List.length_nil]
 omega
theorem ab5{s:List Int}(hl:s.length≤60)(hs:qX s){a:Int}(ha:a∈s):(del s a).length+1=s.length:=by
 obtain⟨i,hi⟩:=Ve hl hs a
 obtain⟨hlt,he⟩:=(hi.mem hs).1 ha
 unfold del
 rw[hi.tw.1,hi.tw.2]
 simp only[List.length_append,List.length_take,List.length_drop]
 omega
theorem W_{typ:Int}{s:List Int}{kind arg:Int}(hO:lS typ s)(hA:dz typ kind arg){n:List Int}{res:Int}(h:oA typ s kind arg=some (n,res)):
  lS typ n∧n.length≤s.length+1∧s.length≤n.length+1∧(kind=2∨kind=9→n=s):=by
 obtain⟨h0,hk,ha1,ha2⟩:=hA
 unfold oA at h
 have hinv:=DI hk h0
 clear hk
 rcases hinv with⟨rfl,hk⟩|⟨rfl,hk⟩|⟨rfl,hk⟩|⟨rfl,hk⟩|⟨rfl,hk⟩
 ·obtain⟨v,rfl,hv⟩: ∃v,s= [v]∧0≤v∧v≤1000:=by
   rcases hO with⟨_,h⟩|⟨h,_⟩|⟨h,_⟩
   ·exact h
   ·omega
   ·omega
  rw[if_pos rfl]at h
  rcases hk with rfl|rfl
  ·rw[if_pos rfl]at h
   cases h
   have:=ha2 (by decide)
   unfold gH at this
   exact⟨.inl ⟨.inl rfl,arg,rfl,by omega,by omega⟩,by simp,by simp,fun h=>by omega⟩
  ·rw[if_neg (by decide)]at h
   cases h
   exact⟨.inl ⟨.inl rfl,v,rfl,hv⟩,by simp,by simp,fun _=>rfl⟩
 ·obtain⟨hl,hn⟩:s.length≤50∧∀n∈s,gH n:=by
   rcases hO with⟨h,_⟩|⟨_,h⟩|⟨h,_⟩
   ·omega
   ·exact h
   ·omega
  rw[if_neg (by decide),if_neg (by decide),if_pos rfl]at h
  rcases hk with rfl|rfl
  ·rw[if_pos rfl]at h
   split at h
   ·cases h
   ·cases h
    refine⟨.inr (.inl ⟨.inl rfl,by simp;omega,fun x hx=>?_⟩),by simp,by simp;omega,fun h=>by omega⟩
    rcases List.mem_append.1 hx with hx|hx
    ·exact hn x hx
    ·rw[List.mem_singleton.1 hx];exact ha2 (by decide)
  ·rw[if_neg (by decide)]at h
   split at h
   ·cases h
    exact⟨hO,by omega,by omega,fun h=>by omega⟩
   ·cases h
    exact⟨.inr (.inl ⟨.inl rfl,by simp;omega,fun x hx=>hn x (List.mem_of_mem_drop hx)⟩),by simp;omega,by simp;omega,fun h=>by omega⟩
 ·obtain⟨hl,hn⟩:s.length≤50∧∀n∈s,gH n:=by
   rcases hO with⟨h,_⟩|⟨_,h⟩|⟨h,_⟩
   ·omega
   ·exact h
   ·omega
  rw[if_neg (by decide),if_neg (by decide),if_neg (by decide),if_pos rfl]at h
  rcases hk with rfl|rfl
  ·rw[if_pos rfl]at h
   split at h
   ·cases h
   ·cases h
    refine⟨.inr (.inl ⟨.inr rfl,by simp;omega,fun x hx=>?_⟩),by simp,by simp;omega,fun h=>by omega⟩
    rcases List.mem_append.1 hx with hx|hx
    ·exact hn x hx
    ·rw[List.mem_singleton.1 hx];exact ha2 (by decide)
  ·rw[if_neg (by decide)]at h
   split at h
   ·cases h
    exact⟨hO,by omega,by omega,fun h=>by omega⟩
   ·cases h
    exact⟨.inr (.inl ⟨.inr rfl,by simp;omega,fun x hx=>hn x (List.mem_of_mem_take hx)⟩),by simp;omega,by simp;omega,fun h=>by omega⟩
 ·obtain⟨hl,hn,hs⟩:s.length≤50∧(∀n∈s,gH n)∧qX s:=by
   rcases hO with⟨h,_⟩|⟨h,_⟩|⟨_,h⟩
   ·omega
   ·omega
   ·exact h
  rw[if_neg (by decide),if_neg (by decide),if_neg (by decide),if_neg (by decide)]at h
  have same:n=s→lS 4 n∧n.length≤s.length+1∧s.length≤n.length+1∧(kind=2∨kind=9→n=s):=by
   rintro rfl
   exact⟨hO,by omega,by omega,fun _=>rfl⟩
  rcases hk with rfl|rfl|rfl
  ·rw[if_pos rfl]at h
   split at h
   ·cases h;exact same rfl
   split at h
   ·cases h
   ·rename_i h1 h2
    obtain⟨rfl,rfl⟩:ins s arg=n∧1=res:=by simpa[ins]using h
    have e:=ab4 s arg
    refine⟨.inr (.inr ⟨rfl,by omega,fun x hx=>?_,ab1 (by omega) hs h1⟩),by omega,by omega,fun h=>by omega⟩
    rcases TA.1 hx with rfl|hx
    ·exact ha2 (by decide)
    ·exact hn x hx
  ·rw[if_neg (by decide),if_pos rfl]at h
   split at h
   ·rename_i h1
    obtain⟨rfl,rfl⟩:del s arg=n∧1=res:=by simpa[del]using h
    have e:=ab5 (by omega) hs h1
    refine⟨.inr (.inr ⟨rfl,by omega,fun x hx=>hn x ((TB s arg).subset hx),ab2 hs arg⟩),by omega,by omega,fun h=>by omega⟩
   ·cases h;exact same rfl
  ·rw[if_neg (by decide),if_neg (by decide)]at h
   cases h;exact same rfl
 ·obtain⟨v,rfl,hv⟩: ∃v,s= [v]∧0≤v∧v≤1000:=by
   rcases hO with⟨_,h⟩|⟨h,_⟩|⟨h,_⟩
   ·exact h
   ·omega
   ·omega
  rw[if_neg (by decide),if_pos rfl]at h
  split at h
  ·cases h
  ·rename_i h1
   cases h
   have h1:v≠1000:=h1
   exact⟨.inl ⟨.inr rfl,v+1,rfl,by omega,by omega⟩,by simp,by simp,fun h=>by omega⟩
instance(typ:Int):Decidable (Ty typ):=by unfold Ty;infer_instance
open Classical in
noncomputable def nx(typ:Int)(s:List Int)(kind arg:Int):Option (List Int×Int):=if lS typ s∧dz typ kind arg then oA typ s kind arg else none
theorem HI{typ:Int}{s:List Int}{kind arg:Int}{n:List Int}{res:Int}(h:nx typ s kind arg=some (n,res)):lS typ s∧dz typ kind arg∧oA typ s kind arg=some (n,res)∧lS typ n:=by
 unfold nx at h
 split at h
 ·rename_i h1
  exact⟨h1.1,h1.2,h,(W_ h1.1 h1.2 h).1⟩
 ·cases h
theorem step_eq{N:Nat}(hN:300 < N)(typ:Int)(s:List Int)(kind arg:Int): ∃r,nh N typ s kind arg=some r∧St typ s kind arg r:=ab0 hN typ s kind arg
theorem TC{N:Nat}(hN:300 < N)(typ:Int)(s:List Int)(kind arg:Int):(∃n res,nx typ s kind arg=some (n,res)∧nh N typ s kind arg=some (n,res,0))∨(nx typ s kind arg=none∧∃e,e≠0∧nh N typ s kind arg=some ([],0,e)):=by
 obtain⟨r,h1,h⟩:=step_eq hN typ s kind arg
 rcases h with⟨hO,hA,⟨n,res,h,rfl⟩|⟨h,rfl⟩⟩|⟨hn,e,he,rfl⟩
 ·exact .inl ⟨n,res,by unfold nx;rw[if_pos ⟨hO,hA⟩];exact h,h1⟩
 ·exact .inr ⟨by unfold nx;rw[if_pos ⟨hO,hA⟩];exact h,2,by decide,h1⟩
 ·exact .inr ⟨by unfold nx;rw[if_neg hn],e,he,h1⟩
noncomputable def run(typ:Int):List Int→List Do→Option (List Int)
 |s,[]=>some s
 |s,d::l=>match nx typ s d.kind d.arg with
  |some (n,res)=>if res=d.res then run typ n l else none
  |none=>none
def pU(typ:Int):List Int:=if typ=1∨typ=5 then [0]else []
theorem Xa{typ:Int}(h:Ty typ):lS typ (pU typ):=by
 unfold Ty at h
 unfold pU
 have:typ=1∨typ=2∨typ=3∨typ=4∨typ=5:=by omega
 rcases this with rfl|rfl|rfl|rfl|rfl
 ·exact .inl ⟨.inl rfl,0,rfl,by decide,by decide⟩
 ·exact .inr (.inl ⟨.inl rfl,by simp,by simp⟩)
 ·exact .inr (.inl ⟨.inr rfl,by simp,by simp⟩)
 ·exact .inr (.inr ⟨rfl,by simp,by simp,by simp[qX]⟩)
 ·exact .inl ⟨.inr rfl,0,rfl,by decide,by decide⟩
theorem Bv(N:Nat)(typ:Int):sH N typ=some (if Ty typ then(pU typ,0)else([],1)):=by
 by_cases h:Ty typ
 ·rw[if_pos h]
  unfold Ty at h
  have:typ=1∨typ=2∨typ=3∨typ=4∨typ=5:=by omega
  rcases this with rfl|rfl|rfl|rfl|rfl<;>rfl
 ·rw[if_neg h]
  have e: ∀n:Int,1≤n→n≤5→¬typ=n:=fun n h1 h2 e=>h ⟨by omega,by omega⟩
  unfold sH ql
  simp[e,bd]
end Ob
end Go.Proofs.YtjdkkabcenohcaaGreatDoor
