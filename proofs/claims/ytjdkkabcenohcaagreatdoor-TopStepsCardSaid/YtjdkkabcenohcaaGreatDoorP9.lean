import Derived.Test.YtjdkkabcenohcaaGreatDoorP2
import Derived.Test.YtjdkkabcenohcaaGreatDoorV4
import Derived.Test.YtjdkkabcenohcaaGreatDoorV8
set_option linter.unusedVariables false
set_option linter.unusedSimpArgs false
set_option linter.unusedSectionVars false
set_option maxRecDepth 100000
namespace Go.Proofs.YtjdkkabcenohcaaGreatDoor
open Go.RowKit
namespace Zo
open Hs
end Zo
namespace Sr
open Hs
theorem w_{N:Nat}{types:List Int}{l:List Event}{k:Nat}{out:List Call}{op:List Int}(R:ex N types l k out op): ∀m,m < out.length→cQ N (out.getD m Call.z).kind (out.getD m Call.z).arg=some true∧((out.getD m Call.z).aY≠ -1→bV N (out.getD m Call.z).kind (out.getD m Call.z).res=some true):=by
 induction R with
 |zero=>exact fun m h=>absurd h (Nat.not_lt_zero _)
 | @succ k out out' op op' R hk S ih=>
  intro m hm
  rcases S.how with⟨_,_,ha,_,rfl,_⟩|⟨_,m0,_,hml,_,hr,rfl,_⟩
  ·rw[List.length_append,List.length_singleton]at hm
   rw[dL]
   by_cases h:m < out.length
   ·rw[if_pos h];exact ih m h
   ·rw[if_neg h,if_pos (by omega)]
    exact⟨ha,fun h=>(h rfl).elim⟩
  ·rw[List.length_set]at hm
   rw[fv hml]
   by_cases e:m=m0
   ·subst e
    rw[if_pos rfl]
    exact⟨(ih m hm).1,fun _=>hr⟩
   ·rw[if_neg e];exact ih m hm
end Sr
namespace Zo
open Hs
section
variable {c:List Call} {K:List ag}
end
end Zo
namespace Tk
open Hs
theorem nQ{α:Type}(v:α)(k j:Int): ∀m:List (Int×α),gz (kX m k v) j=if k=j then some v else gz m j
 | []=>by
  unfold kX gz
  by_cases h:k=j
  ·rw[if_pos h,if_pos h]
  ·rw[if_neg h,if_neg h];rfl
 |(a,u)::r=>by
  unfold kX
  by_cases h:a=k
  ·subst h
   rw[if_pos rfl]
   unfold gz
   by_cases h2:a=j
   ·rw[if_pos h2,if_pos h2]
   ·rw[if_neg h2,if_neg h2]
    rw[if_neg h2]
  ·rw[if_neg h]
   unfold gz
   by_cases h2:a=j
   ·rw[if_pos h2,if_pos h2,if_neg (fun e=>h (h2.trans e.symm))]
   ·rw[if_neg h2,if_neg h2]
    exact nQ v k j r
def gx(x:Call):Prop:=x.aY≠ -1
def zP(c:List Call)(n:Int):Nat→Bool
 |0=>false
 |k+1=>zP c n k||decide ((c.getD k Call.z).aY≠ -1∧(c.getD k Call.z).res=n)
def mo(c:List Call):Nat→Int
 |0=> -1
 |k+1=>if(c.getD k Call.z).aY= -1 then mo c k else max (mo c k) (c.getD k Call.z).res
def pe(c:List Call):Nat→List Int
 |0=>[]
 |k+1=>if(c.getD k Call.z).aY= -1 then pe c k++[(k:Int)]else pe c k
def mi(c:List Call)(L:Nat):Nat→List Int
 |0=>[]
 |k+1=>if zP c k L then mi c L k else mi c L k++[(k:Int)]
theorem Jm{c:List Call}{n:Int}: ∀{k:Nat},zP c n k=true↔∃i,i < k∧gx (c.getD i Call.z)∧(c.getD i Call.z).res=n
 |0=>⟨fun h=>(nomatch h),fun⟨_,h,_⟩=>absurd h (Nat.not_lt_zero _)⟩
 |k+1=>by
  unfold zP
  rw[Bool.or_eq_true,Jm,decide_eq_true_eq]
  constructor
  ·rintro(⟨i,h1,h2⟩|h)
   ·exact⟨i,by omega,h2⟩
   ·exact⟨k,by omega,h⟩
  ·rintro⟨i,h1,h2⟩
   rcases Nat.lt_or_ge i k with h|h
   ·exact .inl ⟨i,h,h2⟩
   ·obtain rfl:i=k:=by omega
    exact .inr h2
theorem XF(c:List Call): ∀k,(pe c k).length≤k
 |0=>Nat.le_refl _
 |k+1=>by
  have:=XF c k
  unfold pe
  split
  ·rw[List.length_append,List.length_singleton];omega
  ·omega
theorem Rh(c:List Call)(L:Nat): ∀k,(mi c L k).length≤k
 |0=>Nat.le_refl _
 |k+1=>by
  have:=Rh c L k
  unfold mi
  split
  ·omega
  ·rw[List.length_append,List.length_singleton];omega
theorem aa6(c:List Call): ∀k,-1≤mo c k
 |0=>Int.le_refl _
 |k+1=>by
  have:=aa6 c k
  unfold mo
  split
  ·exact this
  ·omega
theorem Ov{c:List Call}(h: ∀i,i < c.length→(c.getD i Call.z).res≤1000): ∀k,k≤c.length→mo c k≤1000
 |0,_=>by show(-1:Int)≤1000;omega
 |k+1,hk=>by
  have h1:=Ov h k (by omega)
  have h2:=h k (by omega)
  unfold mo
  split
  ·exact h1
  ·omega
theorem Ow{c:List Call}: ∀{k:Nat},0≤mo c k→∃i,i < k∧gx (c.getD i Call.z)∧(c.getD i Call.z).res=mo c k
 |0,h=>absurd h (by show ¬(0:Int)≤ -1;omega)
 |k+1,h=>by
  unfold mo at h⊢
  by_cases h1:(c.getD k Call.z).aY= -1
  ·rw[if_pos h1]at h⊢
   obtain⟨i,h2,h3⟩:=Ow h
   exact⟨i,by omega,h3⟩
  ·rw[if_neg h1]at h⊢
   rcases Int.le_total (mo c k) (c.getD k Call.z).res with h2|h2
   ·exact⟨k,by omega,h1,by omega⟩
   ·obtain⟨i,h3,h4,h5⟩:=Ow (c:=c) (k:=k) (by omega)
    exact⟨i,by omega,h4,by omega⟩
def um(c:List Call):List Int:=mi c c.length (mo c c.length+1).toNat
theorem HU{N:Nat}(hN:5000 < N){l:List Event}{c:List Call}{e:Int}(hc:cB N [5] l=some (c,e,0))(BT:c.length≤200)(hr: ∀i,i < c.length→(c.getD i Call.z).res≤1000):jM N l=some (true,c,pe c c.length,um c,0):=by
 unfold jM
 refine Wp.eq (.bD hc (.aL rfl ?_))
 refine .seq (P:=fun s=>s.1=pe c c.length∧s.2.1=mo c c.length∧∀n,(gz s.2.2 n).getD false=zP c n c.length) (.iter c.length (fun k st=>st.1=pe c k∧st.2.1=mo c k∧(∀n,(gz st.2.2.1 n).getD false=zP c n k)∧st.2.2.2=(k:Int)) (by omega) ⟨rfl,rfl,fun n=>rfl,rfl⟩ ?_ ?_) fun s _ hs=>?_
 ·rintro k ⟨p,m,h,v⟩ hk ⟨h1,h2,h3,h4⟩
  dsimp only at h1 h2 h3 h4
  subst h1;subst h2;subst h4
  have hl:=XF c k
  simp only[wW]
  refine .bg (decide_eq_true (by omega)) (.fL Call.z (by omega) (by omega) ?_)
  simp only[Int.toNat_natCast]
  refine .cond (fun h=>?_) fun h=>?_
  ·have h:=of_decide_eq_true h
   refine .ck (eT ⟨?_,?_⟩) (.bK (by omega) (.one ⟨?_,?_,fun n=>?_,by simp⟩))
   ·simp only[List.length_singleton];exact Nat.le_trans (m:=2000) (by omega) (by decide)
   ·simp only[List.length_singleton];omega
   ·show _=pe c (k+1)
    rw[pe,if_pos h]
   ·show _=mo c (k+1)
    rw[mo,if_pos h]
   ·show _=zP c n (k+1)
    rw[zP,decide_eq_false (fun z=>z.1 h),Bool.or_false]
    exact h3 n
  ·have h:=of_decide_eq_false h
   refine .bK (by omega) (.one ⟨?_,?_,fun n=>?_,by simp⟩)
   ·show _=pe c (k+1)
    rw[pe,if_neg h]
   ·show _=mo c (k+1)
    rw[mo,if_neg h]
   ·show _=zP c n (k+1)
    rw[zP]
    show(gz (kX _ _ true) n).getD false=_
    rw[nQ]
    by_cases e:(c.getD k Call.z).res=n
    ·rw[if_pos e,decide_eq_true ⟨h,e⟩,Bool.or_true];rfl
    ·rw[if_neg e,decide_eq_false (fun z=>e z.2),Bool.or_false]
     exact h3 n
 ·rintro⟨p,m,h,v⟩ ⟨h1,h2,h3,h4⟩
  dsimp only at h1 h2 h3 h4
  subst h1;subst h2;subst h4
  simp only[wW]
  exact .aL (decide_eq_false (by omega)) (.one ⟨rfl,rfl,h3⟩)
 ·obtain⟨p,m,h⟩:=s
  obtain⟨h1,h2,h3⟩:=hs
  dsimp only at h1 h2 h3
  subst h1;subst h2
  have g1:=aa6 c c.length
  have g2:=Ov hr c.length (Nat.le_refl _)
  dsimp only
  refine .seq (P:=fun s=>s=um c) (.bK (by omega) (.iter (mo c c.length+1).toNat (fun k st=>st=(mi c c.length k,(k:Int))) (by omega) rfl ?_ ?_)) fun s _ hs=> .one (by rw[hs])
  ·rintro k st hk rfl
   have hl:=Rh c c.length k
   simp only[wX]
   refine .bg (decide_eq_true (by omega)) (.cond (fun h4=>?_) fun h4=>?_)
   ·rw[h3,Bool.not_eq_true']at h4
    refine .ck (eT ⟨?_,?_⟩) (.bK (by omega) (.one ?_))
    ·simp only[List.length_singleton];exact Nat.le_trans (m:=2000) (by omega) (by decide)
    ·simp only[List.length_singleton];omega
    ·show(_,_)=(_,_)
     rw[mi,h4];simp
   ·rw[h3,Bool.not_eq_false']at h4
    refine .bK (by omega) (.one ?_)
    show(_,_)=(_,_)
    rw[mi,h4];simp
  ·rintro st rfl
   simp only[wX]
   exact .aL (decide_eq_false (by omega)) (.one rfl)
def can(c:List Call)(i n:Int):Prop:=∀x,x < c.length→gx (c.getD x Call.z)→(c.getD x Call.z).aY < (c.getD i.toNat Call.z).from_→(c.getD x Call.z).res < n
structure Good(c:List Call):Prop where
 ahB: ∀i j,j < i→i < c.length→gx (c.getD i Call.z)→gx (c.getD j Call.z)→(c.getD i Call.z).res≠(c.getD j Call.z).res
 ord: ∀i j,i < c.length→j < c.length→gx (c.getD i Call.z)→gx (c.getD j Call.z)→(c.getD i Call.z).aY < (c.getD j Call.z).from_→(c.getD i Call.z).res≤(c.getD j Call.z).res
 gap: ∀k,k < (um c).length→k < (pe c c.length).length∧can c ((pe c c.length).getD k 0) ((um c).getD k 0)
theorem uC{c:List Call}{i:Int}: ∀{k:Nat},i∈pe c k↔∃m:Nat,m < k∧i=m∧(c.getD m Call.z).aY= -1
 |0=>⟨fun h=>(nomatch h),fun⟨_,h,_⟩=>absurd h (Nat.not_lt_zero _)⟩
 |k+1=>by
  unfold pe
  by_cases h:(c.getD k Call.z).aY= -1
  ·rw[if_pos h,List.mem_append,uC,List.mem_singleton]
   constructor
   ·rintro(⟨m,h1,h2⟩|rfl)
    ·exact⟨m,by omega,h2⟩
    ·exact⟨k,by omega,rfl,h⟩
   ·rintro⟨m,h1,h2,h3⟩
    rcases Nat.lt_or_ge m k with g|g
    ·exact .inl ⟨m,g,h2,h3⟩
    ·obtain rfl:m=k:=by omega
     exact .inr h2
  ·rw[if_neg h,uC]
   constructor
   ·rintro⟨m,h1,h2⟩
    exact⟨m,by omega,h2⟩
   ·rintro⟨m,h1,h2,h3⟩
    rcases Nat.lt_or_ge m k with g|g
    ·exact⟨m,g,h2,h3⟩
    ·obtain rfl:m=k:=by omega
     exact absurd h3 h
theorem afW{N:Nat}(hN:5000 < N){c:List Call}(BT:c.length≤200){p m:List Int}{i n:Int}(hi:0≤i∧i < c.length):Wp (rV N c p m i n) fun b=>b=true↔can c i n:=by
 unfold rV jb jA
 have hb: ∀x:Call,pK N x c p m i n=some (decide (x.aY≠ -1∧x.aY < (c.getD i.toNat Call.z).from_∧n≤x.res)):=by
  intro x
  refine Wp.eq ?_
  unfold pK
  refine .MU Call.z (fun _=>hi) fun y hy=> .one ?_
  by_cases h:x.aY= -1
  ·simp[h]
  ·rw[hy (by simp[h])]
   simp[h,Bool.and_assoc]
 refine .seq (P:=fun b=>b=true↔¬can c i n) (.seq (P:=fun r=>0≤r↔¬can c i n) (.elim (P:=fun t=>match t with| .inl _=>can c i n| .inr r=>0≤r∧¬can c i n) (.iter c.length (fun k v=>v=(k:Int)∧∀x,x < k→gx (c.getD x Call.z)→(c.getD x Call.z).aY < (c.getD i.toNat Call.z).from_→(c.getD x Call.z).res < n) (by omega) ⟨rfl,fun _ h=>absurd h (Nat.not_lt_zero _)⟩ ?_ ?_) (fun _ _ h=> .one ⟨fun h2=>absurd h2 (by decide),fun h2=>absurd h h2⟩) (fun r _ h=> .one ⟨fun _=>h.2,fun _=>h.1⟩)) fun r _ h=> .one (by rw[decide_eq_true_eq];exact h)) fun b _ h=> .one ?_
 ·rintro k v hk ⟨rfl,hr⟩
  simp only[ja]
  refine .bg (decide_eq_true (by omega)) (.fL Call.z (by omega) (by omega) (.bD (hb _) ?_))
  simp only[Int.toNat_natCast]
  refine .cond (fun h=> .one ⟨by omega,fun h2=>?_⟩) fun h=> .bK (by omega) (.one ⟨by simp,fun x hx h1 h2=>?_⟩)
  ·have h:=of_decide_eq_true h
   have:=h2 k hk h.1 h.2.1
   omega
  ·have h:=of_decide_eq_false h
   rcases Nat.lt_or_ge x k with g|g
   ·exact hr x g h1 h2
   ·obtain rfl:x=k:=by omega
    exact Int.not_le.1 fun h3=>h ⟨h1,h2,h3⟩
 ·rintro v ⟨rfl,hr⟩
  simp only[ja]
  exact .aL (decide_eq_false (by omega)) (.one hr)
 ·cases b with
  |true=>exact⟨fun h2=>(nomatch h2),fun h2=>absurd h2 (h.1 rfl)⟩
  |false=>exact⟨fun _=>Classical.byContradiction fun h2=>(nomatch h.2 h2),fun _=>rfl⟩
theorem mJ{N:Nat}(hN:5000 < N){c:List Call}(BT:c.length≤200)(hr: ∀i,i < c.length→(c.getD i Call.z).res≤1000):Wp (kQ N c (pe c c.length) (um c)) fun r=>(r.1=0↔Good c)∧(r.1=0→r=(0,0,0)):=by
 have hml:(um c).length≤1001:=by
  have:=Rh c c.length (mo c c.length+1).toNat
  have g2:=Ov hr c.length (Nat.le_refl _)
  unfold um;omega
 unfold kQ
 refine .elim (P:=fun t=>match t with| .inl _=>∀i j,j < i→i < c.length→gx (c.getD i Call.z)→gx (c.getD j Call.z)→(c.getD i Call.z).res≠(c.getD j Call.z).res| .inr r=>r.1=2∧¬Good c) (.iter c.length (fun k v=>v=(k:Int)∧∀i j,j < i→i < k→gx (c.getD i Call.z)→gx (c.getD j Call.z)→(c.getD i Call.z).res≠(c.getD j Call.z).res) (by omega) ⟨rfl,fun i j _ h=>absurd h (Nat.not_lt_zero _)⟩ ?_ ?_) (fun _ _ t1=>?_) (fun r _ h=> .one ⟨⟨fun h2=>absurd h2 (by have:=h.1;omega),fun h2=>absurd h2 h.2⟩,fun h2=>absurd h2 (by have:=h.1;omega)⟩)
 ·rintro k v hk ⟨rfl,hi⟩
  simp only[ml]
  refine .elim (P:=fun t=>match t with| .inl _=>∀j,j < k→gx (c.getD k Call.z)→gx (c.getD j Call.z)→(c.getD k Call.z).res≠(c.getD j Call.z).res| .inr r=>r.1=2∧¬Good c) ?_ ?_ ?_ |> .bg (decide_eq_true (by omega))
  ·refine .fL Call.z (by omega) (by omega) (.ck (by simp[pB];omega) ?_)
   simp only[Int.toNat_natCast]
   refine .iter k (fun q v=>v=(q:Int)∧∀j,j < q→gx (c.getD k Call.z)→gx (c.getD j Call.z)→(c.getD k Call.z).res≠(c.getD j Call.z).res) (by omega) ⟨rfl,fun j h=>absurd h (Nat.not_lt_zero _)⟩ ?_ ?_
   ·rintro q v hq ⟨rfl,hj⟩
    have hg:(c.take k).getD q Call.z=c.getD q Call.z:=by
     rw[aW (show q < (c.take k).length by rw[List.length_take];omega),aW (show q < c.length by omega),List.getElem_take]
    simp only[mj,Int.toNat_natCast]
    refine .bg (decide_eq_true (by rw[List.length_take];omega)) (.fL Call.z (by omega) (by rw[List.length_take];omega) ?_)
    simp only[Int.toNat_natCast,hg]
    refine .cond (fun h=> .one ⟨rfl,fun G=>?_⟩) fun h=> .bK (by omega) (.one ⟨by simp,fun j hjq h1 h2 h3=>?_⟩)
    ·simp only[Bool.and_eq_true,Bool.not_eq_true',decide_eq_false_iff_not,decide_eq_true_eq]at h
     exact G.ahB k q hq hk h.1.1 h.1.2 h.2
    ·rcases Nat.lt_or_ge j q with g|g
     ·exact hj j g h1 h2 h3
     ·obtain rfl:j=q:=by omega
      have hh:(!decide ((c.getD k Call.z).aY= -1))=true∧(!decide ((c.getD j Call.z).aY= -1))=true:=by
       unfold gx at h1 h2
       simp only[Bool.not_eq_true',decide_eq_false_iff_not];exact⟨h1,h2⟩
      rw[hh.1,hh.2,h3]at h
      simp at h
   ·rintro v ⟨rfl,hj⟩
    simp only[mj,Int.toNat_natCast]
    exact .aL (decide_eq_false (by rw[List.length_take];omega)) (.one hj)
  ·intro _ _ h
   refine .bK (by omega) (.one ⟨by simp,fun i j h1 h2 h3 h4=>?_⟩)
   rcases Nat.lt_or_ge i k with g|g
   ·exact hi i j h1 g h3 h4
   ·obtain rfl:i=k:=by omega
    exact h j h1 h3 h4
  ·intro r _ h
   exact .one h
 ·rintro v ⟨rfl,hi⟩
  simp only[ml]
  exact .aL (decide_eq_false (by omega)) (.one hi)
 refine .elim (P:=fun t=>match t with| .inl _=>∀i j,i < c.length→j < c.length→gx (c.getD i Call.z)→gx (c.getD j Call.z)→(c.getD i Call.z).aY < (c.getD j Call.z).from_→(c.getD i Call.z).res≤(c.getD j Call.z).res| .inr r=>r.1=6∧¬Good c) (.iter c.length (fun k v=>v=(k:Int)∧∀i j,i < k→j < c.length→gx (c.getD i Call.z)→gx (c.getD j Call.z)→(c.getD i Call.z).aY < (c.getD j Call.z).from_→(c.getD i Call.z).res≤(c.getD j Call.z).res) (by omega) ⟨rfl,fun i j h=>absurd h (Nat.not_lt_zero _)⟩ ?_ ?_) (fun _ _ t2=>?_) (fun r _ h=> .one ⟨⟨fun h2=>absurd h2 (by have:=h.1;omega),fun h2=>absurd h2 h.2⟩,fun h2=>absurd h2 (by have:=h.1;omega)⟩)
 ·rintro k v hk ⟨rfl,hi⟩
  simp only[mq]
  refine .elim (P:=fun t=>match t with| .inl _=>∀j,j < c.length→gx (c.getD k Call.z)→gx (c.getD j Call.z)→(c.getD k Call.z).aY < (c.getD j Call.z).from_→(c.getD k Call.z).res≤(c.getD j Call.z).res| .inr r=>r.1=6∧¬Good c) ?_ ?_ ?_ |> .bg (decide_eq_true (by omega))
  ·refine .fL Call.z (by omega) (by omega) ?_
   simp only[Int.toNat_natCast]
   refine .iter c.length (fun q v=>v=(q:Int)∧∀j,j < q→gx (c.getD k Call.z)→gx (c.getD j Call.z)→(c.getD k Call.z).aY < (c.getD j Call.z).from_→(c.getD k Call.z).res≤(c.getD j Call.z).res) (by omega) ⟨rfl,fun j h=>absurd h (Nat.not_lt_zero _)⟩ ?_ ?_
   ·rintro q v hq ⟨rfl,hj⟩
    simp only[mn]
    refine .bg (decide_eq_true (by omega)) (.fL Call.z (by omega) (by omega) ?_)
    simp only[Int.toNat_natCast]
    refine .cond (fun h=> .one ⟨rfl,fun G=>?_⟩) fun h=> .bK (by omega) (.one ⟨by simp,fun j hjq h1 h2 h3=>?_⟩)
    ·simp only[Bool.and_eq_true,Bool.not_eq_true',decide_eq_false_iff_not,decide_eq_true_eq]at h
     have:=G.ord k q hk hq h.1.1.1 h.1.1.2 h.1.2
     omega
    ·rcases Nat.lt_or_ge j q with g|g
     ·exact hj j g h1 h2 h3
     ·obtain rfl:j=q:=by omega
      have hh:(!decide ((c.getD k Call.z).aY= -1))=true∧(!decide ((c.getD j Call.z).aY= -1))=true:=by
       unfold gx at h1 h2
       simp only[Bool.not_eq_true',decide_eq_false_iff_not];exact⟨h1,h2⟩
      rw[hh.1,hh.2,decide_eq_true h3]at h
      simp only[Bool.true_and,decide_eq_false_iff_not]at h
      omega
   ·rintro v ⟨rfl,hj⟩
    simp only[mn]
    exact .aL (decide_eq_false (by omega)) (.one hj)
  ·intro _ _ h
   refine .bK (by omega) (.one ⟨by simp,fun i j h1 h2 h3 h4=>?_⟩)
   rcases Nat.lt_or_ge i k with g|g
   ·exact hi i j g h2 h3 h4
   ·obtain rfl:i=k:=by omega
    exact h j h2 h3 h4
  ·intro r _ h
   exact .one h
 ·rintro v ⟨rfl,hi⟩
  simp only[mq]
  exact .aL (decide_eq_false (by omega)) (.one hi)
 refine .elim (P:=fun t=>match t with| .inl _=>∀k,k < (um c).length→k < (pe c c.length).length∧can c ((pe c c.length).getD k 0) ((um c).getD k 0)| .inr r=>r.1=8∧¬Good c) (.iter (um c).length (fun q v=>v=(q:Int)∧∀k,k < q→k < (pe c c.length).length∧can c ((pe c c.length).getD k 0) ((um c).getD k 0)) (by omega) ⟨rfl,fun i h=>absurd h (Nat.not_lt_zero _)⟩ ?_ ?_) (fun _ _ t3=> .one ⟨⟨fun _=>⟨t1,t2,t3⟩,fun _=>rfl⟩,fun _=>rfl⟩) (fun r _ h=> .one ⟨⟨fun h2=>absurd h2 (by have:=h.1;omega),fun h2=>absurd h2 h.2⟩,fun h2=>absurd h2 (by have:=h.1;omega)⟩)
 ·rintro q v hq ⟨rfl,hi⟩
  simp only[mr]
  refine .bg (decide_eq_true (by omega)) (.fL 0 (by omega) (by omega) ?_)
  simp only[Int.toNat_natCast]
  refine .seq (P:=fun b=>b=false↔(q < (pe c c.length).length∧can c ((pe c c.length).getD q 0) ((um c).getD q 0))) ?_ fun b _ hb=> .cond (fun h=> .one ⟨rfl,fun G=>?_⟩) fun h=> .bK (by omega) (.one ⟨by simp,fun k hk=>?_⟩)
  ·rcases Nat.lt_or_ge q (pe c c.length).length with g|g
   ·have e:decide (((pe c c.length).length:Int)≤(q:Int))=false:=decide_eq_false (by omega)
    simp only[e]
    refine .MU 0 (fun _=>⟨by omega,by omega⟩) fun y hy=>?_
    rw[hy rfl]
    simp only[Int.toNat_natCast]
    have hm:(pe c c.length).getD q 0∈pe c c.length:=by rw[aW g];exact List.getElem_mem _
    obtain⟨m,m1,m2,m3⟩:=uC.1 hm
    refine .bg rfl (.seq (afW hN BT ⟨by omega,by omega⟩) fun b _ h=> .one ?_)
    cases b with
    |true=>exact⟨fun _=>⟨g,h.1 rfl⟩,fun _=>rfl⟩
    |false=>exact⟨fun z=>(nomatch z),fun z=>(nomatch h.2 z.2)⟩
   ·have e:decide (((pe c c.length).length:Int)≤(q:Int))=true:=decide_eq_true (by omega)
    simp only[e]
    refine .MU 0 (fun h=>(nomatch h)) fun y hy=> .aL rfl (.one ⟨fun z=>(nomatch z),fun z=>absurd z.1 (by omega)⟩)
  ·have:=hb.2 (G.gap q hq)
   rw[h]at this
   cases this
  ·rcases Nat.lt_or_ge k q with g|g
   ·exact hi k g
   ·obtain rfl:k=q:=by omega
    exact hb.1 h
 ·rintro v ⟨rfl,hi⟩
  simp only[mr]
  exact .aL (decide_eq_false (by omega)) (.one hi)
end Tk
namespace Sr
open Hs
end Sr
namespace Tk
open Hs
theorem CE(c:List Call): ∀k,(pe c k).Pairwise (· < ·)
 |0=> .nil
 |k+1=>by
  unfold pe
  split
  ·refine List.pairwise_append.2 ⟨CE c k,List.pairwise_singleton _ _,fun a ha b hb=>?_⟩
   obtain⟨m,h1,rfl,_⟩:=uC.1 ha
   rw[List.mem_singleton.1 hb];omega
  ·exact CE c k
theorem GZ{c:List Call}{L:Nat}{i:Int}: ∀{k:Nat},i∈mi c L k↔∃m:Nat,m < k∧i=m∧zP c m L=false
 |0=>⟨fun h=>(nomatch h),fun⟨_,h,_⟩=>absurd h (Nat.not_lt_zero _)⟩
 |k+1=>by
  unfold mi
  by_cases h:zP c k L=true
  ·rw[if_pos h,GZ]
   constructor
   ·rintro⟨m,h1,h2⟩
    exact⟨m,by omega,h2⟩
   ·rintro⟨m,h1,h2,h3⟩
    rcases Nat.lt_or_ge m k with g|g
    ·exact⟨m,g,h2,h3⟩
    ·obtain rfl:m=k:=by omega
     rw[h]at h3;cases h3
  ·rw[if_neg h,List.mem_append,GZ,List.mem_singleton]
   constructor
   ·rintro(⟨m,h1,h2⟩|rfl)
    ·exact⟨m,by omega,h2⟩
    ·exact⟨k,by omega,rfl,Bool.eq_false_iff.2 h⟩
   ·rintro⟨m,h1,h2,h3⟩
    rcases Nat.lt_or_ge m k with g|g
    ·exact .inl ⟨m,g,h2,h3⟩
    ·obtain rfl:m=k:=by omega
     exact .inr h2
theorem CF(c:List Call)(L:Nat): ∀k,(mi c L k).Pairwise (· < ·)
 |0=> .nil
 |k+1=>by
  unfold mi
  split
  ·exact CF c L k
  ·refine List.pairwise_append.2 ⟨CF c L k,List.pairwise_singleton _ _,fun a ha b hb=>?_⟩
   obtain⟨m,h1,rfl,_⟩:=GZ.1 ha
   rw[List.mem_singleton.1 hb];omega
theorem pig{l m:List Int}(h:l.Nodup)(hs: ∀x∈l,x∈m):l.length≤m.length:=by
 induction l generalizing m with
 |nil=>exact Nat.zero_le _
 |cons a l ih=>
  have ha:=hs a (List.mem_cons_self ..)
  obtain⟨h1,h2⟩:=List.nodup_cons.1 h
  have:=ih (m:=m.erase a) h2 fun x hx=>(List.mem_erase_of_ne (fun e:x=a=>h1 (e▸hx))).2 (hs x (List.mem_cons_of_mem _ hx))
  rw[List.length_erase_of_mem ha]at this
  have:0 < m.length:=List.length_pos_of_mem ha
  simp only[List.length_cons];omega
theorem Nt{f:Int→Int}: ∀{l:List Int},l.Nodup→(∀a∈l,∀b∈l,f a=f b→a=b)→(l.map f).Nodup
 | [],_,_=> .nil
 |a::l,h,hf=>by
  obtain⟨h1,h2⟩:=List.nodup_cons.1 h
  rw[List.map_cons,List.nodup_cons]
  refine⟨fun hm=>?_,Nt h2 fun x hx y hy=>hf x (List.mem_cons_of_mem _ hx) y (List.mem_cons_of_mem _ hy)⟩
  obtain⟨b,hb,e⟩:=List.mem_map.1 hm
  have:=hf b (List.mem_cons_of_mem _ hb) a (List.mem_cons_self ..) e
  exact h1 (this▸hb)
theorem KM{l:List Int}(h:l.Pairwise (· < ·)){i j:Nat}(hij:i≤j)(hj:j < l.length):l.getD i 0≤l.getD j 0:=by
 rcases Nat.lt_or_ge i j with h1|h1
 ·have:=List.pairwise_iff_getElem.1 h i j (by omega) hj h1
  rw[aW (show i < l.length by omega),aW hj];omega
 ·obtain rfl:i=j:=by omega
  exact Int.le_refl _
theorem XG{P M:List Int}(hP:P.Pairwise (· < ·))(hM:M.Pairwise (· < ·))(ok:Int→Int→Prop)(f:Int→Int)
  (h1: ∀m∈M,f m∈P∧ok (f m) m)(h2: ∀a∈M,∀b∈M,f a=f b→a=b)
  (h3: ∀p∈P,∀q∈P,∀m n,p≤q→m≤n→ok q m→ok p n): ∀k,k < M.length→k < P.length∧ok (P.getD k 0) (M.getD k 0):=by
 intro k hk
 have hn: ∀{l:List Int},l.Pairwise (· < ·)→l.Nodup:=fun h=>h.imp fun h e=>absurd h (by omega)
 have: ∃m∈M.take (k+1),f m∉P.take k:=by
  refine Classical.byContradiction fun hc=>?_
  have:=pig (l:=(M.take (k+1)).map f) (m:=P.take k) (Nt (hn (hM.sublist (List.take_sublist _ _))) fun a ha b hb=>h2 a (List.mem_of_mem_take ha) b (List.mem_of_mem_take hb)) fun x hx=>by
   obtain⟨m,hm,rfl⟩:=List.mem_map.1 hx
   exact Classical.byContradiction fun hq=>hc ⟨m,hm,hq⟩
  rw[List.length_map,List.length_take,List.length_take]at this
  omega
 obtain⟨m,hm,hq⟩:=this
 have hmM:=List.mem_of_mem_take hm
 obtain⟨g1,g2⟩:=h1 m hmM
 obtain⟨j,hj,e⟩:=List.getElem_of_mem g1
 have hjk:k≤j:=by
  refine Nat.le_of_not_lt fun h=>hq ?_
  rw[←e]
  exact List.mem_take_iff_getElem.2 ⟨j,by omega,rfl⟩
 obtain⟨i,hi,e2⟩:=List.mem_take_iff_getElem.1 hm
 have hkP:k < P.length:=by omega
 refine⟨hkP,?_⟩
 have e3:P.getD j 0=f m:=by rw[aW hj,e]
 have e4:M.getD i 0=m:=by rw[aW (show i < M.length by omega),e2]
 refine h3 _ (by rw[aW hkP];exact List.getElem_mem _) _ g1 m _ ?_ ?_ g2
 ·rw[←e3];exact KM hP hjk hj
 ·rw[←e4];exact KM hM (by omega) hk
structure Okl(c:List Call):Prop where
 fr: ∀i j,i < j→j < c.length→(c.getD i Call.z).from_ < (c.getD j Call.z).from_
 res: ∀i,i < c.length→0≤(c.getD i Call.z).res∧(c.getD i Call.z).res≤1000
theorem Ri{c:List Call}(W:Okl c){p q m n:Int}(hp:0≤p)(hq:q < c.length)(h:p≤q)(h2:m≤n)(hc:can c q m):can c p n:=by
 intro x hx ha ht
 have hf:(c.getD p.toNat Call.z).from_≤(c.getD q.toNat Call.z).from_:=by
  rcases Nat.lt_or_ge p.toNat q.toNat with h3|h3
  ·have:=W.fr _ _ h3 (by omega);omega
  ·have:p.toNat=q.toNat:=by omega
   rw[this];exact Int.le_refl _
 have:=hc x hx ha (by omega)
 omega
theorem Good.XH{c:List Call}{m:Int}:m∈um c↔0≤m∧m≤mo c c.length∧∀i,i < c.length→gx (c.getD i Call.z)→(c.getD i Call.z).res≠m:=by
 unfold um
 rw[GZ]
 constructor
 ·rintro⟨k,h1,rfl,h2⟩
  refine⟨by omega,by omega,fun i hi ha e=>?_⟩
  rw[Jm.2 ⟨i,hi,ha,e⟩]at h2;cases h2
 ·rintro⟨h1,h2,h3⟩
  refine⟨m.toNat,by omega,by omega,Bool.eq_false_iff.2 fun h=>?_⟩
  obtain⟨i,h4,h5,h6⟩:=Jm.1 h
  exact h3 i h4 h5 (by rw[h6];omega)
theorem afX{N:Nat}{l:List Event}{k:Nat}{c:List Call}{op:List Int}(R:ex N [5] l k c op):(∀i,i < c.length→0≤(c.getD i Call.z).res∧(c.getD i Call.z).res≤1000)∧∀i,i < c.length→gx (c.getD i Call.z)→(c.getD i Call.z).aY < k:=by
 induction R with
 |zero=>exact⟨fun i h=>absurd h (Nat.not_lt_zero _),fun i h=>absurd h (Nat.not_lt_zero _)⟩
 | @succ k out out' op op' R hk S ih=>
  have W:=R.wf
  rcases S.how with⟨_,_,_,_,rfl,_⟩|⟨_,m,_,hm,ht,hr,rfl,_⟩
  ·refine⟨fun i hi=>?_,fun i hi ha=>?_⟩
   ·rw[dL]
    rcases Nat.lt_or_ge i out.length with h|h
    ·rw[if_pos h];exact ih.1 i h
    ·rw[List.length_append,List.length_singleton]at hi
     rw[if_neg (by omega),if_pos (by omega)]
     exact⟨Int.le_refl _,by show(0:Int)≤1000;omega⟩
   ·rw[dL]at ha⊢
    rcases Nat.lt_or_ge i out.length with h|h
    ·rw[if_pos h]at ha⊢;have:=ih.2 i h ha;omega
    ·rw[List.length_append,List.length_singleton]at hi
     rw[if_neg (by omega),if_pos (by omega)]at ha
     exact(ha rfl).elim
  ·have hfit:=(W.one m hm).fit
   have ht0:=(W.one m hm).aj
   have e0:(out.getD m Call.z).aj.toNat=0:=by
    simp only[List.length_singleton]at ht0;omega
   rw[e0]at hfit
   have Gq:(out.getD m Call.z).kind=10:=by
    have h5:yX (out.getD m Call.z).kind=5:=hfit.2
    unfold yX at h5
    by_cases h:(out.getD m Call.z).kind=10
    ·exact h
    ·split at h5<;>(try omega)
   have hres:0≤(l.getD k Event.z).value∧(l.getD k Event.z).value≤1000:=by
    rw[Gq]at hr
    have:some (decide (0≤(l.getD k Event.z).value)&&decide ((l.getD k Event.z).value≤1000))=some true:=hr
    simpa using this
   refine⟨fun i hi=>?_,fun i hi ha=>?_⟩
   ·rw[fv hm]
    split
    ·exact hres
    ·exact ih.1 i (by simpa using hi)
   ·rw[fv hm]at ha⊢
    split
    ·show((k:Int)) < ((k+1:Nat):Int);omega
    ·rw[if_neg (by assumption)]at ha
     have:=ih.2 i (by simpa using hi) ha;omega
theorem okl{N:Nat}{l:List Event}{k:Nat}{c:List Call}{op:List Int}(R:ex N [5] l k c op):Okl c:=⟨fun i j h1 h2=>(R.wf.two i j h1 h2).fr,(afX R).1⟩
theorem Jn{N:Nat}(hN:5000 < N){l:List Event}{c:List Call}{op:List Int}{e:Int}(hl:l.length≤200)(hc:cB N [5] l=some (c,e,0))(R:ex N [5] l l.length c op):Wp (fR N l) fun r=>r.2.2.2.2=0∧(r.1=true↔Good c):=by
 have hlen:=R.wf.len
 have hr:=(okl R).res
 unfold fR
 refine .bD (HU hN hc (by omega) fun i hi=>(hr i hi).2) (.aL rfl (.ck rfl (.seq (mJ (c:=c) hN (by omega) fun i hi=>(hr i hi).2) fun r _ h=> .one ⟨rfl,?_⟩)))
 rw[decide_eq_true_eq];exact h.1
theorem vV{N:Nat}(hN:5000 < N)(l:List Event):Wp (fR N l) fun r=>(r.2.2.2.2≠0∧r.1=false)∨(r.2.2.2.2=0∧∃c op,co N [5]=some 0∧l.length≤200∧ex N [5] l l.length c op∧(r.1=true↔Good c)):=by
 obtain⟨⟨c,e,er⟩,h1,h2⟩:=sG (N:=N) (types:=[5]) (l:=l) (by omega)
 by_cases h0:er=0
 ·subst h0
  obtain⟨ht,_,hl,_,op,R⟩:=h2 rfl
  refine(Jn hN hl h1 R).mono fun r h=> .inr ⟨h.1,c,op,ht,hl,R,h.2⟩
 ·unfold fR
  have hrd:jM N l=some (false,[],[],[],er):=by
   unfold jM
   refine Wp.eq (.bD h1 (.bg ?_ (.one rfl)))
   simp only[Bool.not_eq_true',decide_eq_false_iff_not];exact h0
  refine .bD hrd (.bg ?_ (.one (.inl ⟨h0,rfl⟩)))
  simp only[Bool.not_eq_true',decide_eq_false_iff_not];exact h0
end Tk
end Go.Proofs.YtjdkkabcenohcaaGreatDoor
