import Derived.Test.YtjdkkabcenohcaaGreatDoorP5
import Derived.Test.YtjdkkabcenohcaaGreatDoorV3
set_option linter.unusedVariables false
set_option linter.unusedSimpArgs false
set_option linter.unusedSectionVars false
set_option maxRecDepth 100000
namespace Go.Proofs.YtjdkkabcenohcaaGreatDoor
open Go.RowKit
namespace Sr
open Rl Hs
theorem ahn{N:Nat}{types:List Int}{l:List Event}{c:List Call}(hN:300 < N)(h:cB N types l=some (c,0,0)):co N types=some 0∧l.length≤200∧∃op,ex N types l l.length c op:=by
 obtain⟨r,h1,h2⟩:=sG (types:=types) (l:=l) hN
 rw[h]at h1
 cases h1
 obtain⟨g1,_,g3,_,g5⟩:=h2 rfl
 exact⟨g1,g3,g5⟩
end Sr
namespace Sr
open Rl Hs
def Kr(c:List Call)(i j:Nat):Bool:=decide (i < c.length∧j < c.length∧(c.getD i Call.z).who=(c.getD j Call.z).who∧i < j)
theorem Sy{N:Nat}{c:List Call}(hN:300 < N)(h12:c.length≤12):Wp (wI N c) fun A=>∀i,i < 12→Row (A.getD i 0) (Kr c i):=by
 unfold wI
 refine .seq (P:=fun A=>∀i,i < 12→Row (A.getD i 0) (Kr c i)) (.iter c.length (fun k st=>st.2=(k:Int)∧∀i,i < 12→Row (st.1.getD i 0) fun j=>decide (i < k)&&Kr c i j) (by omega) ⟨rfl,fun i _=>Row.zero.dZ fun j=>by simp⟩ ?_ ?_) fun A _ hA=> .one hA
 ·rintro k ⟨A,v⟩ hk ⟨hv,hA⟩
  simp only at hv hA
  subst hv
  simp only[vc]
  refine .bg (decide_eq_true (by omega)) ?_
  refine .seq (P:=fun A'=>∀i,i < 12→Row (A'.getD i 0) fun j=>decide (i < k+1)&&Kr c i j) (.bd (.ixV hk ?_)) fun A' _ OL=> .bK (by omega) (.one ⟨by simp,OL⟩)
  refine PK (by omega) h12 (by omega) hA (fun j h=>(of_decide_eq_true h).2.1) (fun B j hj=>?_) (fun B=>?_)
  ·simp only[u_]
   refine Wp.eq (.bg (decide_eq_true (by omega)) (.ix hj ?_))
   have e:((decide (c[k].who=c[j].who))&&(decide ((k:Int) < (j:Int))))=Kr c k j:=by
    unfold Kr
    rw[aW hk,aW hj,Bool.eq_iff_iff]
    simp only[Bool.and_eq_true,decide_eq_true_eq]
    exact⟨fun h=>⟨hk,hj,h.1,by omega⟩,fun h=>⟨h.2.2.1,by omega⟩⟩
   rw[e]
   exact .cond (fun hb=> .S3 (by omega) (.S3 (by omega) (.bK (by omega) (.one (by rw[hb];rfl))))) (fun hb=> .bK (by omega) (.one (by rw[hb];rfl)))
  ·simp only[u_]
   exact Wp.eq (.aL (by simp) (.one rfl))
 ·rintro⟨B,v⟩ ⟨hv,hB⟩
  simp only at hv hB
  subst hv
  simp only[vc]
  refine .aL (by simp) (.one fun i hi=>(hB i hi).dZ fun j=>?_)
  by_cases h:i < c.length
  ·simp[h]
  ·have:Kr c i j=false:=decide_eq_false (fun hh=>h hh.1)
   simp[this]
theorem Zb{N:Nat}(hN:300 < N){types:List Int}{l:List Event}{c:List Call}{e:Int}(hc:gW N types l=some (c,e)):Wp (ET N types l) fun r=>r.2.2=e∧(e≠0→r.1= []∧r.2.1=false)∧(e=0→Hc N types l c→Kp types c (Kr c) r.1 r.2.1):=by
 obtain⟨r,h1,h2⟩:=Cs hN types l
 rw[hc]at h1
 cases h1
 unfold ET
 refine .bD hc ?_
 rcases h2 with⟨h0,H,_⟩|⟨h0,_⟩
 ·simp only at h0 H
  subst h0
  have hf:=H.pW
  refine .aL rfl (.seq (Sy hN (c:=c) (by omega)) fun a _ ha=> .seq (C4 hN (Ol H.his (by omega) ha)) fun r _ hr=> .one ⟨rfl,fun h=>(h rfl).elim,fun _ _=>hr⟩)
 ·exact .bg (by simpa using h0) (.one ⟨rfl,fun _=>⟨rfl,rfl⟩,fun h=>(h0 h).elim⟩)
def Ks(s:List Int×Int×Int)(v:Event):List Int×Int×Int:=if v.kind=0 then(s.1,s.2.1 - 1,if s.2.1 - 1=0 then s.2.2+1 else s.2.2)else(s.1++[s.2.2],s.2.1+1,s.2.2)
def t_(l:List Event):Nat→List Int×Int×Int
 |0=>([],0,0)
 |k+1=>Ks (t_ l k) (l.getD k Event.z)
theorem ae2(l:List Event): ∀k:Nat,(t_ l k).1.length≤k∧ -(k:Int)≤(t_ l k).2.1∧(t_ l k).2.1≤k∧0≤(t_ l k).2.2∧(t_ l k).2.2≤k
 |0=>by simp[t_]
 |k+1=>by
  obtain⟨h1,h2,h3,h4,h5⟩:=ae2 l k
  simp only[t_,Ks]
  split
  ·refine⟨by simp only;omega,by simp only;omega,by simp only;omega,?_,?_⟩
   ·simp only;split<;>omega
   ·simp only;split<;>omega
  ·refine⟨by simp only[List.length_append,List.length_singleton];omega,by simp only;omega,by simp only;omega,by simp only;omega,by simp only;omega⟩
theorem Xf{N:Nat}(hN:300 < N){l:List Event}(hl:l.length≤200):Av N l=some (t_ l l.length).1:=by
 refine Wp.eq ?_
 unfold Av
 refine .seq (P:=fun E=>E=(t_ l l.length).1) (.iter l.length (fun k st=>st=((t_ l k).1,(t_ l k).2.1,(t_ l k).2.2,(k:Int))) (by omega) rfl ?_ ?_) fun E _ hE=> .one (by rw[hE])
 ·rintro k st hk rfl
  obtain⟨h1,h2,h3,h4,h5⟩:=ae2 l k
  simp only[zD]
  refine .bg (decide_eq_true (by omega)) (.ix hk (.cond (fun hv=> .bK (by omega) (.cond (fun h0=> .bK (by omega) (.bK (by omega) (.one ?_))) fun h0=> .bK (by omega) (.one ?_))) fun hv=> .ck (eT ⟨by unfold maxLen;simp only[List.length_append,List.length_singleton];omega,by simp only[List.length_append,List.length_singleton];omega⟩) (.bK (by omega) (.bK (by omega) (.one ?_)))))
  ·simp only[t_,Ks,aW hk]
   rw[if_pos (of_decide_eq_true hv),if_pos (of_decide_eq_true h0)]
   simp
  ·simp only[t_,Ks,aW hk]
   rw[if_pos (of_decide_eq_true hv),if_neg (of_decide_eq_false h0)]
   simp
  ·simp only[t_,Ks,aW hk]
   rw[if_neg (of_decide_eq_false hv)]
   simp
 ·rintro st rfl
  simp only[zD]
  exact .aL (decide_eq_false (by omega)) (.one rfl)
structure Ep(k:Nat)(out:List Call)(s:List Int×Int×Int):Prop where
 len:s.1.length=out.length
 cnt:s.2.1=2 * (out.length:Int) - k
 top: ∀m,m < out.length→s.1.getD m 0≤s.2.2
 qk: ∀m,m < out.length→s.1.getD m 0 < s.2.2→(out.getD m Call.z).aY≠ -1
 mono: ∀i j,i < j→j < out.length→s.1.getD i 0≤s.1.getD j 0
 lt: ∀i j,i < out.length→j < out.length→s.1.getD i 0 < s.1.getD j 0→(out.getD i Call.z).aY≠ -1∧(out.getD i Call.z).aY < (out.getD j Call.z).from_
theorem aho{N:Nat}{types:List Int}{l:List Event}{k:Nat}{out:List Call}{op:List Int}(R:ex N types l k out op):Ep k out (t_ l k):=by
 induction R with
 |zero=>exact⟨rfl,rfl,fun m h=>absurd h (Nat.not_lt_zero _),fun m h=>absurd h (Nat.not_lt_zero _),fun i j _ h=>absurd h (Nat.not_lt_zero _),fun i j _ h=>absurd h (Nat.not_lt_zero _)⟩
 | @succ k out out' op op' R hk S ih=>
  have W:=R.wf
  have W':=(ex.succ R hk S).wf
  obtain⟨i1,i2,i3,i4,i5,i6⟩:=ih
  simp only[t_]
  generalize t_ l k=s at i1 i2 i3 i4 i5 i6⊢
  obtain⟨E,o,e⟩:=s
  simp only at i1 i2 i3 i4 i5 i6
  rcases S.how with⟨hv,_,_,_,rfl,_⟩|⟨hv,m0,hm,hml,_,_,rfl,_⟩
  ·have es:Ks (E,o,e) (l.getD k Event.z)=(E++[e],o+1,e):=by unfold Ks;rw[if_neg hv]
   rw[es]
   have hlen:(out++[sF (l.getD k Event.z) k]).length=out.length+1:=by simp
   have gE: ∀m,m < out.length→(E++[e]).getD m 0=E.getD m 0:=fun m h=>by rw[dL,if_pos (by omega)]
   have gL:(E++[e]).getD out.length 0=e:=by rw[dL,if_neg (by omega),if_pos (by omega)]
   have cE: ∀m,m < out.length→(out++[sF (l.getD k Event.z) k]).getD m Call.z=out.getD m Call.z:=fun m h=>by rw[dL,if_pos h]
   have cL:(out++[sF (l.getD k Event.z) k]).getD out.length Call.z=sF (l.getD k Event.z) k:=by rw[dL,if_neg (by omega),if_pos rfl]
   have low: ∀m,m < out.length→E.getD m 0 < e→(out.getD m Call.z).aY≠ -1∧(out.getD m Call.z).aY < k:=fun m hm h=>by
    have h1:=i4 m hm h
    rcases(W.one m hm).tO with⟨h2,_⟩|⟨_,h2⟩
    ·exact(h1 h2).elim
    ·exact⟨h1,h2⟩
   refine⟨by simp[i1],by simp only[hlen];omega,fun m hm=>?_,fun m hm=>?_,fun i j hij hj=>?_,fun i j hi hj=>?_⟩
   ·rw[hlen]at hm
    simp only
    rcases Nat.lt_or_ge m out.length with h|h
    ·rw[gE m h];exact i3 m h
    ·obtain rfl:m=out.length:=by omega
     rw[gL];omega
   ·rw[hlen]at hm
    simp only
    rcases Nat.lt_or_ge m out.length with h|h
    ·rw[gE m h,cE m h];exact i4 m h
    ·obtain rfl:m=out.length:=by omega
     rw[gL];omega
   ·rw[hlen]at hj
    simp only
    rw[gE i (by omega)]
    rcases Nat.lt_or_ge j out.length with h|h
    ·rw[gE j h];exact i5 i j hij h
    ·obtain rfl:j=out.length:=by omega
     rw[gL];exact i3 i hij
   ·rw[hlen]at hi hj
    simp only
    rcases Nat.lt_or_ge i out.length with h|h
    ·rw[gE i h,cE i h]
     rcases Nat.lt_or_ge j out.length with h2|h2
     ·rw[gE j h2,cE j h2];exact i6 i j h h2
     ·obtain rfl:j=out.length:=by omega
      rw[gL,cL]
      exact low i h
    ·obtain rfl:i=out.length:=by omega
     rw[gL]
     intro h3
     exfalso
     rcases Nat.lt_or_ge j out.length with h2|h2
     ·rw[gE j h2]at h3
      have:=i3 j h2
      omega
     ·obtain rfl:j=out.length:=by omega
      rw[gL]at h3
      omega
  ·have hlen:(out.set m0 (ia (out.getD m0 Call.z) (l.getD k Event.z).value k)).length=out.length:=by rw[List.length_set]
   have h_:(out.getD m0 Call.z).aY= -1:=by
    obtain⟨h1,h2⟩:=S.who
    exact((W.qk (l.getD k Event.z).who.toNat (by omega)).2.2 m0 hm).2
   have es:Ks (E,o,e) (l.getD k Event.z)=(E,o - 1,if o - 1=0 then e+1 else e):=by unfold Ks;rw[if_pos hv]
   rw[es]
   have hE0: ¬E.getD m0 0 < e:=fun h=>i4 m0 hml h h_
   have aiI:o - 1=0→∀m,m < out.length→((out.set m0 (ia (out.getD m0 Call.z) (l.getD k Event.z).value k)).getD m Call.z).aY≠ -1:=fun h0 m hm2=>by
    have hc:=W'.cnt
    rw[hlen]at hc
    have xp:(out.set m0 (ia (out.getD m0 Call.z) (l.getD k Event.z).value k)).countP (fun c=>!decide (c.aY= -1))=(out.set m0 (ia (out.getD m0 Call.z) (l.getD k Event.z).value k)).length:=by rw[hlen];omega
    have:=List.countP_eq_length.1 xp
    have hm3:m < (out.set m0 (ia (out.getD m0 Call.z) (l.getD k Event.z).value k)).length:=by rw[hlen];exact hm2
    have h4:=this _ (List.getElem_mem hm3)
    rw[aW hm3]
    simpa using h4
   refine⟨by simp only[hlen];exact i1,by simp only[hlen];omega,fun m hm=>?_,fun m hm=>?_,fun i j hij hj=>?_,fun i j hi hj=>?_⟩
   ·rw[hlen]at hm
    have:=i3 m hm
    simp only
    split<;>omega
   ·rw[hlen]at hm
    simp only
    intro h
    by_cases h0:o - 1=0
    ·exact aiI h0 m hm
    ·rw[if_neg h0]at h
     rw[fv hml]
     by_cases em:m=m0
     ·subst em;exact(hE0 h).elim
     ·rw[if_neg em];exact i4 m hm h
   ·rw[hlen]at hj
    exact i5 i j hij hj
   ·rw[hlen]at hi hj
    simp only
    intro h
    rw[fv hml,fv hml]
    have ei:i≠m0:=fun e1=>by
     subst e1
     have:=i3 j hj
     omega
    rw[if_neg ei]
    have h6:=i6 i j hi hj h
    by_cases ej:j=m0
    ·subst ej;rw[if_pos rfl];exact h6
    ·rw[if_neg ej];exact h6
def Nk(E:List Int)(i j:Nat):Bool:=decide (i < E.length∧j < E.length∧E.getD i 0 < E.getD j 0)
theorem Zc{N:Nat}(hN:300 < N){types:List Int}{l:List Event}{c:List Call}{e:Int}(hc:gW N types l=some (c,e)):Wp (Ct N types l) fun r=>r.2.2=e∧(e≠0→r.1= []∧r.2.1=false)∧(e=0→Hc N types l c→Kp types c (Nk (t_ l l.length).1) r.1 r.2.1):=by
 obtain⟨r,h1,h2⟩:=Cs hN types l
 rw[hc]at h1
 cases h1
 unfold Ct
 refine .bD hc ?_
 rcases h2 with⟨h0,H,Xg⟩|⟨h0,_⟩
 ·simp only at h0 H Xg
  subst h0
  have hf:=H.pW
  obtain⟨t1,t2,op,R⟩:=ahn (by omega) Xg
  have he:=(aho R).len
  refine .aL rfl (.bD (Xf hN t2) ?_)
  generalize (t_ l l.length).1=E at he⊢
  refine .seq (P:=fun A=>∀i,i < 12→Row (A.getD i 0) (Nk E i)) (.iter E.length (fun k st=>st.2=(k:Int)∧∀i,i < 12→Row (st.1.getD i 0) fun j=>decide (i < k)&&Nk E i j) (by omega) ⟨rfl,fun i _=>Row.zero.dZ fun j=>by simp⟩ ?_ ?_) fun A _ hA=> .seq (C4 hN (Ol H.his (by omega) hA)) fun r _ hr=> .one ⟨rfl,fun h=>(h rfl).elim,fun _ _=>hr⟩
  ·rintro k ⟨A,v⟩ hk ⟨hv,hA⟩
   simp only at hv hA
   subst hv
   simp only[zG]
   refine .bg (decide_eq_true (by omega)) ?_
   refine .seq (P:=fun A'=>∀i,i < 12→Row (A'.getD i 0) fun j=>decide (i < k+1)&&Nk E i j) ?_ fun A' _ OL=> .bK (by omega) (.one ⟨by simp,OL⟩)
   refine PK (by omega) (by omega) (by omega) hA (fun j h=>(of_decide_eq_true h).2.1) (fun B j hj=>?_) (fun B=>?_)
   ·simp only[zF]
    refine Wp.eq (.bg (decide_eq_true (by omega)) (.ix hk (.ix hj ?_)))
    have e:decide (E[k] < E[j])=Nk E k j:=by
     unfold Nk
     rw[aW hk,aW hj,decide_eq_decide]
     exact⟨fun h=>⟨hk,hj,h⟩,fun h=>h.2.2⟩
    rw[e]
    exact .cond (fun hb=> .S3 (by omega) (.S3 (by omega) (.bK (by omega) (.one (by rw[hb];rfl))))) (fun hb=> .bK (by omega) (.one (by rw[hb];rfl)))
   ·simp only[zF]
    exact Wp.eq (.aL (by simp) (.one rfl))
  ·rintro⟨B,v⟩ ⟨hv,hB⟩
   simp only at hv hB
   subst hv
   simp only[zG]
   refine .aL (by simp) (.one fun i hi=>(hB i hi).dZ fun j=>?_)
   by_cases h:i < E.length
   ·simp[h]
   ·have:Nk E i j=false:=decide_eq_false (fun hh=>h hh.1)
    simp[this]
 ·exact .bg (by simpa using h0) (.one ⟨rfl,fun _=>⟨rfl,rfl⟩,fun h=>(h0 h).elim⟩)
theorem Gd.mono{types:List Int}{c:List Call}{q q':Nat→Nat→Bool}(h: ∀i j,q' i j=true→q i j=true){S:List (List Int)}{w:List Nat}{t:List Step}(g:Gd types c q S w t):Gd types c q' S w t:=by
 refine⟨?_,g.2⟩
 have key: ∀(t:List Step) (S:List (List Int)) (w:List Nat),Pl types c q S w t→Pl types c q' S w t:=by
  intro t
  induction t with
  |nil=>exact fun _ _ _=>trivial
  |cons s t ih=>
   rintro S w ⟨i,n,h1,h2,h3,h4,h5,h6,h7⟩
   refine⟨i,n,h1,h2,h3,fun j hj=>?_,h5,h6,ih _ _ h7⟩
   cases hb:q' i j with
   |false=>rfl
   |true=>rw[←h4 j hj];exact(h i j hb).symm
 exact key t S w g.1
theorem Kp.iff{types:List Int}{c:List Call}{q:Nat→Nat→Bool}{x:List Step}{b:Bool}(F:Kp types c q x b):b=true↔∃u,Gd types c q (S0 types) [] u:=by
 rcases F with⟨h,g,_⟩|⟨h,_,g⟩
 ·exact⟨fun _=>⟨x,g⟩,fun _=>h⟩
 ·exact⟨fun e=>(by rw[h]at e;cases e),fun⟨u,gu⟩=>(g u gu).elim⟩
end Sr
end Go.Proofs.YtjdkkabcenohcaaGreatDoor
