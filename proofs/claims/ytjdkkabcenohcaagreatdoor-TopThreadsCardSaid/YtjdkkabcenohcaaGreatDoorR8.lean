import Derived.Test.YtjdkkabcenohcaaGreatDoorR7
import Derived.Test.YtjdkkabcenohcaaGreatDoorR5
set_option linter.unusedVariables false
set_option linter.unusedSimpArgs false
set_option linter.unusedSectionVars false
set_option maxRecDepth 100000
namespace Go.Proofs.YtjdkkabcenohcaaGreatDoor
open Go.RowKit
namespace Th
open Ob Hs Sr
theorem yC{c c':List Call}{q q':Nat→Nat→Bool}(hl:c.length≤c'.length)(hq: ∀i j,i < c.length→j < c.length→q i j=false→q' i j=false): ∀{t:List Step} {w:List Nat},(∀j∈w,j < c.length)→Ac c q w t→(∀s∈t,(c'.getD s.call.toNat Call.z).aY≠ -1→s.res=(c'.getD s.call.toNat Call.z).res)→Ac c' q' w t
 | [],_,_,_,_=>trivial
 |s::t,w,hw,⟨i,h1,h2,h3,h4,h5,h6⟩,hr=>by
  refine⟨i,h1,by omega,h3,fun j hj=>hq i j h2 (hw j hj) (h4 j hj),fun ht=>?_,yC hl hq (fun j hj=>?_) h6 fun s hs=>hr s (.tail _ hs)⟩
  ·have:=hr s (.head _)
   rw[h1,Int.toNat_natCast]at this
   exact this ht
  ·rcases List.mem_append.1 hj with hj|hj
   ·exact hw j hj
   ·rw[List.mem_singleton.1 hj];exact h2
theorem uD{c:List Call}{q:Nat→Nat→Bool}: ∀{t:List Step} {w:List Nat},Ac c q w t→∀s∈t,(0≤s.call∧s.call.toNat < c.length)∧((c.getD s.call.toNat Call.z).aY≠ -1→s.res=(c.getD s.call.toNat Call.z).res)
 | [],_,_,s,hs=>by cases hs
 |a::t,w,⟨i,h1,h2,h3,h4,h5,h6⟩,s,hs=>by
  rcases List.mem_cons.1 hs with rfl|hs
  ·rw[h1,Int.toNat_natCast];exact⟨⟨by omega,h2⟩,h5⟩
  ·exact uD h6 s hs
theorem m8{c c':List Call}{x:Nat}: ∀{t:List Step},(∀s∈t,(c'.getD s.call.toNat Call.z).aj=(c.getD s.call.toNat Call.z).aj∧(c'.getD s.call.toNat Call.z).kind=(c.getD s.call.toNat Call.z).kind∧(c'.getD s.call.toNat Call.z).arg=(c.getD s.call.toNat Call.z).arg)→e7 c' x t=e7 c x t
 | [],_=>rfl
 |s::t,h=>by
  obtain⟨h1,h2,h3⟩:=h s (.head _)
  unfold e7
  rw[h1,h2,h3,m8 fun s hs=>h s (.tail _ hs)]
theorem vv{i:Nat}{t:List Step}:i∈nums t↔∃s∈t,s.call.toNat=i:=by unfold nums;exact List.mem_map
structure G(types:List Int)(m:M)(out:List Call):Prop where
 sl:m.states.length=types.length
 ac:Ac out (fg out) [] m.steps
 st: ∀x,x < types.length→Ob.run (types.getD x 0) (pU (types.getD x 0)) (e7 out x m.steps)=some (m.states.getD x [])
 cm: ∀i,i < out.length→(out.getD i Call.z).aY≠ -1→i∈nums m.steps
 dn: ∀w,w < m.aa.length→(m.who w).pending=true→∀i:Nat,(m.who w).call=i→((m.who w).done=true→(m.who w).failed=false→i∈nums m.steps∧∀s∈m.steps,s.call=(i:Int)→s.res=(m.who w).res)∧(¬((m.who w).done=true∧(m.who w).failed=false)→i∉nums m.steps)
theorem BX{c:List Call}{i j:Nat}(h:(c.getD i Call.z).aY= -1):fg c i j=false:=by
 unfold fg
 exact decide_eq_false fun e=>e.2.2.1 h
theorem tt{N:Nat}{types:List Int}{P0:List (List Ask)}{m:M}{out:List Call}{op:List Int}(hP:iH types P0)(h:H N types P0 m out op){v:Nat}(hv:v < P0.length)(hp:(m.who v).pending=true): ∃i:Nat,(m.who v).call=i∧i < out.length∧(out.getD i Call.z).who=v∧(out.getD i Call.z).aY= -1:=by
 obtain⟨a,r,_,i,h1,h2,h3,_⟩:=h.pe v hv hp
 have h8:=hP.pW
 have:=(h.rn.wf.qk v (by omega)).2.2 i h3
 exact⟨i,h1,h2,this.1,this.2⟩
theorem agb{N:Nat}{types:List Int}{P0:List (List Ask)}{m m':M}{out out':List Call}{op op':List Int}(hP:iH types P0)(h:H N types P0 m out op)(g:G types m out){w:Nat}(hw:w < P0.length)(n:Q9 types m w out op m' out' op'):G types m' out':=by
 have hpl:=h.pl
 have hw':w < m.aa.length:=by omega
 have W:=h.rn.wf
 cases n with
 |same _=>exact g
 |call a r hp hn=>
  have gI: ∀i,i < out.length→(out++[(⟨w,a.aj,a.kind,a.arg,0,m.events.length,-1⟩:Call)]).getD i Call.z=out.getD i Call.z:=fun i hi=>by rw[dL,if_pos hi]
  have hin:=uD g.ac
  refine⟨g.sl,yC (by simp) (fun i j hi hj hq=>?_) (by simp) g.ac fun s hs ht=>?_,fun x hx=>?_,fun i hi ht=>?_,fun v hv hpv i hi=>?_⟩
  ·unfold fg at hq⊢
   rw[gI i hi,gI j hj]
   have hq:=of_decide_eq_false hq
   exact decide_eq_false fun e=>hq ⟨hi,hj,e.2.2⟩
  ·rw[gI _ (hin s hs).1.2]at ht⊢
   exact(hin s hs).2 ht
  ·rw[m8 (c:=out) fun s hs=>by rw[gI _ (hin s hs).1.2];exact⟨rfl,rfl,rfl⟩]
   exact g.st x hx
  ·rcases Nat.lt_or_ge i out.length with h1|h1
   ·rw[gI i h1]at ht
    exact g.cm i h1 ht
   ·have e2:i=out.length:=by simp at hi;omega
    subst e2
    rw[dL,if_neg (by omega),if_pos rfl]at ht
    exact(ht rfl).elim
  ·have cq:(M.who ⟨m.states,m.aa.set w (jc (m.who w) m.calls),m.events++[⟨w,a.aj,a.kind,a.arg⟩],m.steps,m.calls+1⟩ v)=if v=w then jc (m.who w) m.calls else m.who v:=gl hw'
   rw[cq]at hpv hi⊢
   by_cases e:v=w
   ·subst e
    rw[if_pos rfl]at hi⊢
    refine⟨fun e=>(by cases e),fun _ hm=>?_⟩
    obtain⟨s,hs,hs2⟩:=vv.1 hm
    have h1:=(hin s hs).1
    have h2:m.calls=(i:Int):=hi
    have h3:=h.cl
    omega
   ·rw[if_neg e]at hpv hi⊢
    exact g.dn v (by simpa using hv) hpv i hi
 |did a r s res hp hn hd hx=>
  obtain⟨a',r',q1,i,q2,q3,q4,q5,_⟩:=h.pe w hw hn
  rw[hp]at q1
  obtain⟨rfl,rfl⟩:a=a'∧r=r':=by simpa using q1
  have h8:=hP.pW
  have hto:=((W.qk w (by omega)).2.2 i q4).2
  have hni:i∉nums m.steps:=(g.dn w hw' hn i q2).2 fun e=>by rw[hd]at e;cases e.1
  have gk:=(W.one i q3).aj
  rw[q5.1]at gk
  refine⟨by simpa using g.sl,Ac.app.2 ⟨g.ac,i,q2,q3,by simpa using hni,fun j _=>BX hto,fun e=>(e hto).elim,trivial⟩,fun x hx2=>?_,fun j hj ht=>?_,fun v hv hpv j hj=>?_⟩
  ·show Ob.run _ _ (e7 out x (m.steps++[⟨(m.who w).call,res⟩]))=some ((m.states.set a.aj.toNat s).getD x [])
   rw[ES,HJ,g.st x hx2]
   have e1:e7 out x [⟨(m.who w).call,res⟩]=if a.aj.toNat=x then [⟨a.kind,a.arg,res⟩]else []:=by
    unfold e7
    simp only
    rw[q2,Int.toNat_natCast,q5.1,q5.2.1,q5.2.2]
    rfl
   rw[e1]
   have vN:=g.sl
   by_cases e:a.aj.toNat=x
   ·subst e
    rw[if_pos rfl]
    simp only[Option.bind_some,Ob.run,hx,if_true]
    rw[Sr.nR (by omega),if_pos rfl]
   ·rw[if_neg e,Sr.nR (by omega),if_neg (fun e2=>e e2.symm)]
    rfl
  ·have:=g.cm j hj ht
   unfold nums at this⊢
   rw[List.map_append]
   exact List.mem_append_left _ this
  ·have cq:(M.who ⟨m.states.set a.aj.toNat s,m.aa.set w (Ae (m.who w) false res),m.events,m.steps++[⟨(m.who w).call,res⟩],m.calls⟩ v)=if v=w then Ae (m.who w) false res else m.who v:=gl hw'
   rw[cq]at hpv hj⊢
   by_cases e:v=w
   ·subst e
    rw[if_pos rfl]at hj⊢
    have hij:j=i:=by
     have:(m.who v).call=(j:Int):=hj
     omega
    subst hij
    refine⟨fun _ _=>⟨vv.2 ⟨_,List.mem_append_right _ (.head _),by simp only;omega⟩,fun s hs hs2=>?_⟩,fun e=>(e ⟨rfl,rfl⟩).elim⟩
    rcases List.mem_append.1 hs with hs|hs
    ·exact(hni (vv.2 ⟨s,hs,by omega⟩)).elim
    ·rw[List.mem_singleton.1 hs];rfl
   ·rw[if_neg e]at hpv hj⊢
    have hv':v < m.aa.length:=by simpa using hv
    obtain⟨j',g1,g2,g3,g4⟩:=tt hP h (v:=v) (by omega) hpv
    have hjj:j'=j:=by omega
    subst hjj
    have hwi:=((W.qk w (by omega)).2.2 i q4).1
    have hne:j'≠i:=by
     intro e2
     subst e2
     omega
    obtain⟨d1,d2⟩:=g.dn v hv' hpv j' hj
    have hmem:j'∈nums (m.steps++[⟨(m.who w).call,res⟩])↔j'∈nums m.steps:=by
     unfold nums
     rw[List.map_append,List.mem_append]
     simp only[List.map_cons,List.map_nil,List.mem_singleton]
     constructor
     ·rintro(e3|e3)
      ·exact e3
      ·omega
     ·exact .inl
    refine⟨fun e1 e2=>⟨hmem.2 (d1 e1 e2).1,fun s hs hs2=>?_⟩,fun e1 e2=>d2 e1 (hmem.1 e2)⟩
    rcases List.mem_append.1 hs with hs|hs
    ·exact(d1 e1 e2).2 s hs hs2
    ·rw[List.mem_singleton.1 hs]at hs2
     simp only at hs2
     omega
 |fail a r hp hn hd hx=>
  refine⟨g.sl,g.ac,g.st,g.cm,fun v hv hpv j hj=>?_⟩
  have cq:(M.who ⟨m.states,m.aa.set w (Ae (m.who w) true 0),m.events,m.steps,m.calls⟩ v)=if v=w then Ae (m.who w) true 0 else m.who v:=gl hw'
  rw[cq]at hpv hj⊢
  by_cases e:v=w
  ·subst e
   rw[if_pos rfl]at hj⊢
   exact⟨fun _ e=>(by cases e),fun _=>(g.dn v hw' hn j hj).2 fun e=>by rw[hd]at e;cases e.1⟩
  ·rw[if_neg e]at hpv hj⊢
   exact g.dn v (by simpa using hv) hpv j hj
 |gx a r i hp hn hd hf hc hi=>
  obtain⟨i',q2,q3,qw,qt⟩:=tt hP h hw hn
  have hii:i'=i:=by omega
  subst hii
  obtain⟨d1,d2⟩:=(g.dn w hw' hn i' q2).1 hd hf
  have gI: ∀j,(out.set i' (ia (out.getD i' Call.z) (m.who w).res m.events.length)).getD j Call.z=if j=i' then ia (out.getD i' Call.z) (m.who w).res m.events.length else out.getD j Call.z:=fun j=>fv q3
  have hin:=uD g.ac
  refine⟨g.sl,yC (by simp) (fun j k hj hk hq=>?_) (by simp) g.ac fun s hs ht=>?_,fun x hx=>?_,fun j hj ht=>?_,fun v hv hpv j hj=>?_⟩
  ·unfold fg at hq⊢
   have hq:=of_decide_eq_false hq
   refine decide_eq_false fun e=>hq ?_
   obtain⟨_,_,e3,e4⟩:=e
   rw[gI,gI]at e4
   rw[gI]at e3
   have hfr:=(W.one k hk).fr
   by_cases ej:j=i'
   ·rw[if_pos ej]at e4
    exfalso
    by_cases ek:k=i'
    ·subst ek
     rw[if_pos rfl]at e4
     simp only[ia]at e4
     omega
    ·rw[if_neg ek]at e4
     simp only[ia]at e4
     omega
   ·rw[if_neg ej]at e3 e4
    refine⟨hj,hk,e3,?_⟩
    by_cases ek:k=i'
    ·subst ek
     rw[if_pos rfl]at e4
     exact e4
    ·rw[if_neg ek]at e4;exact e4
  ·rw[gI]at ht⊢
   split
   ·rename_i e
    have:=(hin s hs).1
    exact d2 s hs (by omega)
   ·rename_i e
    rw[if_neg e]at ht
    exact(hin s hs).2 ht
  ·rw[m8 (c:=out) fun s hs=>?_]
   ·exact g.st x hx
   ·rw[gI]
    split
    ·rename_i e;rw[e];exact⟨rfl,rfl,rfl⟩
    ·exact⟨rfl,rfl,rfl⟩
  ·rw[gI]at ht
   split at ht
   ·rename_i e;rw[e];exact d1
   ·exact g.cm j (by simpa using hj) ht
  ·have cq:(M.who ⟨m.states,m.aa.set w (BS (m.who w)),m.events++[⟨w,a.aj,0,(m.who w).res⟩],m.steps,m.calls⟩ v)=if v=w then BS (m.who w)else m.who v:=gl hw'
   rw[cq]at hpv hj⊢
   by_cases e:v=w
   ·subst e
    rw[if_pos rfl]at hpv
    cases hpv
   ·rw[if_neg e]at hpv hj⊢
    exact g.dn v (by simpa using hv) hpv j hj
theorem Uk(types:List Int){x:Nat}(hx:x < types.length):(types.map pU).getD x []=pU (types.getD x 0):=by
 simp[List.getD_eq_getElem?_getD,hx]
theorem g0{types:List Int}{P0:List (List Ask)}:G types (m0 types P0) []:=by
 refine⟨by simp[m0],trivial,fun x hx=>?_,fun i hi=>absurd hi (Nat.not_lt_zero _),fun w hw hp=>?_⟩
 ·show some _=some ((types.map pU).getD x [])
  rw[Uk types hx]
 ·have:((m0 types P0).who w).pending=false:=by
   unfold M.who m0
   simp only[List.getD_eq_getElem?_getD,List.getElem?_map]
   cases P0[w]? <;>rfl
  rw[this]at hp
  cases hp
theorem XW{N:Nat}{types:List Int}{P0:List (List Ask)}(hP:iH types P0): ∀{turns:List Int} {m:M} {out:List Call} {op:List Int},(∀t∈turns,0≤t∧t < P0.length)→H N types P0 m out op→G types m out→∃out' op',H N types P0 (runM types m turns) out' op'∧G types (runM types m turns) out'
 | [],m,out,op,_,h,g=>⟨out,op,h,g⟩
 |t::turns,m,out,op,ht,h,g=>by
  obtain⟨w,rfl⟩: ∃w:Nat,t=w:=⟨t.toNat,by have:=ht t (.head _);omega⟩
  have hw:w < P0.length:=by have:=ht (w:Int) (.head _);omega
  obtain⟨amy,op1,n1,h1⟩:=ZL hP h hw
  have e:runM types m ((w:Int)::turns)=runM types (iG types m w) turns:=rfl
  rw[e]
  exact XW (turns:=turns) hP (fun x hx=>ht x (.tail _ hx)) h1 (agb hP h g hw n1)
theorem XX{N:Nat}{types:List Int}{P0:List (List Ask)}{m:M}{out:List Call}{op:List Int}(h:H N types P0 m out op):out.length≤tot P0∧m.events.length≤2 * out.length:=by
 have h1:=h.sum
 have h2:=h.rn.wf.cnt
 have h3:=List.countP_le_length (p:=fun c:Call=>!decide (c.aY= -1)) (l:=out)
 omega
end Th
namespace Th
open Ob Hs Sr
theorem G7{N:Nat}(hN:10000 < N)(hL:jp N=some true)(types:List Int)(P0:List (List Ask))(turns:List Int)(hl: ∀l∈P0,l.length < N∧l.length≤9223372036854775807)(hb: ∀q∈P0,q.length≤10000000000000):sT N types P0 turns=some true:=by
 obtain⟨e,he,h1⟩:=Mj (by omega) (types:=types) hl turns
 refine Wp.eq ?_
 unfold sT
 refine .seq h1 fun r _ hr=> .bD hL ?_
 by_cases pV:r.2.2=0
 case neg=>
  rw[decide_eq_false pV]
  exact .bD (a:=false) rfl (.one rfl)
 rw[decide_eq_true pV]
 have hr:e=0∧iH types P0∧(turns.length≤300∧∀t∈turns,0≤t∧t < P0.length)∧r=((runM types (m0 types P0) turns).events,(runM types (m0 types P0) turns).steps,0):=by
  rcases hr with⟨h,rfl⟩|h|⟨_,_,_,_,_,h,_⟩
  ·exact(h pV).elim
  ·exact h
  ·exact(h pV).elim
 obtain⟨rfl,hP,hT,rfl⟩:=hr
 have ht:=XA (by omega) he hb
 obtain⟨out,op,h,g⟩:=XW hP hT.2 (h0 (N:=N)) g0
 obtain⟨l1,l2⟩:=XX h
 have Ny:co N types=some 0:=by
  obtain⟨_,hty,_⟩:=Hs.uW (types:=types) (by omega:300 < N)
  have:=he
  unfold dw at this
  obtain⟨r,hr,this⟩:=Kb this
  rcases EC this with⟨_,h⟩|⟨hc,_⟩
  ·cases h
  simp only[Bool.or_eq_false_iff,Bool.not_eq_false',decide_eq_true_eq]at hc
  rw[hr,hc.1]
 generalize hX:runM types (m0 types P0) turns=X at *
 have hg:Sr.Gd types out (fg out) (S0 types) [] X.steps:=by
  refine⟨(DZ (fun m hm=>(h.rn.wf.one m hm).aj) (by simp[S0])).2 ⟨g.ac,fun x hx=>⟨X.states.getD x [],?_⟩⟩,fun i hi ht=>by simpa using g.cm i hi ht⟩
  show Ob.run (types.getD x 0) ((types.map pU).getD x []) (e7 out x X.steps)=_
  rw[Uk types hx]
  exact g.st x hx
 have hs:jN N types X.events=some true:=by
  refine Vd.Mu hN Ny (by omega) h.rn (fun _=>⟨_,hg⟩) (fun _=>Vd.adh (by omega)) fun S h1 hS=>?_
  have e1:=Vd.aga h1
  generalize types.getD 0 0=typ at *
  subst e1
  exact Vd.af' (by omega) Ny (by omega) h.rn hg hS
 have h2:decide (200 < (X.events.length:Int))=false:=decide_eq_false (by omega)
 show Wp (bd (cond ((true==true)&&((!true||decide (200 < (X.events.length:Int)))==false)) (jN N types X.events) (some false)) fun fZ=>some (true&&((!true||decide (200 < (X.events.length:Int)))||fZ))) fun r=>r=true
 rw[h2]
 exact .bD (a:=true) hs (.one rfl)
theorem BZ:jp 18446744073709551616=some true:=by kernel_rfl
end Th
end Go.Proofs.YtjdkkabcenohcaaGreatDoor
