/- Parts of a history; orders of parts are joined. -/
import Derived.Test.YtjdkkabcenohcaaGreatDoorP6
import Derived.Test.YtjdkkabcenohcaaGreatDoorP9
set_option linter.unusedVariables false
set_option linter.unusedSimpArgs false
set_option linter.unusedSectionVars false
set_option maxRecDepth 100000
namespace Go.Proofs.YtjdkkabcenohcaaGreatDoor
open Go.RowKit
namespace Sr
open Rl Hs
theorem X5{N:Nat}{types:List Int}{l:List Event}{c:List Call}(H:Hc N types l c)(hN:300 < N): ∃rel,Cx types c rel (cO c):=by
 have hf:=H.BH
 obtain⟨a,_,ha⟩:=F8 hN (c:=c) (by omega)
 exact⟨_,Ef (n:=a.1) H.O8 (by omega) ha.2.2⟩
theorem DI{N:Nat}{types:List Int}{l:List Event}{c:List Call}(h:bk N types l=some (c,0,0))(hl:c.length≤9):dm N types l=some (c,0):=by
 unfold dm
 rw[Wn h]
 exact(yv rfl).trans (yv (decide_eq_false (by simp only;omega)))
theorem Ps{N:Nat}(hN:300 < N){types:List Int}{l:List Event}{c:List Call}(h:dm N types l=some (c,0)):Hc N types l c:=by
 obtain⟨r,h1,h2⟩:=pX hN types l
 rw[h]at h1
 cases h1
 rcases h2 with⟨_,H,_⟩|⟨h,_⟩
 ·exact H
 ·exact(h rfl).elim
theorem vU{N:Nat}{types:List Int}{l:List Event}{k:Nat}{c:List Call}{op:List Int}(R:cn N types l k c op){m:Nat}(hm:m < c.length):Ob.eJ (types.getD (c.getD m Call.z).aB.toNat 0) (c.getD m Call.z).kind (c.getD m Call.z).arg:=by
 have O:=R.wf.one m hm
 have a1:=(pY R m hm).1
 rw[Ob.zq]at a1
 refine⟨O.fit.1,O.fit.2,fun h=>?_,fun h=>?_⟩
 ·rw[if_pos h]at a1
  simpa using a1
 ·rw[if_neg h]at a1
  have:1≤(c.getD m Call.z).arg∧(c.getD m Call.z).arg≤1000:=by simpa using a1
  exact this
end Sr
namespace Hs
structure One(pos:List Nat)(a b:Call):Prop where
 who:b.who=a.who
 aB:b.aB=a.aB
 kind:b.kind=a.kind
 arg:b.arg=a.arg
 res:b.res=a.res
 fr:0≤b.from_∧b.from_.toNat < pos.length∧a.from_=(pos.getD b.from_.toNat 0:Nat)
 tO:(a.au= -1∧b.au= -1)∨(0≤b.au∧b.au.toNat < pos.length∧a.au=(pos.getD b.au.toNat 0:Nat))
theorem jv{α:Type}{l m:List α}{d:α}{i:Nat}(h:i < l.length):(l++m).getD i d=l.getD i d:=by
 simp only[List.getD_eq_getElem?_getD,List.getElem?_append_left h]
theorem One.more{pos:List Nat}{a b:Call}(h:One pos a b)(k:Nat):One (pos++[k]) a b:=by
 obtain⟨h1,h2,h3,h4,h5,h6,h7⟩:=h
 refine⟨h1,h2,h3,h4,h5,⟨h6.1,by rw[List.length_append];omega,by rw[jv h6.2.1];exact h6.2.2⟩,?_⟩
 rcases h7 with h7|⟨h7,h8,h9⟩
 ·exact .inl h7
 ·exact .inr ⟨h7,by rw[List.length_append];omega,by rw[jv h8];exact h9⟩
def gC(g:Int→Int→Int→Bool)(c:Call):Bool:=g c.aB c.kind c.arg
structure jB(N:Nat)(types:List Int)(g:Int→Int→Int→Bool)(p:List Event)(k:Nat)(out out':List Call)(op op':List Int)(idx pos:List Nat):Prop where
 run:cn N types p p.length out' op'
 aab:pos.length=p.length
 GC:pos.Pairwise (· < ·)
 Vp: ∀x∈pos,x < k
 AA:idx.length=out'.length
 AB:idx.Pairwise (· < ·)
 ww: ∀x∈idx,x < out.length
 zC: ∀i,i < out.length→(i∈idx↔gC g (out.getD i Call.z)=true)
 cnt:out'.length=out.countP (gC g)
 one: ∀j,j < out'.length→One pos (out.getD (idx.getD j 0) Call.z) (out'.getD j Call.z)
 who: ∀w,w < 8→(op.getD w 0≤0→op'.getD w 0=0)∧∀m:Nat,op.getD w 0=m+1→(gC g (out.getD m Call.z)=false∧op'.getD w 0=0)∨∃m':Nat,m' < out'.length∧idx.getD m' 0=m∧op'.getD w 0=m'+1
theorem jB.zero(N:Nat)(types:List Int)(g:Int→Int→Int→Bool):jB N types g [] 0 [] [] [] [] [] []:=
 ⟨.zero,rfl,.nil,fun _ h=>(nomatch h),rfl,.nil,fun _ h=>(nomatch h),fun _ h=>absurd h (Nat.not_lt_zero _),rfl,fun _ h=>absurd h (Nat.not_lt_zero _),fun w _=>⟨fun _=>rfl,fun m h=>absurd h (by show ¬(0:Int)=m+1;omega)⟩⟩
theorem cn.app{N:Nat}{types:List Int}{l:List Event}{v:Event}: ∀{k:Nat} {out:List Call} {op:List Int},cn N types l k out op→cn N types (l++[v]) k out op:=by
 intro k out op R
 induction R with
 |zero=>exact .zero
 | @succ k out out' op op' R hk S ih=>
  refine .succ ih (by rw[List.length_append];omega) ?_
  rw[cy,if_pos hk];exact S
theorem cn.snoc{N:Nat}{types:List Int}{l:List Event}{v:Event}{out out':List Call}{op op':List Int}(R:cn N types l l.length out op)(S:tq N types out op (l.length:Int) v out' op'):cn N types (l++[v]) (l++[v]).length out' op':=by
 rw[List.length_append,List.length_singleton]
 refine .succ (cn.app R) (by rw[List.length_append,List.length_singleton];omega) ?_
 rw[cy,if_neg (Nat.lt_irrefl _),if_pos rfl];exact S
def X6(g:Int→Int→Int→Bool)(out:List Call)(op:List Int)(v:Event)(b:Bool):Prop:=
 (v.kind≠0→b=g v.aB v.kind v.value)∧(v.kind=0→∀m:Nat,op.getD v.who.toNat 0=m+1→b=gC g (out.getD m Call.z))
theorem xO{g:Int→Int→Int→Bool}{out:List Call}{m i:Nat}{r z:Int}(hm:m < out.length):gC g ((out.set m (ru (out.getD m Call.z) r z)).getD i Call.z)=gC g (out.getD i Call.z):=by
 rw[d7 hm]
 split
 ·rename_i e;subst e;rfl
 ·rfl
theorem Io{g:Int→Int→Int→Bool}{out:List Call}{m:Nat}{r z:Int}(hm:m < out.length):(out.set m (ru (out.getD m Call.z) r z)).countP (gC g)=out.countP (gC g):=by
 have e:(out.set m (ru (out.getD m Call.z) r z)).map (gC g)=out.map (gC g):=by
  apply List.ext_getElem?
  intro j
  rw[List.getElem?_map,List.getElem?_map,List.getElem?_set]
  split
  ·rename_i e
   subst e
   rw[List.getElem?_eq_getElem hm,aG hm]
   rfl
  ·rfl
 have h: ∀l:List Call,l.countP (gC g)=(l.map (gC g)).countP id:=fun l=>by rw[List.countP_map];rfl
 rw[h,h,e]
theorem nG{idx:List Nat}{i:Nat}(h:i < idx.length):idx.getD i 0∈idx:=by
 rw[List.getD_eq_getElem?_getD,List.getElem?_eq_getElem h];exact List.getElem_mem h
theorem CX{idx:List Nat}(h:idx.Pairwise (· < ·)){i j:Nat}(hi:i < idx.length)(hj:j < idx.length)(e:idx.getD i 0=idx.getD j 0):i=j:=by
 rw[List.getD_eq_getElem?_getD,List.getD_eq_getElem?_getD,List.getElem?_eq_getElem hi,List.getElem?_eq_getElem hj]at e
 rw[List.pairwise_iff_getElem]at h
 rcases Nat.lt_trichotomy i j with x|x|x
 ·have:=h i j hi hj x;simp only[Option.getD_some]at e;omega
 ·exact x
 ·have:=h j i hj hi x;simp only[Option.getD_some]at e;omega
theorem RG{idx:List Nat}(h:idx.Pairwise (· < ·)){i j:Nat}(hi:i < idx.length)(hj:j < idx.length):idx.getD i 0 < idx.getD j 0↔i < j:=by
 rw[List.getD_eq_getElem?_getD,List.getD_eq_getElem?_getD,List.getElem?_eq_getElem hi,List.getElem?_eq_getElem hj]
 rw[List.pairwise_iff_getElem]at h
 simp only[Option.getD_some]
 refine⟨fun e=>?_,h i j hi hj⟩
 rcases Nat.lt_trichotomy i j with x|x|x
 ·exact x
 ·subst x;omega
 ·have:=h j i hj hi x;omega
theorem AC{idx:List Nat}{k:Nat}(h:idx.Pairwise (· < ·))(hl: ∀x∈idx,x < k):(idx++[k]).Pairwise (· < ·):=
 List.pairwise_append.2 ⟨h,List.pairwise_singleton _ _,fun x hx y hy=>by rw[List.mem_singleton.1 hy];exact hl x hx⟩
theorem jB.step{N:Nat}{types:List Int}{g:Int→Int→Int→Bool}{p:List Event}{k:Nat}{out out' CY:List Call}{op op' Ip:List Int}{idx pos:List Nat}{v:Event}{l:List Event}(P:jB N types g p k out out' op op' idx pos)(W:WF types l k out op)(S:tq N types out op (k:Int) v CY Ip){b:Bool}(hb:X6 g out op v b):
  (b=true→∃o2 p2 i2 s2,jB N types g (p++[v]) (k+1) CY o2 Ip p2 i2 s2)∧(b=false→jB N types g p (k+1) CY out' Ip op' idx pos):=by
 have W':=P.run.wf
 have hw:=S.who
 have xf:v.who.toNat < 8:=by omega
 have hlt: ∀w,w < 8→∀m:Nat,op.getD w 0=m+1→m < out.length:=fun w h m e=>by have:=(W.qA w h).2.1;omega
 have hpl:=P.aab
 have hil:=P.AA
 have JP: ∀x∈pos,x < k+1:=fun x hx=>by have:=P.Vp x hx;omega
 rcases S.how with⟨hk,hf,ha,hn,rfl,rfl⟩|⟨hk,m,hm,hml,ht,hr,rfl,rfl⟩
 ·have B1:=hb.1 hk
  have h0:=(P.who v.who.toNat xf).1 hn
  have hop: ∀w,w < 8→(eN 8 0 op v.who ((out.length:Int)+1)).getD w 0=if w=v.who.toNat then(out.length:Int)+1 else op.getD w 0:=fun w h=>iy h
  have tp: ∀w,w < 8→(eN 8 0 op' v.who ((out'.length:Int)+1)).getD w 0=if w=v.who.toNat then(out'.length:Int)+1 else op'.getD w 0:=fun w h=>iy h
  have hidx: ∀j,j < out'.length→(out++[nk v (k:Int)]).getD (idx.getD j 0) Call.z=out.getD (idx.getD j 0) Call.z:=fun j hj=>jv (P.ww _ (nG (by omega)))
  refine⟨fun hv=>?_,fun hv=>?_⟩
  ·refine⟨out'++[nk v (p.length:Int)],eN 8 0 op' v.who ((out'.length:Int)+1),idx++[out.length],pos++[k],cn.snoc P.run ⟨hw,S.aB,.inl ⟨hk,hf,ha,by omega,rfl,rfl⟩⟩,by simp[hpl],AC P.GC P.Vp,fun x hx=>?_,by simp[hil],AC P.AB P.ww,fun x hx=>?_,fun i hi=>?_,?_,fun j hj=>?_,fun w h=>?_⟩
   ·rcases List.mem_append.1 hx with h|h
    ·exact JP x h
    ·rw[List.mem_singleton.1 h];omega
   ·rw[List.length_append,List.length_singleton]
    rcases List.mem_append.1 hx with h|h
    ·have:=P.ww x h;omega
    ·rw[List.mem_singleton.1 h];omega
   ·rw[List.mem_append,List.mem_singleton,cy]
    rw[List.length_append,List.length_singleton]at hi
    rcases Nat.lt_or_ge i out.length with h|h
    ·rw[if_pos h,←P.zC i h]
     exact⟨fun e=>e.elim id fun e=>by omega,.inl⟩
    ·obtain rfl:i=out.length:=by omega
     rw[if_neg (Nat.lt_irrefl _),if_pos rfl]
     exact⟨fun _=>by rw[←hv,B1];rfl,fun _=> .inr rfl⟩
   ·have:gC g (nk v (k:Int))=true:=by rw[←hv,B1];rfl
    rw[List.length_append,List.length_singleton,P.cnt,List.countP_append,List.countP_singleton,if_pos this]
   ·rw[List.length_append,List.length_singleton]at hj
    rcases Nat.lt_or_ge j out'.length with h|h
    ·rw[jv (l:=idx) (by omega),hidx j h,jv h]
     exact(P.one j h).more k
    ·obtain rfl:j=out'.length:=by omega
     have e1:(idx++[out.length]).getD out'.length 0=out.length:=by rw[←hil,cy,if_neg (Nat.lt_irrefl _),if_pos rfl]
     have e2:(out++[nk v (k:Int)]).getD out.length Call.z=nk v (k:Int):=by rw[cy,if_neg (Nat.lt_irrefl _),if_pos rfl]
     have e3:(out'++[nk v (p.length:Int)]).getD out'.length Call.z=nk v (p.length:Int):=by rw[cy,if_neg (Nat.lt_irrefl _),if_pos rfl]
     rw[e1,e2,e3]
     refine⟨rfl,rfl,rfl,rfl,rfl,⟨Int.natCast_nonneg _,?_,?_⟩,.inl ⟨rfl,rfl⟩⟩
     ·show((p.length:Int)).toNat < _
      rw[List.length_append,List.length_singleton,Int.toNat_natCast,hpl];omega
     ·show(k:Int)=((pos++[k]).getD ((p.length:Int)).toNat 0:Nat)
      rw[Int.toNat_natCast,←hpl,cy,if_neg (Nat.lt_irrefl _),if_pos rfl]
   ·rw[hop w h,tp w h]
    by_cases e:w=v.who.toNat
    ·rw[if_pos e,if_pos e]
     refine⟨fun h=>by omega,fun m hm=> .inr ⟨out'.length,by simp,?_,rfl⟩⟩
     obtain rfl:m=out.length:=by omega
     rw[←hil,cy,if_neg (Nat.lt_irrefl _),if_pos rfl]
    ·rw[if_neg e,if_neg e]
     refine⟨(P.who w h).1,fun m hm=>?_⟩
     rw[jv (hlt w h m hm)]
     rcases(P.who w h).2 m hm with a2|⟨m',a3,a4,a5⟩
     ·exact .inl a2
     ·exact .inr ⟨m',by rw[List.length_append];omega,by rw[jv (by omega)];exact a4,a5⟩
  ·refine⟨P.run,hpl,P.GC,JP,hil,P.AB,fun x hx=>by have:=P.ww x hx;rw[List.length_append];omega,fun i hi=>?_,?_,fun j hj=>by rw[hidx j hj];exact P.one j hj,fun w h=>?_⟩
   ·rw[cy]
    rw[List.length_append,List.length_singleton]at hi
    rcases Nat.lt_or_ge i out.length with h|h
    ·rw[if_pos h,←P.zC i h]
    ·obtain rfl:i=out.length:=by omega
     rw[if_neg (Nat.lt_irrefl _),if_pos rfl]
     refine⟨fun e=>absurd (P.ww _ e) (Nat.lt_irrefl _),fun e=>?_⟩
     have e:g v.aB v.kind v.value=true:=e
     rw[←B1,hv]at e;cases e
   ·have:gC g (nk v (k:Int))=false:=by rw[←hv,B1];rfl
    rw[P.cnt,List.countP_append,List.countP_singleton,if_neg (by rw[this];decide),Nat.add_zero]
   ·rw[hop w h]
    by_cases e:w=v.who.toNat
    ·rw[if_pos e]
     refine⟨fun h=>by omega,fun m hm=>?_⟩
     obtain rfl:m=out.length:=by omega
     rw[cy,if_neg (Nat.lt_irrefl _),if_pos rfl]
     exact .inl ⟨by show g v.aB v.kind v.value=false;rw[←B1,hv],by rw[e];exact h0⟩
    ·rw[if_neg e]
     refine⟨(P.who w h).1,fun m hm=>?_⟩
     rw[jv (hlt w h m hm)]
     exact(P.who w h).2 m hm
 ·have B1:=hb.2 hk m hm
  have b2:=(P.who v.who.toNat xf).2 m hm
  have hop: ∀w,w < 8→(eN 8 0 op v.who 0).getD w 0=if w=v.who.toNat then 0 else op.getD w 0:=fun w h=>iy h
  have tp: ∀w,w < 8→(eN 8 0 op' v.who 0).getD w 0=if w=v.who.toNat then 0 else op'.getD w 0:=fun w h=>iy h
  refine⟨fun hv=>?_,fun hv=>?_⟩
  ·rcases b2 with⟨b2,_⟩|⟨m',b3,b4,b5⟩
   ·rw[B1,b2]at hv;cases hv
   have O:=P.one m' b3
   rw[b4]at O
   refine⟨out'.set m' (ru (out'.getD m' Call.z) v.value (p.length:Int)),eN 8 0 op' v.who 0,idx,pos++[k],cn.snoc P.run ⟨hw,S.aB,.inr ⟨hk,m',b5,b3,by rw[O.aB];exact ht,by rw[O.kind];exact hr,rfl,rfl⟩⟩,by simp[hpl],AC P.GC P.Vp,fun x hx=>?_,by rw[List.length_set];exact hil,P.AB,fun x hx=>by rw[List.length_set];exact P.ww x hx,fun i hi=>?_,by rw[List.length_set,Io hml];exact P.cnt,fun j hj=>?_,fun w h=>?_⟩
   ·rcases List.mem_append.1 hx with h|h
    ·exact JP x h
    ·rw[List.mem_singleton.1 h];omega
   ·rw[List.length_set]at hi
    rw[xO hml];exact P.zC i hi
   ·rw[List.length_set]at hj
    rw[d7 hml,d7 b3]
    by_cases e:j=m'
    ·subst e
     rw[if_pos b4,if_pos rfl]
     have M:=O.more k
     refine⟨M.who,M.aB,M.kind,M.arg,rfl,M.fr,.inr ⟨Int.natCast_nonneg _,?_,?_⟩⟩
     ·show((p.length:Int)).toNat < _
      rw[List.length_append,List.length_singleton,Int.toNat_natCast,hpl];omega
     ·show(k:Int)=((pos++[k]).getD ((p.length:Int)).toNat 0:Nat)
      rw[Int.toNat_natCast,←hpl,cy,if_neg (Nat.lt_irrefl _),if_pos rfl]
    ·rw[if_neg e,if_neg (fun z=>e (CX P.AB (by omega) (by omega) (z.trans b4.symm)))]
     exact(P.one j hj).more k
   ·rw[hop w h,tp w h]
    by_cases e:w=v.who.toNat
    ·rw[if_pos e,if_pos e]
     exact⟨fun _=>rfl,fun m hm=>by omega⟩
    ·rw[if_neg e,if_neg e]
     refine⟨(P.who w h).1,fun q hq=>?_⟩
     rw[xO hml]
     rcases(P.who w h).2 q hq with a2|⟨q',a3,a4,a5⟩
     ·exact .inl a2
     ·exact .inr ⟨q',by rw[List.length_set];exact a3,a4,a5⟩
  ·have h0:op'.getD v.who.toNat 0=0:=by
    rcases b2 with⟨_,b2⟩|⟨m',b3,b4,_⟩
    ·exact b2
    ·have:=(P.zC m hml).1 (by rw[←b4];exact nG (by omega))
     rw[B1,this]at hv;cases hv
   have hnm: ∀j,j < out'.length→idx.getD j 0≠m:=fun j hj e=>by
    have:=(P.zC m hml).1 (by rw[←e];exact nG (by omega))
    rw[B1,this]at hv;cases hv
   refine⟨P.run,hpl,P.GC,JP,hil,P.AB,fun x hx=>by rw[List.length_set];exact P.ww x hx,fun i hi=>?_,by rw[Io hml];exact P.cnt,fun j hj=>?_,fun w h=>?_⟩
   ·rw[List.length_set]at hi
    rw[xO hml];exact P.zC i hi
   ·rw[d7 hml,if_neg (hnm j hj)]
    exact P.one j hj
   ·rw[hop w h]
    by_cases e:w=v.who.toNat
    ·rw[if_pos e]
     exact⟨fun _=>by rw[e];exact h0,fun m hm=>by omega⟩
    ·rw[if_neg e]
     refine⟨(P.who w h).1,fun q hq=>?_⟩
     rw[xO hml]
     exact(P.who w h).2 q hq
theorem jB.X7{N:Nat}{types:List Int}{g:Int→Int→Int→Bool}{p:List Event}{k:Nat}{out out':List Call}{op op':List Int}{idx pos:List Nat}(P:jB N types g p k out out' op op' idx pos){i j:Nat}(hi:i < out'.length)(hj:j < out'.length):cO out' i j=cO out (idx.getD i 0) (idx.getD j 0):=by
 have hil:=P.AA
 have a1:=P.ww _ (nG (idx:=idx) (i:=i) (by omega))
 have a2:=P.ww _ (nG (idx:=idx) (i:=j) (by omega))
 have O1:=P.one i hi
 have O2:=P.one j hj
 unfold cO
 refine decide_eq_decide.2 ?_
 obtain⟨f1,f2,f3⟩:=O2.fr
 rcases O1.tO with⟨h1,h2⟩|⟨h1,h2,h3⟩
 ·rw[h1,h2];simp
 ·have:=RG P.GC h2 f2
  constructor
  ·rintro⟨_,_,_,h4⟩
   have:=this.2 (by omega)
   exact⟨a1,a2,by omega,by omega⟩
  ·rintro⟨_,_,_,h4⟩
   have:=this.1 (by omega)
   exact⟨hi,hj,by omega,by omega⟩
end Hs
namespace Sr
open Rl Hs
structure nU(c:List Call)(s:Step):Prop where
 bR:0≤s.call∧s.call < c.length
 res:(c.getD s.call.toNat Call.z).au≠ -1→s.res=(c.getD s.call.toNat Call.z).res
def wx(q:Nat→Nat→Bool)(a b:Step):Prop:=a.call≠b.call∧q b.call.toNat a.call.toNat=false
theorem JQ{c:List Call}{q:Nat→Nat→Bool}: ∀{t:List Step} {w:List Nat},Ac c q w t↔(∀s∈t,nU c s∧s.call.toNat∉w∧∀j∈w,q s.call.toNat j=false)∧t.Pairwise (wx q)
 | [],w=>by simp[Ac]
 |s::t,w=>by
  constructor
  ·rintro⟨i,h1,h2,h3,h4,h5,h6⟩
   obtain⟨g1,g2⟩:=JQ.1 h6
   have e:s.call.toNat=i:=by omega
   refine⟨fun x hx=>?_,List.pairwise_cons.2 ⟨fun x hx=>?_,g2⟩⟩
   ·rcases List.mem_cons.1 hx with rfl|hx
    ·exact⟨⟨by omega,by rw[e];exact h5⟩,by rw[e];exact h3,by rw[e];exact h4⟩
    ·obtain⟨a1,a2,a3⟩:=g1 x hx
     exact⟨a1,fun h=>a2 (List.mem_append.2 (.inl h)),fun j hj=>a3 j (List.mem_append.2 (.inl hj))⟩
   ·obtain⟨a1,a2,a3⟩:=g1 x hx
    refine⟨fun h=>a2 (by rw[←h,e];simp),?_⟩
    rw[e];exact a3 i (by simp)
  ·rintro⟨g1,g2⟩
   obtain⟨g2,g3⟩:=List.pairwise_cons.1 g2
   obtain⟨a1,a2,a3⟩:=g1 s (.head _)
   have:=a1.bR
   refine⟨s.call.toNat,by omega,by omega,a2,a3,a1.res,JQ.2 ⟨fun x hx=>?_,g3⟩⟩
   obtain⟨b1,b2,b3⟩:=g1 x (.tail _ hx)
   have b4:=g2 x hx
   have:=b1.bR
   refine⟨b1,fun h=>?_,fun j hj=>?_⟩
   ·rcases List.mem_append.1 h with h|h
    ·exact b2 h
    ·have:=List.mem_singleton.1 h;exact b4.1 (by omega)
   ·rcases List.mem_append.1 hj with h|h
    ·exact b3 j h
    ·rw[List.mem_singleton.1 h];exact b4.2
theorem Pu{c:List Call}{q:Nat→Nat→Bool}{t:List Step}:Ac c q [] t↔(∀s∈t,nU c s)∧t.Pairwise (wx q):=by
 rw[JQ]
 exact⟨fun⟨h1,h2⟩=>⟨fun s hs=>(h1 s hs).1,h2⟩,fun⟨h1,h2⟩=>⟨fun s hs=>⟨h1 s hs,(nomatch ·),fun j hj=>(nomatch hj)⟩,h2⟩⟩
def pts(c:List Call):Int→List Step→List (Int×Step)
 |_,[]=>[]
 |m,s::t=>(max m (c.getD s.call.toNat Call.z).from_,s)::pts c (max m (c.getD s.call.toNat Call.z).from_) t
theorem uM(c:List Call): ∀(m:Int) (t:List Step),(pts c m t).map (·.2)=t
 |_,[]=>rfl
 |m,s::t=>by simp only[pts,List.map_cons,uM c _ t]
theorem GD(c:List Call): ∀(m:Int) (t:List Step),∀p∈pts c m t,m≤p.1∧(c.getD p.2.call.toNat Call.z).from_≤p.1
 |_,[],p,h=>nomatch h
 |m,s::t,p,h=>by
  rcases List.mem_cons.1 h with rfl|h
  ·exact⟨by simp only;omega,by simp only;omega⟩
  ·have:=GD c _ t p h
   exact⟨by omega,this.2⟩
theorem Iq(c:List Call): ∀(m:Int) (t:List Step),(pts c m t).Pairwise fun a b=>a.1≤b.1
 |_,[]=> .nil
 |m,s::t=>List.pairwise_cons.2 ⟨fun p h=>(GD c _ t p h).1,Iq c _ t⟩
theorem LG{c:List Call}(hft: ∀i,i < c.length→(c.getD i Call.z).au≠ -1→(c.getD i Call.z).from_≤(c.getD i Call.z).au): ∀(m:Int) (t:List Step),(∀s∈t,nU c s)→t.Pairwise (wx (cO c))→(∀s∈t,(c.getD s.call.toNat Call.z).au≠ -1→m≤(c.getD s.call.toNat Call.z).au)→
  ∀p∈pts c m t,(c.getD p.2.call.toNat Call.z).au≠ -1→p.1≤(c.getD p.2.call.toNat Call.z).au
 |_,[],_,_,_,p,h,_=>nomatch h
 |m,s::t,hi,hp,hm,p,h,ha=>by
  have h1:=(hi s (.head _)).bR
  rcases List.mem_cons.1 h with rfl|h
  ·have ha:(c.getD s.call.toNat Call.z).au≠ -1:=ha
   have:=hm s (.head _) ha
   have:=hft _ (by omega) ha
   show max m (c.getD s.call.toNat Call.z).from_≤(c.getD s.call.toNat Call.z).au
   omega
  ·obtain⟨g1,g2⟩:=List.pairwise_cons.1 hp
   refine LG hft _ t (fun x hx=>hi x (.tail _ hx)) g2 (fun x hx X8=>?_) p h ha
   have:=hm x (.tail _ hx) X8
   have h2:=(hi x (.tail _ hx)).bR
   have h3:=(g1 x hx).2
   unfold cO at h3
   have h3:=of_decide_eq_false h3
   have: ¬(c.getD x.call.toNat Call.z).au < (c.getD s.call.toNat Call.z).from_:=fun e=>h3 ⟨by omega,by omega,X8,e⟩
   omega
theorem filter_none{α:Type}{p:α→Bool}{l:List α}(h: ∀x∈l,p x=false):l.filter p= []:=by
 rw[List.filter_eq_nil_iff]
 exact fun x hx=>by rw[h x hx];decide
theorem RH{κ:Type}[DecidableEq κ]{c:List Call}(hft: ∀i,i < c.length→0≤(c.getD i Call.z).from_∧((c.getD i Call.z).au≠ -1→(c.getD i Call.z).from_≤(c.getD i Call.z).au))(cls:Int→κ)(ks:List κ)(hk:ks.Nodup)(ts:κ→List Step)
  (h1: ∀k∈ks,∀s∈ts k,cls s.call=k∧nU c s)(h2: ∀k∈ks,(ts k).Pairwise (wx (cO c))):
  ∃t:List Step,(∀s∈t,cls s.call∈ks∧s∈ts (cls s.call))∧(∀k∈ks,t.filter (fun s=>decide (cls s.call=k))=ts k)∧t.Pairwise (wx (cO c)):=by
 obtain⟨L,hL⟩: ∃L,L=ks.flatMap fun k=>pts c 0 (ts k):=⟨_,rfl⟩
 obtain⟨le,hle⟩: ∃le:Int×Step→Int×Step→Bool,le=fun a b=>decide (a.1≤b.1):=⟨_,rfl⟩
 have tr: ∀a b d,le a b=true→le b d=true→le a d=true:=by
  intro a b d;rw[hle];simp only[decide_eq_true_eq];omega
 have tot: ∀a b,(le a b||le b a)=true:=by
  intro a b;rw[hle];simp only[Bool.or_eq_true,decide_eq_true_eq];omega
 have hmem: ∀p∈L.mergeSort le,cls p.2.call∈ks∧p∈pts c 0 (ts (cls p.2.call)):=by
  intro p hp
  rw[List.mem_mergeSort,hL]at hp
  obtain⟨k,jT,hk2⟩:=List.mem_flatMap.1 hp
  have:p.2∈ts k:=by
   rw[←uM c 0 (ts k)];exact List.mem_map_of_mem hk2
  have e:=(h1 k jT _ this).1
  rw[e];exact⟨jT,hk2⟩
 have hin: ∀k,∀p∈pts c 0 (ts k),p.2∈ts k:=fun k p hp=>by
  rw[←uM c 0 (ts k)];exact List.mem_map_of_mem hp
 have Vq: ∀k∈ks,(L.mergeSort le).filter (fun p=>decide (cls p.2.call=k))=pts c 0 (ts k):=by
  intro k jT
  obtain⟨a,b,rfl⟩:=List.append_of_mem jT
  have nd:=List.nodup_append.1 hk
  have Pv:(pts c 0 (ts k)).filter (fun p=>decide (cls p.2.call=k))=pts c 0 (ts k):=List.filter_eq_self.2 fun p hp=>decide_eq_true (h1 k jT _ (hin k p hp)).1
  have uV: ∀m:List κ,(∀x∈m,x∈a++k::b∧x≠k)→(m.flatMap fun k=>pts c 0 (ts k)).filter (fun p=>decide (cls p.2.call=k))= []:=by
   intro m hm
   refine filter_none fun p hp=>?_
   obtain⟨x,hx1,hx2⟩:=List.mem_flatMap.1 hp
   refine decide_eq_false fun e=>(hm x hx1).2 ?_
   rw[←e,(h1 x (hm x hx1).1 _ (hin x p hx2)).1]
  have hLf:L.filter (fun p=>decide (cls p.2.call=k))=pts c 0 (ts k):=by
   rw[hL,List.flatMap_append,List.flatMap_cons,List.filter_append,List.filter_append,Pv,uV a,uV b,List.nil_append,List.append_nil]
   ·intro x hx
    refine⟨by simp[hx],fun e=>?_⟩
    subst e
    exact(List.nodup_cons.1 nd.2.1).1 hx
   ·intro x hx
    refine⟨by simp[hx],fun e=>?_⟩
    subst e
    exact nd.2.2 x hx x (.head _) rfl
  have hsub:(pts c 0 (ts k)).Sublist (L.mergeSort le):=by
   refine List.sublist_mergeSort tr tot ?_ ?_
   ·have:=Iq c 0 (ts k)
    refine this.imp fun {a b} h=>?_
    rw[hle];exact decide_eq_true h
   ·rw[hL,List.flatMap_append,List.flatMap_cons]
    exact(List.sublist_append_left _ _).trans (List.sublist_append_right _ _)
  have X9:=hsub.filter (fun p=>decide (cls p.2.call=k))
  rw[Pv]at X9
  refine(X9.eq_of_length ?_).symm
  have:=((List.mergeSort_perm L le).filter (fun p=>decide (cls p.2.call=k))).length_eq
  rw[this,hLf]
 refine⟨(L.mergeSort le).map (·.2),fun s hs=>?_,fun k jT=>?_,?_⟩
 ·obtain⟨p,hp,rfl⟩:=List.mem_map.1 hs
  obtain⟨g1,g2⟩:=hmem p hp
  exact⟨g1,hin _ p g2⟩
 ·rw[List.filter_map,←uM c 0 (ts k),←Vq k jT]
  rfl
 ·rw[List.pairwise_map]
  have ps:=List.pairwise_mergeSort tr tot L
  rw[List.pairwise_iff_forall_sublist]at ps⊢
  intro a b hab
  have hle1:a.1≤b.1:=by
   have:=ps hab
   rw[hle]at this;exact of_decide_eq_true this
  obtain⟨a1,a2⟩:=hmem a (hab.subset (by simp))
  obtain⟨b1,b2⟩:=hmem b (hab.subset (by simp))
  have ia:=(h1 _ a1 _ (hin _ _ a2)).2
  have ib:=(h1 _ b1 _ (hin _ _ b2)).2
  by_cases e:cls a.2.call=cls b.2.call
  ·have hs:=hab.filter (fun p=>decide (cls p.2.call=cls b.2.call))
   rw[Vq _ b1,List.filter_eq_self.2 (by simp[e])]at hs
   have:=hs.map (·.2)
   rw[uM]at this
   have hp:=h2 _ b1
   rw[List.pairwise_iff_forall_sublist]at hp
   exact hp this
  ·refine⟨fun z=>e (by rw[z]),?_⟩
   unfold cO
   refine decide_eq_false ?_
   rintro⟨c1,c2,c3,c4⟩
   have t1:=LG (fun i hi=>(hft i hi).2) 0 (ts (cls b.2.call)) (fun s hs=>(h1 _ b1 s hs).2) (h2 _ b1) (fun s hs aac=>by
    have:=(h1 _ b1 s hs).2.bR
    have:=hft s.call.toNat (by omega)
    have:=this.2 aac
    omega) b b2 c3
   have t2:=(GD c 0 (ts (cls a.2.call)) a a2).2
   omega
end Sr
namespace Sr
open Rl Hs
def D(c:List Call)(s:Step):Do:=⟨(c.getD s.call.toNat Call.z).kind,(c.getD s.call.toNat Call.z).arg,s.res⟩
def wy(idx:List Nat)(s:Step):Step:=⟨((idx.getD s.call.toNat 0:Nat):Int),s.res⟩
def xP(idx:List Nat)(s:Step):Step:=⟨((idx.idxOf s.call.toNat:Nat):Int),s.res⟩
theorem yW{pos:List Nat}{a b:Call}(O:One pos a b):a.au≠ -1↔b.au≠ -1:=by
 rcases O.tO with⟨h1,h2⟩|⟨h1,h2,h3⟩
 ·rw[h1,h2]
 ·constructor<;>intro _<;>omega
theorem GE{idx:List Nat}{i:Nat}(h:i∈idx):idx.idxOf i < idx.length∧idx.getD (idx.idxOf i) 0=i:=by
 have hlt:=List.idxOf_lt_length_of_mem h
 exact⟨hlt,by rw[aG hlt];exact List.getElem_idxOf hlt⟩
variable {N:Nat} {types:List Int} {g:Int→Int→Int→Bool} {p:List Event} {k:Nat} {out out':List Call} {op op':List Int} {idx pos:List Nat}
theorem Pw(P:jB N types g p k out out' op op' idx pos){s:Step}(h:nU out' s):nU out (wy idx s)∧gC g (out.getD (wy idx s).call.toNat Call.z)=true∧D out (wy idx s)=D out' s:=by
 have hr:=h.bR
 have hj:s.call.toNat < out'.length:=by omega
 have O:=P.one _ hj
 have hil:=P.AA
 have hm:=nG (idx:=idx) (i:=s.call.toNat) (by omega)
 have hlt:=P.ww _ hm
 have e:(wy idx s).call.toNat=idx.getD s.call.toNat 0:=Int.toNat_natCast _
 refine⟨⟨⟨Int.natCast_nonneg _,by show((idx.getD s.call.toNat 0:Nat):Int) < _;omega⟩,fun h2=>?_⟩,?_,?_⟩
 ·rw[e]at h2⊢
  show s.res=_
  rw[h.res ((yW O).1 h2),O.res]
 ·rw[e];exact(P.zC _ hlt).1 hm
 ·unfold D;rw[e,O.kind,O.arg];rfl
theorem En(P:jB N types g p k out out' op op' idx pos){s:Step}(h:nU out s)(hg:gC g (out.getD s.call.toNat Call.z)=true):nU out' (xP idx s)∧wy idx (xP idx s)=s∧D out' (xP idx s)=D out s:=by
 have hr:=h.bR
 obtain⟨h1,h2⟩:=GE ((P.zC s.call.toNat (by omega)).2 hg)
 have hil:=P.AA
 have O:=P.one (idx.idxOf s.call.toNat) (by omega)
 rw[h2]at O
 have e:(xP idx s).call.toNat=idx.idxOf s.call.toNat:=Int.toNat_natCast _
 refine⟨⟨⟨Int.natCast_nonneg _,by show((idx.idxOf s.call.toNat:Nat):Int) < _;omega⟩,fun h3=>?_⟩,?_,?_⟩
 ·rw[e]at h3⊢
  show s.res=_
  rw[h.res ((yW O).2 h3),O.res]
 ·obtain⟨x,y⟩:=s
  unfold wy
  rw[e,h2]
  simp only at hr⊢
  rw[Int.toNat_of_nonneg hr.1]
  rfl
 ·unfold D;rw[e,O.kind,O.arg];rfl
theorem WT(P:jB N types g p k out out' op op' idx pos){t:List Step}(hi: ∀s∈t,nU out' s)(hp:t.Pairwise (wx (cO out'))):(t.map (wy idx)).Pairwise (wx (cO out)):=by
 rw[List.pairwise_map]
 refine hp.imp_of_mem fun {a b} ha hb h=>?_
 have ra:=(hi a ha).bR
 have rb:=(hi b hb).bR
 have hil:=P.AA
 refine⟨fun e=>h.1 ?_,?_⟩
 ·have e:((idx.getD a.call.toNat 0:Nat):Int)=((idx.getD b.call.toNat 0:Nat):Int):=e
  have:=CX P.AB (i:=a.call.toNat) (j:=b.call.toNat) (by omega) (by omega) (by omega)
  omega
 ·show cO out ((idx.getD b.call.toNat 0:Nat):Int).toNat ((idx.getD a.call.toNat 0:Nat):Int).toNat=false
  rw[Int.toNat_natCast,Int.toNat_natCast,←P.X7 (by omega) (by omega)]
  exact h.2
theorem WU(P:jB N types g p k out out' op op' idx pos){t:List Step}(hi: ∀s∈t,nU out s∧gC g (out.getD s.call.toNat Call.z)=true)(hp:t.Pairwise (wx (cO out))):(t.map (xP idx)).Pairwise (wx (cO out')):=by
 rw[List.pairwise_map]
 refine hp.imp_of_mem fun {a b} ha hb h=>?_
 obtain⟨a1,a2,_⟩:=En P (hi a ha).1 (hi a ha).2
 obtain⟨b1,b2,_⟩:=En P (hi b hb).1 (hi b hb).2
 have ra:=a1.bR
 have rb:=b1.bR
 have ea:((idx.getD (xP idx a).call.toNat 0:Nat):Int)=a.call:=congrArg (·.call) a2
 have eb:((idx.getD (xP idx b).call.toNat 0:Nat):Int)=b.call:=congrArg (·.call) b2
 refine⟨fun e=>h.1 ?_,?_⟩
 ·rw[←ea,←eb,e]
 ·rw[P.X7 (by omega) (by omega)]
  have h2:=h.2
  rw[←ea,←eb,Int.toNat_natCast,Int.toNat_natCast]at h2
  exact h2
theorem WV(P:jB N types g p k out out' op op' idx pos){t:List Step}(h:Cm out' (nums t)): ∀i,i < out.length→gC g (out.getD i Call.z)=true→(out.getD i Call.z).au≠ -1→i∈nums (t.map (wy idx)):=by
 intro i hi hg ha
 obtain⟨h1,h2⟩:=GE ((P.zC i hi).2 hg)
 have hil:=P.AA
 have O:=P.one (idx.idxOf i) (by omega)
 rw[h2]at O
 have:=h (idx.idxOf i) (by omega) ((yW O).1 ha)
 obtain⟨s,hs,e⟩:=List.mem_map.1 this
 exact List.mem_map.2 ⟨wy idx s,List.mem_map_of_mem hs,by show((idx.getD s.call.toNat 0:Nat):Int).toNat=i;rw[Int.toNat_natCast,e,h2]⟩
theorem WW(P:jB N types g p k out out' op op' idx pos){t:List Step}(h: ∀i,i < out.length→gC g (out.getD i Call.z)=true→(out.getD i Call.z).au≠ -1→i∈nums t):Cm out' (nums (t.map (xP idx))):=by
 intro j hj ha
 have hil:=P.AA
 have O:=P.one j hj
 have hm:=nG (idx:=idx) (i:=j) (by omega)
 have:=h (idx.getD j 0) (P.ww _ hm) ((P.zC _ (P.ww _ hm)).1 hm) ((yW O).2 ha)
 obtain⟨s,hs,e⟩:=List.mem_map.1 this
 refine List.mem_map.2 ⟨xP idx s,List.mem_map_of_mem hs,?_⟩
 show((idx.idxOf s.call.toNat:Nat):Int).toNat=j
 obtain⟨g1,g2⟩:=GE hm
 rw[Int.toNat_natCast,e]
 exact CX P.AB g1 (by omega) g2
end Sr
end Go.Proofs.YtjdkkabcenohcaaGreatDoor
