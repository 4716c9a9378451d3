import Derived.Test.YtjdkkabcenohcaaGreatDoorP6
import Derived.Test.YtjdkkabcenohcaaGreatDoorP9
set_option linter.unusedVariables false
set_option linter.unusedSimpArgs false
set_option linter.unusedSectionVars false
set_option maxRecDepth 100000
namespace Go.Proofs.YtjdkkabcenohcaaGreatDoor
open Go.RowKit
namespace Sr
open Rl Hs
theorem cx9{N:Nat}{types:List Int}{l:List Event}{c:List Call}(H:Hc N types l c)(hN:300 < N): ∃rel,Cx types c rel (fg c):=by
 have hf:=H.pW
 obtain⟨a,_,ha⟩:=Qj hN (c:=c) (by omega)
 exact⟨_,Ol (n:=a.1) H.his (by omega) ha.2.2⟩
theorem G0{N:Nat}{types:List Int}{l:List Event}{c:List Call}(h:cB N types l=some (c,0,0))(hl:c.length≤9):gW N types l=some (c,0):=by
 unfold gW
 rw[ahc h]
 exact(eH rfl).trans (eH (decide_eq_false (by simp only;omega)))
theorem VK{N:Nat}(hN:300 < N){types:List Int}{l:List Event}{c:List Call}(h:gW N types l=some (c,0)):Hc N types l c:=by
 obtain⟨r,h1,h2⟩:=Cs hN types l
 rw[h]at h1
 cases h1
 rcases h2 with⟨_,H,_⟩|⟨h,_⟩
 ·exact H
 ·exact(h rfl).elim
theorem BU{N:Nat}{types:List Int}{l:List Event}{k:Nat}{c:List Call}{op:List Int}(R:ex N types l k c op){m:Nat}(hm:m < c.length):Ob.dz (types.getD (c.getD m Call.z).aj.toNat 0) (c.getD m Call.z).kind (c.getD m Call.z).arg:=by
 have O:=R.wf.one m hm
 have a1:=(w_ R m hm).1
 rw[Ob.pm]at a1
 refine⟨O.fit.1,O.fit.2,fun h=>?_,fun h=>?_⟩
 ·rw[if_pos h]at a1
  simpa using a1
 ·rw[if_neg h]at a1
  have:1≤(c.getD m Call.z).arg∧(c.getD m Call.z).arg≤1000:=by simpa using a1
  exact this
end Sr
namespace Hs
structure One(pos:List Nat)(a b:Call):Prop where
 who:b.who=a.who
 aj:b.aj=a.aj
 kind:b.kind=a.kind
 arg:b.arg=a.arg
 res:b.res=a.res
 fr:0≤b.from_∧b.from_.toNat < pos.length∧a.from_=(pos.getD b.from_.toNat 0:Nat)
 tO:(a.aY= -1∧b.aY= -1)∨(0≤b.aY∧b.aY.toNat < pos.length∧a.aY=(pos.getD b.aY.toNat 0:Nat))
theorem oS{α:Type}{l m:List α}{d:α}{i:Nat}(h:i < l.length):(l++m).getD i d=l.getD i d:=by
 simp only[List.getD_eq_getElem?_getD,List.getElem?_append_left h]
theorem One.more{pos:List Nat}{a b:Call}(h:One pos a b)(k:Nat):One (pos++[k]) a b:=by
 obtain⟨h1,h2,h3,h4,h5,h6,h7⟩:=h
 refine⟨h1,h2,h3,h4,h5,⟨h6.1,by rw[List.length_append];omega,by rw[oS h6.2.1];exact h6.2.2⟩,?_⟩
 rcases h7 with h7|⟨h7,h8,h9⟩
 ·exact .inl h7
 ·exact .inr ⟨h7,by rw[List.length_append];omega,by rw[oS h8];exact h9⟩
def gC(g:Int→Int→Int→Bool)(c:Call):Bool:=g c.aj c.kind c.arg
structure sV(N:Nat)(types:List Int)(g:Int→Int→Int→Bool)(p:List Event)(k:Nat)(out out':List Call)(op op':List Int)(idx pos:List Nat):Prop where
 run:ex N types p p.length out' op'
 ajQ:pos.length=p.length
 Rj:pos.Pairwise (· < ·)
 plt: ∀x∈pos,x < k
 VL:idx.length=out'.length
 Ml:idx.Pairwise (· < ·)
 p7: ∀x∈idx,x < out.length
 Nu: ∀i,i < out.length→(i∈idx↔gC g (out.getD i Call.z)=true)
 cnt:out'.length=out.countP (gC g)
 one: ∀j,j < out'.length→One pos (out.getD (idx.getD j 0) Call.z) (out'.getD j Call.z)
 who: ∀w,w < 8→(op.getD w 0≤0→op'.getD w 0=0)∧∀m:Nat,op.getD w 0=m+1→(gC g (out.getD m Call.z)=false∧op'.getD w 0=0)∨∃m':Nat,m' < out'.length∧idx.getD m' 0=m∧op'.getD w 0=m'+1
theorem sV.zero(N:Nat)(types:List Int)(g:Int→Int→Int→Bool):sV N types g [] 0 [] [] [] [] [] []:=
 ⟨.zero,rfl,.nil,fun _ h=>(nomatch h),rfl,.nil,fun _ h=>(nomatch h),fun _ h=>absurd h (Nat.not_lt_zero _),rfl,fun _ h=>absurd h (Nat.not_lt_zero _),fun w _=>⟨fun _=>rfl,fun m h=>absurd h (by show ¬(0:Int)=m+1;omega)⟩⟩
theorem ex.app{N:Nat}{types:List Int}{l:List Event}{v:Event}: ∀{k:Nat} {out:List Call} {op:List Int},ex N types l k out op→ex N types (l++[v]) k out op:=by
 intro k out op R
 induction R with
 |zero=>exact .zero
 | @succ k out out' op op' R hk S ih=>
  refine .succ ih (by rw[List.length_append];omega) ?_
  rw[dL,if_pos hk];exact S
theorem ex.snoc{N:Nat}{types:List Int}{l:List Event}{v:Event}{out out':List Call}{op op':List Int}(R:ex N types l l.length out op)(S:uX N types out op (l.length:Int) v out' op'):ex N types (l++[v]) (l++[v]).length out' op':=by
 rw[List.length_append,List.length_singleton]
 refine .succ (ex.app R) (by rw[List.length_append,List.length_singleton];omega) ?_
 rw[dL,if_neg (Nat.lt_irrefl _),if_pos rfl];exact S
def Sel(g:Int→Int→Int→Bool)(out:List Call)(op:List Int)(v:Event)(b:Bool):Prop:=
 (v.kind≠0→b=g v.aj v.kind v.value)∧(v.kind=0→∀m:Nat,op.getD v.who.toNat 0=m+1→b=gC g (out.getD m Call.z))
theorem G1{g:Int→Int→Int→Bool}{out:List Call}{m i:Nat}{r z:Int}(hm:m < out.length):gC g ((out.set m (ia (out.getD m Call.z) r z)).getD i Call.z)=gC g (out.getD i Call.z):=by
 rw[fv hm]
 split
 ·rename_i e;subst e;rfl
 ·rfl
theorem DT{g:Int→Int→Int→Bool}{out:List Call}{m:Nat}{r z:Int}(hm:m < out.length):(out.set m (ia (out.getD m Call.z) r z)).countP (gC g)=out.countP (gC g):=by
 have e:(out.set m (ia (out.getD m Call.z) r z)).map (gC g)=out.map (gC g):=by
  apply List.ext_getElem?
  intro j
  rw[List.getElem?_map,List.getElem?_map,List.getElem?_set]
  split
  ·rename_i e
   subst e
   rw[List.getElem?_eq_getElem hm,aW hm]
   rfl
  ·rfl
 have h: ∀l:List Call,l.countP (gC g)=(l.map (gC g)).countP id:=fun l=>by rw[List.countP_map];rfl
 rw[h,h,e]
theorem iO{idx:List Nat}{i:Nat}(h:i < idx.length):idx.getD i 0∈idx:=by
 rw[List.getD_eq_getElem?_getD,List.getElem?_eq_getElem h];exact List.getElem_mem h
theorem T7{idx:List Nat}(h:idx.Pairwise (· < ·)){i j:Nat}(hi:i < idx.length)(hj:j < idx.length)(e:idx.getD i 0=idx.getD j 0):i=j:=by
 rw[List.getD_eq_getElem?_getD,List.getD_eq_getElem?_getD,List.getElem?_eq_getElem hi,List.getElem?_eq_getElem hj]at e
 rw[List.pairwise_iff_getElem]at h
 rcases Nat.lt_trichotomy i j with x|x|x
 ·have:=h i j hi hj x;simp only[Option.getD_some]at e;omega
 ·exact x
 ·have:=h j i hj hi x;simp only[Option.getD_some]at e;omega
theorem acT{idx:List Nat}(h:idx.Pairwise (· < ·)){i j:Nat}(hi:i < idx.length)(hj:j < idx.length):idx.getD i 0 < idx.getD j 0↔i < j:=by
 rw[List.getD_eq_getElem?_getD,List.getD_eq_getElem?_getD,List.getElem?_eq_getElem hi,List.getElem?_eq_getElem hj]
 rw[List.pairwise_iff_getElem]at h
 simp only[Option.getD_some]
 refine⟨fun e=>?_,h i j hi hj⟩
 rcases Nat.lt_trichotomy i j with x|x|x
 ·exact x
 ·subst x;omega
 ·have:=h j i hj hi x;omega
theorem Jo{idx:List Nat}{k:Nat}(h:idx.Pairwise (· < ·))(hl: ∀x∈idx,x < k):(idx++[k]).Pairwise (· < ·):=
 List.pairwise_append.2 ⟨h,List.pairwise_singleton _ _,fun x hx y hy=>by rw[List.mem_singleton.1 hy];exact hl x hx⟩
theorem sV.step{N:Nat}{types:List Int}{g:Int→Int→Int→Bool}{p:List Event}{k:Nat}{out out' Mm:List Call}{op op' T8:List Int}{idx pos:List Nat}{v:Event}{l:List Event}(P:sV N types g p k out out' op op' idx pos)(W:WF types l k out op)(S:uX N types out op (k:Int) v Mm T8){b:Bool}(hb:Sel g out op v b):
  (b=true→∃o2 p2 i2 s2,sV N types g (p++[v]) (k+1) Mm o2 T8 p2 i2 s2)∧(b=false→sV N types g p (k+1) Mm out' T8 op' idx pos):=by
 have W':=P.run.wf
 have hw:=S.who
 have Gl:v.who.toNat < 8:=by omega
 have hlt: ∀w,w < 8→∀m:Nat,op.getD w 0=m+1→m < out.length:=fun w h m e=>by have:=(W.qk w h).2.1;omega
 have hpl:=P.ajQ
 have hil:=P.VL
 have VM: ∀x∈pos,x < k+1:=fun x hx=>by have:=P.plt x hx;omega
 rcases S.how with⟨hk,hf,ha,hn,rfl,rfl⟩|⟨hk,m,hm,hml,ht,hr,rfl,rfl⟩
 ·have KN:=hb.1 hk
  have h0:=(P.who v.who.toNat Gl).1 hn
  have hop: ∀w,w < 8→(fb 8 0 op v.who ((out.length:Int)+1)).getD w 0=if w=v.who.toNat then(out.length:Int)+1 else op.getD w 0:=fun w h=>gy h
  have CW: ∀w,w < 8→(fb 8 0 op' v.who ((out'.length:Int)+1)).getD w 0=if w=v.who.toNat then(out'.length:Int)+1 else op'.getD w 0:=fun w h=>gy h
  have hidx: ∀j,j < out'.length→(out++[sF v (k:Int)]).getD (idx.getD j 0) Call.z=out.getD (idx.getD j 0) Call.z:=fun j hj=>oS (P.p7 _ (iO (by omega)))
  refine⟨fun hv=>?_,fun hv=>?_⟩
  ·refine⟨out'++[sF v (p.length:Int)],fb 8 0 op' v.who ((out'.length:Int)+1),idx++[out.length],pos++[k],ex.snoc P.run ⟨hw,S.aj,.inl ⟨hk,hf,ha,by omega,rfl,rfl⟩⟩,by simp[hpl],Jo P.Rj P.plt,fun x hx=>?_,by simp[hil],Jo P.Ml P.p7,fun x hx=>?_,fun i hi=>?_,?_,fun j hj=>?_,fun w h=>?_⟩
   ·rcases List.mem_append.1 hx with h|h
    ·exact VM x h
    ·rw[List.mem_singleton.1 h];omega
   ·rw[List.length_append,List.length_singleton]
    rcases List.mem_append.1 hx with h|h
    ·have:=P.p7 x h;omega
    ·rw[List.mem_singleton.1 h];omega
   ·rw[List.mem_append,List.mem_singleton,dL]
    rw[List.length_append,List.length_singleton]at hi
    rcases Nat.lt_or_ge i out.length with h|h
    ·rw[if_pos h,←P.Nu i h]
     exact⟨fun e=>e.elim id fun e=>by omega,.inl⟩
    ·obtain rfl:i=out.length:=by omega
     rw[if_neg (Nat.lt_irrefl _),if_pos rfl]
     exact⟨fun _=>by rw[←hv,KN];rfl,fun _=> .inr rfl⟩
   ·have:gC g (sF v (k:Int))=true:=by rw[←hv,KN];rfl
    rw[List.length_append,List.length_singleton,P.cnt,List.countP_append,List.countP_singleton,if_pos this]
   ·rw[List.length_append,List.length_singleton]at hj
    rcases Nat.lt_or_ge j out'.length with h|h
    ·rw[oS (l:=idx) (by omega),hidx j h,oS h]
     exact(P.one j h).more k
    ·obtain rfl:j=out'.length:=by omega
     have e1:(idx++[out.length]).getD out'.length 0=out.length:=by rw[←hil,dL,if_neg (Nat.lt_irrefl _),if_pos rfl]
     have e2:(out++[sF v (k:Int)]).getD out.length Call.z=sF v (k:Int):=by rw[dL,if_neg (Nat.lt_irrefl _),if_pos rfl]
     have e3:(out'++[sF v (p.length:Int)]).getD out'.length Call.z=sF v (p.length:Int):=by rw[dL,if_neg (Nat.lt_irrefl _),if_pos rfl]
     rw[e1,e2,e3]
     refine⟨rfl,rfl,rfl,rfl,rfl,⟨Int.natCast_nonneg _,?_,?_⟩,.inl ⟨rfl,rfl⟩⟩
     ·show((p.length:Int)).toNat < _
      rw[List.length_append,List.length_singleton,Int.toNat_natCast,hpl];omega
     ·show(k:Int)=((pos++[k]).getD ((p.length:Int)).toNat 0:Nat)
      rw[Int.toNat_natCast,←hpl,dL,if_neg (Nat.lt_irrefl _),if_pos rfl]
   ·rw[hop w h,CW w h]
    by_cases e:w=v.who.toNat
    ·rw[if_pos e,if_pos e]
     refine⟨fun h=>by omega,fun m hm=> .inr ⟨out'.length,by simp,?_,rfl⟩⟩
     obtain rfl:m=out.length:=by omega
     rw[←hil,dL,if_neg (Nat.lt_irrefl _),if_pos rfl]
    ·rw[if_neg e,if_neg e]
     refine⟨(P.who w h).1,fun m hm=>?_⟩
     rw[oS (hlt w h m hm)]
     rcases(P.who w h).2 m hm with a2|⟨m',a3,a4,a5⟩
     ·exact .inl a2
     ·exact .inr ⟨m',by rw[List.length_append];omega,by rw[oS (by omega)];exact a4,a5⟩
  ·refine⟨P.run,hpl,P.Rj,VM,hil,P.Ml,fun x hx=>by have:=P.p7 x hx;rw[List.length_append];omega,fun i hi=>?_,?_,fun j hj=>by rw[hidx j hj];exact P.one j hj,fun w h=>?_⟩
   ·rw[dL]
    rw[List.length_append,List.length_singleton]at hi
    rcases Nat.lt_or_ge i out.length with h|h
    ·rw[if_pos h,←P.Nu i h]
    ·obtain rfl:i=out.length:=by omega
     rw[if_neg (Nat.lt_irrefl _),if_pos rfl]
     refine⟨fun e=>absurd (P.p7 _ e) (Nat.lt_irrefl _),fun e=>?_⟩
     have e:g v.aj v.kind v.value=true:=e
     rw[←KN,hv]at e;cases e
   ·have:gC g (sF v (k:Int))=false:=by rw[←hv,KN];rfl
    rw[P.cnt,List.countP_append,List.countP_singleton,if_neg (by rw[this];decide),Nat.add_zero]
   ·rw[hop w h]
    by_cases e:w=v.who.toNat
    ·rw[if_pos e]
     refine⟨fun h=>by omega,fun m hm=>?_⟩
     obtain rfl:m=out.length:=by omega
     rw[dL,if_neg (Nat.lt_irrefl _),if_pos rfl]
     exact .inl ⟨by show g v.aj v.kind v.value=false;rw[←KN,hv],by rw[e];exact h0⟩
    ·rw[if_neg e]
     refine⟨(P.who w h).1,fun m hm=>?_⟩
     rw[oS (hlt w h m hm)]
     exact(P.who w h).2 m hm
 ·have KN:=hb.2 hk m hm
  have b2:=(P.who v.who.toNat Gl).2 m hm
  have hop: ∀w,w < 8→(fb 8 0 op v.who 0).getD w 0=if w=v.who.toNat then 0 else op.getD w 0:=fun w h=>gy h
  have CW: ∀w,w < 8→(fb 8 0 op' v.who 0).getD w 0=if w=v.who.toNat then 0 else op'.getD w 0:=fun w h=>gy h
  refine⟨fun hv=>?_,fun hv=>?_⟩
  ·rcases b2 with⟨b2,_⟩|⟨m',b3,b4,b5⟩
   ·rw[KN,b2]at hv;cases hv
   have O:=P.one m' b3
   rw[b4]at O
   refine⟨out'.set m' (ia (out'.getD m' Call.z) v.value (p.length:Int)),fb 8 0 op' v.who 0,idx,pos++[k],ex.snoc P.run ⟨hw,S.aj,.inr ⟨hk,m',b5,b3,by rw[O.aj];exact ht,by rw[O.kind];exact hr,rfl,rfl⟩⟩,by simp[hpl],Jo P.Rj P.plt,fun x hx=>?_,by rw[List.length_set];exact hil,P.Ml,fun x hx=>by rw[List.length_set];exact P.p7 x hx,fun i hi=>?_,by rw[List.length_set,DT hml];exact P.cnt,fun j hj=>?_,fun w h=>?_⟩
   ·rcases List.mem_append.1 hx with h|h
    ·exact VM x h
    ·rw[List.mem_singleton.1 h];omega
   ·rw[List.length_set]at hi
    rw[G1 hml];exact P.Nu i hi
   ·rw[List.length_set]at hj
    rw[fv hml,fv b3]
    by_cases e:j=m'
    ·subst e
     rw[if_pos b4,if_pos rfl]
     have M:=O.more k
     refine⟨M.who,M.aj,M.kind,M.arg,rfl,M.fr,.inr ⟨Int.natCast_nonneg _,?_,?_⟩⟩
     ·show((p.length:Int)).toNat < _
      rw[List.length_append,List.length_singleton,Int.toNat_natCast,hpl];omega
     ·show(k:Int)=((pos++[k]).getD ((p.length:Int)).toNat 0:Nat)
      rw[Int.toNat_natCast,←hpl,dL,if_neg (Nat.lt_irrefl _),if_pos rfl]
    ·rw[if_neg e,if_neg (fun z=>e (T7 P.Ml (by omega) (by omega) (z.trans b4.symm)))]
     exact(P.one j hj).more k
   ·rw[hop w h,CW w h]
    by_cases e:w=v.who.toNat
    ·rw[if_pos e,if_pos e]
     exact⟨fun _=>rfl,fun m hm=>by omega⟩
    ·rw[if_neg e,if_neg e]
     refine⟨(P.who w h).1,fun q hq=>?_⟩
     rw[G1 hml]
     rcases(P.who w h).2 q hq with a2|⟨q',a3,a4,a5⟩
     ·exact .inl a2
     ·exact .inr ⟨q',by rw[List.length_set];exact a3,a4,a5⟩
  ·have h0:op'.getD v.who.toNat 0=0:=by
    rcases b2 with⟨_,b2⟩|⟨m',b3,b4,_⟩
    ·exact b2
    ·have:=(P.Nu m hml).1 (by rw[←b4];exact iO (by omega))
     rw[KN,this]at hv;cases hv
   have hnm: ∀j,j < out'.length→idx.getD j 0≠m:=fun j hj e=>by
    have:=(P.Nu m hml).1 (by rw[←e];exact iO (by omega))
    rw[KN,this]at hv;cases hv
   refine⟨P.run,hpl,P.Rj,VM,hil,P.Ml,fun x hx=>by rw[List.length_set];exact P.p7 x hx,fun i hi=>?_,by rw[DT hml];exact P.cnt,fun j hj=>?_,fun w h=>?_⟩
   ·rw[List.length_set]at hi
    rw[G1 hml];exact P.Nu i hi
   ·rw[fv hml,if_neg (hnm j hj)]
    exact P.one j hj
   ·rw[hop w h]
    by_cases e:w=v.who.toNat
    ·rw[if_pos e]
     exact⟨fun _=>by rw[e];exact h0,fun m hm=>by omega⟩
    ·rw[if_neg e]
     refine⟨(P.who w h).1,fun q hq=>?_⟩
     rw[G1 hml]
     exact(P.who w h).2 q hq
theorem sV.bef{N:Nat}{types:List Int}{g:Int→Int→Int→Bool}{p:List Event}{k:Nat}{out out':List Call}{op op':List Int}{idx pos:List Nat}(P:sV N types g p k out out' op op' idx pos){i j:Nat}(hi:i < out'.length)(hj:j < out'.length):fg out' i j=fg out (idx.getD i 0) (idx.getD j 0):=by
 have hil:=P.VL
 have a1:=P.p7 _ (iO (idx:=idx) (i:=i) (by omega))
 have a2:=P.p7 _ (iO (idx:=idx) (i:=j) (by omega))
 have O1:=P.one i hi
 have O2:=P.one j hj
 unfold fg
 refine decide_eq_decide.2 ?_
 obtain⟨f1,f2,f3⟩:=O2.fr
 rcases O1.tO with⟨h1,h2⟩|⟨h1,h2,h3⟩
 ·rw[h1,h2];simp
 ·have:=acT P.Rj h2 f2
  constructor
  ·rintro⟨_,_,_,h4⟩
   have:=this.2 (by omega)
   exact⟨a1,a2,by omega,by omega⟩
  ·rintro⟨_,_,_,h4⟩
   have:=this.1 (by omega)
   exact⟨hi,hj,by omega,by omega⟩
end Hs
namespace Sr
open Rl Hs
structure DU(c:List Call)(s:Step):Prop where
 eJ:0≤s.call∧s.call < c.length
 res:(c.getD s.call.toNat Call.z).aY≠ -1→s.res=(c.getD s.call.toNat Call.z).res
def T9(q:Nat→Nat→Bool)(a b:Step):Prop:=a.call≠b.call∧q b.call.toNat a.call.toNat=false
theorem VN{c:List Call}{q:Nat→Nat→Bool}: ∀{t:List Step} {w:List Nat},Ac c q w t↔(∀s∈t,DU c s∧s.call.toNat∉w∧∀j∈w,q s.call.toNat j=false)∧t.Pairwise (T9 q)
 | [],w=>by simp[Ac]
 |s::t,w=>by
  constructor
  ·rintro⟨i,h1,h2,h3,h4,h5,h6⟩
   obtain⟨g1,g2⟩:=VN.1 h6
   have e:s.call.toNat=i:=by omega
   refine⟨fun x hx=>?_,List.pairwise_cons.2 ⟨fun x hx=>?_,g2⟩⟩
   ·rcases List.mem_cons.1 hx with rfl|hx
    ·exact⟨⟨by omega,by rw[e];exact h5⟩,by rw[e];exact h3,by rw[e];exact h4⟩
    ·obtain⟨a1,a2,a3⟩:=g1 x hx
     exact⟨a1,fun h=>a2 (List.mem_append.2 (.inl h)),fun j hj=>a3 j (List.mem_append.2 (.inl hj))⟩
   ·obtain⟨a1,a2,a3⟩:=g1 x hx
    refine⟨fun h=>a2 (by rw[←h,e];simp),?_⟩
    rw[e];exact a3 i (by simp)
  ·rintro⟨g1,g2⟩
   obtain⟨g2,g3⟩:=List.pairwise_cons.1 g2
   obtain⟨a1,a2,a3⟩:=g1 s (.head _)
   have:=a1.eJ
   refine⟨s.call.toNat,by omega,by omega,a2,a3,a1.res,VN.2 ⟨fun x hx=>?_,g3⟩⟩
   obtain⟨b1,b2,b3⟩:=g1 x (.tail _ hx)
   have b4:=g2 x hx
   have:=b1.eJ
   refine⟨b1,fun h=>?_,fun j hj=>?_⟩
   ·rcases List.mem_append.1 h with h|h
    ·exact b2 h
    ·have:=List.mem_singleton.1 h;exact b4.1 (by omega)
   ·rcases List.mem_append.1 hj with h|h
    ·exact b3 j h
    ·rw[List.mem_singleton.1 h];exact b4.2
theorem XI{c:List Call}{q:Nat→Nat→Bool}{t:List Step}:Ac c q [] t↔(∀s∈t,DU c s)∧t.Pairwise (T9 q):=by
 rw[VN]
 exact⟨fun⟨h1,h2⟩=>⟨fun s hs=>(h1 s hs).1,h2⟩,fun⟨h1,h2⟩=>⟨fun s hs=>⟨h1 s hs,(nomatch ·),fun j hj=>(nomatch hj)⟩,h2⟩⟩
def pts(c:List Call):Int→List Step→List (Int×Step)
 |_,[]=>[]
 |m,s::t=>(max m (c.getD s.call.toNat Call.z).from_,s)::pts c (max m (c.getD s.call.toNat Call.z).from_) t
theorem filter_none{α:Type}{p:α→Bool}{l:List α}(h: ∀x∈l,p x=false):l.filter p= []:=by
 rw[List.filter_eq_nil_iff]
 exact fun x hx=>by rw[h x hx];decide
end Sr
namespace Sr
open Rl Hs
def D(c:List Call)(s:Step):Do:=⟨(c.getD s.call.toNat Call.z).kind,(c.getD s.call.toNat Call.z).arg,s.res⟩
def upS(idx:List Nat)(s:Step):Step:=⟨((idx.getD s.call.toNat 0:Nat):Int),s.res⟩
def G2(idx:List Nat)(s:Step):Step:=⟨((idx.idxOf s.call.toNat:Nat):Int),s.res⟩
theorem T_{pos:List Nat}{a b:Call}(O:One pos a b):a.aY≠ -1↔b.aY≠ -1:=by
 rcases O.tO with⟨h1,h2⟩|⟨h1,h2,h3⟩
 ·rw[h1,h2]
 ·constructor<;>intro _<;>omega
theorem XJ{idx:List Nat}{i:Nat}(h:i∈idx):idx.idxOf i < idx.length∧idx.getD (idx.idxOf i) 0=i:=by
 have hlt:=List.idxOf_lt_length_of_mem h
 exact⟨hlt,by rw[aW hlt];exact List.getElem_idxOf hlt⟩
variable {N:Nat} {types:List Int} {g:Int→Int→Int→Bool} {p:List Event} {k:Nat} {out out':List Call} {op op':List Int} {idx pos:List Nat}
theorem Ox(P:sV N types g p k out out' op op' idx pos){s:Step}(h:DU out s)(hg:gC g (out.getD s.call.toNat Call.z)=true):DU out' (G2 idx s)∧upS idx (G2 idx s)=s∧D out' (G2 idx s)=D out s:=by
 have hr:=h.eJ
 obtain⟨h1,h2⟩:=XJ ((P.Nu s.call.toNat (by omega)).2 hg)
 have hil:=P.VL
 have O:=P.one (idx.idxOf s.call.toNat) (by omega)
 rw[h2]at O
 have e:(G2 idx s).call.toNat=idx.idxOf s.call.toNat:=Int.toNat_natCast _
 refine⟨⟨⟨Int.natCast_nonneg _,by show((idx.idxOf s.call.toNat:Nat):Int) < _;omega⟩,fun h3=>?_⟩,?_,?_⟩
 ·rw[e]at h3⊢
  show s.res=_
  rw[h.res ((T_ O).2 h3),O.res]
 ·obtain⟨x,y⟩:=s
  unfold upS
  rw[e,h2]
  simp only at hr⊢
  rw[Int.toNat_of_nonneg hr.1]
  rfl
 ·unfold D;rw[e,O.kind,O.arg];rfl
theorem ahC(P:sV N types g p k out out' op op' idx pos){t:List Step}(hi: ∀s∈t,DU out s∧gC g (out.getD s.call.toNat Call.z)=true)(hp:t.Pairwise (T9 (fg out))):(t.map (G2 idx)).Pairwise (T9 (fg out')):=by
 rw[List.pairwise_map]
 refine hp.imp_of_mem fun {a b} ha hb h=>?_
 obtain⟨a1,a2,_⟩:=Ox P (hi a ha).1 (hi a ha).2
 obtain⟨b1,b2,_⟩:=Ox P (hi b hb).1 (hi b hb).2
 have ra:=a1.eJ
 have rb:=b1.eJ
 have ea:((idx.getD (G2 idx a).call.toNat 0:Nat):Int)=a.call:=congrArg (·.call) a2
 have eb:((idx.getD (G2 idx b).call.toNat 0:Nat):Int)=b.call:=congrArg (·.call) b2
 refine⟨fun e=>h.1 ?_,?_⟩
 ·rw[←ea,←eb,e]
 ·rw[P.bef (by omega) (by omega)]
  have h2:=h.2
  rw[←ea,←eb,Int.toNat_natCast,Int.toNat_natCast]at h2
  exact h2
theorem ahD(P:sV N types g p k out out' op op' idx pos){t:List Step}(h: ∀i,i < out.length→gC g (out.getD i Call.z)=true→(out.getD i Call.z).aY≠ -1→i∈nums t):Cm out' (nums (t.map (G2 idx))):=by
 intro j hj ha
 have hil:=P.VL
 have O:=P.one j hj
 have hm:=iO (idx:=idx) (i:=j) (by omega)
 have:=h (idx.getD j 0) (P.p7 _ hm) ((P.Nu _ (P.p7 _ hm)).1 hm) ((T_ O).2 ha)
 obtain⟨s,hs,e⟩:=List.mem_map.1 this
 refine List.mem_map.2 ⟨G2 idx s,List.mem_map_of_mem hs,?_⟩
 show((idx.idxOf s.call.toNat:Nat):Int).toNat=j
 obtain⟨g1,g2⟩:=XJ hm
 rw[Int.toNat_natCast,e]
 exact T7 P.Ml g1 (by omega) g2
end Sr
end Go.Proofs.YtjdkkabcenohcaaGreatDoor
