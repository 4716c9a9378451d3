import Derived.Test.YtjdkkabcenohcaaGreatDoorP14
import Derived.Test.YtjdkkabcenohcaaGreatDoorW2
set_option linter.unusedVariables false
set_option linter.unusedSimpArgs false
set_option linter.unusedSectionVars false
set_option maxRecDepth 100000
namespace Go.Proofs.YtjdkkabcenohcaaGreatDoor
open Go.RowKit
namespace Vd
open Tx Hs Sr
inductive Nx(b:Bool):List Pt→Prop
 |er (r:List Pt):Nx b (.s wB:: .s wE::r)
 |no (h:b=true):Nx b [.s wB,.s wN]
 |ns (r:List Pt) (h:b=false) (hr: ∀p∈r,∃k,p=Pt.i k):Nx b (.s wB::r)
theorem DY{b ok:Bool}{x:dh}{e:Int}(h:e=0→b=ok):Nx b (Iv ok x e):=by
 unfold Iv
 split
 ·exact .er _
 ·rename_i he
  have he:e=0:=Classical.not_not.1 he
  split
  ·rename_i hk
   exact .no (by rw[h he,hk])
  ·rename_i hk
   refine .ns [.i x.kind,.i x.a,.i x.b] (by rw[h he];exact Bool.eq_false_iff.2 hk) fun p hp=>?_
   simp only[List.mem_cons,List.not_mem_nil,or_false]at hp
   rcases hp with rfl|rfl|rfl<;>exact⟨_,rfl⟩
theorem af9{b:Bool}{n:List Int}{e:Int}(h:e=0→(b=true↔n= [])):Nx b (Rz n e):=by
 unfold Rz
 split
 ·exact .er _
 ·rename_i he
  have he:e=0:=Classical.not_not.1 he
  split
  ·rename_i hn
   subst hn
   exact .no ((h he).2 rfl)
  ·rename_i hn
   exact .ns (n.map .i) (Bool.eq_false_iff.2 fun hb=>hn ((h he).1 hb)) fun p hp=>by
    obtain⟨k,_,rfl⟩:=List.mem_map.1 hp
    exact⟨k,rfl⟩
end Vd
namespace Tx
open Hs
def KW(types:List Int)(l:List Event):List UInt8:=rO types++10::l.flatMap fun e=>om e++[10]
theorem adj{types:List Int}{l:List Event}(ht:qz types)(hl: ∀e∈l,ry e):jv 10 (KW types l)=rO types::(l.map om++[[]]):=by
 have e:KW types l=(rO types::l.map om).flatMap (· ++[10])++[]:=by
  simp[KW,List.flatMap_map]
 rw[e,Nb]
 ·rfl
 ·intro x hx
  rcases List.mem_cons.1 hx with rfl|hx
  ·exact aeC ht
  ·obtain⟨v,hv,rfl⟩:=List.mem_map.1 hx
   exact aeB (hl v hv)
theorem KP.pr{s:ByteArray}{types:List Int}{l:List Event}(h:KP s types l):bs s=KW types l:=by
 have:=Gg 10 (bs s)
 rw[h.ls]at this
 rw[←this,←List.cons_append,PG]
 simp[KW,List.flatMap_map]
theorem adk{x:List UInt8}(h:x∈sE):x.length≤6:=by
 have: ∀x∈sE,x.length≤6:=by decide
 exact this x h
theorem Uf{x:List UInt8}(h:x∈oz):x.length≤6:=by
 have: ∀x∈oz,x.length≤6:=by decide
 exact this x h
theorem Mr{N:Nat}{n:Int}(h: -1000000≤n∧n≤1000000):qq N n=some (jS (it n)):=by
 unfold qq
 rw[if_pos (by omega)];rfl
theorem AO{a b:ByteArray}(h:a.size+b.size≤1000000):Et a b=true:=by
 unfold Et
 exact decide_eq_true (by omega)
theorem p8{N:Nat}{a b:ByteArray}(h:a.size+b.size≤1000000):vU N a b=some (a++b):=by
 unfold vU
 rw[if_pos (by omega)]
theorem Ug{xs:List (List UInt8)}{i:Int}(h0:0≤i)(h:i.toNat < xs.length):ix (xs.map jS) i=some (jS (xs.getD i.toNat [])):=by
 rw[wk h0 (by rw[List.length_map];omega),List.getElem_map,aW h]
theorem aac{types:List Int}{k:Nat}(hk:k < types.length):wy (types.take (k+1))=wy (types.take k)++[oz.getD types[k].toNat []]:=by
 rw[List.take_add_one,List.getElem?_eq_getElem hk]
 simp only[wy,List.map_append,Option.toList_some,List.map_cons,List.map_nil]
theorem jC(a b:ByteArray):(a++b).size=a.size+b.size:=ByteArray.size_append
theorem aad{N:Nat}{types:List Int}{l:List Event}(hN:10000 < N):Wp (Ay N types l) fun r=>∃q,cB N types l=some q∧(q.2.2≠0→r=(⟨#[]⟩,q.2.2))∧(q.2.2=0→qz types∧(∀e∈l,ry e)∧r.2=0∧bs r.1=KW types l):=by
 obtain⟨q,hq,hq1,TZ⟩:=AB (types:=types) (l:=l) (show 300 < N by omega)
 unfold Ay
 refine .bD hq (.cond (fun he=> .one ⟨q,hq,fun _=>rfl,fun h=>by rw[h]at he;simp at he⟩) (fun he=>?_))
 have he:q.2.2=0:=by simpa using he
 obtain⟨ht,hl,hle⟩:=hq1 he
 have htl:=ht.len
 have s6:(⟨#[116,104,105,110,103,115]⟩:ByteArray).size=6:=rfl
 have s1:(⟨#[10]⟩:ByteArray).size=1:=rfl
 have ze:(⟨#[32]⟩:ByteArray).size=1:=rfl
 have s0:(⟨#[]⟩:ByteArray).size=0:=rfl
 have PE:bs (⟨#[32]⟩:ByteArray)= [32]:=rfl
 have qW:bs (⟨#[10]⟩:ByteArray)= [10]:=rfl
 refine .bD (p8 (by rw[s0,s6];decide)) ?_
 refine .seq (P:=fun out=>bs out=rO types) (.iter types.length (fun k s=>s.2=(k:Int)∧bs s.1=yb++(wy (types.take k)).flatMap (32:: ·)∧s.1.size≤10+10 * k) (by omega) ⟨rfl,rfl,by rw[jC,s0,s6];omega⟩ ?_ ?_) fun out _ hout=>?_
 ·rintro k ⟨out,v⟩ hk ⟨hv,ho,hsz⟩
  simp only at hv ho hsz
  subst hv
  simp only[zN]
  have hb:=ht.all _ (List.getElem_mem hk)
  have hm:oz.getD types[k].toNat []∈oz:=jX (by simp[oz];omega)
  have hw:=Uf hm
  have hix:ix (oz.map jS) types[k]=some (jS (oz.getD types[k].toNat [])):=Ug (by omega) (by simp[oz];omega)
  refine .bg (decide_eq_true (by omega)) (.ix hk (.bD rfl (.bD (a:=jS (oz.getD types[k].toNat [])) hix (.ck (AO (by rw[ze,fV];omega)) (.bD (p8 (by rw[jC,ze,fV];omega)) (.bK (by omega) (.one ⟨by simp,?_,?_⟩)))))))
  ·simp only[wx,ho,PE,kA]
   rw[aac hk,List.flatMap_append]
   simp
  ·simp only[jC,ze,fV];omega
 ·rintro⟨out,v⟩ ⟨hv,ho,hsz⟩
  simp only at hv ho hsz
  subst hv
  simp only[zN]
  exact .aL (decide_eq_false (by omega)) (.one (by show bs out=_;rw[ho,List.take_length];rfl))
 have hsz:out.size≤60:=by
  rw[nM,hout]
  unfold rO
  have: ∀(t:List Int),(∀x∈t,1≤x∧x≤5)→((wy t).flatMap (32:: ·)).length≤7 * t.length:=by
   intro t
   induction t with
   |nil=>intro _;simp[wy]
   |cons a t ih=>
    intro h
    have h1:=ih fun x hx=>h x (by simp[hx])
    have ha:=h a (by simp)
    have:=Uf (jX (l:=oz) (i:=a.toNat) (d:=[]) (by simp[oz];omega))
    simp only[wy,List.map_cons,List.flatMap_cons,List.length_append,List.length_cons]at h1⊢
    omega
  have:=this types ht.all
  rw[List.length_append,show yb.length=6 from rfl]
  omega
 refine .bD (p8 (by rw[s1];omega)) ?_
 refine .seq (P:=fun o2=>bs o2=KW types l) (.iter l.length (fun k s=>s.2=(k:Int)∧bs s.1=rO types++10::(l.take k).flatMap (fun e=>om e++[10])∧s.1.size≤100+100 * k) (by omega) ⟨rfl,by simp only[wx,hout,qW];rfl,by simp only[jC,s1];omega⟩ ?_ ?_) fun o2 _ ho2=>?_
 ·rintro k ⟨out,v⟩ hk ⟨hv,ho,hsz⟩
  simp only at hv ho hsz
  subst hv
  simp only[zO]
  refine .bg (decide_eq_true (by omega)) (.ix hk ?_)
  have htk:l.take (k+1)=l.take k++[l[k]]:=by rw[List.take_add_one,List.getElem?_eq_getElem hk];rfl
  have hE:=hl _ (List.getElem_mem hk)
  generalize l[k]=e at hE htk⊢
  have rN:=hE.kind
  have hm:sE.getD e.kind.toNat []∈sE:=jX (by simp[sE];omega)
  have hw:=adk hm
  have l1:=J' hE.who
  have l2:=J' hE.aj
  have hix:ix (sE.map jS) e.kind=some (jS (sE.getD e.kind.toNat [])):=Ug (by omega) (by simp[sE];omega)
  refine .bD (Mr hE.who) (.ck (AO (by rw[ze,fV];omega)) (.bD (Mr hE.aj) (.ck (AO (by rw[jC,ze,fV,fV];omega)) (.ck (AO (by rw[jC,jC,ze,fV,fV];omega)) (.bD rfl (.bD (a:=jS (sE.getD e.kind.toNat [])) hix (.ck (AO (by simp only[jC,ze,fV];omega)) (.bD (p8 (by simp only[jC,ze,fV];omega)) (.bD rfl (.cond (fun hb=>?_) (fun hb=>?_)))))))))))
  ·have hbk: ¬s9 e.kind=true:=by
    intro h
    unfold s9 at h
    rw[h]at hb
    simp at hb
   have hv:=hE.value
   rw[if_neg hbk]at hv
   have l3:=J' hv
   refine .bD (Mr hv) (.ck (AO (by rw[ze,fV];omega)) (.bD (p8 (by simp only[jC,ze,fV];omega)) (.bD (p8 (by simp only[jC,ze,s1,fV];omega)) (.bK (by omega) (.one ⟨by simp,?_,?_⟩)))))
   ·simp only[wx,ho,PE,qW,kA]
    rw[htk,List.flatMap_append]
    simp[om,Gk,hbk]
   ·simp only[jC,ze,s1,fV];omega
  ·have hbk:s9 e.kind=true:=by rw[Bool.not_eq_false']at hb;exact hb
   refine .bD (p8 (by simp only[jC,ze,s1,fV];omega)) (.bK (by omega) (.one ⟨by simp,?_,?_⟩))
   ·simp only[wx,ho,PE,qW,kA]
    rw[htk,List.flatMap_append]
    simp[om,Gk,hbk]
   ·simp only[jC,ze,s1,fV];omega
 ·rintro⟨out,v⟩ ⟨hv,ho,hsz⟩
  simp only at hv ho hsz
  subst hv
  simp only[zO]
  exact .aL (decide_eq_false (by omega)) (.one (by show bs out=_;rw[ho,List.take_length];rfl))
 have hne:o2.size≠0:=by rw[nM,ho2];simp[KW]
 exact .bD (a:=o2) (by unfold FD;rw[if_neg hne]) (.one ⟨q,hq,fun h=>absurd he h,fun _=>⟨ht,hl,rfl,ho2⟩⟩)
theorem VT{N:Nat}(hN:10000 < N){types:List Int}{l:List Event}{p:ByteArray}{q:List Call×Int×Int}(hq:cB N types l=some q)(h0:q.2.2=0)(hp:bs p=KW types l)(hs:p.size≤8192):ox N p=some (types,l,0,0):=by
 obtain⟨q',Ft,hq1,_⟩:=AB (types:=types) (l:=l) (show 300 < N by omega)
 rw[hq]at Ft
 cases Ft
 obtain⟨ht,hl,hle⟩:=hq1 h0
 have hsp:=adj ht hl
 rw[←hp]at hsp
 have hn:=congrArg List.length hsp
 simp only[List.length_cons,List.length_append,List.length_map,List.length_nil]at hn
 refine Wp.eq ((AL (s:=p) hN).mono fun r hw=>?_)
 rcases hw with⟨h8,_⟩|⟨_,⟨k,rfl,hB⟩|⟨types',l',q',hL,Ft,hh⟩⟩
 ·omega
 ·exfalso
  have hb:=hB.2.2
  have hk:=hB.1
  split at hb
  ·rename_i iU
   refine hb ⟨?_,by omega⟩
   rw[hsp,←List.cons_append,List.getElem?_append_right (by simp;omega),show k - (rO types::l.map om).length=0 by simp;omega]
   rfl
  ·have hkx:(jv 10 (bs p))[k]? =some (jv 10 (bs p))[k]:=List.getElem?_eq_getElem hk
   exact hb _ hkx (KO (r:=[[]]) ht hl hsp (by omega) hkx)
 ·have he:=hL.ls.symm.trans hsp
  have hlen: ∀x∈jv 10 (bs p),x.length≤8192:=fun x hx=>by
   have:=PI hx
   rw[nM]at hs;omega
  simp only[List.cons.injEq]at he
  have e1:types'=types:=abA hL.ty ht (hlen _ (by rw[hL.ls];simp)) he.1
  have e2:l'.map om=l.map om:=List.append_cancel_right he.2
  have e3:l'=l:=by
   have hl3:l'.length=l.length:=by have:=congrArg List.length e2;simpa using this
   refine List.ext_getElem hl3 fun i h1 h2=>?_
   have e4:(l'.map om)[i]? =(l.map om)[i]? :=by rw[e2]
   rw[List.getElem?_map,List.getElem?_map,List.getElem?_eq_getElem h1,List.getElem?_eq_getElem h2]at e4
   exact aby (hL.ev _ (List.getElem_mem h1)) (hl _ (List.getElem_mem h2)) (hlen _ (by rw[hL.ls];simp;exact .inr (.inl ⟨_,List.getElem_mem h1,rfl⟩))) (Option.some.inj e4)
  subst e1 e3
  rw[hq]at Ft
  cases Ft
  rcases hh with⟨h2,_⟩|⟨_,h2,_⟩|⟨_,rfl⟩
  ·omega
  ·exact absurd h0 h2
  ·rfl
end Tx
namespace Sr
open Rl Hs
theorem DZ{types:List Int}{c:List Call}{q:Nat→Nat→Bool}(X: ∀m,m < c.length→0≤(c.getD m Call.z).aj∧(c.getD m Call.z).aj < types.length): ∀{t:List Step} {S:List (List Int)} {w:List Nat},S.length=types.length→(Pl types c q S w t↔Ac c q w t∧∀x,x < types.length→∃s',Ob.run (types.getD x 0) (S.getD x []) (e7 c x t)=some s')
 | [],S,w,hl=>by
  refine⟨fun _=>⟨trivial,fun x _=>⟨_,rfl⟩⟩,fun _=>trivial⟩
 |s::t,S,w,hl=>by
  have ih:=fun(i:Nat) (x:Nat) (n:List Int)=>DZ (q:=q) X (t:=t) (S:=S.set x n) (w:=w++[i]) (by rw[List.length_set];exact hl)
  constructor
  ·rintro⟨i,n,h1,h2,h3,h4,h5,h6,h7⟩
   obtain⟨g1,g2⟩:=(ih i _ n).1 h7
   obtain⟨t0,t1⟩:=X i h2
   refine⟨⟨i,h1,h2,h3,h4,h5,g1⟩,fun x hx=>?_⟩
   obtain⟨s',hs'⟩:=g2 x hx
   rw[nR (by omega)]at hs'
   simp only[e7,h1,Int.toNat_natCast]
   by_cases e:(c.getD i Call.z).aj.toNat=x
   ·subst e
    rw[if_pos rfl]at hs'⊢
    refine⟨s',?_⟩
    simp only[Ob.run,h6,if_pos]
    exact hs'
   ·rw[if_neg e]
    rw[if_neg (fun h=>e h.symm)]at hs'
    exact⟨s',hs'⟩
  ·rintro⟨⟨i,h1,h2,h3,h4,h5,h6⟩,g⟩
   obtain⟨t0,t1⟩:=X i h2
   obtain⟨s1,hs1⟩:=g _ (show(c.getD i Call.z).aj.toNat < types.length by omega)
   simp only[e7,h1,Int.toNat_natCast,if_pos]at hs1
   simp only[Ob.run]at hs1
   cases hn:Ob.nx (types.getD (c.getD i Call.z).aj.toNat 0) (S.getD (c.getD i Call.z).aj.toNat []) (c.getD i Call.z).kind (c.getD i Call.z).arg with
   |none=>rw[hn]at hs1;cases hs1
   |some p=>
    obtain⟨n,res⟩:=p
    rw[hn]at hs1
    simp only at hs1
    split at hs1
    ·rename_i hres
     refine⟨i,n,h1,h2,h3,h4,h5,by rw[hn,hres],(ih i _ n).2 ⟨h6,fun x hx=>?_⟩⟩
     rw[nR (by omega)]
     by_cases e:x=(c.getD i Call.z).aj.toNat
     ·subst e
      rw[if_pos rfl]
      exact⟨s1,hs1⟩
     ·rw[if_neg e]
      obtain⟨s2,hs2⟩:=g x hx
      simp only[e7,h1,Int.toNat_natCast]at hs2
      rw[if_neg (fun h=>e h.symm)]at hs2
      exact⟨s2,hs2⟩
    ·cases hs1
end Sr
namespace Vd
open Tx Hs Sr
theorem Ms{s sub:List UInt8}:Lib.contains s sub=true↔∃a b,s=a++sub++b:=by
 unfold Lib.contains
 rw[decide_eq_true_eq]
 rcases Lib.index_spec s sub with⟨h,hn⟩|⟨i,h,hi,ho,_⟩
 ·rw[h]
  refine⟨fun h=>absurd h (by decide),fun⟨a,b,e⟩=>?_⟩
  have h1:=hn a.length (by rw[e];simp only[List.length_append];omega)
  have h2:Lib.occAt s sub a.length=true:=by
   unfold Lib.occAt
   rw[e,List.append_assoc,List.drop_left]
   exact List.isPrefixOf_iff_prefix.2 ⟨b,rfl⟩
  rw[h1]at h2;cases h2
 ·rw[h]
  refine⟨fun _=>?_,fun _=>by omega⟩
  obtain⟨z,hz⟩:=List.isPrefixOf_iff_prefix.1 ho
  exact⟨s.take i,z,by rw[List.append_assoc,hz,List.take_append_drop]⟩
theorem KX{N:Nat}{o sub:ByteArray}(h:o.size≤4000000):Eu N o sub=some (Lib.contains (bs o) (bs sub)):=by
 unfold Eu
 rw[if_pos (by omega)];rfl
theorem XQ{s sub:List UInt8}{d:UInt8}(h:d∉s)(hs:d∈sub):Lib.contains s sub=false:=by
 cases hb:Lib.contains s sub with
 |false=>rfl
 |true=>
  obtain⟨a,b,e⟩:=Ms.1 hb
  exact absurd (by rw[e];simp[hs]) h
theorem XR{d:UInt8}(hd:97≤d.toNat)(k:Int):d∉it k:=fun h=>by
 rcases WT k d h with h|h<;>omega
theorem VU{d:UInt8}(hd:97≤d.toNat){ps:List Pt}(h: ∀p∈ps,∀x,p= .s x→d∉bs x):d∉ln ps:=by
 have h1:d≠32:=fun e=>by subst e;exact absurd hd (by decide)
 have h2:d≠10:=fun e=>by subst e;exact absurd hd (by decide)
 unfold ln
 rw[List.mem_append,not_or]
 refine⟨aa_ h1.symm fun x hx=>?_,by simpa using h2⟩
 obtain⟨p,hp,rfl⟩:=List.mem_map.1 hx
 cases p with
 |s x=>exact h _ hp x rfl
 |i k=>exact XR hd k
 |e k=>exact XR hd k
theorem RA{d:UInt8}(hd:97≤d.toNat){L:List (List Pt)}(h: ∀ps∈L,∀p∈ps,∀x,p= .s x→d∉bs x):d∉jq L:=fun hm=>by
 obtain⟨ps,hp,hm⟩:=List.mem_flatMap.1 hm
 exact VU hd (h ps hp) hm
theorem ajU{c:UInt8}{a b u v:List UInt8}(h1:c∉a)(h2:c∉u)(e:a++c::u=b++c::v):a=b∧u=v:=by
 refine af8 h1 (fun hb=>?_) e
 have h:=congrArg (List.count c) e
 simp only[List.count_append,List.count_cons_self]at h
 rw[List.count_eq_zero.2 h1,List.count_eq_zero.2 h2]at h
 have:=List.count_pos_iff.2 hb
 omega
theorem Fa(ps:List Pt)(L:List (List Pt)):jq (ps::L)=ln ps++jq L:=by unfold jq;rw[List.flatMap_cons]
theorem Mt(A L:List (List Pt)):jq (A++L)=jq A++jq L:=by unfold jq;rw[List.flatMap_append]
theorem KY{h:ByteArray}{p:Pt}{r:List Pt}:ln (.s h::p::r)=bs h++32::ln (p::r):=by
 have e:jn 32 ((.s h::p::r:List Pt).map qn)=bs h++32::jn 32 ((p::r).map qn):=vJ (r:=(p::r).map qn) (by simp)
 unfold ln
 rw[e]
 simp only[List.append_assoc,List.cons_append]
theorem aa'{p:Pt}{r:List Pt}: ∃z,ln (p::r)=qn p++z:=by
 unfold ln
 rw[List.map_cons,Ka,List.append_assoc]
 exact⟨_,rfl⟩
theorem Mu{N:Nat}(hN:10000 < N){types:List Int}{l:List Event}{c:List Call}{op:List Int}(ht:co N types=some 0)(hl:l.length≤200)(R:ex N types l l.length c op)(hg:c.length≤9→∃t,Sr.Gd types c (fg c) (S0 types) [] t)
  (aab:types.length=1→Chk N (types.getD 0 0) l)(hs: ∀S,types.length=1→XP N (types.getD 0 0) l S→S= []∨∃ps,S= [ps]∧Nx true ps):jN N types l=some true:=by
 have hc:=nN (by omega:300 < N) ht hl R
 refine Wp.eq ?_
 unfold jN
 refine .seq (aad (types:=types) (l:=l) hN) fun r _ ⟨q,hq,_,hp⟩=>?_
 rw[hc]at hq
 cases hq
 obtain⟨_,_,h0,G5⟩:=hp rfl
 rw[h0]
 refine .cond (fun _=> .one rfl) fun h8=>?_
 have h8:r.1.size≤8192:=by
  by_cases h:(8192:Int) < (r.1.size:Int)
  ·rw[decide_eq_true h]at h8
   simp at h8
  ·omega
 have hrd:=VT hN hc rfl G5 h8
 refine .seq (Ko hN r.1 fun types' l' h h1=>?_) fun o _ ⟨⟨L,hL,ho,hS⟩,hz⟩=>?_
 ·rw[hrd]at h;cases h;exact aab h1
 rcases hS with⟨e,a,_,hno,_⟩|⟨types',l',c',op',W,S,h,_,_,R',hW,hT,rfl⟩
 ·exact absurd hrd (hno _ _)
 rw[hrd]at h
 cases h
 have e':=nN (by omega:300 < N) ht hl R'
 rw[hc]at e'
 obtain rfl:c=c':=(Prod.mk.inj (Option.some.inj e')).1
 have hpc:Pm N o (⟨#[99,97,108,108,115,32]⟩:ByteArray)=some true:=by
  unfold Pm
  refine congrArg some (show(bs wK++[32]).isPrefixOf (bs o)=true from ?_)
  rw[ho];exact adi
 have hSl:S= []∨∃ps,S= [ps]∧Nx true ps:=by
  rcases hT with⟨h1,h2,_⟩|⟨_,rfl⟩
  ·exact hs S h1 h2
  ·exact .inl rfl
 have nS: ∀ps∈S,∀p∈ps,∀x,p= .s x→x=wB∨x=wE∨x=wN:=by
  intro ps hps p hp x hx
  rcases hT with⟨_,h2,_⟩|⟨_,rfl⟩
  ·have key: ∀ok b e,∀p∈Iv ok b e,∀x,p= .s x→x=wB∨x=wE∨x=wN:=by
    intro ok b e p hp x hx
    subst hx
    unfold Iv at hp
    split at hp
    ·simp at hp;rcases hp with h|h<;>simp[h]
    ·split at hp
     ·simp at hp;rcases hp with h|h<;>simp[h]
     ·simp at hp;simp[hp]
   rcases h2 with⟨_,q,_,rfl⟩|⟨_,q,_,rfl⟩|⟨_,q,_,rfl⟩|⟨_,q,_,rfl⟩|⟨_,_,_,_,rfl⟩
   ·rw[List.mem_singleton.1 hps]at hp;exact key _ _ _ p hp x hx
   ·rw[List.mem_singleton.1 hps]at hp;exact key _ _ _ p hp x hx
   ·rw[List.mem_singleton.1 hps]at hp;exact key _ _ _ p hp x hx
   ·rw[List.mem_singleton.1 hps]at hp
    subst hx
    unfold Rz at hp
    rcases List.mem_append.1 hp with hp|hp
    ·split at hp
     ·simp at hp;rcases hp with h|h<;>simp[h]
     ·split at hp
      ·simp at hp;rcases hp with h|h<;>simp[h]
      ·simp at hp;simp[hp]
    ·obtain⟨k,_,e⟩:=List.mem_map.1 hp
     cases e
   ·cases hps
  ·cases hps
 have nK: ∀{d:UInt8},97≤d.toNat→d∉bs wK→d∉ln [.s wK,.i (c.length:Int)]:=fun hd h=>VU hd fun p hp x hx=>by
  subst hx
  simp at hp
  rw[hp];exact h
 have noS: ∀{d:UInt8},97≤d.toNat→(d∉bs wB∧d∉bs wE∧d∉bs wN)→d∉jq S:=fun hd h=>RA hd fun ps hps p hp x hx=>by
  rcases nS ps hps p hp x hx with rfl|rfl|rfl
  ·exact h.1
  ·exact h.2.1
  ·exact h.2.2
 have nst: ∀{d:UInt8},97≤d.toNat→∀w:List Step,∀p∈zf w,∀x,p= .s x→d∉bs x:=fun hd w p hp x hx=>by
  obtain⟨s,_,h⟩:=List.mem_flatMap.1 hp
  subst hx
  simp at h
 have htn:Lib.contains (bs o) [116,105,109,101,32,110]=false:=by
  rw[ho,Fa,Mt]
  rcases hW with⟨_,H,⟨w,b,x,b2,y,b3,_,F1,_,_,rfl⟩,_⟩|⟨_,rfl⟩
  ·have hb:b=true:=F1.iff.2 (hg H.pW)
   subst hb
   cases Vh:Lib.contains (ln [.s wK,.i (c.length:Int)]++(jq (Nw true b2 b3 w)++jq S)) [116,105,109,101,32,110]with
   |false=>rfl
   |true=>
    exfalso
    obtain⟨a,z,e⟩:=Ms.1 Vh
    have e1:jq (Nw true b2 b3 w)=116::([105,109,101]++32::ln (.s (yN true)::zf w)++jq [[.s wP,.s (yN b2)],[.s wC,.s (yN b3)]]):=by
     unfold Nw
     rw[Fa,KY]
     rfl
    rw[e1,List.append_assoc a,List.cons_append]at e
    have hy2: ∀{d:UInt8} (b:Bool),d≠121→d≠110→d∉bs (yN b):=fun b h1 h2=>by
     cases b
     ·simpa[yN,bs]using h2
     ·simpa[yN,bs]using h1
    have hn:(116:UInt8)∉ [105,109,101]++32::ln (.s (yN true)::zf w)++jq [[.s wP,.s (yN b2)],[.s wC,.s (yN b3)]]++jq S:=by
     simp only[List.mem_append,List.mem_cons,not_or]
     refine⟨⟨⟨by decide,by decide,VU (by decide) fun p hp x hx=>?_⟩,RA (by decide) fun ps hps p hp x hx=>?_⟩,noS (by decide) (by decide)⟩
     ·rcases List.mem_cons.1 hp with rfl|hp
      ·cases hx;exact hy2 _ (by decide) (by decide)
      ·exact nst (by decide) w p hp x hx
     ·subst hx
      simp only[List.mem_cons,List.not_mem_nil,or_false]at hps
      rcases hps with rfl|rfl
      ·simp at hp
       rcases hp with rfl|rfl
       ·decide
       ·exact hy2 _ (by decide) (by decide)
      ·simp at hp
       rcases hp with rfl|rfl
       ·decide
       ·exact hy2 _ (by decide) (by decide)
    have e2:=(ajU (v:=[105,109,101,32,110]++z) (nK (by decide) (by decide)) hn e).2
    obtain⟨z1,hz1⟩:=aa' (p:= .s (yN true)) (r:=zf w)
    rw[hz1]at e2
    have e3:qn (.s (yN true))= [121]:=rfl
    rw[e3]at e2
    simp at e2
  ·refine XQ (d:=116) ?_ (by decide)
   simp only[List.mem_append,not_or]
   exact⟨nK (by decide) (by decide),by simp[jq],noS (by decide) (by decide)⟩
 refine .bD hpc (.bD (a:=false) (by rw[KX hz];exact congrArg some htn) (.aL rfl ?_))
 rw[KX hz,KX hz,KX hz]
 rcases hSl with rfl|⟨ps,rfl,hp⟩
 ·have hb:Lib.contains (bs o) (bs (⟨#[98,97,100,32]⟩:ByteArray))=false:=by
   refine XQ (d:=98) ?_ (by decide)
   rw[ho,Fa,Mt]
   simp only[List.mem_append,not_or]
   refine⟨nK (by decide) (by decide),?_,by simp[jq]⟩
   rcases hW with⟨_,_,⟨w,b,x,b2,y,b3,_,_,_,_,rfl⟩,_⟩|⟨_,rfl⟩
   ·refine RA (by decide) fun ps hps p hp x hx=>?_
    have hy2: ∀b:Bool,(98:UInt8)∉bs (yN b):=fun b=>by cases b<;>decide
    unfold Nw at hps
    simp only[List.mem_cons,List.not_mem_nil,or_false]at hps
    subst hx
    rcases hps with rfl|rfl|rfl
    ·rcases List.mem_cons.1 hp with h|hp
     ·cases h;decide
     rcases List.mem_cons.1 hp with h|hp
     ·cases h;exact hy2 _
     ·exact nst (by decide) w _ hp _ rfl
    ·simp at hp
     rcases hp with rfl|rfl
     ·decide
     ·exact hy2 _
    ·simp at hp
     rcases hp with rfl|rfl
     ·decide
     ·exact hy2 _
   ·simp[jq]
  rw[hb]
  exact .bD rfl (.bD (a:=false) rfl (.bD (a:=false) rfl (.one rfl)))
 ·have pre: ∀{sub:List UInt8},(∃z,ln ps=sub++z)→Lib.contains (bs o) sub=true:=fun⟨z,hz⟩=>by
   refine Ms.2 ⟨ln [.s wK,.i (c.length:Int)]++jq W,z,?_⟩
   rw[ho,Fa,Mt]
   have:jq [ps]=ln ps:=by simp[jq]
   rw[this,hz]
   simp only[List.append_assoc]
  have hb: ∀{x:ByteArray} {r:List Pt},ps= .s wB:: .s x::r→Lib.contains (bs o) (bs wB++32::bs x)=true:=fun {x r} e=>pre (by
   rw[e,KY]
   obtain⟨z,hz⟩:=aa' (p:= .s x) (r:=r)
   rw[hz]
   exact⟨z,by simp[qn]⟩)
  have hb0:Lib.contains (bs o) (bs (⟨#[98,97,100,32]⟩:ByteArray))=true:=by
   refine pre ?_
   cases hp with
   |er r=>rw[KY];exact⟨_,(List.append_assoc (bs wB) [32] _).symm⟩
   |no h=>rw[KY];exact⟨_,(List.append_assoc (bs wB) [32] _).symm⟩
   |ns r h=>cases h
  rw[hb0]
  refine .bD rfl ?_
  cases hp with
  |er r=>
   have h2:Lib.contains (bs o) (bs (⟨#[98,97,100,32,101,114,114,111,114]⟩:ByteArray))=true:=hb rfl
   rw[h2]
   generalize Lib.contains (bs o) (bs (⟨#[98,97,100,32,110,111,110,101]⟩:ByteArray))=b1
   cases b1
   ·exact .bD (a:=false) rfl (.bD (a:=true) rfl (.one rfl))
   ·exact .bD (a:=true) rfl (.bD (a:=false) rfl (.one rfl))
  |no h=>
   have h2:Lib.contains (bs o) (bs (⟨#[98,97,100,32,110,111,110,101]⟩:ByteArray))=true:=hb rfl
   rw[h2]
   exact .bD (a:=true) rfl (.bD (a:=false) rfl (.one rfl))
  |ns r h=>cases h
end Vd
end Go.Proofs.YtjdkkabcenohcaaGreatDoor
