import Derived.Test.YtjdkkabcenohcaaGreatDoorP12
import Derived.Test.YtjdkkabcenohcaaGreatDoorV9
set_option linter.unusedVariables false
set_option linter.unusedSimpArgs false
set_option linter.unusedSectionVars false
set_option maxRecDepth 100000
namespace Go.Proofs.YtjdkkabcenohcaaGreatDoor
open Go.RowKit
namespace Sr
open Hs
theorem aa9{types:List Int}{c:List Call}{q:Nat→Nat→Bool}: ∀{t:List Step} {S:List (List Int)} {w:List Nat},Pl types c q S w t→Ac c q w t
 | [],_,_,_=>trivial
 |s::t,S,w,⟨i,n,h1,h2,h3,h4,h5,_,h7⟩=>⟨i,h1,h2,h3,h4,h5,aa9 h7⟩
end Sr
namespace Vd
open Tx
def qn:Pt→List UInt8
 | .s x=>bs x
 | .i x=>it x
 | .e x=>it x
def rD:Pt→Prop
 | .s x=>(10:UInt8)∉bs x∧x.size≤100
 | .i x=>eJ x
 | .e x=>eJ x
theorem Rt{n:Int}(h:eJ n):(it n).length≤20:=by
 unfold eJ at h
 unfold it Lib.itoa
 split
 ·have:=Dx 18 n.natAbs (by simp;omega)
  simp;omega
 ·have:=Dx 18 n.toNat (by simp;omega)
  omega
theorem Ru{N:Nat}{n:Int}(h:eJ n):qq N n=some (Tx.jS (it n)):=by
 unfold qq eJ at *
 rw[if_pos h];rfl
theorem KS{p:Pt}(h:rD p):(qn p).length≤100:=by
 cases p with
 |s x=>have:=h.2;rw[nM]at this;exact this
 |i x=>have:=Rt (n:=x) h;simp only[qn];omega
 |e x=>have:=Rt (n:=x) h;simp only[qn];omega
theorem p8{N:Nat}{a b:ByteArray}(h:a.size+b.size≤10000000):vU N a b=some (a++b):=by
 unfold vU
 rw[if_pos (by omega)]
theorem jC(a b:ByteArray):(a++b).size=a.size+b.size:=ByteArray.size_append
theorem Mp{c:UInt8}: ∀{a:List (List UInt8)} {x:List UInt8},jn c (a++[x])=if a= []then x else jn c a++c::x
 | [],x=>rfl
 | [a],x=>rfl
 |a::b::r,x=>by
  have:=Mp (c:=c) (a:=b::r) (x:=x)
  rw[if_neg (by simp)]at this⊢
  rw[List.cons_append,vJ (by simp),vJ (by simp),this]
  simp
theorem aa_{c d:UInt8}(h:c≠d): ∀{a:List (List UInt8)},(∀x∈a,d∉x)→d∉jn c a
 | [],_=>by simp[jn]
 | [x],H=>H x (by simp)
 |x::y::r,H=>by
  have:=aa_ h (a:=y::r) fun z hz=>H z (by simp[hz])
  have hx:=H x (by simp)
  simp only[jn,List.mem_append,List.mem_cons,not_or]
  exact⟨hx,Ne.symm h,this⟩
theorem KU{c:UInt8}: ∀{a:List (List UInt8)},(∀x∈a,x.length≤100)→(jn c a).length≤101 * a.length
 | [],_=>by simp[jn]
 | [x],H=>by have:=H x (by simp);simp only[jn,List.length_singleton];omega
 |x::y::r,H=>by
  have:=KU (c:=c) (a:=y::r) fun z hz=>H z (by simp[hz])
  have hx:=H x (by simp)
  simp only[jn,List.length_append,List.length_cons]at this⊢
  omega
theorem adc{N:Nat}{r:ByteArray}{ps:List Pt}(hN:ps.length < N)(hp: ∀p∈ps,rD p)(hl:ps.length≤2000)(hr:r.size≤1000000):
  Wp (ec N r ps) fun o=>bs o=bs r++jn 32 (ps.map qn)++[10]:=by
 unfold ec
 refine .seq (P:=fun o=>bs o=bs r++jn 32 (ps.map qn)) (.iter ps.length (fun k s=>s.2=(k:Int)∧bs s.1=bs r++jn 32 ((ps.take k).map qn)) hN ⟨rfl,by simp[jn]⟩ ?_ ?_) fun o _ ho=>?_
 ·rintro k ⟨o,v⟩ hk ⟨hv,ho⟩
  simp only at hv ho
  subst hv
  simp only[pv]
  have htk:ps.take (k+1)=ps.take k++[ps[k]]:=by rw[List.take_add_one,List.getElem?_eq_getElem hk];rfl
  have hP:=hp _ (List.getElem_mem hk)
  have hj:=KU (c:=32) (a:=(ps.take k).map qn) fun x hx=>by
   obtain⟨p,hp',rfl⟩:=List.mem_map.1 hx
   exact KS (hp p (List.mem_of_mem_take hp'))
  have hos:o.size≤1202000:=by
   rw[nM,ho,List.length_append,←nM]
   rw[List.length_map,List.length_take]at hj
   omega
  refine .bg (decide_eq_true (by omega)) (.ix hk ?_)
  generalize ps[k]=p at hP htk⊢
  have ze:(⟨#[32]⟩:ByteArray).size=1:=rfl
  refine .seq (P:=fun o'=>o'.size≤1202001∧bs o'++qn p=bs r++jn 32 ((ps.take (k+1)).map qn)) (.cond (fun h=> .bD (p8 (by rw[ze];omega)) (.one ⟨by rw[jC,ze];omega,?_⟩)) (fun h=> .one ⟨by omega,?_⟩)) fun o' _ ho'=>?_
  ·have h:=of_decide_eq_true h
   rw[htk,List.map_append,List.map_singleton,Mp,if_neg (by intro h0;have:=congrArg List.length h0;rw[List.length_map,List.length_take,List.length_nil]at this;omega),wx,ho]
   simp[bs]
  ·have h:=of_decide_eq_false h
   obtain rfl:k=0:=by omega
   rw[htk,List.map_append,List.map_singleton,Mp,if_pos (by simp),ho]
   simp[jn]
  ·have hpl:=KS hP
   cases p with
   |s x=>
    refine .bg rfl (.bD (p8 (by have:=hP.2;simp only[S7];omega)) (.bK (by omega) (.one ⟨by simp,?_⟩)))
    rw[←ho'.2];exact wx _ _
   |i x=>
    refine .aL rfl (.bg rfl (.bD (Ru hP) (.bD (p8 (by rw[Tx.fV];simp only[qn]at hpl;simp only[JZ,J0];omega)) (.bK (by omega) (.one ⟨by simp,?_⟩)))))
    rw[←ho'.2];simp only[wx,kA,qn,JZ,J0]
   |e x=>
    refine .aL rfl (.aL rfl (.bg rfl (.bD (Ru hP) (.bD (p8 (by rw[Tx.fV];simp only[qn]at hpl;simp only[JZ,J0];omega)) (.bK (by omega) (.one ⟨by simp,?_⟩))))))
    rw[←ho'.2];simp only[wx,kA,qn,JZ,J0]
 ·rintro⟨o,v⟩ ⟨hv,ho⟩
  simp only at hv ho
  subst hv
  simp only[pv]
  exact .aL (decide_eq_false (by omega)) (.one (by rw[List.take_length]at ho;exact ho))
 ·have hj:=KU (c:=32) (a:=ps.map qn) fun x hx=>by
   obtain⟨p,hp',rfl⟩:=List.mem_map.1 hx
   exact KS (hp p hp')
  rw[List.length_map]at hj
  have s10:(⟨#[10]⟩:ByteArray).size=1:=rfl
  have hos:o.size≤1202000:=by
   rw[nM,ho,List.length_append,←nM];omega
  exact .bD (p8 (by rw[s10];omega)) (.one (by rw[wx,ho];rfl))
end Vd
namespace Vd
open Tx Hs Sr
abbrev wT:ByteArray:=⟨#[116,105,109,101]⟩
abbrev wP:ByteArray:=⟨#[112,101,111,112,108,101]⟩
abbrev wC:ByteArray:=⟨#[99,97,108,109]⟩
abbrev wB:ByteArray:=⟨#[98,97,100]⟩
abbrev wE:ByteArray:=⟨#[101,114,114,111,114]⟩
abbrev wN:ByteArray:=⟨#[110,111,110,101]⟩
abbrev wK:ByteArray:=⟨#[99,97,108,108,115]⟩
def ln(ps:List Pt):List UInt8:=jn 32 (ps.map qn)++[10]
def jq(L:List (List Pt)):List UInt8:=L.flatMap ln
def KV(L:List (List Pt)):Prop:=∀ps∈L,∀p∈ps,rD p
theorem xy{x:ByteArray}(h:((!(bs x).contains 10)&&decide (x.size≤100))=true):rD (.s x):=by
 simp only[Bool.and_eq_true,decide_eq_true_eq,Bool.not_eq_true',List.contains_eq_mem,decide_eq_false_iff_not]at h
 exact h
theorem af4{ps:List Pt}(hp: ∀p∈ps,rD p):(ln ps).length≤101 * ps.length+1:=by
 have:=KU (c:=32) (a:=ps.map qn) fun x hx=>by
  obtain⟨p,h,rfl⟩:=List.mem_map.1 hx
  exact KS (hp p h)
 unfold ln
 rw[List.length_append]
 rw[List.length_map]at this
 simp only[List.length_singleton]
 omega
theorem AC{N:Nat}(k:Nat){r:ByteArray}{ps:List Pt}(hN:5000 < N)(hp: ∀p∈ps,rD p)(hl:ps.length≤k)(hk:k≤2000)(hr:r.size≤1000000):
  Wp (ec N r ps) fun o=>bs o=bs r++ln ps∧o.size≤r.size+101 * k+1:=
 (adc (by omega) hp (by omega) hr).mono fun o ho=>by
  have h:bs o=bs r++ln ps:=by rw[ho,List.append_assoc];rfl
  refine⟨h,?_⟩
  have:=af4 hp
  rw[nM,h,List.length_append,←nM]
  omega
def yN(b:Bool):ByteArray:=cond b ⟨#[121]⟩ ⟨#[110]⟩
theorem Rx{N:Nat}{b:Bool}:uB N b=some (yN b):=by cases b<;>rfl
theorem yOk{b:Bool}:rD (.s (yN b)):=by cases b<;>exact xy rfl
def zf(w:List Step):List Pt:=w.flatMap fun s=>[.i s.call,.i s.res]
theorem Mq: ∀w:List Step,(zf w).length=2 * w.length
 | []=>rfl
 |s::w=>by
  have:=Mq w
  unfold zf at *
  simp only[List.flatMap_cons,List.length_append,List.length_cons,List.length_nil]
  omega
theorem ade(a b:List Step):zf (a++b)=zf a++zf b:=by unfold zf;rw[List.flatMap_append]
theorem aaa{N:Nat}{r:List Step×Bool×Int}{p0:List Pt}(hN:5000 < N)(hl:r.1.length≤1000)(h0:p0.length≤10):iter (jG N r) N (p0,0)=some (p0++zf r.1):=by
 refine Wp.eq (.iter r.1.length (fun k s=>s.2=(k:Int)∧s.1=p0++zf (r.1.take k)) (by omega) ⟨rfl,by simp[zf]⟩ ?_ ?_)
 ·rintro k ⟨p,v⟩ hk ⟨hv,hp⟩
  simp only at hv hp
  subst hv hp
  simp only[jG]
  have htk:r.1.take (k+1)=r.1.take k++[r.1[k]]:=by rw[List.take_add_one,List.getElem?_eq_getElem hk];rfl
  have hlen:(zf (r.1.take k)).length=2 * k:=by rw[Mq,List.length_take];omega
  refine .bg (decide_eq_true (by omega)) (.ix hk (.ck (eT ⟨?_,?_⟩) (.bK (by omega) (.one ⟨by simp,?_⟩))))
  ·simp only[List.length_append,hlen,List.length_cons,List.length_nil]
   exact Nat.le_trans (m:=10000) (by omega) (by decide)
  ·simp only[List.length_append,hlen,List.length_cons,List.length_nil]
   omega
  ·rw[htk,ade,←List.append_assoc];rfl
 ·rintro⟨p,v⟩ ⟨hv,hp⟩
  simp only at hv hp
  subst hv hp
  simp only[jG]
  exact .aL (decide_eq_false (by omega)) (.one (by rw[List.take_length]))
theorem XO{types:List Int}{c:List Call}{q:Nat→Nat→Bool}: ∀{t:List Step} {S:List (List Int)} {w:List Nat},Pl types c q S w t→∀s∈t,(∃i:Nat,s.call=(i:Int)∧i < c.length)∧ -1≤s.res∧s.res≤1000
 | [],_,_,_,s,h=>by cases h
 |a::t,S,w,⟨i,n,h1,h2,h3,h4,h5,h6,h7⟩,s,hs=>by
  rcases List.mem_cons.1 hs with rfl|hs
  ·exact⟨⟨i,h1,h2⟩,af3 h6⟩
  ·exact XO h7 s hs
theorem adf{types:List Int}{c:List Call}{q:Nat→Nat→Bool}{x:List Step}{b:Bool}(h:Kp types c q x b)(hc:c.length≤1000):x.length≤c.length∧∀s∈x,eJ s.call∧eJ s.res:=by
 rcases h with⟨_,⟨g,_⟩,_⟩|⟨_,rfl,_⟩
 ·refine⟨(aa9 g).len,fun s hs=>?_⟩
  obtain⟨⟨i,h1,h2⟩,h3⟩:=XO g s hs
  exact⟨by rw[h1];exact Da h2 hc,kg (by omega)⟩
 ·exact⟨Nat.zero_le _,by simp⟩
def Nw(b b2 b3:Bool)(w:List Step):List (List Pt):=[.s wT:: .s (yN b)::zf w,[.s wP,.s (yN b2)],[.s wC,.s (yN b3)]]
def Wit(N:Nat)(types:List Int)(l:List Event)(c:List Call)(W:List (List Pt)):Prop:=
 ∃w b x b2 y b3,ku N types l=some (w,b,0)∧Kp types c (fg c) w b∧Kp types c (Kr c) x b2∧Kp types c (Nk (t_ l l.length).1) y b3∧W=Nw b b2 b3 w
theorem af5{N:Nat}{types:List Int}{l:List Event}{c:List Call}(hN:5000 < N){r:ByteArray}(hr:r.size≤100000)(hc:gW N types l=some (c,0))(H:Hc N types l c):
  Wp (kE N r types l) fun o=>∃W,Wit N types l c W∧KV W∧W.length=3∧bs o=bs r++jq W∧o.size≤r.size+10000:=by
 have hf:=H.pW
 unfold kE
 refine .seq (AJ (by omega) hc) fun q hq ⟨h0,_,h1⟩=> .bD Rx ?_
 have F1:=h1 rfl H
 obtain⟨g1,g2⟩:=adf F1 (by omega)
 refine .bD (aaa hN (by omega) (by simp)) ?_
 have hp1: ∀p∈([Pt.s wT,Pt.s (yN q.2.1)]++zf q.1),rD p:=fun p hp=>by
  rcases List.mem_append.1 hp with hp|hp
  ·rcases List.mem_cons.1 hp with rfl|hp
   ·exact xy rfl
   ·rw[List.mem_singleton.1 hp];exact yOk
  ·obtain⟨s,hs,hp⟩:=List.mem_flatMap.1 hp
   rcases List.mem_cons.1 hp with rfl|hp
   ·exact(g2 s hs).1
   ·rw[List.mem_singleton.1 hp];exact(g2 s hs).2
 have hl1:([Pt.s wT,Pt.s (yN q.2.1)]++zf q.1).length≤20:=by
  rw[List.length_append,Mq];simp only[List.length_cons,List.length_nil];omega
 have hp2: ∀{x:ByteArray} {b:Bool},rD (.s x)→∀p∈ [Pt.s x,Pt.s (yN b)],rD p:=fun hx p hp=>by
  rcases List.mem_cons.1 hp with rfl|hp
  ·exact hx
  ·rw[List.mem_singleton.1 hp];exact yOk
 refine .seq (AC 20 hN hp1 hl1 (by decide) (by omega)) fun o1 _ ⟨e1,z1⟩=> .seq (Zb (by omega) hc) fun q2 _ ⟨_,_,h2⟩=> .bD Rx (.seq (AC 2 hN (hp2 (xy rfl)) (by simp) (by decide) (by omega)) fun o2 _ ⟨e2,z2⟩=> .seq (Zc (by omega) hc) fun q3 _ ⟨_,_,h3⟩=> .bD Rx (.seq (AC 2 hN (hp2 (xy rfl)) (by simp) (by decide) (by omega)) fun o3 _ ⟨e3,z3⟩=> .one ⟨Nw q.2.1 q2.2.1 q3.2.1 q.1,⟨q.1,q.2.1,q2.1,q2.2.1,q3.1,q3.2.1,?_,F1,h2 rfl H,h3 rfl H,rfl⟩,?_,rfl,?_,?_⟩))
 ·rw[hq]
  obtain⟨a,b,d⟩:=q
  have h0:d=0:=h0
  rw[h0]
 ·intro ps hps
  simp only[Nw,List.mem_cons,List.not_mem_nil,or_false]at hps
  rcases hps with rfl|rfl|rfl
  ·exact hp1
  ·exact hp2 (xy rfl)
  ·exact hp2 (xy rfl)
 ·rw[e3,e2,e1]
  simp only[jq,Nw,List.flatMap_cons,List.flatMap_nil,List.append_nil,List.append_assoc,List.cons_append,List.nil_append]
 ·omega
def Iv(ok:Bool)(b:dh)(e:Int):List Pt:=if e≠0 then [.s wB,.s wE,.e e]else if ok=true then [.s wB,.s wN]else [.s wB,.i b.kind,.i b.a,.i b.b]
theorem Ry{N:Nat}(hN:5000 < N){r:ByteArray}(hr:r.size≤200000){q:Bool×Int×Int×Int×Int}(h:Rs q):Wp (kf N r q.1 (dh.mk q.2.1 q.2.2.1 q.2.2.2.1) q.2.2.2.2) fun o=>bs o=bs r++jq [Iv q.1 ⟨q.2.1,q.2.2.1,q.2.2.2.1⟩ q.2.2.2.2]∧KV [Iv q.1 ⟨q.2.1,q.2.2.1,q.2.2.2.1⟩ q.2.2.2.2]∧o.size≤r.size+300000:=by
 obtain⟨h1,h2,h3,h4⟩:=h
 have l1: ∀ps:List Pt,jq [ps]=ln ps:=fun ps=>by simp[jq]
 have lk: ∀ps:List Pt,(∀p∈ps,rD p)→KV [ps]:=fun ps h x hx=>by rw[List.mem_singleton.1 hx];exact h
 unfold kf Iv
 refine .cond (fun he=>?_) (fun he=> .cond (fun hk=>?_) fun hk=>?_)
 ·have he:q.2.2.2.2≠0:=by simpa using he
  have hp: ∀p∈ [Pt.s wB,Pt.s wE,Pt.e q.2.2.2.2],rD p:=by
   intro p hp
   simp only[List.mem_cons,List.not_mem_nil,or_false]at hp
   rcases hp with rfl|rfl|rfl
   ·exact xy rfl
   ·exact xy rfl
   ·exact h4
  rw[if_pos he,l1]
  exact .seq (AC 4 hN hp (by simp) (by decide) (by omega)) fun o _ ho=> .one ⟨ho.1,lk _ hp,by have:=ho.2;omega⟩
 ·have he:q.2.2.2.2=0:=by simpa using he
  have hp: ∀p∈ [Pt.s wB,Pt.s wN],rD p:=by
   intro p hp
   simp only[List.mem_cons,List.not_mem_nil,or_false]at hp
   rcases hp with rfl|rfl
   ·exact xy rfl
   ·exact xy rfl
  rw[if_neg (by simp[he]),if_pos hk,l1]
  exact .seq (AC 4 hN hp (by simp) (by decide) (by omega)) fun o _ ho=> .one ⟨ho.1,lk _ hp,by have:=ho.2;omega⟩
 ·have he:q.2.2.2.2=0:=by simpa using he
  have hp: ∀p∈ [Pt.s wB,Pt.i q.2.1,Pt.i q.2.2.1,Pt.i q.2.2.2.1],rD p:=by
   intro p hp
   simp only[List.mem_cons,List.not_mem_nil,or_false]at hp
   rcases hp with rfl|rfl|rfl|rfl
   ·exact xy rfl
   ·exact h1
   ·exact h2
   ·exact h3
  rw[if_neg (by simp[he]),if_neg (by simp[hk]),l1]
  exact .seq (AC 4 hN hp (by simp) (by decide) (by omega)) fun o _ ho=> .one ⟨ho.1,lk _ hp,by have:=ho.2;omega⟩
def Rz(n:List Int)(e:Int):List Pt:=(if e≠0 then [.s wB,.s wE,.e e]else if n= []then [.s wB,.s wN]else [.s wB])++n.map .i
theorem adg{N:Nat}{r:List Int×Int}{p0:List Pt}(hN:5000 < N)(hl:r.1.length≤1001)(h0:p0.length≤10):iter (jQ N r) N (p0,0)=some (p0++r.1.map .i):=by
 refine Wp.eq (.iter r.1.length (fun k s=>s.2=(k:Int)∧s.1=p0++(r.1.take k).map .i) (by omega) ⟨rfl,by simp⟩ ?_ ?_)
 ·rintro k ⟨p,v⟩ hk ⟨hv,hp⟩
  simp only at hv hp
  subst hv hp
  simp only[jQ]
  have htk:r.1.take (k+1)=r.1.take k++[r.1[k]]:=by rw[List.take_add_one,List.getElem?_eq_getElem hk];rfl
  have hlen:(r.1.take k).length=k:=by rw[List.length_take];omega
  refine .bg (decide_eq_true (by omega)) (.ix hk (.ck (eT ⟨?_,?_⟩) (.bK (by omega) (.one ⟨by simp,?_⟩))))
  ·simp only[List.length_append,List.length_map,hlen,List.length_cons,List.length_nil]
   exact Nat.le_trans (m:=10000) (by omega) (by decide)
  ·simp only[List.length_append,List.length_map,hlen,List.length_cons,List.length_nil]
   omega
  ·rw[htk,List.map_append,←List.append_assoc];rfl
 ·rintro⟨p,v⟩ ⟨hv,hp⟩
  simp only at hv hp
  subst hv hp
  simp only[jQ]
  exact .aL (decide_eq_false (by omega)) (.one (by rw[List.take_length]))
theorem ahG{N:Nat}(hN:5000 < N){r:ByteArray}(hr:r.size≤200000){l:List Event}(hb:Wp (iW N l) Eb):Wp (lj N r l) fun o=>∃q,iW N l=some q∧bs o=bs r++jq [Rz q.1 q.2]∧KV [Rz q.1 q.2]∧o.size≤r.size+300000:=by
 unfold lj
 refine .seq hb fun q hq ⟨h1,h2,h3,h4⟩=> .seq (P:=fun p=>p=(if q.2≠0 then [.s wB,.s wE,.e q.2]else if q.1= []then [.s wB,.s wN]else [.s wB])) (.cond (fun he=> .ck (by rfl) (.one ?_)) fun he=> .cond (fun hn=> .ck (by rfl) (.one ?_)) fun hn=> .one ?_) fun p _ hp=>?_
 ·rw[if_pos (by simpa using he)];rfl
 ·rw[if_neg (by simpa using he),if_pos (List.eq_nil_of_length_eq_zero (by have:=of_decide_eq_true hn;omega))];rfl
 ·rw[if_neg (by simpa using he),if_neg (by rintro h;rw[h]at hn;simp at hn)]
 ·have hp0:p.length≤10∧∀x∈p,rD x:=by
   subst hp
   split
   ·refine⟨by simp,fun x hx=>?_⟩
    simp only[List.mem_cons,List.not_mem_nil,or_false]at hx
    rcases hx with rfl|rfl|rfl
    ·exact xy rfl
    ·exact xy rfl
    ·exact h1
   ·split
    ·refine⟨by simp,fun x hx=>?_⟩
     simp only[List.mem_cons,List.not_mem_nil,or_false]at hx
     rcases hx with rfl|rfl
     ·exact xy rfl
     ·exact xy rfl
    ·refine⟨by simp,fun x hx=>?_⟩
     rw[List.mem_singleton.1 hx];exact xy rfl
  have hall: ∀x∈p++q.1.map Pt.i,rD x:=fun x hx=>by
   rcases List.mem_append.1 hx with hx|hx
   ·exact hp0.2 x hx
   ·obtain⟨n,hn,rfl⟩:=List.mem_map.1 hx
    exact h4 n hn
  have he:Rz q.1 q.2=p++q.1.map Pt.i:=by rw[hp];rfl
  refine .bD (adg hN h3 hp0.1) (.seq (AC 1100 hN hall (by rw[List.length_append,List.length_map];omega) (by decide) (by omega)) fun o _ ho=> .one ⟨q,hq,?_,?_,?_⟩)
  ·rw[he,ho.1];simp[jq]
  ·rw[he];intro x hx;rw[List.mem_singleton.1 hx];exact hall
  ·have:=ho.2;omega
def Chk(N:Nat)(typ:Int)(l:List Event):Prop:=(typ=1→Wp (jL N l) Rs)∧(typ=2→Wp (iV N l) Rs)∧(typ=5→Wp (fR N l) Rs)∧(typ=4→Wp (iW N l) Eb)
def XP(N:Nat)(typ:Int)(l:List Event)(S:List (List Pt)):Prop:=
 (typ=1∧∃q,jL N l=some q∧S= [Iv q.1 ⟨q.2.1,q.2.2.1,q.2.2.2.1⟩ q.2.2.2.2])∨(typ=2∧∃q,iV N l=some q∧S= [Iv q.1 ⟨q.2.1,q.2.2.1,q.2.2.2.1⟩ q.2.2.2.2])∨
 (typ=5∧∃q,fR N l=some q∧S= [Iv q.1 ⟨q.2.1,q.2.2.1,q.2.2.2.1⟩ q.2.2.2.2])∨(typ=4∧∃q,iW N l=some q∧S= [Rz q.1 q.2])∨(typ≠1∧typ≠2∧typ≠4∧typ≠5∧S= [])
theorem af6{N:Nat}(hN:5000 < N){r:ByteArray}(hr:r.size≤200000){typ:Int}{l:List Event}(hk:Chk N typ l):Wp (mt N r typ l) fun o=>∃S,XP N typ l S∧KV S∧S.length≤1∧bs o=bs r++jq S∧o.size≤r.size+300000:=by
 unfold mt XP
 refine .cond (fun h=>?_) fun n1=> .cond (fun h=>?_) fun n2=> .cond (fun h=>?_) fun n5=> .cond (fun h=>?_) fun n4=> .one ?_
 ·exact .seq (hk.1 (of_decide_eq_true h)) fun q hq hR=> .seq (Ry hN hr hR) fun o _ ho=> .one ⟨_,.inl ⟨of_decide_eq_true h,q,hq,rfl⟩,ho.2.1,Nat.le_refl _,ho.1,ho.2.2⟩
 ·exact .seq (hk.2.1 (of_decide_eq_true h)) fun q hq hR=> .seq (Ry hN hr hR) fun o _ ho=> .one ⟨_,.inr (.inl ⟨of_decide_eq_true h,q,hq,rfl⟩),ho.2.1,Nat.le_refl _,ho.1,ho.2.2⟩
 ·exact .seq (hk.2.2.1 (of_decide_eq_true h)) fun q hq hR=> .seq (Ry hN hr hR) fun o _ ho=> .one ⟨_,.inr (.inr (.inl ⟨of_decide_eq_true h,q,hq,rfl⟩)),ho.2.1,Nat.le_refl _,ho.1,ho.2.2⟩
 ·exact .seq (ahG hN hr (hk.2.2.2 (of_decide_eq_true h))) fun o _ ⟨q,hq,h1,h2,h3⟩=> .one ⟨_,.inr (.inr (.inr (.inl ⟨of_decide_eq_true h,q,hq,rfl⟩))),h2,Nat.le_refl _,h1,h3⟩
 ·exact⟨[],.inr (.inr (.inr (.inr ⟨of_decide_eq_false n1,of_decide_eq_false n2,of_decide_eq_false n4,of_decide_eq_false n5,rfl⟩))),(fun x hx=>nomatch hx),Nat.zero_le _,by simp[jq],by omega⟩
def Shp(N:Nat)(s:ByteArray)(L:List (List Pt)):Prop:=(∃e a:Int,e≠0∧(∀t l,ox N s≠some (t,l,0,0))∧L= [[.s wE,.e e,.i a]])∨
 ∃types l c op W S,ox N s=some (types,l,0,0)∧co N types=some 0∧l.length≤200∧ex N types l l.length c op∧((c.length≤9∧Hc N types l c∧Wit N types l c W∧W.length=3)∨(9 < c.length∧W= []))∧
  ((types.length=1∧XP N (types.getD 0 0) l S∧S.length≤1)∨(types.length≠1∧S= []))∧L= [.s wK,.i c.length]::(W++S)
def Rep(N:Nat)(s o:ByteArray):Prop:=∃L,KV L∧bs o=jq L∧Shp N s L
theorem Ko{N:Nat}(hN:10000 < N)(s:ByteArray)(aab: ∀types l,ox N s=some (types,l,0,0)→types.length=1→Chk N (types.getD 0 0) l):Wp (rp N s) fun o=>Rep N s o∧o.size≤4000000:=by
 unfold rp
 have hsb: ∀{o:ByteArray} {x:List UInt8},bs o=x→x≠ []→FD N o=some o:=fun h hx=>by
  unfold FD
  rw[if_neg]
  rw[nM,h]
  exact fun h0=>hx (List.eq_nil_of_length_eq_zero h0)
 have lnn: ∀ps,ln ps≠ []:=fun ps h=>by have:=congrArg List.length h;simp[ln]at this
 have z0:(⟨#[]⟩:ByteArray).size=0:=rfl
 refine .seq (AL hN) fun r hr hw=> .cond (fun he0=>?_) fun he0=>?_
 ·have he:r.2.2.2≠0:=by simpa using he0
  have hk:eJ r.2.2.2∧eJ r.2.2.1:=by
   have hcl:(bs s).count 10≤(bs s).length:=List.count_le_length
   have DW:=LH 10 (bs s)
   have Cr:=nM s
   rcases hw with⟨_,rfl⟩|⟨hs,⟨k,rfl,hB⟩|⟨types,l,q,hL,hq,hh⟩⟩
   ·exact⟨kg (by decide),jO⟩
   ·have:=hB.1
    exact⟨kg (x:=7) (by decide),kg (x:=(k:Int)) (by omega)⟩
   ·rcases hh with⟨_,rfl⟩|⟨_,_,_,p0,p1,rfl⟩|⟨_,rfl⟩
    ·exact⟨kg (by decide),jO⟩
    ·have h3:=congrArg List.length hL.ls
     simp only[List.length_cons,List.length_append,List.length_map,List.length_nil]at h3
     exact⟨(DX _ hq).G4,kg (by simp only;omega)⟩
    ·exact absurd rfl he
  have hp: ∀p∈ [Pt.s wE,Pt.e r.2.2.2,Pt.i r.2.2.1],rD p:=by
   intro p hp
   simp only[List.mem_cons,List.not_mem_nil,or_false]at hp
   rcases hp with rfl|rfl|rfl
   ·exact xy rfl
   ·exact hk.1
   ·exact hk.2
  refine .seq (AC 3 (by omega) hp (by simp) (by decide) (by rw[z0];omega)) fun o _ ⟨ho,hz⟩=> .bD (hsb (x:=ln [Pt.s wE,Pt.e r.2.2.2,Pt.i r.2.2.1]) (by rw[ho];rfl) (lnn _)) (.one ⟨⟨[[Pt.s wE,Pt.e r.2.2.2,Pt.i r.2.2.1]],?_,?_,.inl ⟨_,_,he,fun t l h=>he (by rw[hr]at h;cases h;rfl),rfl⟩⟩,?_⟩)
  ·intro x hx;rw[List.mem_singleton.1 hx];exact hp
  ·rw[ho];simp[jq,bs]
  ·rw[z0]at hz;omega
 ·have he:r.2.2.2=0:=by simpa using he0
  obtain⟨hs,hL,ahH,h1,q,hq,hq0⟩:=HU hN hr he
  obtain⟨types,l,a,e⟩:=r
  clear he0
  simp only at h1 he hL ahH hq
  subst h1 he
  obtain⟨q',Ft,h2⟩:=sG (N:=N) (types:=types) (l:=l) (by omega)
  rw[hq]at Ft
  cases Ft
  obtain⟨ht,_,hl,_,op,R⟩:=h2 hq0
  have hc:=nN (by omega) ht hl R
  have hcl:=R.wf.len
  generalize q.1=c at R hc hcl
  refine .bD hc ?_
  have hp: ∀p∈ [Pt.s wK,Pt.i (c.length:Int)],rD p:=by
   intro p hp
   simp only[List.mem_cons,List.not_mem_nil,or_false]at hp
   rcases hp with rfl|rfl
   ·exact xy rfl
   ·exact kg (by omega)
  refine .seq (AC 3 (by omega) hp (by simp) (by decide) (by rw[z0];omega)) fun o1 _ ⟨ho1,hz1⟩=>?_
  rw[z0]at hz1
  have e0:bs o1=jq [[Pt.s wK,Pt.i (c.length:Int)]]:=by rw[ho1];simp[jq,bs]
  refine .seq (P:=fun o=>∃W,((c.length≤9∧Hc N types l c∧Wit N types l c W∧W.length=3)∨(9 < c.length∧W= []))∧KV W∧bs o=bs o1++jq W∧o.size≤20000) (.cond (fun h9=>?_) fun h9=> .one ⟨[],.inr ⟨by have h9: ¬(c.length:Int)≤9:=of_decide_eq_false h9;omega,rfl⟩,(fun x hx=>nomatch hx),by simp[jq],by omega⟩) fun o2 _ ⟨W,hW,kW,e2,z2⟩=>?_
  ·have h9:c.length≤9:=by have h9:(c.length:Int)≤9:=of_decide_eq_true h9;omega
   have h9c:=G0 hc h9
   have H:Hc N types l c:=VK (by omega) h9c
   exact .seq (af5 (by omega) (by omega) h9c H) fun o _ ⟨W,w1,w2,w3,w4,w5⟩=> .one ⟨W,.inl ⟨h9,H,w1,w3⟩,w2,w4,by omega⟩
  have hne: ∀{o:ByteArray} {S:List (List Pt)},bs o=bs o2++jq S→FD N o=some o:=fun h=>hsb h (by
   rw[e2,e0]
   intro h
   have:=congrArg List.length h
   simp[jq,ln]at this)
  have fin: ∀{o:ByteArray} {S:List (List Pt)},bs o=bs o2++jq S→bs o=jq ([Pt.s wK,Pt.i (c.length:Int)]::(W++S)):=fun h=>by
   rw[h,e2,e0];simp[jq]
  have af7: ∀{S:List (List Pt)},KV S→KV ([Pt.s wK,Pt.i (c.length:Int)]::(W++S)):=fun hS x hx=>by
   rcases List.mem_cons.1 hx with rfl|hx
   ·exact hp
   ·rcases List.mem_append.1 hx with hx|hx
    ·exact kW x hx
    ·exact hS x hx
  refine .cond (fun h1=>?_) fun h1=>?_
  ·have h1:types.length=1:=by have h1:(types.length:Int)=1:=of_decide_eq_true h1;omega
   refine .fL 0 (by omega) (by simp only;omega) (.seq (af6 (by omega) (by omega) (aab _ _ hr h1)) fun o3 _ ⟨S,hS,kS,s1,e3,z3⟩=> .bD (hne e3) (.one ⟨⟨_,af7 kS,fin e3,.inr ⟨types,l,c,op,W,S,hr,ht,hl,R,hW,.inl ⟨h1,hS,s1⟩,rfl⟩⟩,by omega⟩))
  ·have h1:types.length≠1:=by have h1: ¬(types.length:Int)=1:=of_decide_eq_false h1;omega
   exact .bD (hne (S:=[]) (by simp[jq])) (.one ⟨⟨_,af7 (S:=[]) (fun x hx=>nomatch hx),fin (S:=[]) (by simp[jq]),.inr ⟨types,l,c,op,W,[],hr,ht,hl,R,hW,.inr ⟨h1,rfl⟩,rfl⟩⟩,by omega⟩)
end Vd
end Go.Proofs.YtjdkkabcenohcaaGreatDoor
set_option linter.unusedVariables false
set_option linter.unusedSimpArgs false
set_option linter.unusedSectionVars false
set_option maxRecDepth 100000
namespace Go.Proofs.YtjdkkabcenohcaaGreatDoor
open Go.RowKit
namespace Vd
open Tx Hs Sr
theorem af8{c:UInt8}: ∀{a b u v:List UInt8},c∉a→c∉b→a++c::u=b++c::v→a=b∧u=v
 | [],[],u,v,_,_,h=>⟨rfl,by simpa using h⟩
 | [],y::b,u,v,_,hb,h=>by
  simp only[List.nil_append,List.cons_append,List.cons.injEq]at h
  exact absurd (by rw[h.1];simp) hb
 |x::a,[],u,v,ha,_,h=>by
  simp only[List.nil_append,List.cons_append,List.cons.injEq]at h
  exact absurd (by rw[←h.1];simp) ha
 |x::a,y::b,u,v,ha,hb,h=>by
  simp only[List.cons_append,List.cons.injEq]at h
  have:=af8 (fun hh=>ha (by simp[hh])) (fun hh=>hb (by simp[hh])) h.2
  exact⟨by rw[h.1,this.1],this.2⟩
theorem adi{h:ByteArray}{p:Pt}{r:List Pt}{R:List (List Pt)}:(bs h++[32]).isPrefixOf (jq ((.s h::p::r)::R))=true:=by
 refine List.isPrefixOf_iff_prefix.2 ⟨jn 32 ((p::r).map qn)++[10]++jq R,?_⟩
 have e:jn 32 ((.s h::p::r:List Pt).map qn)=bs h++32::jn 32 ((p::r).map qn):=vJ (r:=(p::r).map qn) (by simp)
 unfold jq ln
 rw[List.flatMap_cons,e]
 simp only[List.append_assoc,List.cons_append,List.nil_append]
end Vd
end Go.Proofs.YtjdkkabcenohcaaGreatDoor
