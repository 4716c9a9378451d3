/- The report, plainly. -/
import Derived.Test.YtjdkkabcenohcaaGreatDoorP12
import Derived.Test.YtjdkkabcenohcaaGreatDoorVA
set_option linter.unusedVariables false
set_option linter.unusedSimpArgs false
set_option linter.unusedSectionVars false
set_option maxRecDepth 100000
namespace Go.Proofs.YtjdkkabcenohcaaGreatDoor
open Go.RowKit
namespace Sr
open Hs
theorem PC{types:List Int}{c:List Call}{q:Nat→Nat→Bool}: ∀{t:List Step} {S:List (List Int)} {w:List Nat},Pl types c q S w t→Ac c q w t
 | [],_,_,_=>trivial
 |s::t,S,w,⟨i,n,h1,h2,h3,h4,h5,_,h7⟩=>⟨i,h1,h2,h3,h4,h5,PC h7⟩
end Sr
namespace Vd
open Tx
def eM:Pt→List UInt8
 | .s x=>bs x
 | .i x=>it x
 | .e x=>it x
def kc:Pt→Prop
 | .s x=>(10:UInt8)∉bs x∧x.size≤100
 | .i x=>bR x
 | .e x=>bR x
theorem GL{n:Int}(h:bR n):(it n).length≤20:=by
 unfold bR at h
 unfold it Lib.itoa
 split
 ·have:=uB 18 n.natAbs (by simp;omega)
  simp;omega
 ·have:=uB 18 n.toNat (by simp;omega)
  omega
theorem GM{N:Nat}{n:Int}(h:bR n):pF N n=some (Tx.fj (it n)):=by
 unfold pF bR at *
 rw[if_pos h];rfl
theorem B7{p:Pt}(h:kc p):(eM p).length≤100:=by
 cases p with
 |s x=>have:=h.2;rw[k9]at this;exact this
 |i x=>have:=GL (n:=x) h;simp only[eM];omega
 |e x=>have:=GL (n:=x) h;simp only[eM];omega
theorem W4{p:Pt}(h:kc p):(10:UInt8)∉eM p:=by
 cases p with
 |s x=>exact h.1
 |i x=>exact yF (.inr rfl)
 |e x=>exact yF (.inr rfl)
theorem xW{N:Nat}{a b:ByteArray}(h:a.size+b.size≤10000000):B5 N a b=some (a++b):=by
 unfold B5
 rw[if_pos (by omega)]
theorem N'(a b:ByteArray):(a++b).size=a.size+b.size:=ByteArray.size_append
theorem C1{c:UInt8}: ∀{a:List (List UInt8)} {x:List UInt8},jn c (a++[x])=if a= []then x else jn c a++c::x
 | [],x=>rfl
 | [a],x=>rfl
 |a::b::r,x=>by
  have:=C1 (c:=c) (a:=b::r) (x:=x)
  rw[if_neg (by simp)]at this⊢
  rw[List.cons_append,pj (by simp),pj (by simp),this]
  simp
theorem J0{c d:UInt8}(h:c≠d): ∀{a:List (List UInt8)},(∀x∈a,d∉x)→d∉jn c a
 | [],_=>by simp[jn]
 | [x],H=>H x (by simp)
 |x::y::r,H=>by
  have:=J0 h (a:=y::r) fun z hz=>H z (by simp[hz])
  have hx:=H x (by simp)
  simp only[jn,List.mem_append,List.mem_cons,not_or]
  exact⟨hx,Ne.symm h,this⟩
theorem B8{c:UInt8}: ∀{a:List (List UInt8)},(∀x∈a,x.length≤100)→(jn c a).length≤101 * a.length
 | [],_=>by simp[jn]
 | [x],H=>by have:=H x (by simp);simp only[jn,List.length_singleton];omega
 |x::y::r,H=>by
  have:=B8 (c:=c) (a:=y::r) fun z hz=>H z (by simp[hz])
  have hx:=H x (by simp)
  simp only[jn,List.length_append,List.length_cons]at this⊢
  omega
theorem R_{N:Nat}{r:ByteArray}{ps:List Pt}(hN:ps.length < N)(hp: ∀p∈ps,kc p)(hl:ps.length≤2000)(hr:r.size≤1000000):
  Wp (bL N r ps) fun o=>bs o=bs r++jn 32 (ps.map eM)++[10]:=by
 unfold bL
 refine .seq (P:=fun o=>bs o=bs r++jn 32 (ps.map eM)) (.iter ps.length (fun k s=>s.2=(k:Int)∧bs s.1=bs r++jn 32 ((ps.take k).map eM)) hN ⟨rfl,by simp[jn]⟩ ?_ ?_) fun o _ ho=>?_
 ·rintro k ⟨o,v⟩ hk ⟨hv,ho⟩
  simp only at hv ho
  subst hv
  simp only[jC]
  have htk:ps.take (k+1)=ps.take k++[ps[k]]:=by rw[List.take_add_one,List.getElem?_eq_getElem hk];rfl
  have hP:=hp _ (List.getElem_mem hk)
  have hj:=B8 (c:=32) (a:=(ps.take k).map eM) fun x hx=>by
   obtain⟨p,hp',rfl⟩:=List.mem_map.1 hx
   exact B7 (hp p (List.mem_of_mem_take hp'))
  have hos:o.size≤1202000:=by
   rw[k9,ho,List.length_append,←k9]
   rw[List.length_map,List.length_take]at hj
   omega
  refine .aF (decide_eq_true (by omega)) (.ix hk ?_)
  generalize ps[k]=p at hP htk⊢
  have Yj:(⟨#[32]⟩:ByteArray).size=1:=rfl
  refine .seq (P:=fun o'=>o'.size≤1202001∧bs o'++eM p=bs r++jn 32 ((ps.take (k+1)).map eM)) (.cond (fun h=> .aZ (xW (by rw[Yj];omega)) (.one ⟨by rw[N',Yj];omega,?_⟩)) (fun h=> .one ⟨by omega,?_⟩)) fun o' _ ho'=>?_
  ·have h:=of_decide_eq_true h
   rw[htk,List.map_append,List.map_singleton,C1,if_neg (by intro h0;have:=congrArg List.length h0;rw[List.length_map,List.length_take,List.length_nil]at this;omega),uz,ho]
   simp[bs]
  ·have h:=of_decide_eq_false h
   obtain rfl:k=0:=by omega
   rw[htk,List.map_append,List.map_singleton,C1,if_pos (by simp),ho]
   simp[jn]
  ·have hpl:=B7 hP
   cases p with
   |s x=>
    refine .aF rfl (.aZ (xW (by have:=hP.2;simp only[HI];omega)) (.aV (by omega) (.one ⟨by simp,?_⟩)))
    rw[←ho'.2];exact uz _ _
   |i x=>
    refine .aw rfl (.aF rfl (.aZ (GM hP) (.aZ (xW (by rw[Tx.rr];simp only[eM]at hpl;simp only[Bc,Bd];omega)) (.aV (by omega) (.one ⟨by simp,?_⟩)))))
    rw[←ho'.2];simp only[uz,gf,eM,Bc,Bd]
   |e x=>
    refine .aw rfl (.aw rfl (.aF rfl (.aZ (GM hP) (.aZ (xW (by rw[Tx.rr];simp only[eM]at hpl;simp only[Bc,Bd];omega)) (.aV (by omega) (.one ⟨by simp,?_⟩))))))
    rw[←ho'.2];simp only[uz,gf,eM,Bc,Bd]
 ·rintro⟨o,v⟩ ⟨hv,ho⟩
  simp only at hv ho
  subst hv
  simp only[jC]
  exact .aw (decide_eq_false (by omega)) (.one (by rw[List.take_length]at ho;exact ho))
 ·have hj:=B8 (c:=32) (a:=ps.map eM) fun x hx=>by
   obtain⟨p,hp',rfl⟩:=List.mem_map.1 hx
   exact B7 (hp p hp')
  rw[List.length_map]at hj
  have s10:(⟨#[10]⟩:ByteArray).size=1:=rfl
  have hos:o.size≤1202000:=by
   rw[k9,ho,List.length_append,←k9];omega
  exact .aZ (xW (by rw[s10];omega)) (.one (by rw[uz,ho];rfl))
end Vd
namespace Vd
open Tx Hs Sr
abbrev wT:ByteArray:=⟨#[116,105,109,101]⟩
abbrev wP:ByteArray:=⟨#[112,101,111,112,108,101]⟩
abbrev wC:ByteArray:=⟨#[99,97,108,109]⟩
abbrev wB:ByteArray:=⟨#[98,97,100]⟩
abbrev wE:ByteArray:=⟨#[101,114,114,111,114]⟩
abbrev wN:ByteArray:=⟨#[110,111,110,101]⟩
abbrev wK:ByteArray:=⟨#[99,97,108,108,115]⟩
def ln(ps:List Pt):List UInt8:=jn 32 (ps.map eM)++[10]
def lc(L:List (List Pt)):List UInt8:=L.flatMap ln
def zD(L:List (List Pt)):Prop:=∀ps∈L,∀p∈ps,kc p
theorem oU{x:ByteArray}(h:((!(bs x).contains 10)&&decide (x.size≤100))=true):kc (.s x):=by
 simp only[Bool.and_eq_true,decide_eq_true_eq,Bool.not_eq_true',List.contains_eq_mem,decide_eq_false_iff_not]at h
 exact h
theorem VP{ps:List Pt}(hp: ∀p∈ps,kc p):(ln ps).length≤101 * ps.length+1:=by
 have:=B8 (c:=32) (a:=ps.map eM) fun x hx=>by
  obtain⟨p,h,rfl⟩:=List.mem_map.1 hx
  exact B7 (hp p h)
 unfold ln
 rw[List.length_append]
 rw[List.length_map]at this
 simp only[List.length_singleton]
 omega
theorem qR{N:Nat}(k:Nat){r:ByteArray}{ps:List Pt}(hN:5000 < N)(hp: ∀p∈ps,kc p)(hl:ps.length≤k)(hk:k≤2000)(hr:r.size≤1000000):
  Wp (bL N r ps) fun o=>bs o=bs r++ln ps∧o.size≤r.size+101 * k+1:=
 (R_ (by omega) hp (by omega) hr).mono fun o ho=>by
  have h:bs o=bs r++ln ps:=by rw[ho,List.append_assoc];rfl
  refine⟨h,?_⟩
  have:=VP hp
  rw[k9,h,List.length_append,←k9]
  omega
def yN(b:Bool):ByteArray:=cond b ⟨#[121]⟩ ⟨#[110]⟩
theorem GN{N:Nat}{b:Bool}:mP N b=some (yN b):=by cases b<;>rfl
theorem Yk{b:Bool}:kc (.s (yN b)):=by cases b<;>exact oU rfl
def sb(w:List Step):List Pt:=w.flatMap fun s=>[.i s.call,.i s.res]
theorem C2: ∀w:List Step,(sb w).length=2 * w.length
 | []=>rfl
 |s::w=>by
  have:=C2 w
  unfold sb at *
  simp only[List.flatMap_cons,List.length_append,List.length_cons,List.length_nil]
  omega
theorem Sa(a b:List Step):sb (a++b)=sb a++sb b:=by unfold sb;rw[List.flatMap_append]
theorem Oa{N:Nat}{r:List Step×Bool×Int}{p0:List Pt}(hN:5000 < N)(hl:r.1.length≤1000)(h0:p0.length≤10):iter (eK N r) N (p0,0)=some (p0++sb r.1):=by
 refine Wp.eq (.iter r.1.length (fun k s=>s.2=(k:Int)∧s.1=p0++sb (r.1.take k)) (by omega) ⟨rfl,by simp[sb]⟩ ?_ ?_)
 ·rintro k ⟨p,v⟩ hk ⟨hv,hp⟩
  simp only at hv hp
  subst hv hp
  simp only[eK]
  have htk:r.1.take (k+1)=r.1.take k++[r.1[k]]:=by rw[List.take_add_one,List.getElem?_eq_getElem hk];rfl
  have hlen:(sb (r.1.take k)).length=2 * k:=by rw[C2,List.length_take];omega
  refine .aF (decide_eq_true (by omega)) (.ix hk (.ck (cC ⟨?_,?_⟩) (.aV (by omega) (.one ⟨by simp,?_⟩))))
  ·simp only[List.length_append,hlen,List.length_cons,List.length_nil]
   exact Nat.le_trans (m:=10000) (by omega) (by decide)
  ·simp only[List.length_append,hlen,List.length_cons,List.length_nil]
   omega
  ·rw[htk,Sa,←List.append_assoc];rfl
 ·rintro⟨p,v⟩ ⟨hv,hp⟩
  simp only at hv hp
  subst hv hp
  simp only[eK]
  exact .aw (decide_eq_false (by omega)) (.one (by rw[List.take_length]))
theorem LP{types:List Int}{c:List Call}{q:Nat→Nat→Bool}: ∀{t:List Step} {S:List (List Int)} {w:List Nat},Pl types c q S w t→∀s∈t,(∃i:Nat,s.call=(i:Int)∧i < c.length)∧ -1≤s.res∧s.res≤1000
 | [],_,_,_,s,h=>by cases h
 |a::t,S,w,⟨i,n,h1,h2,h3,h4,h5,h6,h7⟩,s,hs=>by
  rcases List.mem_cons.1 hs with rfl|hs
  ·exact⟨⟨i,h1,h2⟩,Vy h6⟩
  ·exact LP h7 s hs
theorem Sb{types:List Int}{c:List Call}{q:Nat→Nat→Bool}{x:List Step}{b:Bool}(h:wq types c q x b)(hc:c.length≤1000):x.length≤c.length∧∀s∈x,bR s.call∧bR s.res:=by
 rcases h with⟨_,⟨g,_⟩,_⟩|⟨_,rfl,_⟩
 ·refine⟨(PC g).len,fun s hs=>?_⟩
  obtain⟨⟨i,h1,h2⟩,h3⟩:=LP g s hs
  exact⟨by rw[h1];exact ua h2 hc,fd (by omega)⟩
 ·exact⟨Nat.zero_le _,by simp⟩
def GP(b b2 b3:Bool)(w:List Step):List (List Pt):=[.s wT:: .s (yN b)::sb w,[.s wP,.s (yN b2)],[.s wC,.s (yN b3)]]
def VQ(N:Nat)(types:List Int)(l:List Event)(c:List Call)(W:List (List Pt)):Prop:=
 ∃w b x b2 y b3,dw N types l=some (w,b,0)∧wq types c (cO c) w b∧wq types c (BJ c) x b2∧wq types c (DA (mt l l.length).1) y b3∧W=GP b b2 b3 w
theorem VR{N:Nat}{types:List Int}{l:List Event}{c:List Call}(hN:5000 < N){r:ByteArray}(hr:r.size≤100000)(hc:dm N types l=some (c,0))(H:Hc N types l c):
  Wp (fE N r types l) fun o=>∃W,VQ N types l c W∧zD W∧W.length=3∧bs o=bs r++lc W∧o.size≤r.size+10000:=by
 have hf:=H.BH
 unfold fE
 refine .seq (pq (by omega) hc) fun q hq ⟨h0,_,h1⟩=> .aZ GN ?_
 have F1:=h1 rfl H
 obtain⟨g1,g2⟩:=Sb F1 (by omega)
 refine .aZ (Oa hN (by omega) (by simp)) ?_
 have hp1: ∀p∈([Pt.s wT,Pt.s (yN q.2.1)]++sb q.1),kc p:=fun p hp=>by
  rcases List.mem_append.1 hp with hp|hp
  ·rcases List.mem_cons.1 hp with rfl|hp
   ·exact oU rfl
   ·rw[List.mem_singleton.1 hp];exact Yk
  ·obtain⟨s,hs,hp⟩:=List.mem_flatMap.1 hp
   rcases List.mem_cons.1 hp with rfl|hp
   ·exact(g2 s hs).1
   ·rw[List.mem_singleton.1 hp];exact(g2 s hs).2
 have hl1:([Pt.s wT,Pt.s (yN q.2.1)]++sb q.1).length≤20:=by
  rw[List.length_append,C2];simp only[List.length_cons,List.length_nil];omega
 have hp2: ∀{x:ByteArray} {b:Bool},kc (.s x)→∀p∈ [Pt.s x,Pt.s (yN b)],kc p:=fun hx p hp=>by
  rcases List.mem_cons.1 hp with rfl|hp
  ·exact hx
  ·rw[List.mem_singleton.1 hp];exact Yk
 refine .seq (qR 20 hN hp1 hl1 (by decide) (by omega)) fun o1 _ ⟨e1,z1⟩=> .seq (M5 (by omega) hc) fun q2 _ ⟨_,_,h2⟩=> .aZ GN (.seq (qR 2 hN (hp2 (oU rfl)) (by simp) (by decide) (by omega)) fun o2 _ ⟨e2,z2⟩=> .seq (M6 (by omega) hc) fun q3 _ ⟨_,_,h3⟩=> .aZ GN (.seq (qR 2 hN (hp2 (oU rfl)) (by simp) (by decide) (by omega)) fun o3 _ ⟨e3,z3⟩=> .one ⟨GP q.2.1 q2.2.1 q3.2.1 q.1,⟨q.1,q.2.1,q2.1,q2.2.1,q3.1,q3.2.1,?_,F1,h2 rfl H,h3 rfl H,rfl⟩,?_,rfl,?_,?_⟩))
 ·rw[hq]
  obtain⟨a,b,d⟩:=q
  have h0:d=0:=h0
  rw[h0]
 ·intro ps hps
  simp only[GP,List.mem_cons,List.not_mem_nil,or_false]at hps
  rcases hps with rfl|rfl|rfl
  ·exact hp1
  ·exact hp2 (oU rfl)
  ·exact hp2 (oU rfl)
 ·rw[e3,e2,e1]
  simp only[lc,GP,List.flatMap_cons,List.flatMap_nil,List.append_nil,List.append_assoc,List.cons_append,List.nil_append]
 ·omega
def zF(ok:Bool)(b:bq)(e:Int):List Pt:=if e≠0 then [.s wB,.s wE,.e e]else if ok=true then [.s wB,.s wN]else [.s wB,.i b.kind,.i b.a,.i b.b]
theorem GQ{N:Nat}(hN:5000 < N){r:ByteArray}(hr:r.size≤200000){q:Bool×Int×Int×Int×Int}(h:Rs q):Wp (fe N r q.1 (bq.mk q.2.1 q.2.2.1 q.2.2.2.1) q.2.2.2.2) fun o=>bs o=bs r++lc [zF q.1 ⟨q.2.1,q.2.2.1,q.2.2.2.1⟩ q.2.2.2.2]∧zD [zF q.1 ⟨q.2.1,q.2.2.1,q.2.2.2.1⟩ q.2.2.2.2]∧o.size≤r.size+300000:=by
 obtain⟨h1,h2,h3,h4⟩:=h
 have l1: ∀ps:List Pt,lc [ps]=ln ps:=fun ps=>by simp[lc]
 have lk: ∀ps:List Pt,(∀p∈ps,kc p)→zD [ps]:=fun ps h x hx=>by rw[List.mem_singleton.1 hx];exact h
 unfold fe zF
 refine .cond (fun he=>?_) (fun he=> .cond (fun hk=>?_) fun hk=>?_)
 ·have he:q.2.2.2.2≠0:=by simpa using he
  have hp: ∀p∈ [Pt.s wB,Pt.s wE,Pt.e q.2.2.2.2],kc p:=by
   intro p hp
   simp only[List.mem_cons,List.not_mem_nil,or_false]at hp
   rcases hp with rfl|rfl|rfl
   ·exact oU rfl
   ·exact oU rfl
   ·exact h4
  rw[if_pos he,l1]
  exact .seq (qR 4 hN hp (by simp) (by decide) (by omega)) fun o _ ho=> .one ⟨ho.1,lk _ hp,by have:=ho.2;omega⟩
 ·have he:q.2.2.2.2=0:=by simpa using he
  have hp: ∀p∈ [Pt.s wB,Pt.s wN],kc p:=by
   intro p hp
   simp only[List.mem_cons,List.not_mem_nil,or_false]at hp
   rcases hp with rfl|rfl
   ·exact oU rfl
   ·exact oU rfl
  rw[if_neg (by simp[he]),if_pos hk,l1]
  exact .seq (qR 4 hN hp (by simp) (by decide) (by omega)) fun o _ ho=> .one ⟨ho.1,lk _ hp,by have:=ho.2;omega⟩
 ·have he:q.2.2.2.2=0:=by simpa using he
  have hp: ∀p∈ [Pt.s wB,Pt.i q.2.1,Pt.i q.2.2.1,Pt.i q.2.2.2.1],kc p:=by
   intro p hp
   simp only[List.mem_cons,List.not_mem_nil,or_false]at hp
   rcases hp with rfl|rfl|rfl|rfl
   ·exact oU rfl
   ·exact h1
   ·exact h2
   ·exact h3
  rw[if_neg (by simp[he]),if_neg (by simp[hk]),l1]
  exact .seq (qR 4 hN hp (by simp) (by decide) (by omega)) fun o _ ho=> .one ⟨ho.1,lk _ hp,by have:=ho.2;omega⟩
def GR(n:List Int)(e:Int):List Pt:=(if e≠0 then [.s wB,.s wE,.e e]else if n= []then [.s wB,.s wN]else [.s wB])++n.map .i
theorem Sc{N:Nat}{r:List Int×Int}{p0:List Pt}(hN:5000 < N)(hl:r.1.length≤1001)(h0:p0.length≤10):iter (eV N r) N (p0,0)=some (p0++r.1.map .i):=by
 refine Wp.eq (.iter r.1.length (fun k s=>s.2=(k:Int)∧s.1=p0++(r.1.take k).map .i) (by omega) ⟨rfl,by simp⟩ ?_ ?_)
 ·rintro k ⟨p,v⟩ hk ⟨hv,hp⟩
  simp only at hv hp
  subst hv hp
  simp only[eV]
  have htk:r.1.take (k+1)=r.1.take k++[r.1[k]]:=by rw[List.take_add_one,List.getElem?_eq_getElem hk];rfl
  have hlen:(r.1.take k).length=k:=by rw[List.length_take];omega
  refine .aF (decide_eq_true (by omega)) (.ix hk (.ck (cC ⟨?_,?_⟩) (.aV (by omega) (.one ⟨by simp,?_⟩))))
  ·simp only[List.length_append,List.length_map,hlen,List.length_cons,List.length_nil]
   exact Nat.le_trans (m:=10000) (by omega) (by decide)
  ·simp only[List.length_append,List.length_map,hlen,List.length_cons,List.length_nil]
   omega
  ·rw[htk,List.map_append,←List.append_assoc];rfl
 ·rintro⟨p,v⟩ ⟨hv,hp⟩
  simp only at hv hp
  subst hv hp
  simp only[eV]
  exact .aw (decide_eq_false (by omega)) (.one (by rw[List.take_length]))
theorem W5{N:Nat}(hN:5000 < N){r:ByteArray}(hr:r.size≤200000){l:List Event}(hb:Wp (dV N l) Eb):Wp (fS N r l) fun o=>∃q,dV N l=some q∧bs o=bs r++lc [GR q.1 q.2]∧zD [GR q.1 q.2]∧o.size≤r.size+300000:=by
 unfold fS
 refine .seq hb fun q hq ⟨h1,h2,h3,h4⟩=> .seq (P:=fun p=>p=(if q.2≠0 then [.s wB,.s wE,.e q.2]else if q.1= []then [.s wB,.s wN]else [.s wB])) (.cond (fun he=> .ck (by rfl) (.one ?_)) fun he=> .cond (fun hn=> .ck (by rfl) (.one ?_)) fun hn=> .one ?_) fun p _ hp=>?_
 ·rw[if_pos (by simpa using he)];rfl
 ·rw[if_neg (by simpa using he),if_pos (List.eq_nil_of_length_eq_zero (by have:=of_decide_eq_true hn;omega))];rfl
 ·rw[if_neg (by simpa using he),if_neg (by rintro h;rw[h]at hn;simp at hn)]
 ·have Yl:p.length≤10∧∀x∈p,kc x:=by
   subst hp
   split
   ·refine⟨by simp,fun x hx=>?_⟩
    simp only[List.mem_cons,List.not_mem_nil,or_false]at hx
    rcases hx with rfl|rfl|rfl
    ·exact oU rfl
    ·exact oU rfl
    ·exact h1
   ·split
    ·refine⟨by simp,fun x hx=>?_⟩
     simp only[List.mem_cons,List.not_mem_nil,or_false]at hx
     rcases hx with rfl|rfl
     ·exact oU rfl
     ·exact oU rfl
    ·refine⟨by simp,fun x hx=>?_⟩
     rw[List.mem_singleton.1 hx];exact oU rfl
  have hall: ∀x∈p++q.1.map Pt.i,kc x:=fun x hx=>by
   rcases List.mem_append.1 hx with hx|hx
   ·exact Yl.2 x hx
   ·obtain⟨n,hn,rfl⟩:=List.mem_map.1 hx
    exact h4 n hn
  have he:GR q.1 q.2=p++q.1.map Pt.i:=by rw[hp];rfl
  refine .aZ (Sc hN h3 Yl.1) (.seq (qR 1100 hN hall (by rw[List.length_append,List.length_map];omega) (by decide) (by omega)) fun o _ ho=> .one ⟨q,hq,?_,?_,?_⟩)
  ·rw[he,ho.1];simp[lc]
  ·rw[he];intro x hx;rw[List.mem_singleton.1 hx];exact hall
  ·have:=ho.2;omega
def VS(N:Nat)(typ:Int)(l:List Event):Prop:=(typ=1→Wp (fk N l) Rs)∧(typ=2→Wp (dU N l) Rs)∧(typ=5→Wp (ch N l) Rs)∧(typ=4→Wp (dV N l) Eb)
def LQ(N:Nat)(typ:Int)(l:List Event)(S:List (List Pt)):Prop:=
 (typ=1∧∃q,fk N l=some q∧S= [zF q.1 ⟨q.2.1,q.2.2.1,q.2.2.2.1⟩ q.2.2.2.2])∨(typ=2∧∃q,dU N l=some q∧S= [zF q.1 ⟨q.2.1,q.2.2.1,q.2.2.2.1⟩ q.2.2.2.2])∨
 (typ=5∧∃q,ch N l=some q∧S= [zF q.1 ⟨q.2.1,q.2.2.1,q.2.2.2.1⟩ q.2.2.2.2])∨(typ=4∧∃q,dV N l=some q∧S= [GR q.1 q.2])∨(typ≠1∧typ≠2∧typ≠4∧typ≠5∧S= [])
theorem VT{N:Nat}(hN:5000 < N){r:ByteArray}(hr:r.size≤200000){typ:Int}{l:List Event}(hk:VS N typ l):Wp (gY N r typ l) fun o=>∃S,LQ N typ l S∧zD S∧S.length≤1∧bs o=bs r++lc S∧o.size≤r.size+300000:=by
 unfold gY LQ
 refine .cond (fun h=>?_) fun n1=> .cond (fun h=>?_) fun n2=> .cond (fun h=>?_) fun n5=> .cond (fun h=>?_) fun n4=> .one ?_
 ·exact .seq (hk.1 (of_decide_eq_true h)) fun q hq hR=> .seq (GQ hN hr hR) fun o _ ho=> .one ⟨_,.inl ⟨of_decide_eq_true h,q,hq,rfl⟩,ho.2.1,Nat.le_refl _,ho.1,ho.2.2⟩
 ·exact .seq (hk.2.1 (of_decide_eq_true h)) fun q hq hR=> .seq (GQ hN hr hR) fun o _ ho=> .one ⟨_,.inr (.inl ⟨of_decide_eq_true h,q,hq,rfl⟩),ho.2.1,Nat.le_refl _,ho.1,ho.2.2⟩
 ·exact .seq (hk.2.2.1 (of_decide_eq_true h)) fun q hq hR=> .seq (GQ hN hr hR) fun o _ ho=> .one ⟨_,.inr (.inr (.inl ⟨of_decide_eq_true h,q,hq,rfl⟩)),ho.2.1,Nat.le_refl _,ho.1,ho.2.2⟩
 ·exact .seq (W5 hN hr (hk.2.2.2 (of_decide_eq_true h))) fun o _ ⟨q,hq,h1,h2,h3⟩=> .one ⟨_,.inr (.inr (.inr (.inl ⟨of_decide_eq_true h,q,hq,rfl⟩))),h2,Nat.le_refl _,h1,h3⟩
 ·exact⟨[],.inr (.inr (.inr (.inr ⟨of_decide_eq_false n1,of_decide_eq_false n2,of_decide_eq_false n4,of_decide_eq_false n5,rfl⟩))),(fun x hx=>nomatch hx),Nat.zero_le _,by simp[lc],by omega⟩
def Ym(N:Nat)(s:ByteArray)(L:List (List Pt)):Prop:=(∃e a:Int,e≠0∧(∀t l,kl N s≠some (t,l,0,0))∧L= [[.s wE,.e e,.i a]])∨
 ∃types l c op W S,kl N s=some (types,l,0,0)∧bo N types=some 0∧l.length≤200∧cn N types l l.length c op∧((c.length≤9∧Hc N types l c∧VQ N types l c W∧W.length=3)∨(9 < c.length∧W= []))∧
  ((types.length=1∧LQ N (types.getD 0 0) l S∧S.length≤1)∨(types.length≠1∧S= []))∧L= [.s wK,.i c.length]::(W++S)
def Rep(N:Nat)(s o:ByteArray):Prop:=∃L,zD L∧bs o=lc L∧Ym N s L
theorem BF{N:Nat}(hN:10000 < N)(s:ByteArray)(aau: ∀types l,kl N s=some (types,l,0,0)→types.length=1→VS N (types.getD 0 0) l):Wp (jD N s) fun o=>Rep N s o∧o.size≤4000000:=by
 unfold jD
 have hsb: ∀{o:ByteArray} {x:List UInt8},bs o=x→x≠ []→DL N o=some o:=fun h hx=>by
  unfold DL
  rw[if_neg]
  rw[k9,h]
  exact fun h0=>hx (List.eq_nil_of_length_eq_zero h0)
 have lnn: ∀ps,ln ps≠ []:=fun ps h=>by have:=congrArg List.length h;simp[ln]at this
 have z0:(⟨#[]⟩:ByteArray).size=0:=rfl
 refine .seq (uN hN) fun r hr hw=> .cond (fun PD=>?_) fun PD=>?_
 ·have he:r.2.2.2≠0:=by simpa using PD
  have hk:bR r.2.2.2∧bR r.2.2.1:=by
   have hcl:(bs s).count 10≤(bs s).length:=List.count_le_length
   have X_:=Co 10 (bs s)
   have XL:=k9 s
   rcases hw with⟨_,rfl⟩|⟨hs,⟨k,rfl,hB⟩|⟨types,l,q,hL,hq,hh⟩⟩
   ·exact⟨fd (by decide),eR⟩
   ·have:=hB.1
    exact⟨fd (x:=7) (by decide),fd (x:=(k:Int)) (by omega)⟩
   ·rcases hh with⟨_,rfl⟩|⟨_,_,_,p0,p1,rfl⟩|⟨_,rfl⟩
    ·exact⟨fd (by decide),eR⟩
    ·have h3:=congrArg List.length hL.ls
     simp only[List.length_cons,List.length_append,List.length_map,List.length_nil]at h3
     exact⟨(uO _ hq).xU,fd (by simp only;omega)⟩
    ·exact absurd rfl he
  have hp: ∀p∈ [Pt.s wE,Pt.e r.2.2.2,Pt.i r.2.2.1],kc p:=by
   intro p hp
   simp only[List.mem_cons,List.not_mem_nil,or_false]at hp
   rcases hp with rfl|rfl|rfl
   ·exact oU rfl
   ·exact hk.1
   ·exact hk.2
  refine .seq (qR 3 (by omega) hp (by simp) (by decide) (by rw[z0];omega)) fun o _ ⟨ho,hz⟩=> .aZ (hsb (x:=ln [Pt.s wE,Pt.e r.2.2.2,Pt.i r.2.2.1]) (by rw[ho];rfl) (lnn _)) (.one ⟨⟨[[Pt.s wE,Pt.e r.2.2.2,Pt.i r.2.2.1]],?_,?_,.inl ⟨_,_,he,fun t l h=>he (by rw[hr]at h;cases h;rfl),rfl⟩⟩,?_⟩)
  ·intro x hx;rw[List.mem_singleton.1 hx];exact hp
  ·rw[ho];simp[lc,bs]
  ·rw[z0]at hz;omega
 ·have he:r.2.2.2=0:=by simpa using PD
  obtain⟨hs,hL,W6,h1,q,hq,Px⟩:=yV hN hr he
  obtain⟨types,l,a,e⟩:=r
  clear PD
  simp only at h1 he hL W6 hq
  subst h1 he
  obtain⟨q',Hu,h2⟩:=lR (N:=N) (types:=types) (l:=l) (by omega)
  rw[hq]at Hu
  cases Hu
  obtain⟨ht,_,hl,_,op,R⟩:=h2 Px
  have hc:=pn (by omega) ht hl R
  have hcl:=R.wf.len
  generalize q.1=c at R hc hcl
  refine .aZ hc ?_
  have hp: ∀p∈ [Pt.s wK,Pt.i (c.length:Int)],kc p:=by
   intro p hp
   simp only[List.mem_cons,List.not_mem_nil,or_false]at hp
   rcases hp with rfl|rfl
   ·exact oU rfl
   ·exact fd (by omega)
  refine .seq (qR 3 (by omega) hp (by simp) (by decide) (by rw[z0];omega)) fun o1 _ ⟨ho1,hz1⟩=>?_
  rw[z0]at hz1
  have e0:bs o1=lc [[Pt.s wK,Pt.i (c.length:Int)]]:=by rw[ho1];simp[lc,bs]
  refine .seq (P:=fun o=>∃W,((c.length≤9∧Hc N types l c∧VQ N types l c W∧W.length=3)∨(9 < c.length∧W= []))∧zD W∧bs o=bs o1++lc W∧o.size≤20000) (.cond (fun h9=>?_) fun h9=> .one ⟨[],.inr ⟨by have h9: ¬(c.length:Int)≤9:=of_decide_eq_false h9;omega,rfl⟩,(fun x hx=>nomatch hx),by simp[lc],by omega⟩) fun o2 _ ⟨W,hW,kW,e2,z2⟩=>?_
  ·have h9:c.length≤9:=by have h9:(c.length:Int)≤9:=of_decide_eq_true h9;omega
   have Yn:=DI hc h9
   have H:Hc N types l c:=Ps (by omega) Yn
   exact .seq (VR (by omega) (by omega) Yn H) fun o _ ⟨W,w1,w2,w3,w4,w5⟩=> .one ⟨W,.inl ⟨h9,H,w1,w3⟩,w2,w4,by omega⟩
  have hne: ∀{o:ByteArray} {S:List (List Pt)},bs o=bs o2++lc S→DL N o=some o:=fun h=>hsb h (by
   rw[e2,e0]
   intro h
   have:=congrArg List.length h
   simp[lc,ln]at this)
  have fin: ∀{o:ByteArray} {S:List (List Pt)},bs o=bs o2++lc S→bs o=lc ([Pt.s wK,Pt.i (c.length:Int)]::(W++S)):=fun h=>by
   rw[h,e2,e0];simp[lc]
  have VU: ∀{S:List (List Pt)},zD S→zD ([Pt.s wK,Pt.i (c.length:Int)]::(W++S)):=fun hS x hx=>by
   rcases List.mem_cons.1 hx with rfl|hx
   ·exact hp
   ·rcases List.mem_append.1 hx with hx|hx
    ·exact kW x hx
    ·exact hS x hx
  refine .cond (fun h1=>?_) fun h1=>?_
  ·have h1:types.length=1:=by have h1:(types.length:Int)=1:=of_decide_eq_true h1;omega
   refine .cT 0 (by omega) (by simp only;omega) (.seq (VT (by omega) (by omega) (aau _ _ hr h1)) fun o3 _ ⟨S,hS,kS,s1,e3,z3⟩=> .aZ (hne e3) (.one ⟨⟨_,VU kS,fin e3,.inr ⟨types,l,c,op,W,S,hr,ht,hl,R,hW,.inl ⟨h1,hS,s1⟩,rfl⟩⟩,by omega⟩))
  ·have h1:types.length≠1:=by have h1: ¬(types.length:Int)=1:=of_decide_eq_false h1;omega
   exact .aZ (hne (S:=[]) (by simp[lc])) (.one ⟨⟨_,VU (S:=[]) (fun x hx=>nomatch hx),fin (S:=[]) (by simp[lc]),.inr ⟨types,l,c,op,W,[],hr,ht,hl,R,hW,.inr ⟨h1,rfl⟩,rfl⟩⟩,by omega⟩)
end Vd
end Go.Proofs.YtjdkkabcenohcaaGreatDoor
