import Derived.Test.YtjdkkabcenohcaaGreatDoorWs4
import Derived.Test.YtjdkkabcenohcaaGreatDoorP4
set_option linter.unusedVariables false
set_option linter.unusedSimpArgs false
set_option linter.unusedSectionVars false
set_option maxRecDepth 100000
namespace Go.Proofs.YtjdkkabcenohcaaGreatDoor
open Go.RowKit
namespace Si
structure M where
 sites:List Site
 aa:List ab
 aJ:List aK
 events:List Event
def M.who(m:M)(w:Nat):ab:=m.aa.getD w ab.z
def M.aB(m:M)(i:Nat):aK:=m.aJ.getD i aK.z
def M.site(m:M)(i:Nat):Site:=m.sites.getD i Site.z
def iz(a b:bM):Prop:=a.stamp < b.stamp∨(a.stamp=b.stamp∧a.who < b.who)
instance(a b:bM):Decidable (iz a b):=by unfold iz;infer_instance
def fF(p:ab)(store:Bool)(t:bM)(v:Int):ab:=⟨p.program,p.pending,p.round+1,store,0,if store then t else⟨-1,-1⟩,if store then v else 0⟩
def batch(n:Nat)(who round:Int)(store:Bool)(t:bM)(v:Int):List aK:=(List.range n).map fun(s:Nat)=>⟨who,round,(s:Int),store,t,v,false,false⟩
def start(m:M)(w:Nat)(store:Bool)(t:bM)(v:Int):M:=⟨m.sites,m.aa.set w (fF (m.who w) store t v),m.aJ++batch m.sites.length w ((m.who w).round+1) store t v,m.events⟩
def je(p:ab):ab:=⟨p.program,true,p.round,p.store,p.bj,p.best,p.value⟩
def call(m:M)(w:Nat):M:=match(m.who w).program with
 | []=>m
 |a::_=>if(m.who w).pending=true then m else start ⟨m.sites,m.aa.set w (je (m.who w)),m.aJ,m.events++[⟨w,0,a.kind,a.arg⟩]⟩ w false ⟨0,0⟩ 0
def kK(l:aK)(t:bM)(v:Int):aK:=⟨l.who,l.round,l.site,l.store,t,v,true,l.received⟩
def hand(m:M)(i:Int):M:=
 if 0≤i∧i < m.aJ.length then
  if(m.aB i.toNat).ce=true∨(m.site (m.aB i.toNat).site.toNat).down=true then m
  else if(m.aB i.toNat).store=false then {m with aJ:=m.aJ.set i.toNat (kK (m.aB i.toNat) ⟨(m.site (m.aB i.toNat).site.toNat).stamp,(m.site (m.aB i.toNat).site.toNat).who⟩ (m.site (m.aB i.toNat).site.toNat).value)}
  else if iz ⟨(m.site (m.aB i.toNat).site.toNat).stamp,(m.site (m.aB i.toNat).site.toNat).who⟩ (m.aB i.toNat).tag then {m with sites:=m.sites.set (m.aB i.toNat).site.toNat ⟨(m.aB i.toNat).tag.stamp,(m.aB i.toNat).tag.who,(m.aB i.toNat).value,(m.site (m.aB i.toNat).site.toNat).down⟩,aJ:=m.aJ.set i.toNat (kK (m.aB i.toNat) (m.aB i.toNat).tag (m.aB i.toNat).value)}
  else {m with aJ:=m.aJ.set i.toNat (kK (m.aB i.toNat) (m.aB i.toNat).tag (m.aB i.toNat).value)}
 else m
def rY(p:ab):ab:=⟨p.program.drop 1,false,p.round+1,p.store,p.bj,p.best,p.value⟩
def f_(m:M)(w:Nat)(res:Int):M:={m with aa:=m.aa.set w (rY (m.who w)),events:=m.events++[⟨w,0,0,res⟩]}
def next(bt:Bool)(m:M)(w:Nat):M:=match(m.who w).program with
 | []=>m
 |a::_=>
  if(m.who w).store=true∧a.kind=1 then f_ m w 0
  else if(m.who w).store=true∨(a.kind≠1∧bt=true)then f_ m w (m.who w).value
  else if a.kind=1 then start m w true ⟨(m.who w).best.stamp+1,w⟩ a.arg
  else start m w true (m.who w).best (m.who w).value
def got(l:aK):aK:=⟨l.who,l.round,l.site,l.store,l.tag,l.value,l.ce,true⟩
def countP(p:ab)(l:aK):ab:=
 if l.store=false∧iz p.best l.tag then⟨p.program,p.pending,p.round,p.store,p.bj+1,l.tag,l.value⟩else⟨p.program,p.pending,p.round,p.store,p.bj+1,p.best,p.value⟩
def back(bt:Bool)(m:M)(i:Int):M:=
 if 0≤i∧i < m.aJ.length then
  if(m.aB i.toNat).ce=false∨(m.aB i.toNat).received=true then m
  else if(m.who (m.aB i.toNat).who.toNat).pending=false∨(m.aB i.toNat).round≠(m.who (m.aB i.toNat).who.toNat).round then {m with aJ:=m.aJ.set i.toNat (got (m.aB i.toNat))}
  else if(m.sites.length:Int) < 2 * ((m.who (m.aB i.toNat).who.toNat).bj+1)then next bt ⟨m.sites,m.aa.set (m.aB i.toNat).who.toNat (countP (m.who (m.aB i.toNat).who.toNat) (m.aB i.toNat)),m.aJ.set i.toNat (got (m.aB i.toNat)),m.events⟩ (m.aB i.toNat).who.toNat
  else⟨m.sites,m.aa.set (m.aB i.toNat).who.toNat (countP (m.who (m.aB i.toNat).who.toNat) (m.aB i.toNat)),m.aJ.set i.toNat (got (m.aB i.toNat)),m.events⟩
 else m
def down(m:M)(i:Nat):M:={m with sites:=m.sites.set i ⟨(m.site i).stamp,(m.site i).who,(m.site i).value,true⟩}
def act(bt:Bool)(m:M)(a:Act):M:=if a.kind=1 then call m a.a.toNat else if a.kind=2 then hand m a.a else if a.kind=3 then back bt m a.a else down m a.a.toNat
structure Inv(np n k:Nat)(m:M):Prop where
 sl:m.sites.length=n
 pl:m.aa.length=np
 pend: ∀p∈m.aa,p.pending=true→p.program≠ []
 CK: ∀p∈m.aa,(0≤p.round∧p.round≤k)∧(0≤p.bj∧p.bj≤k)∧(-1≤p.best.stamp∧p.best.stamp≤k)
 lt: ∀l∈m.aJ,(0≤l.who∧l.who < np)∧(0≤l.site∧l.site < n)∧(-1≤l.tag.stamp∧l.tag.stamp≤k)
 st: ∀s∈m.sites,-1≤s.stamp∧s.stamp≤k
 ll:m.aJ.length≤5 * k
 ev:m.events.length≤k
theorem mem_set{α:Type}{l:List α}{i:Nat}{a x:α}(h:x∈l.set i a):x=a∨x∈l:=by
 rcases List.mem_or_eq_of_mem_set h with h|h
 ·exact .inr h
 ·exact .inl h
theorem iO{α:Type}{l:List α}{i:Nat}{d:α}(h:i < l.length):l.getD i d∈l:=by rw[aW h];exact List.getElem_mem h
theorem Inv.later{np n k:Nat}{m:M}(h:Inv np n k m):Inv np n (k+1) m:=
 ⟨h.sl,h.pl,h.pend,fun p hp=>by have:=h.CK p hp;omega,fun l hl=>by have:=h.lt l hl;omega,fun s hs=>by have:=h.st s hs;omega,by have:=h.ll;omega,by have:=h.ev;omega⟩
theorem IB{α:Type}{l:List α}{i:Nat}(d:α)(h:i < l.length):ix l (i:Int)=some (l.getD i d):=by rw[El h,aW h]
theorem ixs{α:Type}{l:List α}{i:Nat}{a:α}(h:i < l.length):ix (l.set i a) (i:Int)=some a:=by rw[O3,List.getElem?_set_self h]
theorem Lf{N:Nat}(hN:300 < N)(a b:bM): ∃r,q9 N a b=some r∧(0 < r↔iz b a):=by
 have hc: ∀x y:Int,cmp_Compare_int N x y=some (if x < y then -1 else if y < x then 1 else 0):=by
  intro x y
  unfold cmp_Compare_int cmp_isNaN_int
  by_cases h1:x < y
  ·simp[bd,h1]
  ·by_cases h2:y < x
   ·simp[bd,h1,h2]
   ·simp[bd,h1,h2]
 have ho: ∀x y:Int,AD N [x,y]=some (if x≠0 then x else y):=by
  intro x y
  obtain⟨K,rfl⟩: ∃K,N=K+3:=⟨N - 3,by omega⟩
  unfold AD
  by_cases h1:x=0
  ·subst h1
   by_cases h2:y=0
   ·subst h2
    simp[iter,uN,ix,bd,ck,bB]
   ·simp[iter,uN,ix,bd,ck,bB,h2]
  ·simp[iter,uN,ix,bd,h1]
 unfold q9
 rw[hc,hc]
 simp only[bZ]
 rw[ho]
 refine⟨_,rfl,?_⟩
 unfold iz
 by_cases h1:a.stamp < b.stamp
 ·simp[h1];try omega
 ·by_cases h2:b.stamp < a.stamp
  ·simp[h1,h2]
  ·simp only[h1,h2,if_false]
   by_cases h3:a.who < b.who
   ·simp[h3];try omega
   ·by_cases h4:b.who < a.who
    ·simp[h3,h4];try omega
    ·simp[h3,h4];try omega
theorem Bv{N:Nat}(hN:300 < N)(bt:Bool){m:M}{w:Nat}(hw:w < m.aa.length)(hs:m.sites.length≤5)(hl:m.aJ.length≤100000)(hr:0≤(m.who w).round∧(m.who w).round≤100000)(ev:List Event)(store:Bool)(t:bM)(v:Int):
  kJ N bt m.sites m.aa m.aJ ev w store t v=some ((start m w store t v).aa,(start m w store t v).aJ):=by
 unfold kJ
 rw[IB ab.z hw,bZ]
 change ck (bB ((m.who w).round+1)) _=_
 rw[bK (by omega)]
 have hc: ∀(b:Bool) (x y:List ab),(bif b then some x else some y)=some (bif b then x else y):=fun b x y=>by cases b<;>rfl
 have hb: ∀P:List ab,P=m.aa.set w (fF (m.who w) store t v)→(iter (oX N m.sites P (w:Int) store t v) N (m.aJ,0))=some (P,m.aJ++batch m.sites.length w ((m.who w).round+1) store t v):=by
  rintro P rfl
  refine Wp.eq (.iter m.sites.length (fun k st=>st=(m.aJ++batch k w ((m.who w).round+1) store t v,(k:Int))) (by omega) (by simp[batch]) ?_ ?_)
  ·rintro k st hk rfl
   simp only[oX]
   refine .bg (decide_eq_true (by omega)) (.bD (ixs (by simpa using hw)) (.ck (eT ⟨?_,?_⟩) (.bK (by omega) (.one ?_))))
   ·simp[batch];exact Nat.le_trans (m:=200000) (by omega) (by unfold maxLen;decide)
   ·simp[batch];omega
   ·refine Prod.ext ?_ (by simp)
    show _=m.aJ++batch (k+1) w ((m.who w).round+1) store t v
    unfold batch
    rw[List.range_succ,List.map_append,←List.append_assoc]
    rfl
  ·rintro st rfl
   simp only[oX]
   exact .aL (decide_eq_false (by omega)) (.one rfl)
 cases store with
 |true=>
  simp only[cond_true,bZ]
  rw[hb _ (by simp[List.set_set,fF,M.who])]
  simp[bd,start,List.set_set,fF,M.who]
 |false=>
  simp only[cond_false,bZ]
  rw[hb _ (by simp[List.set_set,fF,M.who])]
  simp[bd,start,List.set_set,fF,M.who]
theorem Yl{n:Nat}{w r:Int}{store:Bool}{t:bM}{v:Int}{l:aK}(h:l∈batch n w r store t v):l.who=w∧l.round=r∧(0≤l.site∧l.site < n)∧l.store=store∧l.tag=t∧l.value=v∧l.ce=false∧l.received=false:=by
 obtain⟨s,hs,rfl⟩:=List.mem_map.1 h
 have:=List.mem_range.1 hs
 exact⟨rfl,rfl,⟨by simp,by simp only;omega⟩,rfl,rfl,rfl,rfl,rfl⟩
theorem NG{np n k:Nat}{m:M}(h:Inv np n k m)(hn:n≤5){w:Nat}(hw:w < np){store:Bool}{t:bM}{v:Int}(ht: -1≤t.stamp∧t.stamp≤k+1):Inv np n (k+1) (start m w store t v):=by
 have hpl:=h.pl
 have hm:=iO (d:=ab.z) (show w < m.aa.length by omega)
 have hr:=h.CK _ hm
 have hp:=h.pend _ hm
 have hl:=h.later
 have DW:=h.ll
 refine⟨h.sl,by simpa[start]using hpl,fun p hp'=>?_,fun p hp'=>?_,fun l hl'=>?_,hl.st,?_,hl.ev⟩
 ·rcases mem_set hp' with rfl|hp'
  ·exact hp
  ·exact h.pend p hp'
 ·rcases mem_set hp' with rfl|hp'
  ·unfold fF M.who
   refine⟨by simp only;omega,by simp only;omega,?_⟩
   cases store
   ·simp only[Bool.false_eq_true,if_false];omega
   ·simp only[if_true];omega
  ·exact hl.CK p hp'
 ·rcases List.mem_append.1 hl' with hl'|hl'
  ·exact hl.lt l hl'
  ·obtain⟨e1,_,e2,_,e3,_⟩:=Yl hl'
   have:=h.sl
   rw[e1,e3]
   omega
 ·have:=h.sl
  show(m.aJ++batch _ _ _ _ _ _).length≤_
  rw[List.length_append]
  simp only[batch,List.length_map,List.length_range]
  omega
theorem adK{N:Nat}(hN:300 < N)(bt:Bool){np n k:Nat}{m:M}(h:Inv np n k m)(hn:n≤5)(hk:k≤2600){w:Nat}(hw:w < np):
  tV N bt m.sites m.aa m.aJ m.events w=some ((call m w).aa,(call m w).aJ,(call m w).events)∧Inv np n (k+1) (call m w)∧(call m w).sites=m.sites∧∃e,(call m w).events=m.events++e∧e.length≤1∧∀x∈e,x.kind∈(m.who w).program.map (·.kind):=by
 have hpl:=h.pl
 have hw':w < m.aa.length:=by omega
 have hm:=iO (d:=ab.z) hw'
 have hr:=h.CK _ hm
 have hp:=h.pend _ hm
 have hev:=h.ev
 have DW:=h.ll
 have vN:=h.sl
 unfold tV call
 rw[IB ab.z hw',bZ]
 have hwp:m.aa.getD w ab.z=m.who w:=rfl
 rw[hwp]at hr hp⊢
 cases hprog:(m.who w).program with
 |nil=>
  simp only[List.length_nil,Bool.or_true,Int.natCast_zero,decide_true,cond_true]
  exact⟨trivial,h.later,trivial,[],by simp⟩
 |cons a rest=>
  have e0:decide (((a::rest:List Ask).length:Int)=0)=false:=decide_eq_false (by simp;omega)
  rw[e0,Bool.or_false]
  cases hpe:(m.who w).pending with
  |true=>
   simp only[cond_true,if_true]
   exact⟨trivial,h.later,trivial,[],by simp⟩
  |false=>
   simp only[cond_false,Bool.false_eq_true,if_false]
   have e1:ix (a::rest) 0=some a:=rfl
   have key: ∀m1:M,m1=⟨m.sites,m.aa.set w (je (m.who w)),m.aJ,m.events++[⟨w,0,a.kind,a.arg⟩]⟩→Inv np n k ⟨m1.sites,m1.aa,m1.aJ,m.events⟩∧(m1.who w)=je (m.who w):=by
    rintro m1 rfl
    refine⟨⟨h.sl,by simpa using hpl,fun p hp'=>?_,fun p hp'=>?_,h.lt,h.st,h.ll,h.ev⟩,?_⟩
    ·rcases mem_set hp' with rfl|hp'
     ·intro _;simp[je,hprog]
     ·exact h.pend p hp'
    ·rcases mem_set hp' with rfl|hp'
     ·exact hr
     ·exact h.CK p hp'
    ·unfold M.who;simp[hw']
   obtain⟨hi1,hw1⟩:=key _ rfl
   rw[Int.toNat_natCast]
   have hs:=Bv hN bt (m:=⟨m.sites,m.aa.set w (je (m.who w)),m.aJ,m.events++[⟨w,0,a.kind,a.arg⟩]⟩) (w:=w) (by simpa using hw') (by simp only;omega) (by simp only;omega) (by rw[hw1];unfold je;simp only;omega) (m.events++[⟨w,0,a.kind,a.arg⟩]) false ⟨0,0⟩ 0
   refine⟨?_,?_,rfl,⟨_,rfl,by simp,by simp⟩⟩
   ·rw[e1,bZ,O0 (by simp;omega) (by simp;omega)]
    have e2:(ab.mk (a::rest) true (m.who w).round (m.who w).store (m.who w).bj (m.who w).best (m.who w).value)=je (m.who w):=by unfold je;rw[hprog]
    dsimp only at hs
    rw[e2,hs]
    rfl
   ·have hi2:=NG hi1 hn hw (store:=false) (t:=⟨0,0⟩) (v:=0) (by simp only;omega)
    exact⟨hi2.sl,hi2.pl,hi2.pend,hi2.CK,hi2.lt,hi2.st,hi2.ll,by show(m.events++[_]).length≤_;simp;omega⟩
theorem adL{N:Nat}(hN:300 < N)(bt:Bool){np n k:Nat}{m:M}(h:Inv np n k m)(i:Int):
  tW N bt m.sites m.aa m.aJ m.events i=some ((hand m i).sites,(hand m i).aJ)∧Inv np n (k+1) (hand m i)∧(hand m i).aa=m.aa∧(hand m i).events=m.events:=by
 unfold tW hand
 by_cases hi:0≤i∧i < m.aJ.length
 rotate_left
 ·rw[if_neg hi]
  have e:(decide (i < 0)||decide ((m.aJ.length:Int)≤i))=true:=by simp;omega
  rw[e]
  exact⟨rfl,h.later,rfl,rfl⟩
 rw[if_pos hi]
 have e:(decide (i < 0)||decide ((m.aJ.length:Int)≤i))=false:=by simp;omega
 rw[e,cond_false]
 obtain⟨j,rfl⟩: ∃j:Nat,i=j:=⟨i.toNat,by omega⟩
 have hj:j < m.aJ.length:=by omega
 simp only[Int.toNat_natCast]
 rw[IB aK.z hj,bZ]
 have hm:=iO (d:=aK.z) hj
 have hl:=h.lt _ hm
 have hlj:m.aJ.getD j aK.z=m.aB j:=rfl
 rw[hlj]at hl hm⊢
 generalize m.aB j=l at hl hm⊢
 have vN:=h.sl
 obtain⟨q,hq⟩: ∃q:Nat,l.site=q:=⟨l.site.toNat,by omega⟩
 have hqn:q < m.sites.length:=by omega
 rw[hq,IB Site.z hqn,bZ,Int.toNat_natCast]
 have TL:=iO (d:=Site.z) hqn
 have hst:=h.st _ TL
 have RO:m.sites.getD q Site.z=m.site q:=rfl
 rw[RO]at hst TL⊢
 generalize m.site q=s at hst TL⊢
 by_cases hd:l.ce=true∨s.down=true
 ·rw[if_pos hd]
  have:(l.ce||s.down)=true:=by simpa using hd
  rw[this]
  exact⟨rfl,h.later,rfl,rfl⟩
 rw[if_neg hd]
 have e2:(l.ce||s.down)=false:=by simpa using hd
 rw[e2,cond_false]
 have hL:=h.later
 have keep: ∀(t:bM) (v:Int),(-1≤t.stamp∧t.stamp≤(k:Int))→∀S:List Site,S.length=n→(∀s∈S,-1≤s.stamp∧s.stamp≤k)→Inv np n (k+1) ⟨S,m.aa,m.aJ.set j (kK l t v),m.events⟩:=by
  intro t v ht S hS hS2
  refine⟨hS,h.pl,h.pend,hL.CK,fun x hx=>?_,fun s hs=>by have:=hS2 s hs;omega,by simpa using hL.ll,hL.ev⟩
  rcases mem_set hx with rfl|hx
  ·unfold kK;simp only;omega
  ·exact hL.lt x hx
 cases aaz:l.store with
 |false=>
  rw[if_pos rfl]
  refine⟨?_,keep _ _ hst _ h.sl h.st,rfl,rfl⟩
  simp[kK,hq,aaz]
 |true=>
  rw[if_neg (by simp)]
  simp only[Bool.not_true,cond_false]
  obtain⟨r,hr,hr2⟩:=Lf hN l.tag ⟨s.stamp,s.who⟩
  rw[hr,bZ]
  by_cases ht:iz ⟨s.stamp,s.who⟩ l.tag
  ·rw[if_pos ht,decide_eq_true (hr2.2 ht),cond_true]
   refine⟨?_,keep _ _ (by omega) _ (by simpa using h.sl) (fun x hx=>?_),rfl,rfl⟩
   ·simp[kK,hq,aaz]
   ·rcases mem_set hx with rfl|hx
    ·simp only;omega
    ·exact h.st x hx
  ·rw[if_neg ht,decide_eq_false (fun h=>ht (hr2.1 h)),cond_false]
   refine⟨?_,keep _ _ (by omega) _ h.sl h.st,rfl,rfl⟩
   simp[kK,hq,aaz]
theorem adM{N:Nat}(hN:300 < N)(bt:Bool){np n k:Nat}{m:M}(h:Inv np n k ⟨m.sites,m.aa,m.aJ,m.events⟩)(hn:n≤5)(hk:k≤2600){w:Nat}(hw:w < np)(hp:(m.who w).program≠ []):
  nz N bt m.sites m.aa m.aJ m.events w=some ((next bt m w).aa,(next bt m w).aJ,(next bt m w).events)∧Inv np n (k+1) (next bt m w)∧(next bt m w).sites=m.sites∧∃e,(next bt m w).events=m.events++e∧e.length≤1:=by
 have hpl:=h.pl
 have hw':w < m.aa.length:=by simpa using(by simp only at hpl;omega)
 have hm:=iO (d:=ab.z) hw'
 have hr:=h.CK _ hm
 have hev:m.events.length≤k:=h.ev
 have DW:m.aJ.length≤5 * k:=h.ll
 have vN:m.sites.length=n:=h.sl
 have hwp:m.aa.getD w ab.z=m.who w:=rfl
 rw[hwp]at hr
 have hL:=h.later
 have resp: ∀res,(mQ N bt m.sites m.aa m.aJ m.events w res=some (f_ m w res).aa)∧Inv np n (k+1) (f_ m w res):=by
  intro res
  unfold mQ
  rw[IB ab.z hw',bZ,hwp,O0 (by simp;omega) (by simp;omega),bK (by omega)]
  have e2:pB (m.who w).program.length 1 ((m.who w).program.length:Int)=true:=by
   cases hq:(m.who w).program with
   |nil=>exact(hp hq).elim
   |cons a r=>simp[pB];omega
  rw[jr e2]
  refine⟨by simp[f_,rY,List.set_set],hL.sl,by simpa[f_]using hpl,fun p hp'=>?_,fun p hp'=>?_,hL.lt,hL.st,hL.ll,by show(m.events++[_]).length≤_;simp;omega⟩
  ·rcases mem_set hp' with rfl|hp'
   ·intro e;cases e
   ·exact h.pend p hp'
  ·rcases mem_set hp' with rfl|hp'
   ·unfold rY;simp only;omega
   ·exact hL.CK p hp'
 have agR: ∀(t:bM) (v:Int),(-1≤t.stamp∧t.stamp≤(k:Int)+1)→kJ N bt m.sites m.aa m.aJ m.events w true t v=some ((start m w true t v).aa,(start m w true t v).aJ)∧Inv np n (k+1) (start m w true t v):=by
  intro t v ht
  exact⟨Bv hN bt hw' (by omega) (by omega) (by omega) _ _ _ _,NG h hn hw ht⟩
 unfold nz Si.next
 rw[IB ab.z hw',bZ,hwp]
 cases hq:(m.who w).program with
 |nil=>exact(hp hq).elim
 |cons a rest=>
  have e1:ix (a::rest) 0=some a:=rfl
  simp only
  rw[e1,bZ]
  by_cases hs:(m.who w).store=true
  ·by_cases ha:a.kind=1
   ·rw[if_pos ⟨hs,ha⟩,hs,decide_eq_true ha]
    obtain⟨h1,h2⟩:=resp 0
    rw[h1]
    exact⟨rfl,h2,rfl,_,rfl,by simp⟩
   ·rw[if_neg (fun e=>ha e.2),if_pos (.inl hs),hs,decide_eq_false ha]
    obtain⟨h1,h2⟩:=resp (m.who w).value
    rw[h1]
    exact⟨rfl,h2,rfl,_,rfl,by simp⟩
  ·have hs':(m.who w).store=false:=by simpa using hs
   rw[if_neg (fun e=>hs e.1),hs']
   by_cases ha:a.kind=1
   ·rw[if_neg (by rintro(e|e);exact absurd e (by simp);exact e.1 ha),if_pos ha,decide_eq_true ha]
    obtain⟨h1,h2⟩:=agR ⟨(m.who w).best.stamp+1,w⟩ a.arg (by simp only;omega)
    simp only[Bool.false_and,cond_false,Bool.not_true,Bool.or_self,cond_true]
    rw[bK (by omega),h1]
    exact⟨rfl,h2,rfl,[],by simp[start]⟩
   ·cases bt with
    |true=>
     rw[if_pos (.inr ⟨ha,rfl⟩),decide_eq_false ha]
     obtain⟨h1,h2⟩:=resp (m.who w).value
     simp only[Bool.false_and,cond_false,Bool.not_false,Bool.and_self,Bool.or_true,cond_true]
     rw[h1]
     exact⟨rfl,h2,rfl,_,rfl,by simp⟩
    |false=>
     rw[if_neg (by rintro(e|e);exact absurd e (by simp);exact absurd e.2 (by simp)),if_neg ha,decide_eq_false ha]
     obtain⟨h1,h2⟩:=agR (m.who w).best (m.who w).value (by omega)
     simp only[Bool.false_and,cond_false,Bool.not_false,Bool.and_false,Bool.or_self]
     rw[h1]
     exact⟨rfl,h2,rfl,[],by simp[start]⟩
theorem countP_eq(p:ab)(l:aK):(countP p l).program=p.program∧(countP p l).pending=p.pending∧(countP p l).round=p.round∧(countP p l).bj=p.bj+1∧((countP p l).best=p.best∨(countP p l).best=l.tag):=by
 unfold countP
 split
 ·exact⟨rfl,rfl,rfl,rfl,.inr rfl⟩
 ·exact⟨rfl,rfl,rfl,rfl,.inl rfl⟩
def fG(m:M)(j:Nat):M:=⟨m.sites,m.aa.set (m.aB j).who.toNat (countP (m.who (m.aB j).who.toNat) (m.aB j)),m.aJ.set j (got (m.aB j)),m.events⟩
theorem adN{np n k:Nat}{m:M}(h:Inv np n k m){j:Nat}(hj:j < m.aJ.length):Inv np n (k+1) {m with aJ:=m.aJ.set j (got (m.aB j))}∧Inv np n (k+1) (fG m j)∧(fG m j).who (m.aB j).who.toNat=countP (m.who (m.aB j).who.toNat) (m.aB j):=by
 have hm:=iO (d:=aK.z) hj
 have hl:=h.lt _ hm
 have hlj:m.aJ.getD j aK.z=m.aB j:=rfl
 rw[hlj]at hl hm
 unfold fG
 generalize m.aB j=l at hl hm⊢
 have hpl:=h.pl
 obtain⟨w,hw⟩: ∃w:Nat,l.who=w:=⟨l.who.toNat,by omega⟩
 have hwn:w < m.aa.length:=by omega
 have hmp:=iO (d:=ab.z) hwn
 have hr:=h.CK _ hmp
 have hpe:=h.pend _ hmp
 have hwp:m.aa.getD w ab.z=m.who w:=rfl
 rw[hw,Int.toNat_natCast]
 rw[hwp]at hr hpe
 have hL:=h.later
 have RZ: ∀x∈m.aJ.set j (got l),(0≤x.who∧x.who < np)∧(0≤x.site∧x.site < n)∧(-1≤x.tag.stamp∧x.tag.stamp≤((k+1:Nat):Int)):=by
  intro x hx
  rcases mem_set hx with rfl|hx
  ·unfold got;simp only;omega
  ·have:=h.lt x hx;omega
 obtain⟨c1,c2,c3,c4,c5⟩:=countP_eq (m.who w) l
 refine⟨⟨hL.sl,hL.pl,hL.pend,hL.CK,RZ,hL.st,by simpa using hL.ll,hL.ev⟩,⟨hL.sl,by simpa using hL.pl,fun p hp'=>?_,fun p hp'=>?_,RZ,hL.st,by simpa using hL.ll,hL.ev⟩,by unfold M.who;simp[hwn]⟩
 ·rcases mem_set hp' with rfl|hp'
  ·rw[c1,c2];exact hpe
  ·exact h.pend p hp'
 ·rcases mem_set hp' with rfl|hp'
  ·rw[c3,c4]
   rcases c5 with e|e<;>rw[e]<;>omega
  ·exact hL.CK p hp'
theorem back_eq(bt:Bool)(m:M)(i:Int):back bt m i=if 0≤i∧i < m.aJ.length then
  if(m.aB i.toNat).ce=false∨(m.aB i.toNat).received=true then m
  else if(m.who (m.aB i.toNat).who.toNat).pending=false∨(m.aB i.toNat).round≠(m.who (m.aB i.toNat).who.toNat).round then {m with aJ:=m.aJ.set i.toNat (got (m.aB i.toNat))}
  else if(m.sites.length:Int) < 2 * ((m.who (m.aB i.toNat).who.toNat).bj+1)then Si.next bt (fG m i.toNat) (m.aB i.toNat).who.toNat
  else fG m i.toNat
 else m:=rfl
theorem adO{N:Nat}(hN:300 < N)(bt:Bool){np n k:Nat}{m:M}(h:Inv np n k m)(hn:n≤5)(hk:k≤2500)(i:Int):
  tX N bt m.sites m.aa m.aJ m.events i=some ((back bt m i).aa,(back bt m i).aJ,(back bt m i).events)∧Inv np n (k+2) (back bt m i)∧(back bt m i).sites=m.sites∧∃e,(back bt m i).events=m.events++e∧e.length≤1:=by
 rw[back_eq]
 unfold tX
 by_cases hi:0≤i∧i < m.aJ.length
 rotate_left
 ·rw[if_neg hi]
  have e:(decide (i < 0)||decide ((m.aJ.length:Int)≤i))=true:=by simp;omega
  rw[e]
  exact⟨rfl,h.later.later,rfl,[],by simp⟩
 rw[if_pos hi]
 have e:(decide (i < 0)||decide ((m.aJ.length:Int)≤i))=false:=by simp;omega
 rw[e,cond_false]
 obtain⟨j,rfl⟩: ∃j:Nat,i=j:=⟨i.toNat,by omega⟩
 have hj:j < m.aJ.length:=by omega
 simp only[Int.toNat_natCast]
 rw[IB aK.z hj,bZ]
 obtain⟨g1,g2,g3⟩:=adN h hj
 have hm:=iO (d:=aK.z) hj
 have hl:=h.lt _ hm
 have hlj:m.aJ.getD j aK.z=m.aB j:=rfl
 rw[hlj]at hl hm⊢
 by_cases hd:(m.aB j).ce=false∨(m.aB j).received=true
 ·rw[if_pos hd]
  have:(!(m.aB j).ce||(m.aB j).received)=true:=by simpa using hd
  rw[this]
  exact⟨rfl,h.later.later,rfl,[],by simp⟩
 rw[if_neg hd]
 have e2:(!(m.aB j).ce||(m.aB j).received)=false:=by simpa using hd
 rw[e2,cond_false]
 have hpl:=h.pl
 obtain⟨w,hw⟩: ∃w:Nat,(m.aB j).who=w:=⟨(m.aB j).who.toNat,by omega⟩
 have hwn:w < m.aa.length:=by omega
 have hmp:=iO (d:=ab.z) hwn
 have hr:=h.CK _ hmp
 have hwp:m.aa.getD w ab.z=m.who w:=rfl
 rw[hwp]at hr
 have e0:ix m.aa (m.aB j).who=some (m.who w):=by rw[hw,IB ab.z hwn,hwp]
 rw[e0,bZ]
 have e3:(aK.mk (m.aB j).who (m.aB j).round (m.aB j).site (m.aB j).store (m.aB j).tag (m.aB j).value (m.aB j).ce true)=got (m.aB j):=rfl
 rw[e3]
 have hwt:(m.aB j).who.toNat=w:=by omega
 rw[hwt]at g3⊢
 by_cases hc:(m.who w).pending=false∨(m.aB j).round≠(m.who w).round
 ·rw[if_pos hc]
  have:(!(m.who w).pending|| !decide ((m.aB j).round=(m.who w).round))=true:=by simpa using hc
  rw[this]
  exact⟨rfl,g1.later,rfl,[],by simp⟩
 rw[if_neg hc]
 have e4:(!(m.who w).pending|| !decide ((m.aB j).round=(m.who w).round))=false:=by simpa using hc
 rw[e4,cond_false,bK (by omega)]
 have h_:(m.who w).pending=true:=by
  cases hq:(m.who w).pending with
  |true=>rfl
  |false=>exact(hc (.inl hq)).elim
 obtain⟨c1,c2,c3,c4,c5⟩:=countP_eq (m.who w) (m.aB j)
 have hgp:(fG m j).aa=m.aa.set w (countP (m.who w) (m.aB j)):=by unfold fG;rw[hwt]
 have hgl:(fG m j).aJ=m.aJ.set j (got (m.aB j)):=rfl
 have vN:=h.sl
 have akr: ∀b,b=decide ((m.sites.length:Int) < 2 * ((m.who w).bj+1))→∀r:M,r=(if(m.sites.length:Int) < 2 * ((m.who w).bj+1)then Si.next bt (fG m j) w else fG m j)→
   (Inv np n (k+2) r∧r.sites=m.sites∧∃e,r.events=m.events++e∧e.length≤1)∧((bif b then bd (ix ((m.aJ.set j (got (m.aB j)))) (j:Int)) fun(x24:aK)=>bd (nz N bt m.sites (fG m j).aa (m.aJ.set j (got (m.aB j))) m.events x24.who) fun oo=>some (oo.1,oo.2.1,oo.2.2)else some ((fG m j).aa,m.aJ.set j (got (m.aB j)),m.events))=some (r.aa,r.aJ,r.events)):=by
  rintro b rfl r rfl
  by_cases R0:(m.sites.length:Int) < 2 * ((m.who w).bj+1)
  rotate_left
  ·rw[if_neg R0,decide_eq_false R0]
   exact⟨⟨g2.later,rfl,[],by simp[fG]⟩,rfl⟩
  rw[if_pos R0,decide_eq_true R0,cond_true,ixs hj,bZ]
  have e5:(got (m.aB j)).who=w:=hw
  obtain⟨n1,n2,n3,n4⟩:=adM hN bt (m:=fG m j) (w:=w) g2 hn (by omega) (by omega) (by rw[g3,c1];exact h.pend _ hmp h_)
  rw[e5]
  have n1':nz N bt m.sites (fG m j).aa (m.aJ.set j (got (m.aB j))) m.events w=_:=n1
  rw[n1']
  exact⟨⟨n2,n3,n4⟩,rfl⟩
 obtain⟨h1,h2⟩:=akr _ rfl _ rfl
 refine⟨?_,h1⟩
 refine Eq.trans ?_ h2
 obtain⟨r0,pV⟩: ∃r0,(some ((if(m.sites.length:Int) < 2 * ((m.who w).bj+1)then Si.next bt (fG m j) w else fG m j).aa,(if(m.sites.length:Int) < 2 * ((m.who w).bj+1)then Si.next bt (fG m j) w else fG m j).aJ,(if(m.sites.length:Int) < 2 * ((m.who w).bj+1)then Si.next bt (fG m j) w else fG m j).events):Option _)=some r0:=⟨_,rfl⟩
 rw[pV]at h2
 rw[h2]
 refine Wp.eq (.seq (P:=fun P=>P=(fG m j).aa) ?_ fun P _ hP=>?_)
 ·obtain⟨r,za,hr2⟩:=Lf hN (m.aB j).tag (m.who w).best
  rw[hgp]
  unfold countP
  cases hs:(m.aB j).store with
  |true=>
   refine .bD (a:=0) rfl (.aL rfl (.one ?_))
   rw[if_neg (fun e=>by cases e.1)]
  |false=>
   refine .bD (a:=r) za ?_
   by_cases ht:iz (m.who w).best (m.aB j).tag
   ·rw[if_pos ⟨rfl,ht⟩]
    refine .bg (by simpa using hr2.2 ht) (.one ?_)
    rw[List.set_set,List.set_set]
   ·rw[if_neg (fun e=>ht e.2)]
    refine .aL ?_ (.one rfl)
    have: ¬0 < r:=fun e=>ht (hr2.1 e)
    simpa using this
 ·subst hP
  have e6:ix (fG m j).aa (m.aB j).who=some (countP (m.who w) (m.aB j)):=by rw[hgp,hw,ixs hwn]
  refine .bD e6 ?_
  rw[c4]
  exact .bK (by omega) ⟨_,h2,rfl⟩
theorem adP{np n k:Nat}{m:M}(h:Inv np n k m){i:Nat}(hi:i < n):ix m.sites (i:Int)=some (m.site i)∧Inv np n (k+1) (down m i):=by
 have vN:=h.sl
 have hL:=h.later
 have hs:=h.st _ (iO (d:=Site.z) (show i < m.sites.length by omega))
 refine⟨IB Site.z (by omega),by simpa[down]using hL.sl,hL.pl,hL.pend,hL.CK,hL.lt,fun s hs'=>?_,hL.ll,hL.ev⟩
 rcases mem_set hs' with rfl|hs'
 ·have RO:m.sites.getD i Site.z=m.site i:=rfl
  rw[RO]at hs
  simp only;omega
 ·exact hL.st s hs'
theorem Ym{N:Nat}(hN:300 < N)(bt:Bool){np n k:Nat}{m:M}(h:Inv np n k m)(hn:n≤5)(hk:k≤2500){a:Act}(h1:a.kind=1→0≤a.a∧a.a < np)(h4:a.kind≠1→a.kind≠2→a.kind≠3→0≤a.a∧a.a < n):
  Inv np n (k+2) (act bt m a)∧(∃e,(act bt m a).events=m.events++e∧e.length≤1)∧
  ∀(cn:List Act) (v:Nat),v < cn.length→cn.length≤100000→cn.getD v Act.z=a→mL N cn bt (m.sites,m.aa,m.aJ,m.events,(v:Int))=some (.inl ((act bt m a).sites,(act bt m a).aa,(act bt m a).aJ,(act bt m a).events,((v+1:Nat):Int))):=by
 have head: ∀(cn:List Act) (v:Nat),v < cn.length→cn.getD v Act.z=a→ix cn (v:Int)=some a:=fun cn v hv he=>by rw[IB Act.z hv,he]
 unfold act
 by_cases c1:a.kind=1
 ·rw[if_pos c1]
  have hb:=h1 c1
  obtain⟨w,hw⟩: ∃w:Nat,a.a=w:=⟨a.a.toNat,by omega⟩
  obtain⟨g1,g2,g3,e,g4,g5,_⟩:=adK hN bt h hn (by omega) (w:=w) (by omega)
  rw[hw,Int.toNat_natCast]
  refine⟨g2.later,⟨e,g4,g5⟩,fun cn v hv hl he=>?_⟩
  simp only[mL]
  refine Wp.eq (.bg (decide_eq_true (by omega)) (.bD (head cn v hv he) (.bg (decide_eq_true c1) (.bD (by rw[hw];exact g1) (.bK (by omega) (.one ?_))))))
  rw[g3];rfl
 rw[if_neg c1]
 by_cases c2:a.kind=2
 ·rw[if_pos c2]
  obtain⟨g1,g2,g3,g4⟩:=adL hN bt h a.a
  refine⟨g2.later,⟨[],by rw[g4];simp,by simp⟩,fun cn v hv hl he=>?_⟩
  simp only[mL]
  refine Wp.eq (.bg (decide_eq_true (by omega)) (.bD (head cn v hv he) (.aL (decide_eq_false c1) (.bg (decide_eq_true c2) (.bD g1 (.bK (by omega) (.one ?_)))))))
  rw[g3,g4];rfl
 rw[if_neg c2]
 by_cases c3:a.kind=3
 ·rw[if_pos c3]
  obtain⟨g1,g2,g3,g4⟩:=adO hN bt h hn hk a.a
  refine⟨g2,g4,fun cn v hv hl he=>?_⟩
  simp only[mL]
  refine Wp.eq (.bg (decide_eq_true (by omega)) (.bD (head cn v hv he) (.aL (decide_eq_false c1) (.aL (decide_eq_false c2) (.bg (decide_eq_true c3) (.bD g1 (.bK (by omega) (.one ?_))))))))
  rw[g3];rfl
 rw[if_neg c3]
 have hb:=h4 c1 c2 c3
 obtain⟨w,hw⟩: ∃w:Nat,a.a=w:=⟨a.a.toNat,by omega⟩
 obtain⟨g1,g2⟩:=adP h (i:=w) (by omega)
 rw[hw,Int.toNat_natCast]
 refine⟨g2.later,⟨[],by simp[down],by simp⟩,fun cn v hv hl he=>?_⟩
 simp only[mL]
 refine Wp.eq (.bg (decide_eq_true (by omega)) (.bD (head cn v hv he) (.aL (decide_eq_false c1) (.aL (decide_eq_false c2) (.aL (decide_eq_false c3) (.bD (by rw[hw];exact g1) (.bK (by omega) (.one ?_))))))))
 rw[hw];rfl
def run(bt:Bool)(m:M)(cn:List Act):M:=cn.foldl (act bt) m
theorem HJ(bt:Bool)(m:M)(a b:List Act):run bt m (a++b)=run bt (run bt m a) b:=List.foldl_append
def ud(np n:Nat)(a:Act):Prop:=(1≤a.kind∧a.kind≤4)∧(a.kind=1→0≤a.a∧a.a < np)∧(a.kind=4→0≤a.a∧a.a < n)
theorem ud.four{np n:Nat}{a:Act}(h:ud np n a)(h1:a.kind≠1)(h2:a.kind≠2)(h3:a.kind≠3):0≤a.a∧a.a < n:=h.2.2 (by have:=h.1;omega)
theorem zc{np n:Nat}(bt:Bool)(hn:n≤5): ∀{cn:List Act} {k:Nat} {m:M},Inv np n k m→(∀a∈cn,ud np n a)→k+2 * cn.length≤2500→
  Inv np n (k+2 * cn.length) (run bt m cn)∧∃e,(run bt m cn).events=m.events++e∧e.length≤cn.length
 | [],k,m,h,_,_=>⟨h,[],by simp[run]⟩
 |a::cn,k,m,h,ha,hk=>by
  have hk':k+2 * (cn.length+1)≤2500:=hk
  obtain⟨g1,⟨e1,g2,g2'⟩,_⟩:=Ym (N:=301) (by decide) bt h hn (by omega) (a:=a) (ha a (.head _)).2.1 (ha a (.head _)).four
  obtain⟨g3,e2,g4,g4'⟩:=zc bt hn (cn:=cn) g1 (fun x hx=>ha x (.tail _ hx)) (by omega)
  have e:run bt m (a::cn)=run bt (act bt m a) cn:=rfl
  rw[e]
  refine⟨by
   have e2:k+2 * (a::cn).length=k+2+2 * cn.length:=by simp;omega
   rw[e2];exact g3,e1++e2,by rw[g4,g2,List.append_assoc],by simp;omega⟩
def m0(n:Nat)(aa:List (List Ask)):M:=⟨List.replicate n Site.z,aa.map fun l=>⟨l,false,0,false,0,⟨0,0⟩,0⟩,[],[]⟩
theorem Jl(n:Nat)(aa:List (List Ask)):Inv aa.length n 0 (m0 n aa):=by
 refine⟨by simp[m0],by simp[m0],fun p hp h=>?_,fun p hp=>?_,fun l hl=>(by cases hl),fun s hs=>?_,Nat.le_refl _,Nat.le_refl _⟩
 ·obtain⟨l,_,rfl⟩:=List.mem_map.1 hp
  cases h
 ·obtain⟨l,_,rfl⟩:=List.mem_map.1 hp
  simp
 ·obtain⟨_,rfl⟩:=List.mem_replicate.1 hs
  simp[Site.z]
structure lS(n:Int)(aa:List (List Ask))(cn:List Act):Prop where
 cnt:1≤n∧n≤5
 pW:aa.length≤8
 len:cn.length≤1000
 act: ∀a∈cn,ud aa.length n.toNat a
end Si
namespace Th
open Ob
structure iH(types:List Int)(aa:List (List Ask)):Prop where
 ty:1≤types.length∧types.length≤4∧∀x∈types,1≤x∧x≤5
 pW:aa.length≤8
 ask: ∀l∈aa,∀a∈l,(0≤a.aj∧a.aj < types.length)∧dz (types.getD a.aj.toNat 0) a.kind a.arg
theorem sU{t k n:Int}:dz t k n↔(t≠0∧t8 k=t)∧(((k=2∨k=4∨k=6∨k=10)→n=0)∧(¬(k=2∨k=4∨k=6∨k=10)→gH n)):=by unfold dz;exact⟨fun h=>⟨⟨h.1,h.2.1⟩,h.2.2⟩,fun h=>⟨h.1.1,h.1.2,h.2⟩⟩
theorem mJ{N:Nat}(hN:5000 < N){types:List Int}{aa:List (List Ask)}(hl: ∀l∈aa,l.length < N∧l.length≤9223372036854775807):Wp (dw N types aa) fun e=>e=0→iH types aa:=by
 unfold dw
 refine .seq (Hs.uW (by omega)) fun r _ hr=> .cond (fun _=> .one (by simp)) fun hc=>?_
 simp only[Bool.or_eq_false_iff,Bool.not_eq_false',decide_eq_true_eq,decide_eq_false_iff_not]at hc
 obtain⟨rfl,h8⟩:=hc
 have hT:=hr rfl
 have h8:aa.length≤8:=by omega
 refine .seq (P:=fun _=>True) (.iter aa.length (fun k st=>st.2=(k:Int)) (by omega) rfl ?_ ?_) fun n _ _=> .cond (fun _=> .one (by simp)) fun _=>?_
 ·rintro k ⟨n,v⟩ hk hv
  simp only at hv
  subst hv
  simp only[ey]
  exact .bg (decide_eq_true (by omega)) (.ix hk (.bK (by omega) (.one (by simp))))
 ·rintro⟨n,v⟩ hv
  simp only at hv
  subst hv
  simp only[ey]
  exact .aL (decide_eq_false (by omega)) (.one trivial)
 refine .elim (P:=fun t=>match t with| .inl _=>∀l∈aa,∀a∈l,(0≤a.aj∧a.aj < types.length)∧dz (types.getD a.aj.toNat 0) a.kind a.arg| .inr r=>r≠0)
  (.iter aa.length (fun k v=>v=(k:Int)∧∀j,j < k→∀a∈aa.getD j [],(0≤a.aj∧a.aj < types.length)∧dz (types.getD a.aj.toNat 0) a.kind a.arg) (by omega) ⟨rfl,fun j h=>absurd h (Nat.not_lt_zero _)⟩ ?_ ?_) (fun _ _ h=> .one fun _=>⟨hT,h8,h⟩) (fun r _ h=> .one fun e=>(h e).elim)
 ·rintro k v hk ⟨rfl,hI⟩
  simp only[fE]
  refine .bg (decide_eq_true (by omega)) ?_
  have hlk:=hl aa[k] (List.getElem_mem hk)
  refine .elim (P:=fun t=>match t with| .inl _=>∀a∈aa[k],(0≤a.aj∧a.aj < types.length)∧dz (types.getD a.aj.toNat 0) a.kind a.arg| .inr r=>r≠0) (.ix hk ?_) (fun _ _ h=> .bK (by omega) (.one ⟨by simp,fun j hj=>?_⟩)) (fun r _ h=> .one h)
  ·refine .iter aa[k].length (fun i v=>v=(i:Int)∧∀j,j < i→(0≤(aa[k].getD j Ask.z).aj∧(aa[k].getD j Ask.z).aj < types.length)∧dz (types.getD (aa[k].getD j Ask.z).aj.toNat 0) (aa[k].getD j Ask.z).kind (aa[k].getD j Ask.z).arg) hlk.1 ⟨rfl,fun j h=>absurd h (Nat.not_lt_zero _)⟩ ?_ ?_
   ·rintro i v hi ⟨rfl,hJ⟩
    simp only[fD]
    refine .bg (decide_eq_true (by omega)) (.fL Ask.z (by omega) (by omega) ?_)
    simp only[Int.toNat_natCast]
    obtain⟨A,hA⟩: ∃A,aa[k].getD i Ask.z=A:=⟨_,rfl⟩
    simp only[hA]
    by_cases h1:0≤A.aj∧A.aj < types.length
    ·have e1:(decide (A.aj < 0)||decide ((types.length:Int)≤A.aj))=false:=by simp;omega
     rw[e1]
     refine .bD (a:=types.getD A.aj.toNat 0) ((et rfl).trans (by rw[wk h1.1 h1.2,aW])) ?_
     refine .bD (a:=decide (types.getD A.aj.toNat 0≠0∧t8 A.kind=types.getD A.aj.toNat 0)) ((et rfl).trans (HH ..)) ?_
     by_cases h2:types.getD A.aj.toNat 0≠0∧t8 A.kind=types.getD A.aj.toNat 0
     ·rw[decide_eq_true h2]
      refine .bD (by rw[et (by rfl),pm,LP]) ?_
      by_cases h3:((A.kind=2∨A.kind=4∨A.kind=6∨A.kind=10)→A.arg=0)∧(¬(A.kind=2∨A.kind=4∨A.kind=6∨A.kind=10)→gH A.arg)
      ·rw[decide_eq_true h3]
       refine .aL rfl (.bK (by omega) (.one ⟨by simp,fun j hj=>?_⟩))
       rcases Nat.lt_or_ge j i with h4|h4
       ·exact hJ j h4
       ·obtain rfl:j=i:=by omega
        rw[hA]
        exact⟨h1,sU.2 ⟨h2,h3⟩⟩
      ·rw[decide_eq_false h3]
       exact .bg rfl (.one (by simp))
     ·rw[decide_eq_false h2]
      exact .bD (a:=false) rfl (.bg rfl (.one (by simp)))
    ·have e1:(decide (A.aj < 0)||decide ((types.length:Int)≤A.aj))=true:=by simp;omega
     rw[e1]
     exact .bD (a:=0) rfl (.bD (a:=false) rfl (.bD (a:=false) rfl (.bg rfl (.one (by simp)))))
   ·rintro v ⟨rfl,hJ⟩
    simp only[fD]
    refine .aL (decide_eq_false (by omega)) (.one fun a ha=>?_)
    obtain⟨j,hj,rfl⟩:=List.getElem_of_mem ha
    have:=hJ j hj
    rwa[aW hj]at this
  ·rcases Nat.lt_or_ge j k with h4|h4
   ·exact hI j h4
   ·obtain rfl:j=k:=by omega
    rw[aW hk];exact h
 ·rintro v ⟨rfl,hI⟩
  simp only[fE]
  refine .aL (decide_eq_false (by omega)) (.one fun l hl2=>?_)
  obtain⟨j,hj,rfl⟩:=List.getElem_of_mem hl2
  have:=hI j hj
  rwa[aW hj]at this
end Th
namespace Si
instance(np n:Nat)(a:Act):Decidable (ud np n a):=by unfold ud;infer_instance
theorem R8{N:Nat}(hN:5000 < N)(n:Int){aa:List (List Ask)}(hl: ∀l∈aa,l.length < N∧l.length≤9223372036854775807): ∃e0:Int,(e0=0→(1≤n∧n≤5)∧aa.length≤8∧Th.iH [1] aa)∧
  ∀cn:List Act,cn.length < N→cn.length≤9223372036854775807→lL N n aa cn=some (if e0≠0 then e0 else if ¬cn.length≤1000 then 2 else if ∀a∈cn,ud aa.length n.toNat a then 0 else 1):=by
 by_cases hn:n < 1∨5 < n
 ·refine⟨1,by simp,fun cn _ _=>?_⟩
  unfold lL
  have:(decide (n < 1)||decide (5 < n))=true:=by simpa using hn
  rw[this];rfl
 obtain⟨r,hr,hP⟩:=Th.mJ hN (types:=[1]) hl
 have e1:(decide (n < 1)||decide (5 < n))=false:=by simpa using hn
 by_cases pV:r=0
 rotate_left
 ·refine⟨r,fun h=>(pV h).elim,fun cn _ _=>?_⟩
  unfold lL
  rw[e1,hr,if_pos pV]
  simp[bd,pV]
 subst pV
 have hP:=hP rfl
 have h8:=hP.pW
 obtain⟨q,hq,_⟩:Wp (iter (lD N aa) N (0,0)) fun _=>True:=by
  refine .iter aa.length (fun k st=>st.2=(k:Int)) (by omega) rfl ?_ ?_
  ·rintro k ⟨a,v⟩ hk hv
   simp only at hv
   subst hv
   simp only[lD]
   exact .bg (decide_eq_true (by omega)) (.ix hk (.bK (by omega) (.one (by simp))))
  ·rintro⟨a,v⟩ hv
   simp only at hv
   subst hv
   simp only[lD]
   exact .aL (decide_eq_false (by omega)) (.one trivial)
 by_cases h12:12 < q
 ·refine⟨2,by simp,fun cn _ _=>?_⟩
  unfold lL
  rw[e1,hr]
  simp only[cond_false,bZ]
  refine Wp.eq (.aL rfl (.bD hq (.bg (by simp[h12]) (.one ?_))))
  rw[if_pos (by simp)]
 refine⟨0,fun _=>⟨by omega,h8,hP⟩,fun cn h1 h2=>?_⟩
 unfold lL
 rw[e1,hr,if_neg (by simp)]
 simp only[cond_false,bZ]
 refine Wp.eq (.aL rfl (.bD hq ?_))
 by_cases hlen:cn.length≤1000
 rotate_left
 ·exact .bg (by simp[h12];omega) (.one (by rw[if_pos hlen]))
 refine .aL (by simp[h12];omega) ?_
 rw[if_neg (by simpa using hlen)]
 refine .elim (P:=fun t=>match t with| .inl _=>∀a∈cn,ud aa.length n.toNat a| .inr r=>r=1∧¬ ∀a∈cn,ud aa.length n.toNat a)
  (.iter cn.length (fun k v=>v=(k:Int)∧∀j,j < k→ud aa.length n.toNat (cn.getD j Act.z)) h1 ⟨rfl,fun j h=>absurd h (Nat.not_lt_zero _)⟩ ?_ ?_) (fun _ _ h=> .one (by rw[if_pos h])) (fun r _ h=> .one (by rw[if_neg h.2,h.1]))
 ·rintro k v hk ⟨rfl,hI⟩
  simp only[yD]
  refine .bg (decide_eq_true (by omega)) (.fL Act.z (by omega) (by omega) ?_)
  simp only[Int.toNat_natCast]
  have no: ¬ud aa.length n.toNat (cn.getD k Act.z)→¬ ∀a∈cn,ud aa.length n.toNat a:=fun h h2=>h (h2 _ (iO hk))
  refine .cond (fun g=> .one ⟨rfl,no fun h=>?_⟩) fun g1=> .cond (fun g=> .one ⟨rfl,no fun h=>?_⟩) fun g2=> .cond (fun g=> .one ⟨rfl,no fun h=>?_⟩) fun g3=> .bK (by omega) (.one ⟨by simp,fun j hj=>?_⟩)
  ·simp only[Bool.or_eq_true,decide_eq_true_eq]at g
   have:=h.1;omega
  ·simp only[Bool.or_eq_true,Bool.and_eq_true,decide_eq_true_eq]at g
   have:=h.2.1 g.1;omega
  ·simp only[Bool.or_eq_true,Bool.and_eq_true,decide_eq_true_eq]at g
   have:=h.2.2 g.1;omega
  rcases Nat.lt_or_ge j k with h4|h4
  ·exact hI j h4
  ·obtain rfl:j=k:=by omega
   simp only[Bool.or_eq_false_iff,decide_eq_false_iff_not,Bool.and_eq_false_imp,decide_eq_true_eq]at g1 g2 g3
   refine⟨by omega,fun e=>?_,fun e=>?_⟩
   ·have:=g2 e;omega
   ·have:=g3 e;omega
 ·rintro v ⟨rfl,hI⟩
  simp only[yD]
  refine .aL (decide_eq_false (by omega)) (.one fun a hq=>?_)
  obtain⟨j,hj,rfl⟩:=List.getElem_of_mem hq
  have:=hI j hj
  rwa[aW hj]at this
theorem aaA{N:Nat}(hN:5000 < N)(n:Int)(bt:Bool){aa:List (List Ask)}(hl: ∀l∈aa,l.length < N∧l.length≤9223372036854775807): ∃e0:Int,(e0=0→(1≤n∧n≤5)∧aa.length≤8∧Th.iH [1] aa)∧
  ∀cn:List Act,cn.length < N→cn.length≤9223372036854775807→∃e,e=(if e0≠0 then e0 else if ¬cn.length≤1000 then 2 else if ∀a∈cn,ud aa.length n.toNat a then 0 else 1)∧
   oZ N n bt aa cn=some (if e=0 then((run bt (m0 n.toNat aa) cn).events,(run bt (m0 n.toNat aa) cn).sites,0)else([],[],e)):=by
 obtain⟨e0,h0,hc⟩:=R8 hN n hl
 refine⟨e0,h0,fun cn h1 h2=>⟨_,rfl,?_⟩⟩
 have he:=hc cn h1 h2
 generalize hE:(if e0≠0 then e0 else if ¬cn.length≤1000 then 2 else if ∀a∈cn,ud aa.length n.toNat a then 0 else 1)=e at he⊢
 unfold oZ
 refine Wp.eq (.bD he (.cond (fun h=> .one ?_) fun h=>?_))
 ·have h:e≠0:=by simpa using h
  rw[if_neg h]
 have h:e=0:=by simpa using h
 rw[if_pos h]
 have IC:e0=0:=by
  by_cases IC:e0=0
  ·exact IC
  ·rw[if_pos IC]at hE;omega
 obtain⟨hn,h8,_⟩:=h0 IC
 rw[if_neg (by simpa using IC)]at hE
 have hlen:cn.length≤1000:=by
  by_cases hlen:cn.length≤1000
  ·exact hlen
  ·rw[if_pos hlen]at hE;omega
 rw[if_neg (by simpa using hlen)]at hE
 have hok: ∀a∈cn,ud aa.length n.toNat a:=by
  by_cases hok: ∀a∈cn,ud aa.length n.toNat a
  ·exact hok
  ·rw[if_neg hok]at hE;omega
 refine .ck (aed (by omega) (by omega) (by omega)) ?_
 refine .seq (P:=fun s=>s=aa.map fun l=>(⟨l,false,0,false,0,⟨0,0⟩,0⟩:ab)) (.iter aa.length (fun k st=>st=((aa.take k).map fun l=>(⟨l,false,0,false,0,⟨0,0⟩,0⟩:ab),(k:Int))) (by omega) rfl ?_ ?_) fun s _ hs=>?_
 ·rintro k st hk rfl
  simp only[zV]
  refine .bg (decide_eq_true (by omega)) (.ix hk (.ck (eT ⟨?_,?_⟩) (.bK (by omega) (.one ?_))))
  ·simp;exact Nat.le_trans (m:=100) (by omega) (by unfold maxLen;decide)
  ·simp;omega
  ·refine Prod.ext ?_ (by simp)
   show _=(aa.take (k+1)).map _
   rw[←List.take_append_getElem hk,List.map_append]
   rfl
 ·rintro st rfl
  simp only[zV]
  refine .aL (decide_eq_false (by simp)) (.one ?_)
  simp
 subst hs
 refine .seq (P:=fun s=>s=((run bt (m0 n.toNat aa) cn).sites,(run bt (m0 n.toNat aa) cn).aa,(run bt (m0 n.toNat aa) cn).aJ,(run bt (m0 n.toNat aa) cn).events)) (.iter cn.length (fun k st=>st=((run bt (m0 n.toNat aa) (cn.take k)).sites,(run bt (m0 n.toNat aa) (cn.take k)).aa,(run bt (m0 n.toNat aa) (cn.take k)).aJ,(run bt (m0 n.toNat aa) (cn.take k)).events,(k:Int))) (by omega) rfl ?_ ?_) fun s _ hs=>?_
 ·rintro k st hk rfl
  have h1:=(zc bt (by omega:n.toNat≤5) (Jl n.toNat aa) (cn:=cn.take k) (fun t ht=>hok t (List.mem_of_mem_take ht)) (by simp;omega)).1
  have h2:=hok cn[k] (List.getElem_mem hk)
  obtain⟨_,_,h3⟩:=Ym (by omega:300 < N) bt h1 (by omega) (by simp;omega) h2.2.1 h2.four
  refine⟨_,h3 cn k hk (by omega) (by rw[aW hk]),?_⟩
  show _=(_,_,_,_,_)
  rw[←List.take_append_getElem hk,HJ]
  rfl
 ·rintro st rfl
  simp only[mL]
  refine .aL (decide_eq_false (by simp)) (.one ?_)
  rw[List.take_length]
 subst hs
 exact .one rfl
end Si
namespace Si
theorem nR{α:Type}{l:List α}{i j:Nat}{v d:α}(h:i < l.length):(l.set i v).getD j d=if j=i then v else l.getD j d:=by
 simp only[List.getD_eq_getElem?_getD]
 by_cases e:j=i
 ·subst e;rw[if_pos rfl];simp[h]
 ·rw[if_neg e,List.getElem?_set_ne (fun e2=>e e2.symm)]
end Si
end Go.Proofs.YtjdkkabcenohcaaGreatDoor
