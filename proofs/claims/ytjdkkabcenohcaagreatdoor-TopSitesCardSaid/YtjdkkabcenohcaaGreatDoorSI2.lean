import Derived.Test.YtjdkkabcenohcaaGreatDoorSI1
import Derived.Test.YtjdkkabcenohcaaGreatDoorP10
set_option linter.unusedVariables false
set_option linter.unusedSimpArgs false
set_option linter.unusedSectionVars false
set_option maxRecDepth 100000
namespace Go.Proofs.YtjdkkabcenohcaaGreatDoor
open Go.RowKit
namespace Si
open Hs
structure Gh where
 c:List Call
 op:List Int
 tg:Nat→Bool
 tag:Nat→bM
 B:Nat→Nat
def Gh.call(g:Gh)(i:Nat):Call:=g.c.getD i Call.z
def nZ(s:Site):bM:=⟨s.stamp,s.who⟩
def Good(g:Gh)(t:bM)(v:Int):Prop:=(t=⟨0,0⟩∧v=0)∨∃i,i < g.c.length∧g.tg i=true∧(g.call i).kind=1∧g.tag i=t∧(g.call i).arg=v
def uF(bt:Bool)(c:Call):Prop:=bt=false∨c.kind=1
def rI(n:Nat)(p:Nat→Bool):Prop:=n < 2 * (List.range n).countP p
theorem rI.mono{n:Nat}{p q:Nat→Bool}(h: ∀s,s < n→p s=true→q s=true)(hp:rI n p):rI n q:=by
 have:(List.range n).countP p≤(List.range n).countP q:=List.countP_mono_left fun x hx=>h x (List.mem_range.1 hx)
 unfold rI at *;omega
theorem rI.meet{n:Nat}{p q:Nat→Bool}(hp:rI n p)(hq:rI n q): ∃s,s < n∧p s=true∧q s=true:=by
 apply Classical.byContradiction
 intro h
 have h2:(List.range n).countP q≤(List.range n).countP (fun a=>decide ¬p a=true):=List.countP_mono_left fun x hx hq=>decide_eq_true fun hp=>h ⟨x,List.mem_range.1 hx,hp,hq⟩
 have h3:=List.length_eq_countP_add_countP p (l:=List.range n)
 rw[List.length_range]at h3
 unfold rI at *
 omega
structure Qry(bt:Bool)(n:Nat)(m:M)(g:Gh)(w i:Nat):Prop where
 best: ∀s,s < n→(m.aB (g.B w+s)).received=true→¬iz (m.who w).best (m.aB (g.B w+s)).tag
 good:1≤(m.who w).bj→Good g (m.who w).best (m.who w).value
 low: ∀a,a < g.c.length→(g.call a).aY≠ -1→uF bt (g.call a)→(g.call a).aY < (g.call i).from_→rI n fun s=>decide (¬iz (nZ (m.site s)) (g.tag a))&&(!(m.aB (g.B w+s)).ce||decide (¬iz (m.aB (g.B w+s)).tag (g.tag a)))
structure Sto(n:Nat)(m:M)(g:Gh)(w i:Nat):Prop where
 tag:g.tg i=true∧g.tag i=(m.who w).best
 good:Good g (m.who w).best (m.who w).value
 lets: ∀s,s < n→(m.aB (g.B w+s)).tag=(m.who w).best
structure Pd(bt:Bool)(n:Nat)(m:M)(g:Gh)(w i:Nat):Prop where
 p7:i < g.c.length
 D_:g.op.getD w 0=(i:Int)+1
 Ad:(g.call i).who=w∧(g.call i).aY= -1∧∃a rest,(m.who w).program=a::rest∧(g.call i).kind=a.kind∧(g.call i).arg=a.arg
 uG:g.B w+n≤m.aJ.length∧∀s,s < n→(m.aB (g.B w+s)).who=(w:Int)∧(m.aB (g.B w+s)).round=(m.who w).round∧(m.aB (g.B w+s)).site=(s:Int)∧(m.aB (g.B w+s)).store=(m.who w).store
 own: ∀j,j < m.aJ.length→(m.aB j).who=(w:Int)→(m.aB j).round=(m.who w).round→g.B w≤j∧j < g.B w+n
 rep:(m.who w).bj=((List.range n).countP fun s=>(m.aB (g.B w+s)).received:Nat)
 zero:(m.who w).store=false→(m.who w).bj=0→(m.who w).best=⟨-1,-1⟩
 CL:(m.who w).store=false→Qry bt n m g w i
 B8:(m.who w).store=true→Sto n m g w i
def OkK(a:Ask):Prop:=(a.kind=1∧1≤a.arg∧a.arg≤1000)∨(a.kind=2∧a.arg=0)
structure Z(N:Nat)(bt:Bool)(np n:Nat)(m:M)(g:Gh):Prop where
 n1:1≤n
 R_:np≤8
 sl:m.sites.length=n
 pl:m.aa.length=np
 run:ex N [1] m.events m.events.length g.c g.op
 idle: ∀w,w < np→(m.who w).pending=false→g.op.getD w 0=0
 pend: ∀w,w < np→(m.who w).pending=true→∃i,Pd bt n m g w i
 ask: ∀w,w < np→∀a∈(m.who w).program,OkK a
 wn: ∀i,i < g.c.length→(g.call i).who < np
 sg: ∀s,s < n→Good g (nZ (m.site s)) (m.site s).value
 lt: ∀j,j < m.aJ.length→(0≤(m.aB j).who∧(m.aB j).who < np)∧(0≤(m.aB j).site∧(m.aB j).site < n)
 lg: ∀j,j < m.aJ.length→(m.aB j).ce=true∨(m.aB j).store=true→Good g (m.aB j).tag (m.aB j).value
 ls: ∀j,j < m.aJ.length→(m.aB j).store=true→(m.aB j).ce=true→¬iz (nZ (m.site (m.aB j).site.toNat)) (m.aB j).tag
 rd: ∀j,j < m.aJ.length→(m.aB j).received=true→(m.aB j).ce=true
 old: ∀j,j < m.aJ.length→(m.aB j).round≤(m.who (m.aB j).who.toNat).round∧((m.who (m.aB j).who.toNat).pending=false→(m.aB j).round < (m.who (m.aB j).who.toNat).round)
 tw: ∀i,i < g.c.length→g.tg i=true→(g.call i).kind=1→(g.tag i).who=(g.call i).who∧1≤(g.tag i).stamp
 dn: ∀i,i < g.c.length→(g.call i).aY≠ -1→g.tg i=true∧(uF bt (g.call i)→rI n fun s=>decide (¬iz (nZ (m.site s)) (g.tag i)))∧((g.call i).kind=1→(g.call i).res=0)∧
  ((g.call i).kind≠1→(g.tag i=⟨0,0⟩∧(g.call i).res=0)∨∃k,k < g.c.length∧g.tg k=true∧(g.call k).kind=1∧g.tag k=g.tag i∧(g.call k).arg=(g.call i).res∧(g.call k).from_ < (g.call i).aY)
 ord: ∀a b,a < g.c.length→b < g.c.length→(g.call a).aY≠ -1→(g.call a).aY < (g.call b).from_→uF bt (g.call a)→g.tg b=true→¬iz (g.tag b) (g.tag a)∧((g.call b).kind=1→iz (g.tag a) (g.tag b))
 G6: ∀a b,a < g.c.length→b < g.c.length→g.tg a=true→g.tg b=true→(g.call a).kind=1→(g.call b).kind=1→g.tag a=g.tag b→a=b
def Un(np:Nat)(m:M)(g:Gh)(e:Nat):Prop:=∀w,w < np→w≠e→(m.who w).pending=true→(m.who w).store=false→∀i:Nat,g.op.getD w 0=i+1→g.tg i=false
theorem gl{m:M}{w v:Nat}{p:ab}(hw:w < m.aa.length):(m.aa.set w p).getD v ab.z=if v=w then p else m.who v:=nR hw
theorem D'{m:M}{j k:Nat}{x:aK}(hj:j < m.aJ.length):(m.aJ.set j x).getD k aK.z=if k=j then x else m.aB k:=nR hj
theorem Sa{m:M}{q s:Nat}{x:Site}(hq:q < m.sites.length):(m.sites.set q x).getD s Site.z=if s=q then x else m.site s:=nR hq
theorem Fs{α:Type}{l m:List α}{d:α}{i:Nat}(h:i < l.length):(l++m).getD i d=l.getD i d:=by
 simp only[List.getD_eq_getElem?_getD,List.getElem?_append_left h]
theorem Lg{α:Type}{l m:List α}{d:α}{i:Nat}:(l++m).getD (l.length+i) d=m.getD i d:=by
 simp only[List.getD_eq_getElem?_getD,List.getElem?_append_right (Nat.le_add_right ..),Nat.add_sub_cancel_left]
theorem NH{n:Nat}{w r:Int}{store:Bool}{t:bM}{v:Int}{s:Nat}(h:s < n):(batch n w r store t v).getD s aK.z=⟨w,r,(s:Int),store,t,v,false,false⟩:=by
 unfold batch
 rw[aW (by simpa using h),List.getElem_map,List.getElem_range]
theorem CM(n:Nat)(w r:Int)(store:Bool)(t:bM)(v:Int):(batch n w r store t v).length=n:=by simp[batch]
theorem UA{N:Nat}{types:List Int}{l:List Event}{v:Event}{out out':List Call}{op op':List Int}(R:ex N types l l.length out op)(S:uX N types out op (l.length:Int) v out' op'):ex N types (l++[v]) (l++[v]).length out' op':=by
 have key: ∀{k:Nat} {out:List Call} {op:List Int},ex N types l k out op→ex N types (l++[v]) k out op:=by
  intro k out op R
  induction R with
  |zero=>exact .zero
  | @succ k out out' op op' R hk S ih=>
   refine .succ ih (by rw[List.length_append];omega) ?_
   rw[dL,if_pos hk];exact S
 rw[List.length_append,List.length_singleton]
 refine .succ (key R) (by rw[List.length_append,List.length_singleton];omega) ?_
 rw[dL,if_neg (Nat.lt_irrefl _),if_pos rfl];exact S
section
variable {N:Nat} {bt:Bool} {np n:Nat} {m:M} {g:Gh}
theorem Z.fr(z:Z N bt np n m g){i:Nat}(hi:i < g.c.length):0≤(g.call i).from_∧(g.call i).from_ < m.events.length∧(0≤(g.call i).who∧(g.call i).who < 8):=by
 have O:=z.run.wf.one i hi
 exact⟨O.fr.1,O.fr.2,O.who⟩
theorem Z.pd(z:Z N bt np n m g){w i:Nat}(hw:w < np)(h:(m.who w).pending=true)(hi:g.op.getD w 0=(i:Int)+1):Pd bt n m g w i:=by
 obtain⟨k,P⟩:=z.pend w hw h
 have:=P.D_
 obtain rfl:i=k:=by omega
 exact P
theorem Z.wait(z:Z N bt np n m g){w i:Nat}(hw:w < np)(hi:g.op.getD w 0=(i:Int)+1):(m.who w).pending=true:=by
 cases h:(m.who w).pending with
 |true=>rfl
 |false=>have:=z.idle w hw h;omega
structure sZ(n:Nat)(m m':M):Prop where
 ll:m'.aJ.length=m.aJ.length
 ev:m'.events=m.events
 sl:m'.sites.length=m.sites.length
 pl:m'.aa.length=m.aa.length
 lf: ∀j,(m'.aB j).who=(m.aB j).who∧(m'.aB j).round=(m.aB j).round∧(m'.aB j).site=(m.aB j).site∧(m'.aB j).store=(m.aB j).store
 pf: ∀w,(m'.who w).program=(m.who w).program∧(m'.who w).pending=(m.who w).pending∧(m'.who w).round=(m.who w).round∧(m'.who w).store=(m.who w).store
theorem sZ.un{m m':M}(S:sZ n m m'){e:Nat}(h:Un np m g e):Un np m' g e:=by
 intro w hw he hp hs i hi
 rw[(S.pf w).2.1]at hp
 rw[(S.pf w).2.2.2]at hs
 exact h w hw he hp hs i hi
theorem sZ.z{m m':M}(S:sZ n m m')(z:Z N bt np n m g)
  (sg: ∀s,s < n→Good g (nZ (m'.site s)) (m'.site s).value)
  (up: ∀s,s < n→∀t,¬iz (nZ (m.site s)) t→¬iz (nZ (m'.site s)) t)
  (lg: ∀j,j < m.aJ.length→(m'.aB j).ce=true∨(m'.aB j).store=true→Good g (m'.aB j).tag (m'.aB j).value)
  (ls: ∀j,j < m.aJ.length→(m'.aB j).store=true→(m'.aB j).ce=true→¬iz (nZ (m'.site (m'.aB j).site.toNat)) (m'.aB j).tag)
  (rd: ∀j,j < m.aJ.length→(m'.aB j).received=true→(m'.aB j).ce=true)
  (rep: ∀w i,w < np→Pd bt n m g w i→(m'.who w).bj=((List.range n).countP fun s=>(m'.aB (g.B w+s)).received:Nat))
  (zer: ∀w i,w < np→Pd bt n m g w i→(m'.who w).store=false→(m'.who w).bj=0→(m'.who w).best=⟨-1,-1⟩)
  (CL: ∀w i,w < np→(m'.who w).store=false→Pd bt n m g w i→Qry bt n m' g w i)
  (B8: ∀w i,w < np→(m'.who w).store=true→Pd bt n m g w i→Sto n m' g w i):Z N bt np n m' g:=by
 refine⟨z.n1,z.R_,S.sl.trans z.sl,S.pl.trans z.pl,by rw[S.ev];exact z.run,fun w hw h=>z.idle w hw (by rw[←(S.pf w).2.1];exact h),fun w hw h=>?_,fun w hw=>by rw[(S.pf w).1];exact z.ask w hw,z.wn,sg,fun j hj=>?_,fun j hj=>lg j (by rw[←S.ll];exact hj),fun j hj=>ls j (by rw[←S.ll];exact hj),fun j hj=>rd j (by rw[←S.ll];exact hj),fun j hj=>?_,z.tw,fun i hi ha=>?_,z.ord,z.G6⟩
 ·obtain⟨i,P⟩:=z.pend w hw (by rw[←(S.pf w).2.1];exact h)
  obtain⟨p1,p2,p3,p4⟩:=S.pf w
  refine⟨i,P.p7,P.D_,by rw[p1];exact P.Ad,?_,fun j hj=>?_,rep w i hw P,zer w i hw P,fun hs=>CL w i hw hs P,fun hs=>B8 w i hw hs P⟩
  ·rw[S.ll,p3,p4]
   refine⟨P.uG.1,fun s hs=>?_⟩
   obtain⟨l1,l2,l3,l4⟩:=S.lf (g.B w+s)
   rw[l1,l2,l3,l4]
   exact P.uG.2 s hs
  ·obtain⟨l1,l2,_⟩:=S.lf j
   rw[S.ll]at hj
   rw[l1,l2,p3]
   exact P.own j hj
 ·obtain⟨l1,l2,l3,_⟩:=S.lf j
  rw[S.ll]at hj
  rw[l1,l3]
  exact z.lt j hj
 ·obtain⟨l1,l2,l3,_⟩:=S.lf j
  rw[S.ll]at hj
  rw[l1,l2,(S.pf _).2.1,(S.pf _).2.2.1]
  exact z.old j hj
 ·obtain⟨d1,d2,d3⟩:=z.dn i hi ha
  refine⟨d1,fun hs=>(d2 hs).mono fun s hs h=>?_,d3⟩
  exact decide_eq_true (up s hs _ (of_decide_eq_true h))
theorem Hi{m m':M}{w i:Nat}(up: ∀s,s < n→∀t,¬iz (nZ (m.site s)) t→¬iz (nZ (m'.site s)) t)(Q:Qry bt n m g w i)
  (hl: ∀s,s < n→((m'.aB (g.B w+s)).ce=(m.aB (g.B w+s)).ce∧(m'.aB (g.B w+s)).tag=(m.aB (g.B w+s)).tag)∨((m'.aB (g.B w+s)).tag=nZ (m.site s))):
  ∀a,a < g.c.length→(g.call a).aY≠ -1→uF bt (g.call a)→(g.call a).aY < (g.call i).from_→rI n fun s=>decide (¬iz (nZ (m'.site s)) (g.tag a))&&(!(m'.aB (g.B w+s)).ce||decide (¬iz (m'.aB (g.B w+s)).tag (g.tag a))):=by
 intro a h1 h2 h3 h4
 refine(Q.low a h1 h2 h3 h4).mono fun s hs h=>?_
 simp only[Bool.and_eq_true,Bool.or_eq_true,Bool.not_eq_true',decide_eq_true_eq]at h⊢
 refine⟨up s hs _ h.1,?_⟩
 rcases hl s hs with⟨e1,e2⟩|e
 ·rw[e1,e2];exact h.2
 ·rw[e];exact .inr h.1
theorem agS(z:Z N bt np n m g){q:Nat}(hq:q < n):Z N bt np n (down m q) g∧sZ n m (down m q):=by
 have vN:=z.sl
 have hs: ∀s,nZ ((down m q).site s)=nZ (m.site s)∧((down m q).site s).value=(m.site s).value:=by
  intro s
  have e:(down m q).site s=if s=q then⟨(m.site q).stamp,(m.site q).who,(m.site q).value,true⟩else m.site s:=Sa (by omega)
  rw[e]
  split
  ·rename_i h;subst h;exact⟨rfl,rfl⟩
  ·exact⟨rfl,rfl⟩
 have S:sZ n m (down m q):=⟨rfl,rfl,by simp[down],rfl,fun j=>⟨rfl,rfl,rfl,rfl⟩,fun w=>⟨rfl,rfl,rfl,rfl⟩⟩
 have up: ∀s,s < n→∀t,¬iz (nZ (m.site s)) t→¬iz (nZ ((down m q).site s)) t:=fun s _ t h=>by rw[(hs s).1];exact h
 refine⟨S.z z (fun s h=>by rw[(hs s).1,(hs s).2];exact z.sg s h) up z.lg (fun j hj h1 h2=>by rw[(hs _).1];exact z.ls j hj h1 h2) z.rd (fun w i _ P=>P.rep) (fun w i _ P=>P.zero) (fun w i _ h P=>?_) (fun w i _ h P=>⟨(P.B8 h).tag,(P.B8 h).good,(P.B8 h).lets⟩),S⟩
 have Q:=P.CL h
 exact⟨Q.best,Q.good,Hi (m:=m) up Q fun s _=> .inl ⟨rfl,rfl⟩⟩
theorem JA{j:Nat}(hj:j < m.aJ.length){x:aK}(h1:x.who=(m.aB j).who)(h2:x.round=(m.aB j).round)(h3:x.site=(m.aB j).site)(h4:x.store=(m.aB j).store){S:List Site}(hS:S.length=m.sites.length):sZ n m ⟨S,m.aa,m.aJ.set j x,m.events⟩:=by
 refine⟨by simp,rfl,hS,rfl,fun k=>?_,fun w=>⟨rfl,rfl,rfl,rfl⟩⟩
 have e:M.aB ⟨S,m.aa,m.aJ.set j x,m.events⟩ k=if k=j then x else m.aB k:=D' hj
 rw[e]
 split
 ·rename_i h;subst h;exact⟨h1,h2,h3,h4⟩
 ·exact⟨rfl,rfl,rfl,rfl⟩
theorem adQ(z:Z N bt np n m g){j:Nat}(hj:j < m.aJ.length)(hd:(m.aB j).ce=false)(hs:(m.aB j).store=false):Z N bt np n ⟨m.sites,m.aa,m.aJ.set j (kK (m.aB j) (nZ (m.site (m.aB j).site.toNat)) (m.site (m.aB j).site.toNat).value),m.events⟩ g∧sZ n m ⟨m.sites,m.aa,m.aJ.set j (kK (m.aB j) (nZ (m.site (m.aB j).site.toNat)) (m.site (m.aB j).site.toNat).value),m.events⟩:=by
 obtain⟨x,hx⟩: ∃x,x=kK (m.aB j) (nZ (m.site (m.aB j).site.toNat)) (m.site (m.aB j).site.toNat).value:=⟨_,rfl⟩
 rw[←hx]
 have S:sZ n m ⟨m.sites,m.aa,m.aJ.set j x,m.events⟩:=JA hj (by rw[hx];rfl) (by rw[hx];rfl) (by rw[hx];rfl) (by rw[hx];rfl) rfl
 have el: ∀k,M.aB ⟨m.sites,m.aa,m.aJ.set j x,m.events⟩ k=if k=j then x else m.aB k:=fun k=>D' hj
 have hlt:=z.lt j hj
 have hrx:x.received=(m.aB j).received:=by rw[hx];rfl
 have hrj:(m.aB j).received=false:=by
  cases h:(m.aB j).received with
  |false=>rfl
  |true=>rw[z.rd j hj h]at hd;cases hd
 have JB: ∀k,(M.aB ⟨m.sites,m.aa,m.aJ.set j x,m.events⟩ k).received=(m.aB k).received:=fun k=>by
  rw[el];split
  ·rename_i h;subst h;exact hrx
  ·rfl
 refine⟨S.z z z.sg (fun s _ t h=>h) (fun k hk h=>?_) (fun k hk h1 h2=>?_) (fun k hk h=>?_) (fun w i _ P=>?_) (fun w i _ P=>P.zero) (fun w i hw h P=>?_) (fun w i hw h P=>?_),S⟩
 ·rw[el]at h⊢
  split
  ·rw[hx]
   exact z.sg _ (by omega)
  ·rename_i h2;rw[if_neg h2]at h;exact z.lg k hk h
 ·rw[el]at h1 h2⊢
  by_cases e:k=j
  ·rw[if_pos e,hx]at h1
   have h1:(m.aB j).store=true:=h1
   rw[hs]at h1;cases h1
  ·rw[if_neg e]at h1 h2⊢
   exact z.ls k hk h1 h2
 ·rw[JB]at h
  rw[el]
  split
  ·rw[hx];rfl
  ·exact z.rd k hk h
 ·simp only[JB];exact P.rep
 ·have Q:=P.CL h
  refine⟨fun s hs2 hr=>?_,Q.good,Hi (m:=m) (fun s _ t h=>h) Q fun s hs2=>?_⟩
  ·rw[JB]at hr
   rw[el]
   split
   ·rename_i e;rw[e,hrj]at hr;cases hr
   ·exact Q.best s hs2 hr
  ·rw[el]
   split
   ·rename_i e
    right
    rw[hx]
    have:=(P.uG.2 s hs2).2.2.1
    rw[e]at this
    show nZ (m.site (m.aB j).site.toNat)=_
    rw[this,Int.toNat_natCast]
   ·exact .inl ⟨rfl,rfl⟩
 ·have Q:=P.B8 h
  refine⟨Q.tag,Q.good,fun s hs2=>?_⟩
  rw[el]
  split
  ·rename_i e
   have:=(P.uG.2 s hs2).2.2.2
   have h:(m.who w).store=true:=h
   rw[e,hs,h]at this;cases this
  ·exact Q.lets s hs2
theorem UB(z:Z N bt np n m g){j:Nat}(hj:j < m.aJ.length)(hd:(m.aB j).ce=false)(hs:(m.aB j).store=true){S0:List Site}(hS0:S0.length=m.sites.length)
  (hS: ∀s,s < n→(S0.getD s Site.z=m.site s∧(s=(m.aB j).site.toNat→¬iz (nZ (m.site s)) (m.aB j).tag))∨(s=(m.aB j).site.toNat∧nZ (S0.getD s Site.z)=(m.aB j).tag∧(S0.getD s Site.z).value=(m.aB j).value∧iz (nZ (m.site s)) (m.aB j).tag)):
  Z N bt np n ⟨S0,m.aa,m.aJ.set j (kK (m.aB j) (m.aB j).tag (m.aB j).value),m.events⟩ g∧sZ n m ⟨S0,m.aa,m.aJ.set j (kK (m.aB j) (m.aB j).tag (m.aB j).value),m.events⟩:=by
 obtain⟨x,hx⟩: ∃x,x=kK (m.aB j) (m.aB j).tag (m.aB j).value:=⟨_,rfl⟩
 rw[←hx]
 have S:sZ n m ⟨S0,m.aa,m.aJ.set j x,m.events⟩:=JA hj (by rw[hx];rfl) (by rw[hx];rfl) (by rw[hx];rfl) (by rw[hx];rfl) hS0
 have el: ∀k,M.aB ⟨S0,m.aa,m.aJ.set j x,m.events⟩ k=if k=j then x else m.aB k:=fun k=>D' hj
 have hlt:=z.lt j hj
 have JB: ∀k,(M.aB ⟨S0,m.aa,m.aJ.set j x,m.events⟩ k).received=(m.aB k).received:=fun k=>by
  rw[el];split
  ·rename_i h;subst h;rw[hx];rfl
  ·rfl
 have Sb: ∀k,(M.aB ⟨S0,m.aa,m.aJ.set j x,m.events⟩ k).tag=(m.aB k).tag∧(M.aB ⟨S0,m.aa,m.aJ.set j x,m.events⟩ k).value=(m.aB k).value:=fun k=>by
  rw[el];split
  ·rename_i h;subst h;rw[hx];exact⟨rfl,rfl⟩
  ·exact⟨rfl,rfl⟩
 have up: ∀s,s < n→∀t,¬iz (nZ (m.site s)) t→¬iz (nZ (M.site ⟨S0,m.aa,m.aJ.set j x,m.events⟩ s)) t:=by
  intro s hs2 t h
  show ¬iz (nZ (S0.getD s Site.z)) t
  rcases hS s hs2 with⟨e,_⟩|⟨_,e,_,h2⟩
  ·rw[e];exact h
  ·rw[e];unfold iz at *;omega
 refine⟨S.z z (fun s hs2=>?_) up (fun k hk h=>?_) (fun k hk h1 h2=>?_) (fun k hk h=>?_) (fun w i _ P=>?_) (fun w i _ P=>P.zero) (fun w i hw h P=>?_) (fun w i hw h P=>?_),S⟩
 ·show Good g (nZ (S0.getD s Site.z)) (S0.getD s Site.z).value
  rcases hS s hs2 with⟨e,_⟩|⟨_,e1,e2,_⟩
  ·rw[e];exact z.sg s hs2
  ·rw[e1,e2];exact z.lg j hj (.inr hs)
 ·rw[(Sb k).1,(Sb k).2]
  by_cases e:k=j
  ·subst e;exact z.lg k hk (.inr hs)
  ·rw[el,if_neg e]at h;exact z.lg k hk h
 ·have hl2:=z.lt k hk
  rw[(Sb k).1,(S.lf k).2.2.1]
  by_cases e:k=j
  ·subst e
   show ¬iz (nZ (S0.getD (m.aB k).site.toNat Site.z)) _
   rcases hS (m.aB k).site.toNat (by omega)with⟨e1,e2⟩|⟨_,e1,_⟩
   ·rw[e1];exact e2 rfl
   ·rw[e1];unfold iz;omega
  ·rw[el,if_neg e]at h1 h2
   exact up _ (by omega) _ (z.ls k hk h1 h2)
 ·rw[JB]at h
  rw[el]
  split
  ·rw[hx];rfl
  ·exact z.rd k hk h
 ·simp only[JB];exact P.rep
 ·have Q:=P.CL h
  have h:(m.who w).store=false:=h
  have hne: ∀s,s < n→g.B w+s≠j:=fun s hs2 e=>by
   have:=(P.uG.2 s hs2).2.2.2
   rw[e,hs,h]at this;cases this
  refine⟨fun s hs2 hr=>?_,Q.good,Hi (m:=m) up Q fun s hs2=>?_⟩
  ·rw[JB]at hr
   rw[(Sb _).1];exact Q.best s hs2 hr
  ·rw[el,if_neg (hne s hs2)];exact .inl ⟨rfl,rfl⟩
 ·have Q:=P.B8 h
  exact⟨Q.tag,Q.good,fun s hs2=>by rw[(Sb _).1];exact Q.lets s hs2⟩
theorem adR(z:Z N bt np n m g){j:Nat}(hj:j < m.aJ.length)(hd:(m.aB j).ce=true)(hst:(m.who (m.aB j).who.toNat).pending=false∨(m.aB j).round≠(m.who (m.aB j).who.toNat).round):Z N bt np n ⟨m.sites,m.aa,m.aJ.set j (got (m.aB j)),m.events⟩ g∧sZ n m ⟨m.sites,m.aa,m.aJ.set j (got (m.aB j)),m.events⟩:=by
 have S:sZ n m ⟨m.sites,m.aa,m.aJ.set j (got (m.aB j)),m.events⟩:=JA (x:=got (m.aB j)) hj rfl rfl rfl rfl rfl
 have el: ∀k,M.aB ⟨m.sites,m.aa,m.aJ.set j (got (m.aB j)),m.events⟩ k=if k=j then got (m.aB j)else m.aB k:=fun k=>D' hj
 have hf: ∀k,(M.aB ⟨m.sites,m.aa,m.aJ.set j (got (m.aB j)),m.events⟩ k).ce=(m.aB k).ce∧(M.aB ⟨m.sites,m.aa,m.aJ.set j (got (m.aB j)),m.events⟩ k).tag=(m.aB k).tag∧(M.aB ⟨m.sites,m.aa,m.aJ.set j (got (m.aB j)),m.events⟩ k).value=(m.aB k).value:=fun k=>by
  rw[el];split
  ·rename_i h;subst h;exact⟨rfl,rfl,rfl⟩
  ·exact⟨rfl,rfl,rfl⟩
 have hne: ∀w i,w < np→Pd bt n m g w i→(m.who w).pending=true→∀s,s < n→g.B w+s≠j:=fun w i hw P hp s hs2 e=>by
  obtain⟨b1,b2,_⟩:=P.uG.2 s hs2
  rw[e]at b1 b2
  rw[b1,Int.toNat_natCast]at hst
  rcases hst with h|h
  ·rw[hp]at h;cases h
  ·exact h b2
 have aks: ∀w i,w < np→Pd bt n m g w i→(m.who w).pending=true:=fun w i hw P=>z.wait hw P.D_
 have RZ: ∀w i,w < np→Pd bt n m g w i→∀s,s < n→M.aB ⟨m.sites,m.aa,m.aJ.set j (got (m.aB j)),m.events⟩ (g.B w+s)=m.aB (g.B w+s):=fun w i hw P s hs2=>by
  rw[el,if_neg (hne w i hw P (aks w i hw P) s hs2)]
 refine⟨S.z z z.sg (fun s _ t h=>h) (fun k hk h=>?_) (fun k hk h1 h2=>?_) (fun k hk h=>?_) (fun w i hw P=>?_) (fun w i _ P=>P.zero) (fun w i hw h P=>?_) (fun w i hw h P=>?_),S⟩
 ·rw[(hf k).2.1,(hf k).2.2]
  rw[(hf k).1,(S.lf k).2.2.2]at h
  exact z.lg k hk h
 ·rw[(S.lf k).2.2.1,(hf k).2.1]
  rw[(S.lf k).2.2.2]at h1
  rw[(hf k).1]at h2
  exact z.ls k hk h1 h2
 ·rw[(hf k).1]
  rw[el]at h
  by_cases e:k=j
  ·rw[e];exact hd
  ·rw[if_neg e]at h;exact z.rd k hk h
 ·refine Eq.trans (P.rep) ?_
  congr 1
  refine List.countP_congr fun s hs2=>?_
  rw[RZ w i hw P s (List.mem_range.1 hs2)]
 ·have Q:=P.CL h
  refine⟨fun s hs2 hr=>?_,Q.good,Hi (m:=m) (fun s _ t h=>h) Q fun s hs2=> .inl ⟨(hf _).1,(hf _).2.1⟩⟩
  rw[RZ w i hw P s hs2]at hr⊢
  exact Q.best s hs2 hr
 ·have Q:=P.B8 h
  exact⟨Q.tag,Q.good,fun s hs2=>by rw[(hf _).2.1];exact Q.lets s hs2⟩
theorem V6{n s0:Nat}{p q:Nat→Bool}(h0:s0 < n)(hp:p s0=false)(hq:q s0=true)(h: ∀s,s < n→s≠s0→q s=p s):(List.range n).countP q=(List.range n).countP p+1:=by
 induction n with
 |zero=>omega
 |succ n ih=>
  rw[List.range_succ,List.countP_append,List.countP_append,List.countP_singleton,List.countP_singleton]
  by_cases e:s0=n
  ·subst e
   rw[hp,hq]
   have:(List.range s0).countP q=(List.range s0).countP p:=List.countP_congr fun s hs=>by
    have:=List.mem_range.1 hs
    rw[h s (by omega) (by omega)]
   rw[this];simp
  ·rw[ih (by omega) (fun s hs=>h s (by omega)),h n (by omega) (fun z=>e z.symm)]
   omega
theorem ah2(z:Z N bt np n m g){j:Nat}(hj:j < m.aJ.length)(hd:(m.aB j).ce=true)(hr:(m.aB j).received=false)(hp:(m.who (m.aB j).who.toNat).pending=true)(hro:(m.aB j).round=(m.who (m.aB j).who.toNat).round):Z N bt np n (fG m j) g∧sZ n m (fG m j):=by
 have hlt:=z.lt j hj
 have hpl:=z.pl
 obtain⟨w0,hw0⟩: ∃w:Nat,(m.aB j).who=w:=⟨(m.aB j).who.toNat,by omega⟩
 have aaB:w0 < np:=by omega
 have htn:(m.aB j).who.toNat=w0:=by omega
 rw[htn]at hp hro
 have el: ∀k,(fG m j).aB k=if k=j then got (m.aB j)else m.aB k:=fun k=>D' hj
 have ew: ∀v,(fG m j).who v=if v=w0 then countP (m.who w0) (m.aB j)else m.who v:=fun v=>by
  have:(fG m j).aa=m.aa.set w0 (countP (m.who w0) (m.aB j)):=by unfold fG;rw[htn]
  show(fG m j).aa.getD v ab.z=_
  rw[this];exact gl (by omega)
 obtain⟨c1,c2,c3,c4,c5⟩:=countP_eq (m.who w0) (m.aB j)
 have c6:(countP (m.who w0) (m.aB j)).store=(m.who w0).store:=by unfold countP;split<;>rfl
 have S:sZ n m (fG m j):=by
  refine⟨by simp[fG],rfl,rfl,by simp[fG],fun k=>?_,fun w=>?_⟩
  ·rw[el];split
   ·rename_i h;subst h;exact⟨rfl,rfl,rfl,rfl⟩
   ·exact⟨rfl,rfl,rfl,rfl⟩
  ·rw[ew];split
   ·rename_i h;subst h;exact⟨c1,c2,c3,c6⟩
   ·exact⟨rfl,rfl,rfl,rfl⟩
 have hf: ∀k,((fG m j).aB k).ce=(m.aB k).ce∧((fG m j).aB k).tag=(m.aB k).tag∧((fG m j).aB k).value=(m.aB k).value:=fun k=>by
  rw[el];split
  ·rename_i h;subst h;exact⟨rfl,rfl,rfl⟩
  ·exact⟨rfl,rfl,rfl⟩
 obtain⟨i0,P0⟩:=z.pend w0 aaB hp
 have hown:=P0.own j hj hw0 hro
 have hne: ∀w i,w < np→w≠w0→Pd bt n m g w i→∀s,s < n→g.B w+s≠j:=fun w i hw hne P s hs2 e=>by
  obtain⟨b1,b2,_⟩:=P.uG.2 s hs2
  rw[e,hw0]at b1
  exact hne (by omega)
 refine⟨S.z z z.sg (fun s _ t h=>h) (fun k hk h=>?_) (fun k hk h1 h2=>?_) (fun k hk h=>?_) (fun w i hw P=>?_) (fun w i hw P h0 h1=>?_) (fun w i hw h P=>?_) (fun w i hw h P=>?_),S⟩
 ·rw[(hf k).2.1,(hf k).2.2]
  rw[(hf k).1,(S.lf k).2.2.2]at h
  exact z.lg k hk h
 ·rw[(S.lf k).2.2.1,(hf k).2.1]
  rw[(S.lf k).2.2.2]at h1
  rw[(hf k).1]at h2
  exact z.ls k hk h1 h2
 ·rw[(hf k).1]
  rw[el]at h
  by_cases e:k=j
  ·rw[e];exact hd
  ·rw[if_neg e]at h;exact z.rd k hk h
 ·rw[ew]
  by_cases e:w=w0
  ·subst e
   have ho:=P.own j hj hw0 hro
   have hcn:=V6 (n:=n) (s0:=j - g.B w) (p:=fun s=>(m.aB (g.B w+s)).received) (q:=fun s=>((fG m j).aB (g.B w+s)).received) (by omega) (by
    show(m.aB (g.B w+(j - g.B w))).received=false
    rw[show g.B w+(j - g.B w)=j by omega];exact hr) (by
    show((fG m j).aB (g.B w+(j - g.B w))).received=true
    rw[show g.B w+(j - g.B w)=j by omega,el,if_pos rfl];rfl) (fun s hs2 hs3=>by
    show((fG m j).aB (g.B w+s)).received=(m.aB (g.B w+s)).received
    rw[el,if_neg (by omega)])
   rw[if_pos rfl,c4,show(m.who w).bj=_ from P.rep,hcn]
   rfl
  ·rw[if_neg e,show(m.who w).bj=_ from P.rep]
   congr 1
   refine List.countP_congr fun s hs2=>?_
   rw[el,if_neg (hne w i hw e P s (List.mem_range.1 hs2))]
 ·rw[(S.pf w).2.2.2]at h0
  rw[ew]at h1⊢
  by_cases e:w=w0
  ·rw[if_pos e,c4]at h1
   have:=P0.rep
   omega
  ·rw[if_neg e]at h1⊢
   exact P.zero h0 h1
 ·rw[(S.pf w).2.2.2]at h
  have Q:=P.CL h
  have L:=Hi (m:=m) (m':=fG m j) (fun s _ t h=>h) Q fun s hs2=> .inl ⟨(hf _).1,(hf _).2.1⟩
  by_cases e:w=w0
  ·subst e
   have hst:(m.aB j).store=false:=by
    have:=P.own j hj hw0 hro
    have h2:=(P.uG.2 (j - g.B w) (by omega)).2.2.2
    rw[show g.B w+(j - g.B w)=j by omega,h]at h2
    exact h2
   have hcp:(countP (m.who w) (m.aB j)).best=(if iz (m.who w).best (m.aB j).tag then(m.aB j).tag else(m.who w).best)∧(countP (m.who w) (m.aB j)).value=(if iz (m.who w).best (m.aB j).tag then(m.aB j).value else(m.who w).value):=by
    unfold countP
    by_cases ht:iz (m.who w).best (m.aB j).tag
    ·rw[if_pos ⟨hst,ht⟩,if_pos ht,if_pos ht];exact⟨rfl,rfl⟩
    ·rw[if_neg (fun e=>ht e.2),if_neg ht,if_neg ht];exact⟨rfl,rfl⟩
   refine⟨fun s hs2 hr2=>?_,fun za=>?_,L⟩
   ·rw[(hf _).2.1,ew,if_pos rfl,hcp.1]
    rw[el]at hr2
    by_cases e2:g.B w+s=j
    ·rw[e2]
     split
     ·unfold iz;omega
     ·assumption
    ·rw[if_neg e2]at hr2
     have hb:=Q.best s hs2 hr2
     split
     ·rename_i ht;unfold iz at *;omega
     ·exact hb
   ·rw[ew,if_pos rfl,hcp.1,hcp.2]
    by_cases ht:iz (m.who w).best (m.aB j).tag
    ·rw[if_pos ht,if_pos ht];exact z.lg j hj (.inl hd)
    ·rw[if_neg ht,if_neg ht]
     refine Q.good ?_
     apply Classical.byContradiction
     intro h0
     have:=P.rep
     have hz:(m.who w).bj=0:=by omega
     have hb:=z.lg j hj (.inl hd)
     exact absurd (P.zero h hz) fun hb0=>ht (by
      rw[hb0]
      rcases hb with⟨e1,_⟩|⟨i,hi,h1,h2,h3,_⟩
      ·rw[e1];unfold iz;simp
      ·have:=(z.tw i hi h1 h2).2
       rw[←h3];unfold iz;left;simp only;omega)
  ·refine⟨fun s hs2 hr2=>?_,?_,L⟩
   ·rw[(hf _).2.1,ew,if_neg e]
    rw[el,if_neg (hne w i hw e P s hs2)]at hr2
    exact Q.best s hs2 hr2
   ·rw[ew,if_neg e];exact Q.good
 ·rw[(S.pf w).2.2.2]at h
  have Q:=P.B8 h
  have eb:((fG m j).who w).best=(m.who w).best∧((fG m j).who w).value=(m.who w).value:=by
   rw[ew]
   split
   ·rename_i e
    subst e
    have hst:(m.aB j).store=true:=by
     have:=P.own j hj hw0 hro
     have h2:=(P.uG.2 (j - g.B w) (by omega)).2.2.2
     rw[show g.B w+(j - g.B w)=j by omega,h]at h2
     exact h2
    unfold countP
    rw[if_neg (fun e=>by rw[hst]at e;cases e.1)]
    exact⟨rfl,rfl⟩
   ·exact⟨rfl,rfl⟩
  refine⟨by rw[eb.1];exact Q.tag,by rw[eb.1,eb.2];exact Q.good,fun s hs2=>by rw[(hf _).2.1,eb.1];exact Q.lets s hs2⟩
end
end Si
end Go.Proofs.YtjdkkabcenohcaaGreatDoor
