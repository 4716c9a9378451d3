import Derived.Test.YtjdkkabcenohcaaGreatDoorSI3
set_option linter.unusedVariables false
set_option linter.unusedSimpArgs false
set_option linter.unusedSectionVars false
set_option maxRecDepth 100000
namespace Go.Proofs.YtjdkkabcenohcaaGreatDoor
open Go.RowKit
namespace Si
open Hs
theorem ny{α:Type}{f:α→Nat}: ∀{l:List α} {i:Nat} {a d:α},i < l.length→((l.set i a).map f).sum+f (l.getD i d)=(l.map f).sum+f a
 | [],_,_,_,h=>absurd h (Nat.not_lt_zero _)
 |x::l,0,a,d,_=>by simp only[List.set_cons_zero,List.map_cons,List.sum_cons,List.getD_cons_zero];omega
 |x::l,i+1,a,d,h=>by
  have:=ny (f:=f) (l:=l) (i:=i) (a:=a) (d:=d) (by simpa using h)
  simp only[List.set_cons_succ,List.map_cons,List.sum_cons,List.getD_cons_succ]
  omega
def rem(p:ab):Nat:=p.program.length - (if p.pending then 1 else 0)
def cost(n:Nat)(p:ab):Nat:=2 * (n * rem p)+(if p.pending&& !p.store then n else 0)
def oq(m:M):Nat:=(m.aa.map rem).sum
def ue(n:Nat)(m:M):Nat:=m.aJ.length+(m.aa.map (cost n)).sum
theorem akx(N:Nat):bV N 1 0=some true:=by unfold bV;simp[bd]
theorem agU(N:Nat){v:Int}(h0:0≤v)(h1:v≤1000):bV N 2 v=some true:=by unfold bV;simp[bd,h0,h1]
section
variable {N:Nat} {bt:Bool} {np n:Nat} {m:M} {g:Gh}
theorem Se(z:Z N bt np n m g){t:bM}{v:Int}(h:Good g t v):0≤v∧v≤1000:=by
 rcases h with⟨_,rfl⟩|⟨i,h1,_,h3,_,h5⟩
 ·exact⟨by decide,by decide⟩
 ·have:=(Sr.w_ z.run i h1).1
  have h3:(g.c.getD i Call.z).kind=1:=h3
  rw[h3]at this
  have:=Sr.T6 this
  have h5:(g.c.getD i Call.z).arg=v:=h5
  omega
theorem Un.weak{e:Nat}(u:Un np m g np):Un np m g e:=fun w hw _=>u w hw (by omega)
theorem agV(z:Z N bt np n m g)(u:Un np m g np){w:Nat}(hw:w < np)(hp:(m.who w).pending=true)(hm:(n:Int) < 2 * (m.who w).bj):
  ∃g',Z N bt np n (next bt m w) g'∧Un np (next bt m w) g' np∧oq (next bt m w)+g'.c.length=oq m+g.c.length∧ue n (next bt m w)≤ue n m∧(∀v,v≠w→(next bt m w).who v=m.who v)∧((next bt m w).who w).bj≤(m.who w).bj∧(((next bt m w).who w).pending=true→((next bt m w).who w).bj=0)∧(next bt m w).sites=m.sites:=by
 obtain⟨i,P⟩:=z.pend w hw hp
 obtain⟨a,rest,G5,hk,Rp⟩:=P.Ad.2.2
 have px:=z.ask w hw a (by rw[G5];exact .head _)
 have hpl:=z.pl
 have Bw:w < m.aa.length:=by omega
 have hwp:m.aa.getD w ab.z=m.who w:=rfl
 have n1:=z.n1
 have most:rI n fun s=>(m.aB (g.B w+s)).received:=by
  have:=P.rep
  unfold rI;omega
 have rr: ∀res,oq (f_ m w res)=oq m∧ue n (f_ m w res)≤ue n m:=by
  intro res
  have e1:rem (rY (m.who w))=rem (m.who w):=by unfold rem rY;rw[G5,hp];simp
  have e2:cost n (rY (m.who w))≤cost n (m.who w):=by
   unfold cost;rw[e1]
   have:(rY (m.who w)).pending=false:=rfl
   rw[this];simp
  have s1:=ny (f:=rem) (l:=m.aa) (i:=w) (a:=rY (m.who w)) (d:=ab.z) Bw
  have s2:=ny (f:=cost n) (l:=m.aa) (i:=w) (a:=rY (m.who w)) (d:=ab.z) Bw
  rw[hwp]at s1 s2
  refine⟨?_,?_⟩
  ·show((m.aa.set w (rY (m.who w))).map rem).sum=(m.aa.map rem).sum
   omega
  ·show m.aJ.length+((m.aa.set w (rY (m.who w))).map (cost n)).sum≤m.aJ.length+(m.aa.map (cost n)).sum
   omega
 have rw1: ∀res,(∀v,v≠w→(f_ m w res).who v=m.who v)∧((f_ m w res).who w)=rY (m.who w):=fun res=>by
  have e: ∀v,(f_ m w res).who v=if v=w then rY (m.who w)else m.who v:=fun v=>gl Bw
  exact⟨fun v hv=>by rw[e,if_neg hv],by rw[e,if_pos rfl]⟩
 have mk1: ∀{g1:Gh} {res:Int},g1.c=g.c→(∃g',Z N bt np n (f_ m w res) g'∧Un np (f_ m w res) g' np∧g'.c.length=g1.c.length)→
   ∃g',Z N bt np n (f_ m w res) g'∧Un np (f_ m w res) g' np∧oq (f_ m w res)+g'.c.length=oq m+g.c.length∧ue n (f_ m w res)≤ue n m∧(∀v,v≠w→(f_ m w res).who v=m.who v)∧((f_ m w res).who w).bj≤(m.who w).bj∧(((f_ m w res).who w).pending=true→((f_ m w res).who w).bj=0)∧(f_ m w res).sites=m.sites:=by
  rintro g1 res e ⟨g',z',u',hc⟩
  obtain⟨r1,r2⟩:=rr res
  obtain⟨w1,w2⟩:=rw1 res
  exact⟨g',z',u',by rw[hc,e,r1],r2,w1,by rw[w2];exact Int.le_refl _,fun h=>(by rw[w2]at h;cases h),rfl⟩
 have st: ∀t v,oq (start m w true t v)=oq m∧((m.who w).store=false→ue n (start m w true t v)≤ue n m):=by
  intro t v
  have e1:rem (fF (m.who w) true t v)=rem (m.who w):=rfl
  have s1:=ny (f:=rem) (l:=m.aa) (i:=w) (a:=fF (m.who w) true t v) (d:=ab.z) Bw
  have s2:=ny (f:=cost n) (l:=m.aa) (i:=w) (a:=fF (m.who w) true t v) (d:=ab.z) Bw
  rw[hwp]at s1 s2
  refine⟨?_,fun hs=>?_⟩
  ·show((m.aa.set w (fF (m.who w) true t v)).map rem).sum=(m.aa.map rem).sum
   omega
  ·have e2:cost n (fF (m.who w) true t v)+n=cost n (m.who w):=by
    unfold cost;rw[e1,hp,hs]
    have:(fF (m.who w) true t v).store=true:=rfl
    rw[this];simp
   show(m.aJ++batch m.sites.length w ((m.who w).round+1) true t v).length+((m.aa.set w (fF (m.who w) true t v)).map (cost n)).sum≤m.aJ.length+(m.aa.map (cost n)).sum
   rw[List.length_append,CM,z.sl]
   omega
 have sw1: ∀t v,(∀x,x≠w→(start m w true t v).who x=m.who x)∧((start m w true t v).who w).bj=0:=fun t v=>by
  have e: ∀x,(start m w true t v).who x=if x=w then fF (m.who w) true t v else m.who x:=fun x=>gl Bw
  exact⟨fun x hv=>by rw[e,if_neg hv],by rw[e,if_pos rfl];rfl⟩
 have mk2: ∀{g1:Gh} {t:bM} {v:Int},g1.c=g.c→(m.who w).store=false→(∃g',Z N bt np n (start m w true t v) g'∧Un np (start m w true t v) g' np∧g'.c=g1.c)→
   ∃g',Z N bt np n (start m w true t v) g'∧Un np (start m w true t v) g' np∧oq (start m w true t v)+g'.c.length=oq m+g.c.length∧ue n (start m w true t v)≤ue n m∧(∀x,x≠w→(start m w true t v).who x=m.who x)∧((start m w true t v).who w).bj≤(m.who w).bj∧(((start m w true t v).who w).pending=true→((start m w true t v).who w).bj=0)∧(start m w true t v).sites=m.sites:=by
  rintro g1 t v e hs ⟨g',z',u',hc⟩
  obtain⟨r1,r2⟩:=st t v
  obtain⟨w1,w2⟩:=sw1 t v
  exact⟨g',z',u',by rw[hc,e,r1],r2 hs,w1,by rw[w2];omega,fun _=>w2,rfl⟩
 unfold Si.next
 rw[G5]
 simp only
 have hkk:a.kind=1∨a.kind=2:=by rcases px with h|h<;>omega
 have stw:(m.who w).store=true→rI n fun s=>decide (¬iz (nZ (m.site s)) (g.tag i)):=fun hs=>by
  have Q:=P.B8 hs
  refine most.mono fun s hs2 hr=>decide_eq_true ?_
  have hr:(m.aB (g.B w+s)).received=true:=hr
  obtain⟨b1,b2,b3,b4⟩:=P.uG.2 s hs2
  have hb:=P.uG.1
  have:=z.ls (g.B w+s) (by omega) (by rw[b4];exact hs) (z.rd _ (by omega) hr)
  rw[b3,Int.toNat_natCast,Q.lets s hs2]at this
  rw[Q.tag.2];exact this
 by_cases hs:(m.who w).store=true
 ·have Q:=P.B8 hs
  by_cases ha:a.kind=1
  ·rw[if_pos ⟨hs,ha⟩]
   exact mk1 rfl (Sd z hw P u.weak Q.tag.1 (res:=0) (by rw[hk,ha];exact akx N) (fun _=>stw hs) (fun _=>rfl) (fun h=>(h (hk.trans ha)).elim))
  ·rw[if_neg (fun e=>ha e.2),if_pos (.inl hs)]
   have hv:=Se z Q.good
   refine mk1 rfl (Sd z hw P u.weak Q.tag.1 (res:=(m.who w).value) (by rw[hk,hkk.resolve_left ha];exact agU N hv.1 hv.2) (fun _=>stw hs) (fun h=>(ha (hk.symm.trans h)).elim) (fun _=>?_))
   rw[Q.tag.2];exact Q.good
 ·have hs:(m.who w).store=false:=by simpa using hs
  obtain⟨g1,z1,u1,P1,t1,c1,b1,hh⟩:=ah3 z u hw P hs hm
  have aaC:g1.call i=g.call i:=by unfold Gh.call;rw[c1]
  rw[if_neg (by rw[hs];rintro⟨e,_⟩;cases e)]
  by_cases ha:a.kind=1
  ·rw[if_neg (by rw[hs];rintro(e|⟨e,_⟩);cases e;exact e ha),if_pos ha]
   rcases hh with⟨_,h2,h3⟩|⟨h2,_⟩
   ·rw[Rp]at h3
    exact mk2 c1 hs (UD z1 hw P1 u1 hs t1 h2 h3)
   ·exact(h2 (hk.trans ha)).elim
  ·rcases hh with⟨h2,_⟩|⟨_,h2,h3⟩
   ·exact(ha (hk.symm.trans h2)).elim
   ·cases hf:bt with
    |true=>
     subst hf
     rw[if_pos (.inr ⟨ha,rfl⟩)]
     have hv:=Se z1 h3
     refine mk1 c1 (Sd z1 hw P1 u1 t1 (res:=(m.who w).value) (by rw[aaC,hk,hkk.resolve_left ha];exact agU N hv.1 hv.2) (fun h=>?_) (fun h=>?_) (fun _=>by rw[h2];exact h3))
     ·rcases h with h|h
      ·cases h
      ·rw[aaC,hk]at h;exact(ha h).elim
     ·rw[aaC,hk]at h;exact(ha h).elim
    |false=>
     subst hf
     rw[if_neg (by rw[hs];rintro(e|⟨_,e⟩)<;>cases e),if_neg ha]
     exact mk2 c1 hs (UD z1 hw P1 u1 hs t1 h2 h3)
def Calm(np n:Nat)(m:M):Prop:=∀w,w < np→(m.who w).pending=true→2 * (m.who w).bj≤n
structure ZZ(N:Nat)(bt:Bool)(np n:Nat)(m:M)(g:Gh):Prop where
 z:Z N bt np n m g
 u:Un np m g np
 calm:Calm np n m
theorem Yn{m m':M}(h: ∀w,(m'.who w).program=(m.who w).program∧(m'.who w).pending=(m.who w).pending∧(m'.who w).store=(m.who w).store)(hl:m'.aa.length=m.aa.length):oq m'=oq m∧(m'.aa.map (cost n)).sum=(m.aa.map (cost n)).sum:=by
 have key: ∀f:ab→Nat,(∀w,f (m'.who w)=f (m.who w))→m'.aa.map f=m.aa.map f:=by
  intro f hf
  apply List.ext_getElem (by simpa using hl)
  intro i h1 h2
  rw[List.length_map]at h1 h2
  have:=hf i
  unfold M.who at this
  rw[aW h1,aW h2]at this
  rw[List.getElem_map,List.getElem_map];exact this
 refine⟨?_,?_⟩
 ·unfold oq
  rw[key rem fun w=>by unfold rem;rw[(h w).1,(h w).2.1]]
 ·rw[key (cost n) fun w=>by unfold cost rem;rw[(h w).1,(h w).2.1,(h w).2.2]]
theorem sZ.zz{m m':M}(S:sZ n m m')(z:Z N bt np n m' g)(A:ZZ N bt np n m g)(hp:m'.aa=m.aa):ZZ N bt np n m' g∧oq m'=oq m∧ue n m'=ue n m:=by
 refine⟨⟨z,S.un A.u,fun w hw h=>?_⟩,?_,?_⟩
 ·unfold M.who at *
  rw[hp]at h⊢
  exact A.calm w hw h
 ·unfold oq;rw[hp]
 ·unfold ue;rw[hp,S.ll]
theorem agW(A:ZZ N bt np n m g){a:Act}(ha:ud np n a):
  ∃g',ZZ N bt np n (act bt m a) g'∧oq (act bt m a)+g'.c.length=oq m+g.c.length∧ue n (act bt m a)≤ue n m:=by
 have z:=A.z
 have hpl:=z.pl
 have vN:=z.sl
 unfold act
 by_cases c1:a.kind=1
 ·rw[if_pos c1]
  have hb:=ha.2.1 c1
  obtain⟨w,hw⟩: ∃w:Nat,a.a=w:=⟨a.a.toNat,by omega⟩
  rw[hw,Int.toNat_natCast]
  have hwn:w < np:=by omega
  have Bw:w < m.aa.length:=by omega
  unfold call
  cases G5:(m.who w).program with
  |nil=>exact⟨g,A,rfl,Nat.le_refl _⟩
  |cons b rest=>
   simp only
   split
   ·exact⟨g,A,rfl,Nat.le_refl _⟩
   rename_i hp
   have hp:(m.who w).pending=false:=by simpa using hp
   have hP:(start ⟨m.sites,m.aa.set w (je (m.who w)),m.aJ,m.events++[⟨w,0,b.kind,b.arg⟩]⟩ w false ⟨0,0⟩ 0)=⟨m.sites,m.aa.set w (fF (je (m.who w)) false ⟨0,0⟩ 0),m.aJ++batch n w ((m.who w).round+1) false ⟨0,0⟩ 0,m.events++[⟨w,0,b.kind,b.arg⟩]⟩:=by
    have e:M.who ⟨m.sites,m.aa.set w (je (m.who w)),m.aJ,m.events++[⟨w,0,b.kind,b.arg⟩]⟩ w=je (m.who w):=by unfold M.who;simp[Bw]
    unfold start
    rw[e]
    simp[List.set_set,je,vN]
   obtain⟨g',z',u',hc⟩:=ah4 z A.u hwn hp G5 hP
   have e1:rem (fF (je (m.who w)) false ⟨0,0⟩ 0)+1=rem (m.who w):=by
    have:(fF (je (m.who w)) false ⟨0,0⟩ 0).program=(m.who w).program:=rfl
    have h2:(fF (je (m.who w)) false ⟨0,0⟩ 0).pending=true:=rfl
    unfold rem;rw[this,h2,G5,hp];simp
   have e2:cost n (fF (je (m.who w)) false ⟨0,0⟩ 0)+n=cost n (m.who w):=by
    have h2:(fF (je (m.who w)) false ⟨0,0⟩ 0).pending=true:=rfl
    have h3:(fF (je (m.who w)) false ⟨0,0⟩ 0).store=false:=rfl
    unfold cost
    rw[h2,h3,hp,←e1,Nat.mul_add]
    simp
    omega
   have s1:=ny (f:=rem) (l:=m.aa) (i:=w) (a:=fF (je (m.who w)) false ⟨0,0⟩ 0) (d:=ab.z) Bw
   have s2:=ny (f:=cost n) (l:=m.aa) (i:=w) (a:=fF (je (m.who w)) false ⟨0,0⟩ 0) (d:=ab.z) Bw
   have hwp:m.aa.getD w ab.z=m.who w:=rfl
   rw[hwp]at s1 s2
   rw[hP]at z' u'⊢
   refine⟨g',⟨z',u',fun v hv h=>?_⟩,?_,?_⟩
   ·have e:M.who ⟨m.sites,m.aa.set w (fF (je (m.who w)) false ⟨0,0⟩ 0),m.aJ++batch n w ((m.who w).round+1) false ⟨0,0⟩ 0,m.events++[⟨w,0,b.kind,b.arg⟩]⟩ v=if v=w then fF (je (m.who w)) false ⟨0,0⟩ 0 else m.who v:=gl Bw
    rw[e]at h⊢
    split
    ·show 2 * (0:Int)≤n;omega
    ·rename_i e;rw[if_neg e]at h;exact A.calm v hv h
   ·show((m.aa.set w (fF (je (m.who w)) false ⟨0,0⟩ 0)).map rem).sum+_=(m.aa.map rem).sum+_
    omega
   ·show(m.aJ++batch n w ((m.who w).round+1) false ⟨0,0⟩ 0).length+((m.aa.set w (fF (je (m.who w)) false ⟨0,0⟩ 0)).map (cost n)).sum≤m.aJ.length+(m.aa.map (cost n)).sum
    rw[List.length_append,CM]
    omega
 rw[if_neg c1]
 by_cases c2:a.kind=2
 ·rw[if_pos c2]
  unfold hand
  split
  rotate_left
  ·exact⟨g,A,rfl,Nat.le_refl _⟩
  rename_i hi
  have hj:a.a.toNat < m.aJ.length:=by omega
  have hlt:=z.lt _ hj
  split
  ·exact⟨g,A,rfl,Nat.le_refl _⟩
  rename_i hd
  have hdl:(m.aB a.a.toNat).ce=false:=by
   cases h:(m.aB a.a.toNat).ce with
   |false=>rfl
   |true=>exact(hd (.inl h)).elim
  split
  ·rename_i hs
   obtain⟨z',S⟩:=adQ z hj hdl hs
   obtain⟨A',r1,r2⟩:=S.zz z' A rfl
   exact⟨g,A',by rw[←r1];rfl,by rw[←r2];exact Nat.le_refl _⟩
  rename_i hs
  have hs:(m.aB a.a.toNat).store=true:=by simpa using hs
  have hqn:(m.aB a.a.toNat).site.toNat < m.sites.length:=by omega
  split
  ·rename_i ht
   obtain⟨z',S⟩:=UB z hj hdl hs (S0:=m.sites.set (m.aB a.a.toNat).site.toNat ⟨(m.aB a.a.toNat).tag.stamp,(m.aB a.a.toNat).tag.who,(m.aB a.a.toNat).value,(m.site (m.aB a.a.toNat).site.toNat).down⟩) (by simp) (fun s hs2=>by
    rw[Sa hqn]
    by_cases e:s=(m.aB a.a.toNat).site.toNat
    ·rw[if_pos e]
     exact .inr ⟨e,rfl,rfl,by rw[e];exact ht⟩
    ·rw[if_neg e]
     exact .inl ⟨rfl,fun h=>(e h).elim⟩)
   obtain⟨A',r1,r2⟩:=S.zz z' A rfl
   exact⟨g,A',by rw[←r1],by rw[←r2];exact Nat.le_refl _⟩
  ·rename_i ht
   obtain⟨z',S⟩:=UB z hj hdl hs (S0:=m.sites) rfl (fun s hs2=> .inl ⟨rfl,fun e=>by rw[e];exact ht⟩)
   obtain⟨A',r1,r2⟩:=S.zz z' A rfl
   exact⟨g,A',by rw[←r1],by rw[←r2];exact Nat.le_refl _⟩
 rw[if_neg c2]
 by_cases c3:a.kind=3
 ·rw[if_pos c3,back_eq]
  split
  rotate_left
  ·exact⟨g,A,rfl,Nat.le_refl _⟩
  rename_i hi
  have hj:a.a.toNat < m.aJ.length:=by omega
  have hlt:=z.lt _ hj
  generalize a.a.toNat=j at hj hlt⊢
  split
  ·exact⟨g,A,rfl,Nat.le_refl _⟩
  rename_i hd
  have hd1:(m.aB j).ce=true:=by
   cases h:(m.aB j).ce with
   |false=>exact(hd (.inl h)).elim
   |true=>rfl
  have hd2:(m.aB j).received=false:=by
   cases h:(m.aB j).received with
   |false=>rfl
   |true=>exact(hd (.inr h)).elim
  split
  ·rename_i hst
   obtain⟨z',S⟩:=adR z hj hd1 hst
   obtain⟨A',r1,r2⟩:=S.zz z' A rfl
   exact⟨g,A',by rw[←r1],by rw[←r2];exact Nat.le_refl _⟩
  rename_i hst
  have hp:(m.who (m.aB j).who.toNat).pending=true:=by
   cases h:(m.who (m.aB j).who.toNat).pending with
   |false=>exact(hst (.inl h)).elim
   |true=>rfl
  have hro:(m.aB j).round=(m.who (m.aB j).who.toNat).round:=Classical.byContradiction fun h=>hst (.inr h)
  obtain⟨z',S⟩:=ah2 z hj hd1 hd2 hp hro
  obtain⟨w0,hw0⟩: ∃w0,(m.aB j).who.toNat=w0:=⟨_,rfl⟩
  have aaB:w0 < np:=by omega
  rw[hw0]at hp hro⊢
  have ew: ∀v,(fG m j).who v=if v=w0 then countP (m.who w0) (m.aB j)else m.who v:=fun v=>by
   have:(fG m j).aa=m.aa.set w0 (countP (m.who w0) (m.aB j)):=by unfold fG;rw[hw0]
   show(fG m j).aa.getD v ab.z=_
   rw[this];exact gl (by omega)
  obtain⟨k1,k2,k3,k4,k5⟩:=countP_eq (m.who w0) (m.aB j)
  obtain⟨r1,r2⟩:=Yn (n:=n) (m:=m) (m':=fG m j) (fun w=>⟨(S.pf w).1,(S.pf w).2.1,(S.pf w).2.2.2⟩) S.pl
  have r3:ue n (fG m j)=ue n m:=by unfold ue;rw[r2,S.ll]
  have u':Un np (fG m j) g np:=S.un A.u
  have agX:((fG m j).who w0).bj=(m.who w0).bj+1:=by rw[ew,if_pos rfl,k4]
  split
  ·rename_i R0
   obtain⟨g2,z2,u2,q1,q2,q3,q4,q5,q6⟩:=agV z' u' aaB (by rw[ew,if_pos rfl,k2];exact hp) (by rw[agX,←vN];exact R0)
   refine⟨g2,⟨z2,u2,fun v hv h=>?_⟩,by rw[q1,r1],by rw[←r3];exact q2⟩
   by_cases e:v=w0
   ·subst e
    rw[q5 h];omega
   ·rw[q3 v e,ew,if_neg e]at h⊢
    exact A.calm v hv h
  ·rename_i R0
   refine⟨g,⟨z',u',fun v hv h=>?_⟩,by rw[r1],by rw[r3];exact Nat.le_refl _⟩
   by_cases e:v=w0
   ·subst e
    rw[agX];omega
   ·rw[ew,if_neg e]at h⊢
    exact A.calm v hv h
 ·rw[if_neg c3]
  have hb:=ha.four c1 c2 c3
  obtain⟨z',S⟩:=agS z (q:=a.a.toNat) (by omega)
  obtain⟨A',r1,r2⟩:=S.zz z' A rfl
  exact⟨g,A',by rw[←r1],by rw[r2];exact Nat.le_refl _⟩
theorem Yo: ∀{cn:List Act} {m:M} {g:Gh},ZZ N bt np n m g→(∀a∈cn,ud np n a)→∃g',ZZ N bt np n (run bt m cn) g'∧oq (run bt m cn)+g'.c.length=oq m+g.c.length∧ue n (run bt m cn)≤ue n m
 | [],m,g,A,_=>⟨g,A,rfl,Nat.le_refl _⟩
 |a::cn,m,g,A,h=>by
  obtain⟨g1,A1,r1,r2⟩:=agW A (h a (.head _))
  obtain⟨g2,A2,r3,r4⟩:=Yo (cn:=cn) A1 fun x hx=>h x (.tail _ hx)
  exact⟨g2,A2,by rw[←r1];exact r3,Nat.le_trans r4 r2⟩
end
theorem agY(n:Nat)(aa:List (List Ask)):oq (m0 n aa)=(aa.map List.length).sum∧ue n (m0 n aa)=2 * (n * (aa.map List.length).sum):=by
 refine⟨?_,?_⟩
 ·unfold oq m0
  rw[List.map_map]
  rfl
 ·unfold ue m0
  rw[List.map_map]
  show 0+(aa.map fun l=>2 * (n * (l.length - 0))+0).sum=_
  induction aa with
  |nil=>simp
  |cons l aa ih=>
   simp only[List.map_cons,List.sum_cons,Nat.mul_add,Nat.sub_zero]at ih⊢
   omega
theorem zz0(N:Nat)(bt:Bool){n:Nat}{aa:List (List Ask)}(h8:aa.length≤8)(n1:1≤n)(px: ∀l∈aa,∀a∈l,OkK a):ZZ N bt aa.length n (m0 n aa) ⟨[],[],fun _=>false,fun _=>⟨0,0⟩,fun _=>0⟩:=by
 have hw: ∀w,w < aa.length→((m0 n aa).who w).program∈aa∧((m0 n aa).who w).pending=false:=by
  intro w hw
  have e:(m0 n aa).who w=⟨aa[w],false,0,false,0,⟨0,0⟩,0⟩:=by
   show((aa.map _).getD w ab.z)=_
   rw[aW (by simpa using hw),List.getElem_map]
  rw[e]
  exact⟨List.getElem_mem hw,rfl⟩
 have hs: ∀s,(m0 n aa).site s=Site.z:=by
  intro s
  show(List.replicate n Site.z).getD s Site.z=_
  rw[List.getD_eq_getElem?_getD,List.getElem?_replicate]
  split<;>rfl
 have z0:Z N bt aa.length n (m0 n aa) ⟨[],[],fun _=>false,fun _=>⟨0,0⟩,fun _=>0⟩:=by
  refine⟨n1,h8,by simp[m0],by simp[m0],.zero,fun w _ _=>rfl,fun w h hp=>?_,fun w h a ha=>px _ (hw w h).1 a ha,fun j hj=>absurd hj (Nat.not_lt_zero _),fun s _=>by rw[hs];exact .inl ⟨rfl,rfl⟩,fun j hj=>absurd hj (Nat.not_lt_zero _),fun j hj=>absurd hj (Nat.not_lt_zero _),fun j hj=>absurd hj (Nat.not_lt_zero _),fun j hj=>absurd hj (Nat.not_lt_zero _),fun j hj=>absurd hj (Nat.not_lt_zero _),fun j hj=>absurd hj (Nat.not_lt_zero _),fun j hj=>absurd hj (Nat.not_lt_zero _),fun a b ha=>absurd ha (Nat.not_lt_zero _),fun a b ha=>absurd ha (Nat.not_lt_zero _)⟩
  rw[(hw w h).2]at hp;cases hp
 refine⟨z0,fun w h _ hp=>?_,fun w h hp=>?_⟩
 ·rw[(hw w h).2]at hp;cases hp
 ·rw[(hw w h).2]at hp;cases hp
theorem adT{aa:List (List Ask)}(h:Th.iH [1] aa): ∀l∈aa,∀a∈l,OkK a:=by
 intro l hl a ha
 obtain⟨h1,h2⟩:=h.ask l hl a ha
 simp only[List.length_singleton]at h1
 have e:a.aj.toNat=0:=by omega
 rw[e]at h2
 have h2:Ob.dz 1 a.kind a.arg:=h2
 obtain⟨q1,q2,q3,q4⟩:=h2
 unfold Ob.t8 at q2
 have hk:a.kind=1∨a.kind=2:=by
  by_cases h1:a.kind=1∨a.kind=2
  ·exact h1
  ·rw[if_neg h1]at q2
   exfalso
   revert q2
   split
   ·decide
   ·split
    ·decide
    ·split
     ·decide
     ·split<;>decide
 rcases hk with hk|hk
 ·have:=q4 (by omega)
  unfold Ob.gH at this
  exact .inl ⟨hk,this.1,this.2⟩
 ·exact .inr ⟨hk,q3 (.inl hk)⟩
end Si
namespace Si
open Hs
theorem bn{N:Nat}(hN:300 < N):co N [1]=some 0:=by
 obtain⟨M,rfl⟩: ∃M,N=M+4:=⟨N - 4,by omega⟩
 rfl
theorem aaD{N:Nat}(hN:5000 < N)(n:Int)(bt:Bool){aa:List (List Ask)}(cn:List Act)(hl: ∀l∈aa,l.length < N∧l.length≤9223372036854775807)(ha:cn.length < N∧cn.length≤9223372036854775807):
  (∃e,e≠0∧oZ N n bt aa cn=some ([],[],e))∨(oZ N n bt aa cn=some ((run bt (m0 n.toNat aa) cn).events,(run bt (m0 n.toNat aa) cn).sites,0)∧(1≤n∧n≤5)∧aa.length≤8∧Th.iH [1] aa∧cn.length≤1000∧∀a∈cn,ud aa.length n.toNat a):=by
 obtain⟨e0,h0,hp⟩:=aaA hN n bt hl
 obtain⟨e,he,hP⟩:=hp cn ha.1 ha.2
 by_cases e1:e=0
 ·subst e1
  right
  rw[if_pos rfl]at hP
  have IC:e0=0:=by
   by_cases IC:e0=0
   ·exact IC
   ·rw[if_pos IC]at he;omega
  subst IC
  obtain⟨hn,h8,hok⟩:=h0 rfl
  rw[if_neg (by simp)]at he
  have hlen:cn.length≤1000:=by
   by_cases hlen:cn.length≤1000
   ·exact hlen
   ·rw[if_pos hlen]at he;omega
  rw[if_neg (by simpa using hlen)]at he
  have hact: ∀a∈cn,ud aa.length n.toNat a:=by
   by_cases hact: ∀a∈cn,ud aa.length n.toNat a
   ·exact hact
   ·rw[if_neg hact]at he;omega
  exact⟨hP,hn,h8,hok,hlen,hact⟩
 ·left
  rw[if_neg e1]at hP
  exact⟨e,e1,hP⟩
theorem aaE{z:Int}(h0:0≤z)(h:z < 9223372036854775808):IntKind.i64.wrap z=z:=by
 have e:z % 2 ^ 64=z:=Int.emod_eq_of_lt h0 (by show z < 2 ^ 64;omega)
 unfold IntKind.wrap
 simp only[IntKind.bits,IntKind.signed,Bool.true_and,e]
 exact if_neg (by simp;omega)
theorem Sf{B:Nat}: ∀(P0:List (List Ask)),(∀q∈P0,q.length≤B)→(P0.map List.length).sum≤P0.length * B
 | [],_=>Nat.zero_le _
 |q::r,h=>by
  have h1:=Sf r fun x hx=>h x (List.mem_cons_of_mem _ hx)
  have h2:=h q List.mem_cons_self
  rw[List.map_cons,List.sum_cons,List.length_cons,Nat.add_mul]
  omega
theorem Yp{N:Nat}(hN:5000 < N){n:Int}{aa:List (List Ask)}(hl: ∀l∈aa,l.length < N∧l.length≤9223372036854775807)(hq9: ∀q∈aa,q.length≤10000000000000)(h8:aa.length≤8){cn:List Act}(h:lL N n aa cn=some 0):(aa.map List.length).sum≤12:=by
 have hs:(aa.map List.length).sum≤80000000000000:=Nat.le_trans (Sf aa hq9) (Nat.le_trans (Nat.mul_le_mul_right _ h8) (by decide))
 unfold lL at h
 cases hc:(decide (n < 1)||decide (5 < n))with
 |true=>rw[hc]at h;cases h
 |false=>
  rw[hc]at h
  obtain⟨r,hr,_⟩:=Th.mJ hN (types:=[1]) hl
  rw[cond_false,hr,bZ]at h
  by_cases pV:r=0
  rotate_left
  ·rw[decide_eq_false pV]at h
   have h:some r=some 0:=h
   cases h;exact(pV rfl).elim
  rw[decide_eq_true pV]at h
  have hsum: ∀k,((aa.take k).map List.length).sum≤80000000000000:=fun k=>by
   have:((aa.take k).map List.length).sum+((aa.drop k).map List.length).sum=(aa.map List.length).sum:=by
    rw[←List.sum_append_nat,←List.map_append,List.take_append_drop]
   omega
  have hq:iter (lD N aa) N (0,0)=some (((aa.map List.length).sum:Nat):Int):=by
   refine Wp.eq (.iter aa.length (fun k st=>st=(((((aa.take k).map List.length).sum:Nat):Int),(k:Int))) (by omega) rfl ?_ ?_)
   ·rintro k st hk rfl
    simp only[lD]
    refine .bg (decide_eq_true (by omega)) (.ix hk (.bK (by omega) (.one ?_)))
    have e:((aa.take (k+1)).map List.length).sum=((aa.take k).map List.length).sum+aa[k].length:=by
     rw[←List.take_append_getElem hk,List.map_append,List.sum_append_nat];simp
    have h2:=hsum (k+1)
    have hw:IntKind.i64.wrap ((((aa.take k).map List.length).sum:Nat)+(aa[k].length:Int))=(((aa.take k).map List.length).sum:Nat)+(aa[k].length:Int):=by
     exact aaE (by omega) (by omega)
    show(_,_)=(_,_)
    rw[hw,e];simp
   ·rintro st rfl
    simp only[lD]
    exact .aL (decide_eq_false (by omega)) (.one (by rw[List.take_length]))
  rw[hq]at h
  rcases Nat.lt_or_ge 12 (aa.map List.length).sum with h2|h2
  ·exfalso
   have e:(decide ((12:Int) < (((aa.map List.length).sum:Nat):Int))||decide (1000 < ((cn).length:Int)))=true:=by
    rw[decide_eq_true (by omega)];rfl
   simp only[Bool.not_true,cond_false,bZ,e,cond_true]at h
   cases h
  ·exact h2
theorem aaF{N:Nat}(hN:5000 < N){n:Int}{bt:Bool}{aa:List (List Ask)}(hl: ∀l∈aa,l.length < N∧l.length≤9223372036854775807)(hs: ∀q∈aa,q.length≤10000000000000){cn:List Act}(ha:cn.length < N∧cn.length≤9223372036854775807){ev:List Event}{si:List Site}(h:oZ N n bt aa cn=some (ev,si,0))(h8:aa.length≤8):(aa.map List.length).sum≤12:=by
 obtain⟨e0,_,hc⟩:=R8 hN n hl
 have hc:=hc cn ha.1 ha.2
 generalize (if e0≠0 then e0 else if ¬cn.length≤1000 then 2 else if ∀a∈cn,ud aa.length n.toNat a then 0 else 1)=e at hc
 have e1:e=0:=by
  by_cases e1:e=0
  ·exact e1
  ·exfalso
   unfold oZ at h
   rw[hc,bZ,decide_eq_false e1]at h
   have h:some (([]:List Event),([]:List Site),e)=some (ev,si,0):=h
   cases h
   exact e1 rfl
 rw[e1]at hc
 exact Yp hN hl hs h8 hc
end Si
end Go.Proofs.YtjdkkabcenohcaaGreatDoor
