import Derived.Test.YtjdkkabcenohcaaGreatDoorSI2
set_option linter.unusedVariables false
set_option linter.unusedSimpArgs false
set_option linter.unusedSectionVars false
set_option maxRecDepth 100000
namespace Go.Proofs.YtjdkkabcenohcaaGreatDoor
open Go.RowKit
namespace Si
open Hs
section
variable {N:Nat} {bt:Bool} {np n:Nat} {m:M} {g:Gh}
theorem Good.mono{g g':Gh}(hl:g.c.length≤g'.c.length)(hc: ∀i,i < g.c.length→(g'.call i).kind=(g.call i).kind∧(g'.call i).arg=(g.call i).arg)(ht: ∀i,i < g.c.length→g.tg i=true→g'.tg i=true∧g'.tag i=g.tag i){t:bM}{v:Int}(h:Good g t v):Good g' t v:=by
 rcases h with h|⟨i,h1,h2,h3,h4,h5⟩
 ·exact .inl h
 ·obtain⟨t1,t2⟩:=ht i h1 h2
  obtain⟨c1,c2⟩:=hc i h1
  exact .inr ⟨i,by omega,t1,by rw[c1];exact h3,by rw[t2];exact h4,by rw[c2];exact h5⟩
theorem Good.ge(z:Z N bt np n m g){t:bM}{v:Int}(h:Good g t v):0≤t.stamp∧(t=⟨0,0⟩∨1≤t.stamp):=by
 rcases h with⟨rfl,_⟩|⟨i,h1,h2,h3,h4,_⟩
 ·exact⟨by decide,.inl rfl⟩
 ·have:=(z.tw i h1 h2 h3).2
  rw[h4]at this
  exact⟨by omega,.inr this⟩
theorem ah3(z:Z N bt np n m g)(u:Un np m g np){w i:Nat}(hw:w < np)(P:Pd bt n m g w i)(hs:(m.who w).store=false)(hm:(n:Int) < 2 * (m.who w).bj):
  ∃g':Gh,Z N bt np n m g'∧Un np m g' w∧Pd bt n m g' w i∧g'.tg i=true∧g'.c=g.c∧g'.B=g.B∧
   (((g.call i).kind=1∧g'.tag i=⟨(m.who w).best.stamp+1,w⟩∧Good g' ⟨(m.who w).best.stamp+1,w⟩ (g.call i).arg)∨((g.call i).kind≠1∧g'.tag i=(m.who w).best∧Good g' (m.who w).best (m.who w).value)):=by
 obtain⟨t,ht⟩: ∃t:bM,t=if(g.call i).kind=1 then⟨(m.who w).best.stamp+1,w⟩else(m.who w).best:=⟨_,rfl⟩
 have hp:=z.wait hw P.D_
 have hun:=u w hw (by omega) hp hs i P.D_
 have Q:=P.CL hs
 have n1:=z.n1
 have Lc:=Q.good (by omega)
 have amM:=Good.ge z Lc
 let g':Gh:=⟨g.c,g.op,fun j=>if j=i then true else g.tg j,fun j=>if j=i then t else g.tag j,g.B⟩
 have gt1:g'.tg i=true:=if_pos rfl
 have UC:g'.tag i=t:=if_pos rfl
 have Lh: ∀j,j≠i→g'.tg j=g.tg j:=fun j h=>if_neg h
 have ID: ∀j,j≠i→g'.tag j=g.tag j:=fun j h=>if_neg h
 have old: ∀j,g.tg j=true→g'.tg j=true∧g'.tag j=g.tag j:=fun j h=>by
  have:j≠i:=fun e=>by rw[e,hun]at h;cases h
  rw[Lh j this,ID j this];exact⟨h,rfl⟩
 have gm: ∀{t v},Good g t v→Good g' t v:=fun h=>Good.mono (g:=g) (g':=g') (Nat.le_refl _) (fun _ _=>⟨rfl,rfl⟩) (fun j _=>old j) h
 have Aw: ∀j,g'.call j=g.call j:=fun j=>rfl
 have most:rI n fun s=>(m.aB (g.B w+s)).received:=by
  have:=P.rep
  unfold rI;omega
 have ahead: ∀a,a < g.c.length→(g.call a).aY≠ -1→(g.call a).aY < (g.call i).from_→uF bt (g.call a)→¬iz (m.who w).best (g.tag a):=by
  intro a h1 h2 h3 h4
  obtain⟨s,hs2,r1,r2⟩:=most.meet (Q.low a h1 h2 h4 h3)
  have hb:=P.uG.1
  have akt:=z.rd (g.B w+s) (by omega) r1
  have ak1:=Q.best s hs2 r1
  simp only[Bool.and_eq_true,Bool.or_eq_true,Bool.not_eq_true',decide_eq_true_eq,akt]at r2
  have r3:=r2.2.resolve_left (by decide)
  unfold iz at *;omega
 have MM: ∀j,j < g.c.length→(g.call j).aY≠ -1→j≠i:=fun j _ h e=>h (by rw[e];exact P.Ad.2.1)
 have aku: ∀{v k:Nat},Pd bt n m g v k→(m.who v).store=false→∀a,a < g.c.length→(g.call a).aY≠ -1→uF bt (g.call a)→(g.call a).aY < (g.call k).from_→rI n fun s=>decide (¬iz (nZ (m.site s)) (g'.tag a))&&(!(m.aB (g.B v+s)).ce||decide (¬iz (m.aB (g.B v+s)).tag (g'.tag a))):=by
  intro v k Pv hv a h1 h2 h3 h4
  rw[ID a (MM a h1 h2)]
  exact(Pv.CL hv).low a h1 h2 h3 h4
 have mkP: ∀{v k:Nat},Pd bt n m g v k→Pd bt n m g' v k:=by
  intro v k Pv
  refine⟨Pv.p7,Pv.D_,Pv.Ad,Pv.uG,Pv.own,Pv.rep,Pv.zero,fun hv=>⟨(Pv.CL hv).best,fun h=>gm ((Pv.CL hv).good h),aku Pv hv⟩,fun hv=>?_⟩
  obtain⟨a1,a2,a3⟩:=Pv.B8 hv
  obtain⟨b1,b2⟩:=old k a1.1
  exact⟨⟨b1,b2.trans a1.2⟩,gm a2,a3⟩
 have hwp:=z.fr P.p7
 refine⟨g',⟨z.n1,z.R_,z.sl,z.pl,z.run,z.idle,fun v hv hpv=>?_,z.ask,z.wn,fun s h=>gm (z.sg s h),z.lt,fun j hj h=>gm (z.lg j hj h),z.ls,z.rd,z.old,fun j hj h1 h2=>?_,fun j hj ha=>?_,fun a b ha hb h1 h2 h3 h4=>?_,fun a b ha hb h1 h2 k1 k2 e=>?_⟩,fun v hv hne hpv hsv k hk=>?_,mkP P,gt1,rfl,rfl,?_⟩
 ·obtain⟨k,Pv⟩:=z.pend v hv hpv
  exact⟨k,mkP Pv⟩
 ·by_cases e:j=i
  ·subst e
   rw[UC,ht,Aw]
   have h2:(g.call j).kind=1:=h2
   rw[if_pos h2]
   exact⟨P.Ad.1.symm,by simp only;omega⟩
  ·rw[Lh j e]at h1
   rw[ID j e];exact z.tw j hj h1 h2
 ·have e:=MM j hj ha
  obtain⟨d1,d2,d3,d4⟩:=z.dn j hj ha
  rw[Lh j e,ID j e]
  refine⟨d1,d2,d3,fun hk=>?_⟩
  rcases d4 hk with h|⟨k,q1,q2,q3,q4,q5⟩
  ·exact .inl h
  ·obtain⟨o1,o2⟩:=old k q2
   exact .inr ⟨k,q1,o1,q3,o2.trans q4,q5⟩
 ·have ea:=MM a ha h1
  rw[ID a ea]
  by_cases e:b=i
  ·subst e
   rw[UC,ht]
   have hA:=ahead a ha h1 h2 h3
   by_cases hk:(g.call b).kind=1
   ·rw[if_pos hk]
    refine⟨?_,fun _=>?_⟩
    ·unfold iz at *;simp only;omega
    ·unfold iz at *;simp only;omega
   ·rw[if_neg hk]
    exact⟨hA,fun h=>(hk h).elim⟩
  ·rw[Lh b e]at h4
   rw[ID b e]
   exact z.ord a b ha hb h1 h2 h3 h4
 ·
  have key: ∀a,a < g.c.length→a≠i→g.tg a=true→(g.call a).kind=1→(g.call i).kind=1→g.tag a=t→False:=by
   intro a ha hne zg hka hki e
   rw[ht,if_pos hki]at e
   have cq:=(z.tw a ha zg hka).1
   rw[e]at cq
   have cq:((w:Int))=(g.call a).who:=cq
   have same:(g.call a).who=(g.call i).who:=by rw[←cq,P.Ad.1]
   rcases Nat.lt_trichotomy a i with h|h|h
   ·have T:=z.run.wf.two a i h P.p7
    have o:=T.own same
    have hlt:=ahead a ha o.1 o.2 (.inr hka)
    rw[e]at hlt
    unfold iz at hlt;simp only at hlt;omega
   ·exact hne h
   ·have T:=z.run.wf.two i a h ha
    exact(T.own same.symm).1 P.Ad.2.1
  by_cases ea:a=i
  ·by_cases eb:b=i
   ·rw[ea,eb]
   ·exfalso
    subst ea
    rw[Lh b eb]at h2
    rw[UC,ID b eb]at e
    exact key b hb eb h2 k2 k1 e.symm
  ·by_cases eb:b=i
   ·exfalso
    subst eb
    rw[Lh a ea]at h1
    rw[UC,ID a ea]at e
    exact key a ha ea h1 k1 k2 e
   ·rw[Lh a ea]at h1
    rw[Lh b eb]at h2
    rw[ID a ea,ID b eb]at e
    exact z.G6 a b ha hb h1 h2 k1 k2 e
 ·have:=u v hv (by omega) hpv hsv k hk
  rw[Lh k (fun e=>hne ?_)]
  ·exact this
  ·have Pv:=z.pd hv hpv hk
   have h1:=Pv.Ad.1
   rw[e,P.Ad.1]at h1
   omega
 ·rw[UC,ht]
  by_cases hk:(g.call i).kind=1
  ·rw[if_pos hk]
   exact .inl ⟨hk,rfl,.inr ⟨i,P.p7,gt1,hk,by rw[UC,ht,if_pos hk],rfl⟩⟩
  ·rw[if_neg hk]
   exact .inr ⟨hk,rfl,gm Lc⟩
theorem UD(z:Z N bt np n m g){w i:Nat}(hw:w < np)(P:Pd bt n m g w i)(u:Un np m g w)(hs:(m.who w).store=false){t:bM}{v:Int}(h1:g.tg i=true)(h2:g.tag i=t)(h3:Good g t v):
  ∃g':Gh,Z N bt np n (start m w true t v) g'∧Un np (start m w true t v) g' np∧g'.c=g.c:=by
 have hpl:=z.pl
 have vN:=z.sl
 have hp:=z.wait hw P.D_
 let g':Gh:=⟨g.c,g.op,g.tg,g.tag,fun x=>if x=w then m.aJ.length else g.B x⟩
 have hB:g'.B w=m.aJ.length:=if_pos rfl
 have B9: ∀x,x≠w→g'.B x=g.B x:=fun x h=>if_neg h
 obtain⟨m',hm'⟩: ∃m',m'=start m w true t v:=⟨_,rfl⟩
 rw[←hm']
 have ew: ∀x,m'.who x=if x=w then fF (m.who w) true t v else m.who x:=fun x=>by rw[hm'];exact gl (by omega)
 have DW:m'.aJ.length=m.aJ.length+n:=by rw[hm'];show(m.aJ++batch _ _ _ _ _ _).length=_;rw[List.length_append,CM,vN]
 have el: ∀j,j < m.aJ.length→m'.aB j=m.aB j:=fun j hj=>by rw[hm'];exact Fs hj
 have wa: ∀s,s < n→m'.aB (m.aJ.length+s)=⟨w,(m.who w).round+1,(s:Int),true,t,v,false,false⟩:=fun s hs2=>by
  rw[hm']
  show(m.aJ++batch _ _ _ _ _ _).getD _ _=_
  rw[Lg,NH (by omega)]
 have split: ∀j,j < m'.aJ.length→j < m.aJ.length∨∃s,s < n∧j=m.aJ.length+s:=fun j hj=>by
  rcases Nat.lt_or_ge j m.aJ.length with h|h
  ·exact .inl h
  ·exact .inr ⟨j - m.aJ.length,by omega,by omega⟩
 have hsi: ∀s,m'.site s=m.site s:=fun s=>by rw[hm'];rfl
 have hev:m'.events=m.events:=by rw[hm'];rfl
 have hlt:=z.lt
 refine⟨g',⟨z.n1,z.R_,by rw[hm'];exact z.sl,by rw[hm'];simpa[start]using z.pl,by rw[hev];exact z.run,fun x hx hpx=>?_,fun x hx hpx=>?_,fun x hx=>?_,z.wn,fun s h=>by rw[hsi];exact z.sg s h,fun j hj=>?_,fun j hj h=>?_,fun j hj h4 h5=>?_,fun j hj h=>?_,fun j hj=>?_,z.tw,fun j hj ha=>?_,z.ord,z.G6⟩,fun x hx hne hpx Ea k hk=>?_,rfl⟩
 ·rw[ew]at hpx
  split at hpx
  ·have hpx:(m.who w).pending=false:=hpx
   rw[hp]at hpx;cases hpx
  ·exact z.idle x hx hpx
 ·by_cases e:x=w
  ·subst e
   have e1:m'.who x=fF (m.who x) true t v:=by rw[ew,if_pos rfl]
   refine⟨i,P.p7,P.D_,by rw[e1];exact P.Ad,⟨by rw[hB,DW];omega,fun s hs2=>?_⟩,fun j hj k1 k2=>?_,?_,fun h=>(by rw[e1]at h;cases h),fun h=>(by rw[e1]at h;cases h),fun _=>⟨?_,?_,fun s hs2=>?_⟩⟩
   ·rw[hB,wa s hs2,e1];exact⟨rfl,rfl,rfl,rfl⟩
   ·rw[hB]
    rcases split j hj with h|⟨s,hs2,rfl⟩
    ·rw[el j h]at k1 k2
     have:=(z.old j h).1
     rw[k1,Int.toNat_natCast]at this
     rw[e1]at k2
     have k2:(m.aB j).round=(m.who x).round+1:=k2
     omega
    ·omega
   ·rw[e1]
    show(0:Int)=_
    rw[List.countP_eq_zero.2]
    ·rfl
    ·intro s hs2
     rw[hB,wa s (List.mem_range.1 hs2)];simp
   ·rw[e1];exact⟨h1,h2⟩
   ·rw[e1];exact h3
   ·rw[hB,wa s hs2,e1];rfl
  ·have e1:m'.who x=m.who x:=by rw[ew,if_neg e]
   rw[e1]at hpx
   obtain⟨k,Pk⟩:=z.pend x hx hpx
   have Cr: ∀s,s < n→m'.aB (g.B x+s)=m.aB (g.B x+s):=fun s hs2=>el _ (by have:=Pk.uG.1;omega)
   refine⟨k,Pk.p7,Pk.D_,by rw[e1];exact Pk.Ad,⟨by rw[B9 x e,DW];have:=Pk.uG.1;omega,fun s hs2=>?_⟩,fun j hj k1 k2=>?_,?_,by rw[e1];exact Pk.zero,fun h=>?_,fun h=>?_⟩
   ·rw[B9 x e,Cr s hs2,e1];exact Pk.uG.2 s hs2
   ·rw[B9 x e]
    rcases split j hj with h|⟨s,hs2,rfl⟩
    ·rw[el j h]at k1 k2
     rw[e1]at k2
     exact Pk.own j h k1 k2
    ·rw[wa s hs2]at k1
     have k1:(w:Int)=x:=k1
     omega
   ·rw[e1,Pk.rep,B9 x e]
    congr 1
    refine List.countP_congr fun s hs2=>?_
    rw[Cr s (List.mem_range.1 hs2)]
   ·rw[e1]at h
    have Q:=Pk.CL h
    refine⟨fun s hs2 hr=>?_,by rw[e1];exact Q.good,fun a a1 a2 a3 a4=>(Q.low a a1 a2 a3 a4).mono fun s hs2 hh=>?_⟩
    ·rw[B9 x e,Cr s hs2]at hr⊢
     rw[e1];exact Q.best s hs2 hr
    ·rw[B9 x e,Cr s hs2,hsi];exact hh
   ·rw[e1]at h
    have Q:=Pk.B8 h
    exact⟨by rw[e1];exact Q.tag,by rw[e1];exact Q.good,fun s hs2=>by rw[B9 x e,Cr s hs2,e1];exact Q.lets s hs2⟩
 ·rw[ew]
  split
  ·rename_i e;subst e;exact z.ask x hx
  ·exact z.ask x hx
 ·rcases split j hj with h|⟨s,hs2,rfl⟩
  ·rw[el j h];exact z.lt j h
  ·rw[wa s hs2];simp only;omega
 ·rcases split j hj with h6|⟨s,hs2,rfl⟩
  ·rw[el j h6]at h⊢;exact z.lg j h6 h
  ·rw[wa s hs2];exact h3
 ·rcases split j hj with h6|⟨s,hs2,rfl⟩
  ·rw[el j h6]at h4 h5⊢;rw[hsi];exact z.ls j h6 h4 h5
  ·rw[wa s hs2]at h5;cases h5
 ·rcases split j hj with h6|⟨s,hs2,rfl⟩
  ·rw[el j h6]at h⊢;exact z.rd j h6 h
  ·rw[wa s hs2]at h;cases h
 ·rcases split j hj with h6|⟨s,hs2,rfl⟩
  ·rw[el j h6,ew]
   have:=z.old j h6
   split
   ·rename_i e
    rw[e]at this
    refine⟨?_,fun h=>?_⟩
    ·show _≤(m.who w).round+1
     omega
    ·have h:(m.who w).pending=false:=h
     rw[hp]at h;cases h
   ·exact this
  ·rw[wa s hs2]
   simp only[Int.toNat_natCast]
   rw[ew,if_pos rfl]
   refine⟨Int.le_refl _,fun h=>?_⟩
   have h:(m.who w).pending=false:=h
   rw[hp]at h;cases h
 ·obtain⟨d1,d2,d3⟩:=z.dn j hj ha
  exact⟨d1,fun h=>(d2 h).mono fun s hs2 h=>by rw[hsi];exact h,d3⟩
 ·rw[ew]at hpx Ea
  by_cases e:x=w
  ·rw[if_pos e]at Ea;cases Ea
  ·rw[if_neg e]at hpx Ea
   exact u x hx e hpx Ea k hk
end
end Si
namespace Si
open Hs
section
variable {N:Nat} {bt:Bool} {np n:Nat} {m:M} {g:Gh}
theorem adS{a:Ask}(h:OkK a):a.kind≠0∧yX a.kind=1∧cQ N a.kind a.arg=some true:=by
 rcases h with⟨h1,h2,h3⟩|⟨h1,h2⟩
 ·rw[h1]
  refine⟨by decide,by decide,?_⟩
  unfold cQ
  simp[bd,h2,h3]
 ·rw[h1,h2]
  exact⟨by decide,by decide,rfl⟩
theorem ah4(z:Z N bt np n m g)(u:Un np m g np){w:Nat}(hw:w < np)(hp:(m.who w).pending=false){a:Ask}{rest:List Ask}(G5:(m.who w).program=a::rest){m':M}(hm':m'=⟨m.sites,m.aa.set w (fF (je (m.who w)) false ⟨0,0⟩ 0),m.aJ++batch n w ((m.who w).round+1) false ⟨0,0⟩ 0,m.events++[⟨w,0,a.kind,a.arg⟩]⟩):
  ∃g':Gh,Z N bt np n m' g'∧Un np m' g' np∧g'.c.length=g.c.length+1:=by
 have hpl:=z.pl
 have vN:=z.sl
 have h8:=z.R_
 have px:=z.ask w hw a (by rw[G5];exact .head _)
 obtain⟨k0,k1,k2⟩:=adS (N:=N) px
 have akv:=z.idle w hw hp
 let i:=g.c.length
 let v0:Event:=⟨w,0,a.kind,a.arg⟩
 let g':Gh:=⟨g.c++[sF v0 m.events.length],fb 8 0 g.op w ((g.c.length:Int)+1),fun j=>if j=g.c.length then false else g.tg j,g.tag,fun x=>if x=w then m.aJ.length else g.B x⟩
 have hB:g'.B w=m.aJ.length:=if_pos rfl
 have B9: ∀x,x≠w→g'.B x=g.B x:=fun x h=>if_neg h
 have hcl:g'.c.length=g.c.length+1:=by show(g.c++[_]).length=_;simp
 have hc1: ∀j,j < g.c.length→g'.call j=g.call j:=fun j hj=>Fs hj
 have xp:g'.call g.c.length=sF v0 m.events.length:=by show(g.c++[_]).getD _ _=_;rw[dL,if_neg (Nat.lt_irrefl _),if_pos rfl]
 have zg: ∀j,j < g.c.length→g'.tg j=g.tg j:=fun j hj=>if_neg (by omega)
 have Sc:g'.tg g.c.length=false:=if_pos rfl
 have hop: ∀x,x < np→g'.op.getD x 0=if x=w then(g.c.length:Int)+1 else g.op.getD x 0:=fun x hx=>by
  show(fb 8 0 g.op w _).getD x 0=_
  rw[gy (by omega),Int.toNat_natCast]
 have gm: ∀{t v},Good g t v→Good g' t v:=fun h=>Good.mono (g:=g) (g':=g') (by omega) (fun j hj=>by rw[hc1 j hj];exact⟨rfl,rfl⟩) (fun j hj h=>⟨by rw[zg j hj];exact h,rfl⟩) h
 have ew: ∀x,m'.who x=if x=w then fF (je (m.who w)) false ⟨0,0⟩ 0 else m.who x:=fun x=>by rw[hm'];exact gl (by omega)
 have DW:m'.aJ.length=m.aJ.length+n:=by rw[hm'];show(m.aJ++batch _ _ _ _ _ _).length=_;rw[List.length_append,CM]
 have el: ∀j,j < m.aJ.length→m'.aB j=m.aB j:=fun j hj=>by rw[hm'];exact Fs hj
 have wa: ∀s,s < n→m'.aB (m.aJ.length+s)=⟨w,(m.who w).round+1,(s:Int),false,⟨0,0⟩,0,false,false⟩:=fun s hs2=>by
  rw[hm']
  show(m.aJ++batch _ _ _ _ _ _).getD _ _=_
  rw[Lg,NH (by omega)]
 have split: ∀j,j < m'.aJ.length→j < m.aJ.length∨∃s,s < n∧j=m.aJ.length+s:=fun j hj=>by
  rcases Nat.lt_or_ge j m.aJ.length with h|h
  ·exact .inl h
  ·exact .inr ⟨j - m.aJ.length,by omega,by omega⟩
 have xi: ∀j,j < g'.c.length→j < g.c.length∨j=g.c.length:=fun j hj=>by omega
 have hsi: ∀s,m'.site s=m.site s:=fun s=>by rw[hm'];rfl
 have hfr: ∀j,j < g.c.length→(g.call j).aY < m.events.length:=fun j hj=>by
  have O:=z.run.wf.one j hj
  rcases O.tO with⟨h,_⟩|h
  ·show(g.c.getD j Call.z).aY < _
   omega
  ·exact h.2
 have hS:uX N [1] g.c g.op (m.events.length:Int) v0 g'.c g'.op:=by
  refine⟨⟨Int.natCast_nonneg _,by show(w:Int) < 8;omega⟩,⟨by show(0:Int)≤0;decide,by show(0:Int) < 1;decide⟩,.inl ⟨k0,⟨by show([1]:List Int).getD (0:Int).toNat 0≠0;decide,k1⟩,k2,?_,rfl,rfl⟩⟩
  show g.op.getD ((w:Int)).toNat 0≤0
  rw[Int.toNat_natCast,akv];exact Int.le_refl 0
 have hrun:ex N [1] m'.events m'.events.length g'.c g'.op:=by
  have:=UA z.run hS
  rw[hm'];exact this
 have e1:m'.who w=fF (je (m.who w)) false ⟨0,0⟩ 0:=by rw[ew,if_pos rfl]
 refine⟨g',⟨z.n1,z.R_,by rw[hm'];exact z.sl,by rw[hm'];simpa using z.pl,hrun,fun x hx hpx=>?_,fun x hx hpx=>?_,fun x hx=>?_,fun j hj=>(by rcases xi j hj with hj|rfl;rw[hc1 j hj];exact z.wn j hj;rw[xp];show(w:Int) < np;omega),fun s h=>by rw[hsi];exact gm (z.sg s h),fun j hj=>?_,fun j hj h=>?_,fun j hj h4 h5=>?_,fun j hj h=>?_,fun j hj=>?_,fun j hj h1 h2=>?_,fun j hj ha=>?_,fun x y hx hy h1 h2 h3 h4=>?_,fun x y hx hy h1 h2 k1 k2 e=>?_⟩,fun x hx hne hpx Ea k hk=>?_,hcl⟩
 ·rw[ew]at hpx
  rw[hop x hx]
  split at hpx
  ·cases hpx
  ·rename_i e;rw[if_neg e];exact z.idle x hx hpx
 ·by_cases e:x=w
  ·subst e
   refine⟨g.c.length,by omega,by rw[hop x hx,if_pos rfl],⟨by rw[xp];rfl,by rw[xp];rfl,a,rest,by rw[e1];exact G5,by rw[xp];rfl,by rw[xp];rfl⟩,⟨by rw[hB,DW];omega,fun s hs2=>?_⟩,fun j hj k1 k2=>?_,?_,fun _ _=>by rw[e1];rfl,fun h=>⟨fun s hs2 hr=>?_,fun h=>?_,fun b b1 b2 b3 b4=>?_⟩,fun h=>(by rw[e1]at h;cases h)⟩
   ·rw[hB,wa s hs2,e1];exact⟨rfl,rfl,rfl,rfl⟩
   ·rw[hB]
    rcases split j hj with h|⟨s,hs2,rfl⟩
    ·rw[el j h]at k1 k2
     have:=(z.old j h).1
     rw[k1,Int.toNat_natCast]at this
     rw[e1]at k2
     have k2:(m.aB j).round=(m.who x).round+1:=k2
     omega
    ·omega
   ·rw[e1]
    show(0:Int)=_
    rw[List.countP_eq_zero.2]
    ·rfl
    ·intro s hs2
     rw[hB,wa s (List.mem_range.1 hs2)];simp
   ·rw[hB,wa s hs2]at hr;cases hr
   ·rw[e1]at h;exact absurd h (by show ¬(1:Int)≤0;decide)
   ·rcases xi b b1 with hb|rfl
    ·rw[hc1 b hb]at b2 b3
     refine((z.dn b hb b2).2.1 b3).mono fun s hs2 hh=>?_
     rw[hB,wa s hs2,hsi]
     simp only[Bool.not_false,Bool.true_or,Bool.and_true]
     exact hh
    ·rw[xp]at b2;exact(b2 rfl).elim
  ·have e2:m'.who x=m.who x:=by rw[ew,if_neg e]
   rw[e2]at hpx
   obtain⟨k,Pk⟩:=z.pend x hx hpx
   have Cr: ∀s,s < n→m'.aB (g.B x+s)=m.aB (g.B x+s):=fun s hs2=>el _ (by have:=Pk.uG.1;omega)
   refine⟨k,by have:=Pk.p7;omega,by rw[hop x hx,if_neg e];exact Pk.D_,by rw[e2,hc1 k Pk.p7];exact Pk.Ad,⟨by rw[B9 x e,DW];have:=Pk.uG.1;omega,fun s hs2=>?_⟩,fun j hj k1 k2=>?_,?_,by rw[e2];exact Pk.zero,fun h=>?_,fun h=>?_⟩
   ·rw[B9 x e,Cr s hs2,e2];exact Pk.uG.2 s hs2
   ·rw[B9 x e]
    rcases split j hj with h|⟨s,hs2,rfl⟩
    ·rw[el j h]at k1 k2
     rw[e2]at k2
     exact Pk.own j h k1 k2
    ·rw[wa s hs2]at k1
     have k1:(w:Int)=x:=k1
     omega
   ·rw[e2,Pk.rep,B9 x e]
    congr 1
    refine List.countP_congr fun s hs2=>?_
    rw[Cr s (List.mem_range.1 hs2)]
   ·rw[e2]at h
    have Q:=Pk.CL h
    refine⟨fun s hs2 hr=>?_,fun h=>by rw[e2]at h⊢;exact gm (Q.good h),fun b b1 b2 b3 b4=>?_⟩
    ·rw[B9 x e,Cr s hs2]at hr⊢
     rw[e2];exact Q.best s hs2 hr
    ·rcases xi b b1 with hb|rfl
     ·rw[hc1 b hb]at b2 b3 b4
      rw[hc1 k Pk.p7]at b4
      refine(Q.low b hb b2 b3 b4).mono fun s hs2 hh=>?_
      rw[B9 x e,Cr s hs2,hsi];exact hh
     ·rw[xp]at b2;exact(b2 rfl).elim
   ·rw[e2]at h
    have Q:=Pk.B8 h
    refine⟨by rw[e2,zg k Pk.p7];exact Q.tag,by rw[e2];exact gm Q.good,fun s hs2=>by rw[B9 x e,Cr s hs2,e2];exact Q.lets s hs2⟩
 ·rw[ew]
  split
  ·rename_i e;subst e;exact z.ask x hx
  ·exact z.ask x hx
 ·rcases split j hj with h|⟨s,hs2,rfl⟩
  ·rw[el j h];exact z.lt j h
  ·rw[wa s hs2];simp only;omega
 ·rcases split j hj with h6|⟨s,hs2,rfl⟩
  ·rw[el j h6]at h⊢;exact gm (z.lg j h6 h)
  ·rw[wa s hs2]at h;rcases h with h|h<;>cases h
 ·rcases split j hj with h6|⟨s,hs2,rfl⟩
  ·rw[el j h6]at h4 h5⊢;rw[hsi];exact z.ls j h6 h4 h5
  ·rw[wa s hs2]at h5;cases h5
 ·rcases split j hj with h6|⟨s,hs2,rfl⟩
  ·rw[el j h6]at h⊢;exact z.rd j h6 h
  ·rw[wa s hs2]at h;cases h
 ·rcases split j hj with h6|⟨s,hs2,rfl⟩
  ·rw[el j h6,ew]
   have:=z.old j h6
   split
   ·rename_i e
    rw[e]at this
    refine⟨?_,fun h=>by cases h⟩
    show _≤(m.who w).round+1
    omega
   ·exact this
  ·rw[wa s hs2]
   simp only[Int.toNat_natCast]
   rw[ew,if_pos rfl]
   exact⟨Int.le_refl _,fun h=>by cases h⟩
 ·rcases xi j hj with hj|rfl
  ·rw[zg j hj]at h1
   rw[hc1 j hj]at h2⊢
   exact z.tw j hj h1 h2
  ·rw[Sc]at h1;cases h1
 ·rcases xi j hj with hj|rfl
  ·rw[hc1 j hj]at ha⊢
   obtain⟨d1,d2,d3,d4⟩:=z.dn j hj ha
   rw[zg j hj]
   refine⟨d1,fun h=>(d2 h).mono fun s hs2 h=>by rw[hsi];exact h,d3,fun h=>?_⟩
   rcases d4 h with h|⟨k,q1,q2,q3,q4,q5,q6⟩
   ·exact .inl h
   ·refine .inr ⟨k,by omega,by rw[zg k q1];exact q2,?_⟩
    rw[hc1 k q1];exact⟨q3,q4,q5,q6⟩
  ·rw[xp]at ha;exact(ha rfl).elim
 ·rcases xi x hx with hx|rfl
  ·rw[hc1 x hx]at h1 h2 h3
   rcases xi y hy with hy|rfl
   ·rw[hc1 y hy]at h2⊢
    rw[zg y hy]at h4
    exact z.ord x y hx hy h1 h2 h3 h4
   ·rw[Sc]at h4;cases h4
  ·rw[xp]at h1;exact(h1 rfl).elim
 ·rcases xi x hx with hx|rfl
  ·rcases xi y hy with hy|rfl
   ·rw[zg x hx]at h1
    rw[zg y hy]at h2
    rw[hc1 x hx]at k1
    rw[hc1 y hy]at k2
    exact z.G6 x y hx hy h1 h2 k1 k2 e
   ·rw[Sc]at h2;cases h2
  ·rw[Sc]at h1;cases h1
 ·rw[ew]at hpx Ea
  rw[hop x hx]at hk
  by_cases e:x=w
  ·rw[if_pos e]at hk
   obtain rfl:k=g.c.length:=by omega
   exact Sc
  ·rw[if_neg e]at hpx Ea hk
   rw[zg k (by have:=(z.pd hx hpx hk).p7;exact this)]
   exact u x hx (by omega) hpx Ea k hk
theorem Sd(z:Z N bt np n m g){w i:Nat}(hw:w < np)(P:Pd bt n m g w i)(u:Un np m g w)(h1:g.tg i=true){res:Int}(hres:bV N (g.call i).kind res=some true)(hst:uF bt (g.call i)→rI n fun s=>decide (¬iz (nZ (m.site s)) (g.tag i)))(hwr:(g.call i).kind=1→res=0)(hrd:(g.call i).kind≠1→Good g (g.tag i) res):
  ∃g':Gh,Z N bt np n (f_ m w res) g'∧Un np (f_ m w res) g' np∧g'.c.length=g.c.length:=by
 have hpl:=z.pl
 have h8:=z.R_
 have hp:=z.wait hw P.D_
 let v0:Event:=⟨w,0,0,res⟩
 have hil:=P.p7
 let g':Gh:=⟨g.c.set i (ia (g.call i) res m.events.length),fb 8 0 g.op w 0,g.tg,g.tag,g.B⟩
 have hcl:g'.c.length=g.c.length:=by show(g.c.set i _).length=_;simp
 have hc: ∀j,g'.call j=if j=i then ia (g.call i) res m.events.length else g.call j:=fun j=>fv hil
 have xA: ∀j,(g'.call j).kind=(g.call j).kind∧(g'.call j).arg=(g.call j).arg∧(g'.call j).from_=(g.call j).from_∧(g'.call j).who=(g.call j).who:=fun j=>by
  rw[hc];split
  ·rename_i e;subst e;exact⟨rfl,rfl,rfl,rfl⟩
  ·exact⟨rfl,rfl,rfl,rfl⟩
 have agT: ∀j,uF bt (g'.call j)↔uF bt (g.call j):=fun j=>by unfold uF;rw[(xA j).1]
 have hop: ∀x,x < np→g'.op.getD x 0=if x=w then 0 else g.op.getD x 0:=fun x hx=>by
  show(fb 8 0 g.op w _).getD x 0=_
  rw[gy (by omega),Int.toNat_natCast]
 have gm: ∀{t v},Good g t v→Good g' t v:=fun h=>Good.mono (g:=g) (g':=g') (by omega) (fun j hj=>⟨(xA j).1,(xA j).2.1⟩) (fun j hj h=>⟨h,rfl⟩) h
 obtain⟨m',hm'⟩: ∃m',m'=f_ m w res:=⟨_,rfl⟩
 rw[←hm']
 have ew: ∀x,m'.who x=if x=w then rY (m.who w)else m.who x:=fun x=>by rw[hm'];exact gl (by omega)
 have hl: ∀j,m'.aB j=m.aB j:=fun j=>by rw[hm'];rfl
 have DW:m'.aJ.length=m.aJ.length:=by rw[hm'];rfl
 have hsi: ∀s,m'.site s=m.site s:=fun s=>by rw[hm'];rfl
 have gk:(g.c.getD i Call.z).aj=0:=by
  have:=(z.run.wf.one i hil).aj
  simp only[List.length_singleton]at this
  omega
 have hS:uX N [1] g.c g.op (m.events.length:Int) v0 g'.c g'.op:=by
  refine⟨⟨Int.natCast_nonneg _,by show(w:Int) < 8;omega⟩,⟨by show(0:Int)≤0;decide,by show(0:Int) < 1;decide⟩,.inr ⟨rfl,i,?_,hil,gk,hres,rfl,rfl⟩⟩
  show g.op.getD ((w:Int)).toNat 0=_
  rw[Int.toNat_natCast];exact P.D_
 have hrun:ex N [1] m'.events m'.events.length g'.c g'.op:=by
  have:=UA z.run hS
  rw[hm'];exact this
 have FW: ∀j,j < g.c.length→(g.call j).from_ < m.events.length:=fun j hj=>(z.fr hj).2.1
 have MM: ∀a b,a < g.c.length→b < g.c.length→(g'.call a).aY≠ -1→(g'.call a).aY < (g'.call b).from_→a≠i∧(g.call a).aY≠ -1∧(g.call a).aY < (g.call b).from_:=by
  intro a b ha hb h2 h3
  rw[(xA b).2.2.1]at h3
  rw[hc]at h2 h3
  by_cases e:a=i
  ·rw[if_pos e]at h3
   have h3:(m.events.length:Int) < (g.call b).from_:=h3
   have:=FW b hb
   omega
  ·rw[if_neg e]at h2 h3
   exact⟨e,h2,h3⟩
 refine⟨g',⟨z.n1,z.R_,by rw[hm'];exact z.sl,by rw[hm'];simpa[f_]using z.pl,hrun,fun x hx hpx=>?_,fun x hx hpx=>?_,fun x hx b hb=>?_,fun j hj=>by rw[(xA j).2.2.2];exact z.wn j (by omega),fun s h=>by rw[hsi];exact gm (z.sg s h),fun j hj=>by rw[hl];exact z.lt j (by omega),fun j hj h=>by rw[hl]at h⊢;exact gm (z.lg j (by omega) h),fun j hj h4 h5=>by rw[hl]at h4 h5⊢;rw[hsi];exact z.ls j (by omega) h4 h5,fun j hj h=>by rw[hl]at h⊢;exact z.rd j (by omega) h,fun j hj=>?_,fun j hj k1 k2=>?_,fun j hj ha=>?_,fun a b ha hb k1 k2 k3 k4=>?_,fun a b ha hb k1 k2 k3 k4 e=>?_⟩,fun x hx hne hpx Ea k hk=>?_,hcl⟩
 ·rw[hop x hx]
  rw[ew]at hpx
  split
  ·rfl
  ·rename_i e;rw[if_neg e]at hpx;exact z.idle x hx hpx
 ·by_cases e:x=w
  ·rw[ew,if_pos e]at hpx;cases hpx
  ·have e2:m'.who x=m.who x:=by rw[ew,if_neg e]
   rw[e2]at hpx
   obtain⟨k,Pk⟩:=z.pend x hx hpx
   have hki:k≠i:=fun h=>by
    have a1:=Pk.Ad.1
    rw[h,P.Ad.1]at a1
    omega
   have akw:g'.call k=g.call k:=by rw[hc,if_neg hki]
   refine⟨k,by rw[hcl];exact Pk.p7,by rw[hop x hx,if_neg e];exact Pk.D_,by rw[akw,e2];exact Pk.Ad,⟨by rw[DW];exact Pk.uG.1,fun s hs2=>by rw[hl,e2];exact Pk.uG.2 s hs2⟩,fun j hj q1 q2=>by rw[hl]at q1 q2;rw[e2]at q2;exact Pk.own j (by omega) q1 q2,?_,by rw[e2];exact Pk.zero,fun h=>?_,fun h=>?_⟩
   ·rw[e2,Pk.rep]
    congr 1
    exact List.countP_congr fun s hs2=>by rw[hl]
   ·rw[e2]at h
    have Q:=Pk.CL h
    refine⟨fun s hs2 hr=>by rw[hl]at hr⊢;rw[e2];exact Q.best s hs2 hr,fun h=>by rw[e2]at h⊢;exact gm (Q.good h),fun b b1 b2 b3 b4=>?_⟩
    obtain⟨_,q1,q2⟩:=MM b k (by omega) Pk.p7 b2 b4
    refine(Q.low b (by omega) q1 ((agT b).1 b3) q2).mono fun s hs2 hh=>?_
    rw[hl,hsi];exact hh
   ·rw[e2]at h
    have Q:=Pk.B8 h
    exact⟨by rw[e2];exact Q.tag,by rw[e2];exact gm Q.good,fun s hs2=>by rw[hl,e2];exact Q.lets s hs2⟩
 ·rw[ew]at hb
  split at hb
  ·rename_i e
   subst e
   exact z.ask x hx b (List.mem_of_mem_drop hb)
  ·exact z.ask x hx b hb
 ·rw[hl,ew]
  have:=z.old j (by omega)
  split
  ·rename_i e
   rw[e]at this
   show _≤(m.who w).round+1∧(_→_ < (m.who w).round+1)
   exact⟨by omega,fun _=>by omega⟩
  ·exact this
 ·rw[(xA j).1]at k2
  rw[(xA j).2.2.2]
  exact z.tw j (by omega) k1 k2
 ·by_cases e:j=i
  ·subst e
   rw[hc,if_pos rfl]
   refine⟨h1,fun h=>(hst h).mono fun s hs2 h=>by rw[hsi];exact h,hwr,fun h=>?_⟩
   rcases hrd h with h|⟨k,q1,q2,q3,q4,q5⟩
   ·exact .inl h
   ·refine .inr ⟨k,by omega,q2,by rw[(xA k).1];exact q3,q4,by rw[(xA k).2.1];exact q5,?_⟩
    rw[(xA k).2.2.1]
    exact FW k q1
  ·rw[hc,if_neg e]at ha⊢
   obtain⟨d1,d2,d3,d4⟩:=z.dn j (by omega) ha
   refine⟨d1,fun h=>(d2 h).mono fun s hs2 h=>by rw[hsi];exact h,d3,fun h=>?_⟩
   rcases d4 h with h|⟨k,q1,q2,q3,q4,q5,q6⟩
   ·exact .inl h
   ·exact .inr ⟨k,by omega,q2,by rw[(xA k).1];exact q3,q4,by rw[(xA k).2.1];exact q5,by rw[(xA k).2.2.1];exact q6⟩
 ·obtain⟨_,q1,q2⟩:=MM a b (by omega) (by omega) k1 k2
  rw[(xA b).1]
  exact z.ord a b (by omega) (by omega) q1 q2 ((agT a).1 k3) k4
 ·rw[(xA a).1]at k3
  rw[(xA b).1]at k4
  exact z.G6 a b (by omega) (by omega) k1 k2 k3 k4 e
 ·rw[ew]at hpx Ea
  rw[hop x hx]at hk
  by_cases e:x=w
  ·rw[if_pos e]at hk;omega
  ·rw[if_neg e]at hpx Ea hk
   exact u x hx e hpx Ea k hk
end
end Si
end Go.Proofs.YtjdkkabcenohcaaGreatDoor
