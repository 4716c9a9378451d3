import Derived.Test.YtjdkkabcenohcaaGreatDoorSP2
import Derived.Test.YtjdkkabcenohcaaGreatDoorP6
import Derived.Test.YtjdkkabcenohcaaGreatDoorR0
import Derived.Test.YtjdkkabcenohcaaGreatDoorR2
import Derived.Test.YtjdkkabcenohcaaGreatDoorP9
set_option linter.unusedVariables false
set_option linter.unusedSimpArgs false
set_option linter.unusedSectionVars false
set_option maxRecDepth 100000
namespace Go.Proofs.YtjdkkabcenohcaaGreatDoor
open Go.RowKit
namespace Sp
open Ob
section
variable {aU:Int} {m m':M} {qs:List Nat} {h t w:Nat}
inductive N4(m m':M)(w:Nat)(qs:List Nat)(h t:Nat):List Nat→Nat→Nat→Prop
 |quiet (t':Nat) (q:P) (hp:m'.aa=m.aa.set w q) (hq:q.program=(m.who w).program∧q.pending=true∧q.complete=false) (h3:m.kind w=3→(m.who w).item≠3∧q.item≠3) (h4:m.kind w=4→q.item=1∨(q.item=2∧q.x=at_ qs h∧(q.y= -1→h+1=qs.length))):N4 m m' w qs h t qs h t'
 |link (hk:m.kind w=3) (hi:(m.who w).item=2) (hp:m'.aa=m.aa.set w (zk (m.who w))):N4 m m' w qs h t (qs++[(m.who w).own.toNat]) h t
 |done (t':Nat) (hk:m.kind w=3) (hi:(m.who w).item=3) (hp:m'.aa=m.aa.set w (fin (m.who w) 0)):N4 m m' w qs h t qs h t'
 |take (hk:m.kind w=4) (hi:(m.who w).item=2) (hl:h+1 < qs.length) (hp:m'.aa=m.aa.set w (fin (m.who w) (m.nd (at_ qs (h+1))).value)):N4 m m' w qs h t qs (h+1) t
 |empty (hk:m.kind w=4) (hi:(m.who w).item=2) (hx:(m.who w).x=at_ qs h) (hy:(m.who w).y= -1) (hp:m'.aa=m.aa.set w (fin (m.who w) (-1))):N4 m m' w qs h t qs h t
theorem CH(qs:List Nat)(i:Nat):0≤at_ qs i:=Int.natCast_nonneg _
theorem Q.next(H:Q m qs h t){i:Nat}(hi:i < qs.length):(i+1 < qs.length∧(m.nd (at_ qs i)).next=at_ qs (i+1))∨(i+1=qs.length∧(m.nd (at_ qs i)).next= -1):=by
 rcases Nat.lt_or_ge (i+1) qs.length with g|g
 ·exact .inl ⟨g,H.ch i g⟩
 ·refine .inr ⟨by omega,?_⟩
  have:=H.la
  rwa[show qs.length - 1=i by omega]at this
theorem Q.Hb(H:Q m qs h t)(hw:w < m.aa.length)(r:Int):Q (m.gc w (fin (m.who w) r)) qs h t:=
 H.put hw rfl rfl rfl rfl (fun e=>(by cases e.2)) (fun e=>(by cases e.2))
theorem Q.aam(H:Q m qs h t)(hw:w < m.aa.length)(ha:m.act w)(h3:m.kind w=3→(m.who w).item≠3){q:P}(e1:q.program=(m.who w).program)(e2:q.own=(m.who w).own)(X8:m.kind w=3→yL qs t q)(hde:m.kind w=4→yM qs h t q):Q (m.gc w q) qs h t:=by
 have ek:kl q=m.kind w:=by unfold kl M.kind;rw[e1]
 refine H.put hw rfl rfl rfl rfl (fun _ hk=>?_) (fun _ hk=>hde (ek▸hk))
 rw[ek]at hk
 refine⟨X8 hk,fun _=>?_⟩
 have hf:=(H.en w hw ha hk).2 (h3 hk)
 refine⟨?_,fun v hv hne hav hkv hiv=>?_⟩
 ·unfold Ha qd at hf⊢
  rw[e1,e2];exact hf
 ·rw[e2];exact H.dj w v hw hv (fun e=>hne e.symm) ha hav hk hkv (h3 hk) hiv
theorem Q.MG(H:Q m qs h t)(hw:w < m.aa.length)(ha:m.act w)(h3:m.kind w=3→(m.who w).item≠3):Q (m.again w) qs h t:=by
 have:=H.aam hw ha h3 (q:=G_ (m.who w)) rfl rfl (fun _=> .inl rfl) (fun _=> .inl rfl)
 exact⟨this.ln,this.ht,this.X7,this.hd,this.tl,this.nd,this.lt,this.ch,this.la,this.va,this.en,this.de,this.dj⟩
theorem Fl(H:Q m qs h t)(hw:w < m.aa.length)(ha:m.act w)(hk:(m.kind w=3∧gH (qd (m.who w)))∨m.kind w=4): ∃D8 h' t',N4 m (eV aU m w) w qs h t D8 h' t'∧Q (eV aU m w) D8 h' t':=by
 have vD:=H.ln
 have hht:=H.ht
 have hh:h < qs.length:=by omega
 unfold eV
 rw[if_neg (by omega),if_neg (by omega),if_neg (by omega)]
 rcases hk with⟨hk,RN⟩|hk
 ·rw[if_pos hk]
  have h4: ∀q:P,m.kind w=4→q.item=1∨(q.item=2∧q.x=at_ qs h∧(q.y= -1→h+1=qs.length)):=fun q e=>by omega
  have hq4: ∀q:P,m.kind w=4→yM qs h t q:=fun q e=>by omega
  obtain⟨hok,_⟩:=H.en w hw ha hk
  have again:(m.who w).item≠3→∃D8 h' t',N4 m (m.again w) w qs h t D8 h' t'∧Q (m.again w) D8 h' t':=fun h3=>
   ⟨qs,h,t,.quiet t (G_ (m.who w)) rfl ⟨rfl,ha.1,ha.2⟩ (fun _=>⟨h3,by show(1:Int)≠3;decide⟩) (h4 _),H.MG hw ha fun _=>h3⟩
  unfold rE
  rcases hok with h1|⟨h1,i,i1,i2,i3,i4⟩|⟨h1,i,i1,i2,i3,i4⟩
  ·rw[if_pos h1]
   have hne:m.kind w=3→(m.who w).item≠3:=fun _=>by omega
   refine⟨qs,h,t,.quiet t _ rfl ⟨rfl,ha.1,ha.2⟩ (fun _=>⟨by omega,by show(2:Int)≠3;decide⟩) (h4 _),H.aam hw ha hne rfl rfl (fun _=>?_) (hq4 _)⟩
   refine .inr (.inl ⟨rfl,t,Nat.le_refl _,vD,H.tl,?_⟩)
   show(m.nd m.tail).next= -1∨_
   rw[H.tl]
   rcases H.next vD with⟨g1,g2⟩|⟨g1,g2⟩
   ·exact .inr ⟨g1,g2⟩
   ·exact .inl g2
  ·rw[if_neg (by omega),if_neg (by omega)]
   by_cases e1:m.tail=(m.who w).x
   ·rw[if_neg (fun e=>e e1)]
    have hit:t=i:=D7 H.nd vD i2 (by rw[←H.tl,e1];exact i3)
    subst hit
    by_cases e2:(m.who w).y < 0
    ·rw[if_neg (fun e=>e e2)]
     by_cases e3:(m.nd (m.who w).x).next < 0
     ·rw[if_pos e3]
      have qR:t+1=qs.length:=by
       rw[i3]at e3
       rcases H.next vD with⟨g1,g2⟩|⟨g1,g2⟩
       ·have:=CH qs (t+1);omega
       ·exact g1
      exact⟨_,h,t,.link hk h1 rfl,H.ahS hw ha hk h1 i3 qR RN⟩
     ·rw[if_neg e3]
      exact again (by omega)
    ·rw[if_pos e2]
     obtain⟨g1,g2⟩:t+1 < qs.length∧(m.who w).y=at_ qs (t+1):=by
      rcases i4 with g|g
      ·omega
      ·exact g
     have hr:=(H.MG hw ha fun _=>(by omega:(m.who w).item≠3)).tail' g1
     refine⟨qs,h,t+1,.quiet (t+1) (G_ (m.who w)) rfl ⟨rfl,ha.1,ha.2⟩ (fun _=>⟨by omega,by show(1:Int)≠3;decide⟩) (h4 _),?_⟩
     rw[g2];exact hr
   ·rw[if_pos e1]
    exact again (by omega)
  ·rw[if_neg (by omega),if_pos h1]
   by_cases e1:m.tail=(m.who w).x
   ·rw[if_pos e1]
    have hit:t=i:=D7 H.nd vD (by omega) (by rw[←H.tl,e1];exact i3)
    subst hit
    refine⟨qs,h,t+1,.done (t+1) hk h1 rfl,?_⟩
    rw[i4]
    exact(H.Hb hw 0).tail' i2
   ·rw[if_neg e1]
    exact⟨qs,h,t,.done t hk h1 rfl,H.Hb hw 0⟩
 ·rw[if_neg (by omega)]
  have h3: ∀q:P,m.kind w=3→(m.who w).item≠3∧q.item≠3:=fun q e=>by omega
  have hq3: ∀q:P,m.kind w=3→yL qs t q:=fun q e=>by omega
  have hne:m.kind w=3→(m.who w).item≠3:=fun e=>by omega
  have hok:=H.de w hw ha hk
  have again: ∃D8 h' t',N4 m (m.again w) w qs h t D8 h' t'∧Q (m.again w) D8 h' t':=
   ⟨qs,h,t,.quiet t (G_ (m.who w)) rfl ⟨rfl,ha.1,ha.2⟩ (h3 _) (fun _=> .inl rfl),H.MG hw ha hne⟩
  unfold rH
  rcases hok with h1|⟨h1,i,j,i1,i2,i3,i4,i5,i6,i7⟩
  ·rw[if_pos h1]
   refine⟨qs,h,t,.quiet t _ rfl ⟨rfl,ha.1,ha.2⟩ (h3 _) (fun _=> .inr ⟨rfl,H.hd,fun e=>?_⟩),H.aam hw ha hne rfl rfl (hq3 _) fun _=>?_⟩
   ·have e:(m.nd m.head).next= -1:=e
    rw[H.hd]at e
    rcases H.next hh with⟨g1,g2⟩|⟨g1,g2⟩
    ·have:=CH qs (h+1);omega
    ·exact g1
   ·refine .inr ⟨rfl,h,t,Nat.le_refl _,hht,Nat.le_refl _,vD,H.hd,H.tl,?_⟩
    show((m.nd m.head).next= -1∧_)∨(_∧(m.nd m.head).next=_)
    rw[H.hd]
    rcases H.next hh with⟨g1,g2⟩|⟨g1,g2⟩
    ·exact .inr ⟨g1,g2⟩
    ·exact .inl ⟨g2,by omega⟩
  ·rw[if_neg (by omega)]
   by_cases e1:m.head=(m.who w).x
   ·rw[if_neg (fun e=>e e1)]
    have hih:h=i:=D7 H.nd hh (by omega) (by rw[←H.hd,e1];exact i5)
    subst hih
    by_cases e2:(m.who w).x=(m.who w).z_∧(m.who w).y < 0
    ·rw[if_pos e2]
     have hy:(m.who w).y= -1:=by
      rcases i7 with g|⟨_,g⟩
      ·exact g.1
      ·have:=CH qs (h+1);omega
     exact⟨qs,h,t,.empty hk h1 i5 hy rfl,H.Hb hw (-1)⟩
    ·rw[if_neg e2]
     by_cases e3:(m.who w).x=(m.who w).z_
     ·rw[if_pos e3]
      have hj:h=j:=D7 H.nd hh i4 (by rw[←i5,e3];exact i6)
      subst hj
      obtain⟨g1,g2⟩:h+1 < qs.length∧(m.who w).y=at_ qs (h+1):=by
       rcases i7 with g|g
       ·exact(e2 ⟨e3,by omega⟩).elim
       ·exact g
      by_cases e4:m.tail=(m.who w).z_
      ·rw[if_pos e4]
       have ht:t=h:=D7 H.nd vD hh (by rw[←H.tl,e4];exact i6)
       subst ht
       refine⟨qs,t,t+1,.quiet (t+1) (G_ (m.who w)) rfl ⟨rfl,ha.1,ha.2⟩ (h3 _) (fun _=> .inl rfl),?_⟩
       rw[g2]
       exact(H.MG hw ha hne).tail' g1
      ·rw[if_neg e4]
       exact again
     ·rw[if_neg e3]
      obtain⟨g1,g2⟩:h+1 < qs.length∧(m.who w).y=at_ qs (h+1):=by
       rcases i7 with g|g
       ·exact(e3 (by rw[i5,i6,g.2])).elim
       ·exact g
      have hlt:h+1≤j:=by
       rcases Nat.lt_or_ge h j with g|g
       ·exact g
       ·exact(e3 (by rw[i5,i6,show h=j by omega])).elim
      rw[g2]
      exact⟨qs,h+1,t,.take hk h1 g1 rfl,(H.Hb hw _).head' (by omega)⟩
   ·rw[if_pos e1]
    exact again
theorem Q.D(H:Q m qs h t)(hw:w < m.aa.length)(hk:m.act w→m.kind w=3∨m.kind w=4):D m w:=by
 intro hp hc hi
 refine⟨fun h6=>?_,fun _ _ _ h3 hxz=>?_⟩
 ·rcases h6 with h6|h6
  ·have:=hk ⟨hp,hc⟩;omega
  ·rcases(H.en w hw ⟨hp,hc⟩ h6).1 with g|⟨_,i,_,_,g,_⟩|⟨_,i,_,_,g,_⟩
   ·exact(hi g).elim
   ·rw[g];exact CH _ _
   ·rw[g];exact CH _ _
 ·have h4:m.kind w=4:=by have:=hk ⟨hp,hc⟩;omega
  rcases H.de w hw ⟨hp,hc⟩ h4 with g|⟨_,i,j,_,_,_,_,g1,g2,g3⟩
  ·exact(hi g).elim
  ·rcases g3 with g3|g3
   ·exact(hxz (by rw[g1,g2,g3.2])).elim
   ·rw[g3.2];exact CH _ _
theorem Q.rX(H:Q m qs h t)(hw:w < m.aa.length){np k:Nat}(hB:B np k m):Q (jP m w) qs h t:=by
 have hpl:=hB.pl
 have hp:(jP m w).aa=m.aa.set w (Sp.rX (m.who w) m.nodes.length):=rfl
 have cq:=qf (m:=m) (m':=jP m w) hw hp
 have hl:(jP m w).aa.length=m.aa.length:=by rw[hp,List.length_set]
 have hnd: ∀k:Int,k.toNat < m.nodes.length→(jP m w).nd k=m.nd k:=fun k hk=>by
  unfold M.nd jP
  simp only[List.getD_eq_getElem?_getD]
  rw[List.getElem?_append_left hk]
 have hnew:(jP m w).nd (m.nodes.length:Int)=⟨((m.who w).program.getD 0 Ask.z).arg,-1⟩:=by
  unfold M.nd jP
  simp only
  rw[List.getD_eq_getElem?_getD]
  simp
 have hat: ∀i,i < qs.length→(at_ qs i).toNat < m.nodes.length:=fun i hi=>H.lt _ (at_mem hi)
 have vD:=H.ln
 have hnl:(jP m w).nodes.length=m.nodes.length+1:=by simp[jP]
 have hfree: ∀p,Ha m qs p→Ha (jP m w) qs p:=fun p hf=>by
  obtain⟨a1,a2,a3,a4,a5⟩:=hf
  exact⟨a1,by omega,a3,by rw[hnd _ a2];exact a4,by rw[hnd _ a2];exact a5⟩
 have hown: ∀v,v < m.aa.length→(m.who v).own < m.nodes.length:=fun v hv=>(hB.pb (by omega:v < np)).own.2
 refine⟨H.ln,H.ht,H.X7,H.hd,H.tl,H.nd,fun i hi=>by have:=H.lt i hi;omega,fun i hi=>by rw[hnd _ (hat i (by omega))];exact H.ch i hi,by rw[hnd _ (hat _ (by omega))];exact H.la,fun i h1 h2=>by rw[hnd _ (hat i h2)];exact H.va i h1 h2,fun v hv ha hk=>?_,fun v hv ha hk=>?_,fun u v hu hv huv ha1 ha2 iU hk2 hi1 hi2=>?_⟩
 ·rw[hl]at hv
  rw[M.act,cq]at ha
  rw[g9,cq]at hk
  rw[cq]
  by_cases e:v=w
  ·subst e
   rw[if_pos rfl]at ha hk⊢
   refine⟨.inl rfl,fun _=>⟨Int.natCast_nonneg _,?_,?_,?_,?_⟩⟩
   ·show((m.nodes.length:Int)).toNat < _;omega
   ·intro hm
    have:=H.lt _ hm
    have e2:(Sp.rX (m.who v) m.nodes.length).own=(m.nodes.length:Int):=rfl
    rw[e2]at this
    omega
   ·show((jP m v).nd (m.nodes.length:Int)).next= -1
    rw[hnew]
   ·show((jP m v).nd (m.nodes.length:Int)).value=_
    rw[hnew];rfl
  ·rw[if_neg e]at ha hk⊢
   have:=H.en v hv ha hk
   exact⟨this.1,fun hi=>hfree _ (this.2 hi)⟩
 ·rw[hl]at hv
  rw[M.act,cq]at ha
  rw[g9,cq]at hk
  rw[cq]
  by_cases e:v=w
  ·subst e
   rw[if_pos rfl]
   exact .inl rfl
  ·rw[if_neg e]at ha hk⊢
   exact H.de v hv ha hk
 ·rw[hl]at hu hv
  rw[M.act,cq]at ha1 ha2
  rw[g9,cq]at iU hk2
  rw[cq]at hi1 hi2
  rw[cq,cq]
  by_cases e:u=w
  ·subst e
   rw[if_pos rfl,if_neg (fun e=>huv e.symm)]
   have:=hown v hv
   show(m.nodes.length:Int)≠_
   omega
  ·rw[if_neg e]at ha1 iU hi1⊢
   by_cases e2:v=w
   ·subst e2
    rw[if_pos rfl]
    have:=hown u hu
    show _≠(m.nodes.length:Int)
    omega
   ·rw[if_neg e2]at ha2 hk2 hi2⊢
    exact H.dj u v hu hv huv ha1 ha2 iU hk2 hi1 hi2
theorem Q.gx(H:Q m qs h t)(hw:w < m.aa.length):Q (Dd m w) qs h t:=
 H.put hw rfl rfl rfl rfl (fun e=>(by cases e.1)) (fun e=>(by cases e.1))
end
end Sp
namespace Sp
open Ob
def Ch(m:M):Int→List Nat→Prop
 |t,[]=>t= -1
 |t,c::cs=>t=(c:Int)∧c < m.nodes.length∧Ch m (m.nd (c:Int)).next cs
theorem Ch.dZ{m m':M}(hl:m.nodes.length≤m'.nodes.length): ∀{cs:List Nat} {t:Int},(∀c∈cs,(m'.nd (c:Int)).next=(m.nd (c:Int)).next)→Ch m t cs→Ch m' t cs
 | [],_,_,h=>h
 |c::cs,t,hc,⟨h1,h2,h3⟩=>⟨h1,by omega,by rw[hc c (.head _)];exact Ch.dZ hl (fun d hd=>hc d (.tail _ hd)) h3⟩
theorem Ch.lt{m:M}: ∀{cs:List Nat} {t:Int},Ch m t cs→∀c∈cs,c < m.nodes.length
 | [],_,_,c,hc=>by cases hc
 |d::cs,t,⟨_,h2,h3⟩,c,hc=>by
  rcases List.mem_cons.1 hc with rfl|hc
  ·exact h2
  ·exact Ch.lt h3 c hc
def Hf(m:M)(cs:List Nat)(p:P):Prop:=0≤p.own∧p.own.toNat < m.nodes.length∧p.own.toNat∉cs∧(m.nd p.own).value=qd p∧(p.item=1∨(p.item=2∧(m.nd p.own).next=p.x))
def Hg(m:M)(p:P):Prop:=p.item=1∨(p.item=2∧0≤p.x∧p.x.toNat < m.nodes.length∧(m.nd p.x).next=p.y∧gH (m.nd p.x).value)
structure S(m:M)(cs:List Nat):Prop where
 ch:Ch m m.top cs
 nd:cs.Nodup
 va: ∀c∈cs,gH (m.nd (c:Int)).value
 pu: ∀w,w < m.aa.length→m.act w→m.kind w=5→Hf m cs (m.who w)
 po: ∀w,w < m.aa.length→m.act w→m.kind w=6→Hg m (m.who w)
 dj: ∀w v,w < m.aa.length→v < m.aa.length→w≠v→m.act w→m.act v→m.kind w=5→m.kind v=5→(m.who w).own≠(m.who v).own
 dx: ∀w v,w < m.aa.length→v < m.aa.length→m.act w→m.act v→m.kind w=5→m.kind v=6→(m.who v).item≠1→(m.who w).own≠(m.who v).x
section
variable {aU:Int} {m m':M} {cs cs':List Nat} {w:Nat}
theorem S.gen(H:S m cs)(hw:w < m.aa.length){q:P}(hp:m'.aa=m.aa.set w q)(hch:Ch m' m'.top cs')(hnd:cs'.Nodup)(hva: ∀c∈cs',gH (m'.nd (c:Int)).value)
  (K0:B5 q→kl q=5→Hf m' cs' q)(hpo:B5 q→kl q=6→Hg m' q)(akb: ∀v,v < m.aa.length→v≠w→m.act v→m.kind v=5→Hf m cs (m.who v)→Hf m' cs' (m.who v))(akc: ∀v,v < m.aa.length→v≠w→m.act v→m.kind v=6→Hg m (m.who v)→Hg m' (m.who v))
  (hdj:B5 q→kl q=5→∀v,v < m.aa.length→v≠w→m.act v→m.kind v=5→q.own≠(m.who v).own)(akd:B5 q→kl q=5→∀v,v < m.aa.length→v≠w→m.act v→m.kind v=6→(m.who v).item≠1→q.own≠(m.who v).x)(ake:B5 q→kl q=6→q.item≠1→∀v,v < m.aa.length→v≠w→m.act v→m.kind v=5→(m.who v).own≠q.x):S m' cs':=by
 have cq:=qf (m:=m) (m':=m') hw hp
 have hl:m'.aa.length=m.aa.length:=by rw[hp,List.length_set]
 refine⟨hch,hnd,hva,fun v hv ha hk=>?_,fun v hv ha hk=>?_,fun u v hu hv huv ha1 ha2 iU hk2=>?_,fun u v hu hv ha1 ha2 iU hk2 hi=>?_⟩
 ·rw[hl]at hv
  rw[M.act,cq]at ha
  rw[g9,cq]at hk
  rw[cq]
  by_cases e:v=w
  ·subst e
   rw[if_pos rfl]at ha hk⊢
   exact K0 ha hk
  ·rw[if_neg e]at ha hk⊢
   exact akb v hv e ha hk (H.pu v hv ha hk)
 ·rw[hl]at hv
  rw[M.act,cq]at ha
  rw[g9,cq]at hk
  rw[cq]
  by_cases e:v=w
  ·subst e
   rw[if_pos rfl]at ha hk⊢
   exact hpo ha hk
  ·rw[if_neg e]at ha hk⊢
   exact akc v hv e ha hk (H.po v hv ha hk)
 ·rw[hl]at hu hv
  rw[M.act,cq]at ha1 ha2
  rw[g9,cq]at iU hk2
  rw[cq,cq]
  by_cases e:u=w
  ·subst e
   rw[if_pos rfl]at ha1 iU⊢
   rw[if_neg (fun e=>huv e.symm)]at ha2 hk2⊢
   exact hdj ha1 iU v hv (fun e=>huv e.symm) ha2 hk2
  ·rw[if_neg e]at ha1 iU⊢
   by_cases e2:v=w
   ·subst e2
    rw[if_pos rfl]at ha2 hk2⊢
    exact fun e3=>hdj ha2 hk2 u hu e ha1 iU e3.symm
   ·rw[if_neg e2]at ha2 hk2⊢
    exact H.dj u v hu hv huv ha1 ha2 iU hk2
 ·rw[hl]at hu hv
  rw[M.act,cq]at ha1 ha2
  rw[g9,cq]at iU hk2
  rw[cq]at hi
  rw[cq,cq]
  by_cases e:u=w
  ·subst e
   rw[if_pos rfl]at ha1 iU⊢
   by_cases e2:v=u
   ·subst e2
    rw[if_pos rfl]at hk2;omega
   ·rw[if_neg e2]at ha2 hk2 hi⊢
    exact akd ha1 iU v hv e2 ha2 hk2 hi
  ·rw[if_neg e]at ha1 iU⊢
   by_cases e2:v=w
   ·subst e2
    rw[if_pos rfl]at ha2 hk2 hi⊢
    exact ake ha2 hk2 hi u hu e ha1 iU
   ·rw[if_neg e2]at ha2 hk2 hi⊢
    exact H.dx u v hu hv ha1 ha2 iU hk2 hi
theorem S.put(H:S m cs)(hw:w < m.aa.length){q:P}(hn:m'.nodes=m.nodes)(ht:m'.top=m.top)(hp:m'.aa=m.aa.set w q)
  (K0:B5 q→kl q=5→Hf m cs q∧m.act w∧m.kind w=5∧q.own=(m.who w).own)(hpo:B5 q→kl q=6→Hg m q∧(q.item≠1→q.x.toNat∈cs)):S m' cs:=by
 have hnd: ∀k,m'.nd k=m.nd k:=fun k=>by unfold M.nd;rw[hn]
 have e1: ∀p,Hf m cs p→Hf m' cs p:=fun p hf=>by unfold Hf at hf⊢;rw[hn,hnd];exact hf
 have e2: ∀p,Hg m p→Hg m' p:=fun p hf=>by unfold Hg at hf⊢;rw[hn,hnd];exact hf
 refine H.gen hw hp (by rw[ht];exact Ch.dZ (by rw[hn];exact Nat.le_refl _) (fun c _=>by rw[hnd]) H.ch) H.nd (fun c hc=>by rw[hnd];exact H.va c hc) (fun a b=>e1 _ (K0 a b).1) (fun a b=>e2 _ (hpo a b).1) (fun v _ _ _ _ h=>e1 _ h) (fun v _ _ _ _ h=>e2 _ h) (fun a b v hv hne av kv=>?_) (fun a b v hv hne av kv iv=>?_) (fun a b c v hv hne av kv=>?_)
 ·obtain⟨_,g1,g2,g3⟩:=K0 a b
  rw[g3];exact H.dj w v hw hv (fun e=>hne e.symm) g1 av g2 kv
 ·obtain⟨_,g1,g2,g3⟩:=K0 a b
  rw[g3];exact H.dx w v hw hv g1 av g2 kv iv
 ·intro e
  exact(H.pu v hv av kv).2.2.1 (by rw[e];exact(hpo a b).2 c)
theorem S.Hb(H:S m cs)(hw:w < m.aa.length)(r:Int):S (m.gc w (fin (m.who w) r)) cs:=
 H.put hw rfl rfl rfl (fun e=>(by cases e.2)) (fun e=>(by cases e.2))
theorem S.MG(H:S m cs)(hw:w < m.aa.length)(ha:m.act w):S (m.again w) cs:=
 H.put hw rfl rfl rfl (fun _ hk=>by
  have hk:m.kind w=5:=hk
  have:=H.pu w hw ha hk
  exact⟨⟨this.1,this.2.1,this.2.2.1,this.2.2.2.1,.inl rfl⟩,ha,hk,rfl⟩) (fun _ _=>⟨.inl rfl,fun h=>(h rfl).elim⟩)
inductive N3(m m':M)(w:Nat)(cs:List Nat):List Nat→Prop
 |quiet (q:P) (hp:m'.aa=m.aa.set w q) (hq:q.program=(m.who w).program∧q.pending=true∧q.complete=false):N3 m m' w cs cs
 |push (hk:m.kind w=5) (hv:(m'.nd (m.who w).own).value=qd (m.who w)) (hp:m'.aa=m.aa.set w (fin (m.who w) 0)):N3 m m' w cs ((m.who w).own.toNat::cs)
 |pop (c:Nat) (cs':List Nat) (hcs:cs=c::cs') (hk:m.kind w=6) (hp:m'.aa=m.aa.set w (fin (m.who w) (m.nd (c:Int)).value)):N3 m m' w cs cs'
 |empty (hcs:cs= []) (hk:m.kind w=6) (hp:m'.aa=m.aa.set w (fin (m.who w) (-1))):N3 m m' w cs cs
theorem Fm(H:S m cs)(hw:w < m.aa.length)(ha:m.act w)(hk:(m.kind w=5∧gH (qd (m.who w)))∨m.kind w=6): ∃cs',N3 m (eV aU m w) w cs cs'∧S (eV aU m w) cs'∧∀k:Int,0≤k→((eV aU m w).nd k).value=(m.nd k).value:=by
 unfold eV
 rw[if_neg (by omega)]
 have again: ∃cs',N3 m (m.again w) w cs cs'∧S (m.again w) cs'∧∀k:Int,0≤k→((m.again w).nd k).value=(m.nd k).value:=
  ⟨cs,.quiet (G_ (m.who w)) rfl ⟨rfl,ha.1,ha.2⟩,H.MG hw ha,fun _ _=>rfl⟩
 rcases hk with⟨hk,RN⟩|hk
 ·rw[if_pos hk]
  obtain⟨o1,o2,o3,o4,o5⟩:=H.pu w hw ha hk
  unfold oW
  rcases o5 with h1|⟨h1,h2⟩
  ·rw[if_pos h1]
   generalize hm':(m.gc w (B4 (m.who w) (m.who w).n m.top (m.who w).y (m.who w).z_)).link (m.who w).own m.top=m'
   have hnd: ∀k,0≤k→m'.nd k=if k=(m.who w).own then⟨(m.nd (m.who w).own).value,m.top⟩else m.nd k:=fun k hk=>by rw[←hm'];exact MF (m:=m.gc w (B4 (m.who w) (m.who w).n m.top (m.who w).y (m.who w).z_)) hk o1 o2
   have hp:m'.aa=m.aa.set w (B4 (m.who w) (m.who w).n m.top (m.who w).y (m.who w).z_):=by rw[←hm'];rfl
   have akf:m'.top=m.top:=by rw[←hm'];rfl
   have hnl:m'.nodes.length=m.nodes.length:=by rw[←hm'];simp[M.link,M.gc]
   have hval: ∀k,0≤k→(m'.nd k).value=(m.nd k).value:=fun k hk=>by
    rw[hnd k hk];split
    ·rename_i e;rw[e]
    ·rfl
   have hc: ∀c∈cs,m'.nd (c:Int)=m.nd (c:Int):=fun c hc=>by
    rw[hnd _ (Int.natCast_nonneg c),if_neg]
    intro e
    exact o3 (by rw[←e,Int.toNat_natCast];exact hc)
   refine⟨cs,.quiet _ hp ⟨rfl,ha.1,ha.2⟩,?_,hval⟩
   refine H.gen hw hp (by rw[akf];exact Ch.dZ (by omega) (fun c h=>by rw[hc c h]) H.ch) H.nd (fun c h=>by rw[hc c h];exact H.va c h) (fun _ _=>?_) (fun _ Aa=>?_) (fun v hv hne av kv g=>?_) (fun v hv hne av kv g=>?_) (fun _ _ v hv hne av kv=>H.dj w v hw hv (fun e=>hne e.symm) ha av hk kv) (fun _ _ v hv hne av kv iv=>H.dx w v hw hv ha av hk kv iv) (fun _ Aa=>?_)
   ·refine⟨o1,by rw[hnl];exact o2,o3,by rw[hval];exact o4;exact o1,.inr ⟨rfl,?_⟩⟩
    show(m'.nd (m.who w).own).next=m.top
    rw[hnd _ o1,if_pos rfl]
   ·have Aa:m.kind w=6:=Aa
    omega
   ·have aan:=H.dj w v hw hv (fun e=>hne e.symm) ha av hk kv
    obtain⟨g1,g2,g3,g4,g5⟩:=g
    have e:m'.nd (m.who v).own=m.nd (m.who v).own:=by rw[hnd _ g1,if_neg (fun e=>aan e.symm)]
    exact⟨g1,by rw[hnl];exact g2,g3,by rw[e];exact g4,by rw[e];exact g5⟩
   ·rcases g with g|⟨g1,g2,g3,g4,g5⟩
    ·exact .inl g
    ·have aan:=H.dx w v hw hv ha av hk kv (by omega)
     have e:m'.nd (m.who v).x=m.nd (m.who v).x:=by rw[hnd _ g2,if_neg (fun e=>aan e.symm)]
     exact .inr ⟨g1,g2,by rw[hnl];exact g3,by rw[e];exact g4,by rw[e];exact g5⟩
   ·have Aa:m.kind w=6:=Aa
    omega
  ·rw[if_neg (by omega)]
   by_cases e1:m.top=(m.who w).x
   ·rw[if_pos e1]
    have K:=H.Hb hw 0
    refine⟨(m.who w).own.toNat::cs,.push hk o4 rfl,⟨⟨?_,o2,?_⟩,?_,?_,fun v hv av kv=>?_,K.po,K.dj,K.dx⟩,fun _ _=>rfl⟩
    ·show(m.who w).own=_;omega
    ·show Ch _ (m.nd (((m.who w).own.toNat:Nat):Int)).next cs
     rw[show(((m.who w).own.toNat:Nat):Int)=(m.who w).own by omega,h2,←e1]
     exact Ch.dZ (m:=m) (m':=(m.gc w (fin (m.who w) 0)).uE (m.who w).own) (Nat.le_refl m.nodes.length) (fun _ _=>rfl) H.ch
    ·exact List.nodup_cons.2 ⟨o3,H.nd⟩
    ·intro c hc
     rcases List.mem_cons.1 hc with rfl|hc
     ·show gH (m.nd (((m.who w).own.toNat:Nat):Int)).value
      rw[show(((m.who w).own.toNat:Nat):Int)=(m.who w).own by omega,o4];exact RN
     ·exact H.va c hc
    ·have cq:=qf (m:=m) (m':=(m.gc w (fin (m.who w) 0)).uE (m.who w).own) hw rfl v
     have hl:v < m.aa.length:=by
      have:((m.gc w (fin (m.who w) 0)).uE (m.who w).own).aa.length=m.aa.length:=by show(m.aa.set w _).length=_;rw[List.length_set]
      omega
     rw[M.act,cq]at av
     rw[g9,cq]at kv
     rw[cq]
     by_cases e:v=w
     ·rw[if_pos e]at av
      cases av.2
     ·rw[if_neg e]at av kv⊢
      obtain⟨g1,g2,g3,g4,g5⟩:=H.pu v hl av kv
      refine⟨g1,g2,fun hm=>?_,g4,g5⟩
      rcases List.mem_cons.1 hm with hm|hm
      ·exact H.dj v w hl hw e av ha kv hk (by omega)
      ·exact g3 hm
   ·rw[if_neg e1]
    exact again
 ·rw[if_neg (by omega),if_pos hk]
  have k5:m.kind w=5→False:=fun e=>by omega
  unfold sX
  rcases H.po w hw ha hk with h1|⟨h1,x1,x2,x3,x4⟩
  ·cases cs with
   |nil=>
    have ht:m.top= -1:=H.ch
    rw[if_pos ⟨h1,by omega⟩]
    exact⟨[],.empty rfl hk rfl,H.Hb hw (-1),fun _ _=>rfl⟩
   |cons c cs'=>
    obtain⟨t1,t2,t3⟩:=H.ch
    rw[if_neg (fun e=>by omega),if_pos h1]
    refine⟨c::cs',.quiet _ rfl ⟨rfl,ha.1,ha.2⟩,H.put hw rfl rfl rfl (fun _ M_=>(k5 M_).elim) (fun _ _=>⟨.inr ⟨rfl,?_,?_,rfl,?_⟩,fun _=>?_⟩),fun _ _=>rfl⟩
    ·show 0≤m.top;omega
    ·show m.top.toNat < _;omega
    ·show gH (m.nd m.top).value
     rw[t1];exact H.va c (.head _)
    ·show m.top.toNat∈c::cs'
     rw[t1,Int.toNat_natCast];exact .head _
  ·rw[if_neg (fun e=>by omega),if_neg (by omega)]
   by_cases e1:m.top=(m.who w).x
   ·rw[if_pos e1]
    cases cs with
    |nil=>
     have ht:m.top= -1:=H.ch
     omega
    |cons c cs'=>
     obtain⟨t1,t2,t3⟩:=H.ch
     have Pf:(m.who w).x=(c:Int):=by omega
     have K:=H.Hb hw (m.nd (m.who w).x).value
     refine⟨cs',.pop c cs' rfl hk (by rw[Pf];rfl),⟨?_,(List.nodup_cons.1 H.nd).2,fun d hd=>H.va d (.tail _ hd),fun v hv av kv=>?_,K.po,K.dj,K.dx⟩,fun _ _=>rfl⟩
     ·show Ch _ (m.who w).y cs'
      rw[←x3,Pf]
      exact Ch.dZ (m:=m) (m':=(m.gc w (fin (m.who w) (m.nd (c:Int)).value)).uE (m.nd (c:Int)).next) (Nat.le_refl m.nodes.length) (fun _ _=>rfl) t3
     ·obtain⟨g1,g2,g3,g4,g5⟩:=K.pu v hv av kv
      exact⟨g1,g2,fun hm=>g3 (.tail _ hm),g4,g5⟩
   ·rw[if_neg e1]
    exact again
theorem S.D(H:S m cs)(hw:w < m.aa.length)(hk:m.act w→m.kind w=5∨m.kind w=6):D m w:=by
 intro hp hc hi
 refine⟨fun h6=>?_,fun _ h5 h6 _ _=>?_⟩
 ·rcases h6 with h6|h6
  ·rcases H.po w hw ⟨hp,hc⟩ h6 with g|g
   ·exact(hi g).elim
   ·exact g.2.1
  ·have:=hk ⟨hp,hc⟩;omega
 ·have:=hk ⟨hp,hc⟩;omega
theorem S.rX(H:S m cs)(hw:w < m.aa.length){np k:Nat}(hB:B np k m):S (jP m w) cs:=by
 have hpl:=hB.pl
 have hnd: ∀k:Int,k.toNat < m.nodes.length→(jP m w).nd k=m.nd k:=fun k hk=>by
  unfold M.nd jP
  simp only[List.getD_eq_getElem?_getD]
  rw[List.getElem?_append_left hk]
 have hnew:(jP m w).nd (m.nodes.length:Int)=⟨((m.who w).program.getD 0 Ask.z).arg,-1⟩:=by
  unfold M.nd jP
  simp only
  rw[List.getD_eq_getElem?_getD]
  simp
 have hlt:=H.ch.lt
 have hnl:(jP m w).nodes.length=m.nodes.length+1:=by simp[jP]
 have hc: ∀c∈cs,(jP m w).nd (c:Int)=m.nd (c:Int):=fun c hc=>hnd _ (by rw[Int.toNat_natCast];exact hlt c hc)
 have hown: ∀v,v < m.aa.length→(m.who v).own < m.nodes.length:=fun v hv=>(hB.pb (by omega:v < np)).own.2
 have hxs: ∀v,v < m.aa.length→(m.who v).x < m.nodes.length:=fun v hv=>(hB.pb (by omega:v < np)).x.2
 refine H.gen (q:=Sp.rX (m.who w) m.nodes.length) hw rfl (Ch.dZ (by omega) (fun c h=>by rw[hc c h]) H.ch) H.nd (fun c h=>by rw[hc c h];exact H.va c h) (fun _ _=>?_) (fun _ _=> .inl rfl) (fun v hv hne av kv g=>?_) (fun v hv hne av kv g=>?_) (fun _ _ v hv hne av kv=>?_) (fun _ _ v hv hne av kv iv=>?_) (fun _ _ hi=>(hi rfl).elim)
 ·refine⟨Int.natCast_nonneg _,?_,?_,?_,.inl rfl⟩
  ·show((m.nodes.length:Int)).toNat < _;omega
  ·intro hm
   have e2:(Sp.rX (m.who w) m.nodes.length).own=(m.nodes.length:Int):=rfl
   have:=hlt _ hm
   rw[e2]at this;omega
  ·show((jP m w).nd (m.nodes.length:Int)).value=_
   rw[hnew];rfl
 ·obtain⟨g1,g2,g3,g4,g5⟩:=g
  exact⟨g1,by omega,g3,by rw[hnd _ g2];exact g4,by rw[hnd _ g2];exact g5⟩
 ·rcases g with g|⟨g1,g2,g3,g4,g5⟩
  ·exact .inl g
  ·exact .inr ⟨g1,g2,by omega,by rw[hnd _ g3];exact g4,by rw[hnd _ g3];exact g5⟩
 ·have:=hown v hv
  show(m.nodes.length:Int)≠_;omega
 ·have:=hxs v hv
  show(m.nodes.length:Int)≠_;omega
theorem S.gx(H:S m cs)(hw:w < m.aa.length):S (Dd m w) cs:=
 H.put hw rfl rfl rfl (fun e=>(by cases e.1)) (fun e=>(by cases e.1))
inductive N5(m m':M)(w:Nat):Prop
 |quiet (q:P) (hp:m'.aa=m.aa.set w q) (hq:q.program=(m.who w).program∧q.pending=true∧q.complete=false) (hn:m'.n=m.n):N5 m m' w
 |take (hp:m'.aa=m.aa.set w (fin (m.who w) m.n)) (hn:m'.n=m.n+1):N5 m m' w
theorem Iz(ha:m.act w)(hk:m.kind w=10):N5 m (eV 1 m w) w:=by
 unfold eV iP
 rw[if_pos hk]
 split
 ·exact .quiet _ rfl ⟨rfl,ha.1,ha.2⟩ rfl
 ·split
  ·rename_i h
   have h:m.n=(m.who w).n:=by omega
   exact .take (by rw[h];rfl) (by show(m.who w).n+1=_;omega)
  ·exact .quiet (G_ (m.who w)) rfl ⟨rfl,ha.1,ha.2⟩ rfl
end
end Sp
namespace Sp
open Ob
def X(aU:Int)(m:M):Prop:=(aU=3→∃cs,S m cs)∧(aU=4→∃qs h t,Q m qs h t)
structure Inv(aU:Int)(P0:List (List Ask))(k:Nat)(m:M):Prop where
 b:B P0.length k m
 a:A P0 m
 x:X aU m
section
variable {N:Nat} {aU:Int} {P0:List (List Ask)} {m:M} {w k:Nat}
theorem kd(hP:iH [gf aU] P0)(a:A P0 m)(hw:w < P0.length)(hne:(m.who w).program≠ []):dz (gf aU) (m.kind w) (qd (m.who w)):=by
 unfold M.kind qd
 cases hh:(m.who w).program with
 |nil=>exact(hne hh).elim
 |cons x r=>exact(agw hP hw (a.mem hw (by rw[hh];exact .head _))).2
theorem Fo(hP:iH [gf aU] P0):aU=1∨aU=2∨aU=3∨aU=4:=by
 have:=hP.ty.2.2 (gf aU) (.head _)
 unfold gf at this
 by_cases h1:aU=1
 ·exact .inl h1
 by_cases h2:aU=2
 ·exact .inr (.inl h2)
 by_cases h3:aU=3
 ·exact .inr (.inr (.inl h3))
 by_cases h4:aU=4
 ·exact .inr (.inr (.inr h4))
 rw[if_neg (by omega),if_neg h3,if_neg h4]at this
 omega
theorem X9(hP:iH [gf aU] P0)(a:A P0 m)(hw:w < P0.length)(hne:(m.who w).program≠ [])(h:aU=1∨aU=2):m.kind w=10:=by
 have:=kd hP a hw hne
 unfold gf at this
 rw[if_pos h]at this
 exact agt this
theorem kd3(hP:iH [gf aU] P0)(a:A P0 m)(hw:w < P0.length)(hne:(m.who w).program≠ [])(h:aU=3):(m.kind w=5∧gH (qd (m.who w)))∨m.kind w=6:=by
 have:=kd hP a hw hne
 unfold gf at this
 rw[if_neg (by omega),if_pos h]at this
 exact agu this
theorem kd2(hP:iH [gf aU] P0)(a:A P0 m)(hw:w < P0.length)(hne:(m.who w).program≠ [])(h:aU=4):(m.kind w=3∧gH (qd (m.who w)))∨m.kind w=4:=by
 have:=kd hP a hw hne
 unfold gf at this
 rw[if_neg (by omega),if_neg (by omega),if_pos h]at this
 exact agv this
theorem Inv.ne(H:Inv aU P0 k m)(hw:w < P0.length)(hp:(m.who w).pending=true):(m.who w).program≠ []:=((H.b.pb hw).pend hp).1
theorem Inv.len(H:Inv aU P0 k m)(hw:w < P0.length):w < m.aa.length:=by rw[H.b.pl];exact hw
theorem Inv.D(H:Inv aU P0 k m)(hP:iH [gf aU] P0)(hw:w < P0.length):D m w:=by
 have hw':=H.len hw
 rcases Fo hP with h|h|h|h
 ·intro hp hc hi
  have:=X9 hP H.a hw (H.ne hw hp) (.inl h)
  exact⟨fun e=>by omega,fun e=>by omega⟩
 ·intro hp hc hi
  have:=X9 hP H.a hw (H.ne hw hp) (.inr h)
  exact⟨fun e=>by omega,fun e=>by omega⟩
 ·obtain⟨cs,hS⟩:=H.x.1 h
  refine hS.D hw' fun ha=>?_
  rcases kd3 hP H.a hw (H.ne hw ha.1) h with g|g
  ·exact .inl g.1
  ·exact .inr g
 ·obtain⟨qs,hh,t,hQ⟩:=H.x.2 h
  refine hQ.D hw' fun ha=>?_
  rcases kd2 hP H.a hw (H.ne hw ha.1) h with g|g
  ·exact .inl g.1
  ·exact .inr g
theorem Inv.iG(H:Inv aU P0 k m)(hP:iH [gf aU] P0)(hw:w < P0.length):Inv aU P0 (k+1) (iG aU m w):=by
 have hw':=H.len hw
 refine⟨ahQ H.b (H.D hP hw) hw,ahR H.a hw (fun a ha=>Ut (agw hP hw ha).2) (H.ne hw),?_⟩
 unfold Sp.iG
 split
 ·split
  ·exact H.x
  ·exact⟨fun h=>(H.x.1 h).elim fun cs hS=>⟨cs,hS.rX hw' H.b⟩,fun h=>by obtain⟨qs,hh,t,hQ⟩:=H.x.2 h;exact⟨qs,hh,t,hQ.rX hw' H.b⟩⟩
 ·rename_i h1
  have hp:(m.who w).pending=true:=by simpa using h1
  split
  ·exact⟨fun h=>(H.x.1 h).elim fun cs hS=>⟨cs,hS.gx hw'⟩,fun h=>by obtain⟨qs,hh,t,hQ⟩:=H.x.2 h;exact⟨qs,hh,t,hQ.gx hw'⟩⟩
  ·rename_i h2
   have ha:m.act w:=⟨hp,by simpa using h2⟩
   refine⟨fun h=>?_,fun h=>?_⟩
   ·obtain⟨cs,hS⟩:=H.x.1 h
    obtain⟨cs',_,h3,_⟩:=Fm (aU:=aU) hS hw' ha (kd3 hP H.a hw (H.ne hw hp) h)
    exact⟨cs',h3⟩
   ·obtain⟨qs,hh,t,hQ⟩:=H.x.2 h
    obtain⟨D8,h',t',_,h3⟩:=Fl (aU:=aU) hQ hw' ha (kd2 hP H.a hw (H.ne hw hp) h)
    exact⟨D8,h',t',h3⟩
theorem adz(ha:m.act w):iG aU m w=eV aU m w:=by
 unfold iG
 rw[if_neg (by simp[ha.1]),if_neg (by simp[ha.2])]
def runM(aU:Int)(m:M)(turns:List Int):M:=turns.foldl (fun m t=>Sp.iG aU m t.toNat) m
theorem Jk(aU:Int)(m:M)(a b:List Int):runM aU m (a++b)=runM aU (runM aU m a) b:=List.foldl_append
theorem zc(hP:iH [gf aU] P0): ∀{turns:List Int} {k:Nat} {m:M},Inv aU P0 k m→(∀t∈turns,0≤t∧t < P0.length)→Inv aU P0 (k+turns.length) (runM aU m turns)
 | [],k,m,h,_=>h
 |t::turns,k,m,h,ht=>by
  have h2:=zc hP (turns:=turns) (h.iG hP (w:=t.toNat) (by have:=ht t (.head _);omega)) fun x hx=>ht x (.tail _ hx)
  have e:k+(t::turns).length=k+1+turns.length:=by simp;omega
  rw[e];exact h2
def m0(P0:List (List Ask)):M:=⟨0,[⟨0,-1⟩],-1,0,0,P0.map fun l=>⟨l,false,false,0,0,0,-1,-1,-1,-1⟩,[],0⟩
theorem agx(w:Nat):(m0 P0).who w=(⟨P0.getD w [],false,false,0,0,0,-1,-1,-1,-1⟩:P)∨(m0 P0).who w=ae.z:=by
 unfold M.who m0
 simp only[List.getD_eq_getElem?_getD,List.getElem?_map]
 cases P0[w]? with
 |none=>exact .inr rfl
 |some l=>exact .inl rfl
theorem D9(w:Nat):((m0 P0).who w).pending=false:=by
 rcases agx (P0:=P0) w with h|h<;>rw[h]<;>rfl
theorem adA{w:Nat}(hw:w < P0.length):((m0 P0).who w).program=P0.getD w []:=by
 unfold M.who m0
 simp only[List.getD_eq_getElem?_getD,List.getElem?_map]
 rw[List.getElem?_eq_getElem hw];rfl
theorem Jl:Inv aU P0 0 (m0 P0):=by
 refine⟨⟨by simp[m0],by simp[m0],by simp[m0],by simp[m0],fun x hx=>?_,fun p hp=>?_,by simp[m0],by simp[m0],by simp[m0]⟩,⟨by simp[m0],fun w hw=>⟨0,by rw[adA hw];simp,Nat.zero_le _,by simp[m0,had]⟩⟩,fun _=>⟨[],rfl,List.nodup_nil,by simp,fun w _ ha=>?_,fun w _ ha=>?_,fun w v _ _ _ ha=>?_,fun w v _ _ ha=>?_⟩,fun _=>⟨[0],0,0,by simp,by simp,by simp,rfl,rfl,by simp,by simp[m0],fun i hi=>by simp at hi,rfl,fun i h1 h2=>by simp at h2;omega,fun w _ ha=>?_,fun w _ ha=>?_,fun w v _ _ _ ha=>?_⟩⟩
 ·have:x=⟨0,-1⟩:=List.mem_singleton.1 hx
  subst this
  simp[m0]
 ·obtain⟨l,hl,rfl⟩:=List.mem_map.1 hp
  exact⟨by simp[m0],by simp[m0],by simp[m0],by simp[m0],fun e=>(by cases e),by simp⟩
 all_goals
  have:=ha.1
  rw[D9]at this
  cases this
theorem adB(hN:5000 < N)(hc:dw N [gf aU] P0=some 0)(hP:iH [gf aU] P0){turns:List Int}(hT:turns.length≤300∧∀t∈turns,0≤t∧t < P0.length):tR N aU P0 turns=some ((runM aU (m0 P0) turns).events,(runM aU (m0 P0) turns).eh,0):=by
 have hty:gf aU≠0:=by have:=hP.ty.2.2 (gf aU) (.head _);omega
 have h8:=hP.pW
 refine Wp.eq ?_
 unfold tR
 refine .bD (D6 N aU) (.aL (decide_eq_false hty) (.bD (D6 N aU) (.bD hc (.aL rfl (.seq (E9 hN P0.length turns) fun r _ hr=>?_)))))
 have h0:r=0:=by
  rcases hr with⟨h,_⟩|⟨_,h,_⟩
  ·exact h
  ·exact(h hT).elim
 subst h0
 refine .aL rfl (.seq (P:=fun s=>s=P0.map fun l=>(⟨l,false,false,0,0,0,-1,-1,-1,-1⟩:P)) (.iter P0.length (fun k st=>st=((P0.take k).map fun l=>(⟨l,false,false,0,0,0,-1,-1,-1,-1⟩:P),(k:Int))) (by omega) rfl ?_ ?_) fun s _ hs=>?_)
 ·rintro k st hk rfl
  simp only[zT]
  refine .bg (decide_eq_true (by omega)) (.ix hk (.ck (eT ⟨?_,?_⟩) (.bK (by omega) (.one ?_))))
  ·simp;exact Nat.le_trans (m:=100) (by omega) (by unfold maxLen;decide)
  ·simp;omega
  ·refine Prod.ext ?_ (by simp)
   show _=(P0.take (k+1)).map _
   rw[←List.take_append_getElem hk,List.map_append]
   rfl
 ·rintro st rfl
  simp only[zT]
  refine .aL (decide_eq_false (by simp)) (.one ?_)
  simp
 subst hs
 refine .seq (P:=fun s=>s=(runM aU (m0 P0) turns).t) (.iter turns.length (fun k st=>st=((runM aU (m0 P0) (turns.take k)).n,(runM aU (m0 P0) (turns.take k)).nodes,(runM aU (m0 P0) (turns.take k)).top,(runM aU (m0 P0) (turns.take k)).head,(runM aU (m0 P0) (turns.take k)).tail,(runM aU (m0 P0) (turns.take k)).aa,(runM aU (m0 P0) (turns.take k)).events,(runM aU (m0 P0) (turns.take k)).eh,(k:Int))) (by omega) rfl ?_ ?_) fun s _ hs=>?_
 ·rintro k st hk rfl
  simp only[zU]
  have h1:=zc hP (Jl (aU:=aU)) (turns:=turns.take k) (fun t ht=>hT.2 t (List.mem_of_mem_take ht))
  have hle:0+(turns.take k).length≤1000:=by simp;omega
  have h2:=hT.2 turns[k] (List.getElem_mem hk)
  obtain⟨w,hw⟩: ∃w:Nat,turns[k]=w:=⟨turns[k].toNat,by omega⟩
  have Fz:w < P0.length:=by omega
  have h3:=ady (N:=N) (aU:=aU) h1.b (h1.D hP Fz) Fz hle
  refine .bg (decide_eq_true (by omega)) (.ix hk ?_)
  rw[hw]
  refine .bD h3 (.bK (by omega) (.one ?_))
  have e:runM aU (m0 P0) (turns.take (k+1))=Sp.iG aU (runM aU (m0 P0) (turns.take k)) w:=by
   rw[←List.take_append_getElem hk,Jk,hw];rfl
  rw[e]
  rfl
 ·rintro st rfl
  simp only[zU]
  refine .aL (decide_eq_false (by simp)) (.one ?_)
  rw[List.take_length]
  rfl
 subst hs
 exact .one rfl
theorem Mj(hN:5000 < N)(hl: ∀l∈P0,l.length < N∧l.length≤9223372036854775807)(turns:List Int):Wp (tR N aU P0 turns) fun r=>(r.2.2≠0∧r.1= [])∨(iH [gf aU] P0∧dw N [gf aU] P0=some 0∧(turns.length≤300∧∀t∈turns,0≤t∧t < P0.length)∧r=((runM aU (m0 P0) turns).events,(runM aU (m0 P0) turns).eh,0)):=by
 obtain⟨e,he,hok⟩:=mJ hN (types:=[gf aU]) hl
 by_cases Lc:gf aU≠0∧e=0∧turns.length≤300∧∀t∈turns,0≤t∧t < P0.length
 ·obtain⟨h1,rfl,hT⟩:=Lc
  exact⟨_,adB hN he (hok rfl) hT,.inr ⟨hok rfl,he,hT,rfl⟩⟩
 ·unfold tR
  refine .bD (D6 N aU) (.cond (fun _=> .one (.inl ⟨by decide,rfl⟩)) fun h0=> .bD (D6 N aU) (.bD he (.cond (fun h=> .one (.inl ⟨by simpa using h,rfl⟩)) fun h1=> .seq (E9 hN P0.length turns) fun r _ hr=> .cond (fun h=> .one (.inl ⟨by simpa using h,rfl⟩)) fun h2=>?_)))
  exfalso
  have h0:gf aU≠0:=of_decide_eq_false h0
  have h1:e=0:=by simpa using h1
  have h2:r=0:=by simpa using h2
  rcases hr with⟨_,h3⟩|⟨h3,_⟩
  ·exact Lc ⟨h0,h1,h3⟩
  ·exact h3 h2
end
end Sp
namespace Sp
open Ob Hs
theorem Q_{N:Nat}{types:List Int}{l e:List Event}{k:Nat}{out:List Call}{op:List Int}(R:ex N types l k out op):k≤l.length→ex N types (l++e) k out op:=by
 induction R with
 |zero=>exact fun _=> .zero
 | @succ k out out' op op' R hk S ih=>
  intro h
  refine .succ (ih (by omega)) (by rw[List.length_append];omega) ?_
  have e1:(l++e).getD k Event.z=l.getD k Event.z:=by
   rw[aW hk,aW (by rw[List.length_append];omega),List.getElem_append_left hk]
  rw[e1];exact S
theorem DS{N:Nat}{types:List Int}{l:List Event}{v:Event}{out out':List Call}{op op':List Int}(R:ex N types l l.length out op)(S:uX N types out op (l.length:Int) v out' op'):ex N types (l++[v]) (l++[v]).length out' op':=by
 have e:(l++[v]).length=l.length+1:=by simp
 rw[e]
 refine .succ (Q_ R (Nat.le_refl _)) (by rw[e];omega) ?_
 have e1:(l++[v]).getD l.length Event.z=v:=by rw[aW (by rw[e];omega)];simp
 rw[e1];exact S
theorem ny: ∀{l:List Nat} {i:Nat} {a:Nat} (h:i < l.length),(l.set i a).sum+l[i]=l.sum+a
 | [],_,_,h=>absurd h (Nat.not_lt_zero _)
 |x::l,0,a,_=>by simp;omega
 |x::l,i+1,a,h=>by
  have:=ny (l:=l) (i:=i) (a:=a) (by simpa using h)
  simp only[List.set_cons_succ,List.sum_cons,List.getElem_cons_succ]
  omega
theorem Ra{N:Nat}{t k n:Int}(h:dz t k n):cQ N k n=some true:=by
 rw[pm,LP,decide_eq_true h.2.2]
theorem abf{N:Nat}{n:Int}(h:0≤n∧n≤1000):bV N 10 n=some true:=by
 unfold bV
 simp[bZ,h.1,h.2]
theorem agy{N:Nat}{k:Int}(h:k=3∨k=5):bV N k 0=some true:=by
 unfold bV
 rcases h with rfl|rfl<;>simp[bZ]
theorem zu{N:Nat}{k v:Int}(h:k=4∨k=6)(hv:v= -1∨gH v):bV N k v=some true:=by
 unfold bV
 unfold gH at hv
 rcases h with rfl|rfl<;>simp[bZ]<;>omega
section
variable {N:Nat} {aU:Int} {P0:List (List Ask)} {m m':M} {w k:Nat} {out out':List Call} {op op':List Int}
theorem qQ(f:P→Nat)(hw:w < m.aa.length)(p:P):((m.aa.set w p).map f).sum+f (m.who w)=(m.aa.map f).sum+f p:=by
 have:=ny (l:=m.aa.map f) (i:=w) (a:=f p) (by simpa using hw)
 rw[←List.map_set]at this
 have e:(m.aa.map f)[w]'(by simpa using hw)=f (m.who w):=by unfold M.who;rw[aW hw];simp
 rw[e]at this
 exact this
def rem(p:P):Nat:=p.program.length - (if p.pending=true then 1 else 0)
def tot(P0:List (List Ask)):Nat:=(P0.map List.length).sum
inductive Mv(aU:Int)(m:M)(w:Nat)(out:List Call)(op:List Int):List Call→List Int→Prop
 |same (h:iG aU m w=m):Mv aU m w out op out op
 |call (hn:(m.who w).pending=false) (hne:(m.who w).program≠ []) (h:iG aU m w=jP m w):Mv aU m w out op (out++[⟨w,0,m.kind w,qd (m.who w),0,m.events.length,-1⟩]) (fb 8 0 op w ((out.length:Int)+1))
 |step (ha:m.act w) (h:iG aU m w=eV aU m w):Mv aU m w out op out op
 |gx (i:Nat) (hn:(m.who w).pending=true) (hc:(m.who w).complete=true) (hi:i < out.length) (ho:op.getD w 0=i+1) (h:iG aU m w=Dd m w):Mv aU m w out op (out.set i (ia (out.getD i Call.z) (m.who w).res m.events.length)) (fb 8 0 op w 0)
structure H(N:Nat)(T:Int)(P0:List (List Ask))(m:M)(out:List Call)(op:List Int):Prop where
 rn:ex N [T] m.events m.events.length out op
 np: ∀w,w < 8→(P0.length≤w∨(m.who w).pending=false)→op.getD w 0=0
 pe: ∀w,w < P0.length→(m.who w).pending=true→∃i:Nat,i < out.length∧op.getD w 0=i+1∧((out.getD i Call.z).aj=0∧(out.getD i Call.z).kind=m.kind w∧(out.getD i Call.z).arg=qd (m.who w))∧((m.who w).complete=true→bV N (m.kind w) (m.who w).res=some true)
 sum:(m.aa.map rem).sum+out.length=tot P0
theorem aao(hP:iH [gf aU] P0)(I:Inv aU P0 k m)(hk:k≤1000)(hw:w < P0.length)(ha:m.act w): ∃q,(eV aU m w).aa=m.aa.set w q∧q.program=(m.who w).program∧q.pending=true∧(q.complete=true→bV N (m.kind w) q.res=some true):=by
 have hw':=I.len hw
 have hne:=I.ne hw ha.1
 have hb:=(I.b.pb hw).n
 rcases Fo hP with h|h|h|h
 ·have rN:=X9 hP I.a hw hne (.inl h)
  subst h
  have hn:=I.b.nn
  cases Iz ha rN with
  |quiet q hp hq _=>exact⟨q,hp,hq.1,hq.2.1,fun e=>by rw[hq.2.2]at e;cases e⟩
  |take hp _=>exact⟨_,hp,rfl,ha.1,fun _=>by rw[rN];exact abf (by show 0≤m.n∧m.n≤1000;omega)⟩
 ·have rN:=X9 hP I.a hw hne (.inr h)
  unfold eV iP
  rw[if_pos rN]
  split
  ·exact⟨_,rfl,rfl,ha.1,fun e=>by have:(m.who w).complete=true:=e;rw[ha.2]at this;cases this⟩
  ·rw[if_pos (.inl h)]
   exact⟨_,rfl,rfl,ha.1,fun _=>by rw[rN];exact abf (by show 0≤(m.who w).n∧(m.who w).n≤1000;omega)⟩
 ·obtain⟨cs,hS⟩:=I.x.1 h
  obtain⟨cs',n3,_,_⟩:=Fm (aU:=aU) hS hw' ha (kd3 hP I.a hw hne h)
  cases n3 with
  |quiet q hp hq=>exact⟨q,hp,hq.1,hq.2.1,fun e=>by rw[hq.2.2]at e;cases e⟩
  |push M_ _ hp=>exact⟨_,hp,rfl,ha.1,fun _=>agy (.inr M_)⟩
  |pop c cs' hcs Aa hp=>exact⟨_,hp,rfl,ha.1,fun _=>zu (.inr Aa) (.inr (hS.va c (by rw[hcs];exact .head _)))⟩
  |empty hcs Aa hp=>exact⟨_,hp,rfl,ha.1,fun _=>zu (.inr Aa) (.inl rfl)⟩
 ·obtain⟨qs,hh,t,hQ⟩:=I.x.2 h
  obtain⟨D8,h',t',n4,_⟩:=Fl (aU:=aU) hQ hw' ha (kd2 hP I.a hw hne h)
  cases n4 with
  |quiet t' q hp hq _ _=>exact⟨q,hp,hq.1,hq.2.1,fun e=>by rw[hq.2.2]at e;cases e⟩
  |link FF hi hp=>exact⟨_,hp,rfl,ha.1,fun e=>by have:(m.who w).complete=true:=e;rw[ha.2]at this;cases this⟩
  |done t' FF hi hp=>exact⟨_,hp,rfl,ha.1,fun _=>agy (.inl FF)⟩
  |take IA hi hl hp=>exact⟨_,hp,rfl,ha.1,fun _=>zu (.inl IA) (.inr (hQ.va _ (by omega) hl))⟩
  |empty IA hi hx hy hp=>exact⟨_,hp,rfl,ha.1,fun _=>zu (.inl IA) (.inl rfl)⟩
theorem Uu(hP:iH [gf aU] P0)(I:Inv aU P0 k m)(hk:k≤1000)(h:H N (gf aU) P0 m out op)(hw:w < P0.length): ∃out' op',Mv aU m w out op out' op'∧H N (gf aU) P0 (iG aU m w) out' op':=by
 have hw':=I.len hw
 have hpl:=I.b.pl
 have h8:=hP.pW
 cases hp:(m.who w).pending with
 |false=>
  by_cases hne:(m.who w).program= []
  ·have e:iG aU m w=m:=by unfold iG;rw[if_pos hp,if_pos hne]
   exact⟨out,op,.same e,by rw[e];exact h⟩
  ·have e:iG aU m w=jP m w:=by unfold iG;rw[if_pos hp,if_neg hne]
   refine⟨_,_,.call hp hne e,?_⟩
   rw[e]
   have px:=kd hP I.a hw hne
   have hop:=h.np w (by omega) (.inr hp)
   have R:=DS h.rn (v:=⟨w,0,m.kind w,qd (m.who w)⟩) (out':=out++[⟨w,0,m.kind w,qd (m.who w),0,m.events.length,-1⟩]) (op':=fb 8 0 op (w:Int) ((out.length:Int)+1))
    ⟨by simp only;omega,by simp,.inl ⟨Ut px,⟨px.1,px.2.1⟩,Ra px,by simp only[Int.toNat_natCast];omega,rfl,rfl⟩⟩
   have zd: ∀v,v < 8→(fb 8 0 op (w:Int) ((out.length:Int)+1)).getD v 0=if v=w then(out.length:Int)+1 else op.getD v 0:=fun v hv=>by rw[gy hv,Int.toNat_natCast]
   have cq: ∀v,(jP m w).who v=if v=w then rX (m.who w) m.nodes.length else m.who v:=fun v=>gl hw'
   refine⟨R,fun v hv hc=>?_,fun v hv hc=>?_,?_⟩
   ·rw[zd v hv]
    rw[cq]at hc
    split
    ·rename_i e
     subst e
     rw[if_pos rfl]at hc
     rcases hc with hc|hc
     ·omega
     ·cases hc
    ·rename_i e
     rw[if_neg e]at hc
     exact h.np v hv hc
   ·rw[cq]at hc
    rw[g9 (jP m w) v,cq]
    by_cases e:v=w
    ·subst e
     rw[if_pos rfl]
     refine⟨out.length,by simp,?_,?_,fun e=>by cases e⟩
     ·rw[zd v (by omega),if_pos rfl]
     ·rw[dL,if_neg (by omega),if_pos rfl]
      exact⟨rfl,rfl,rfl⟩
    ·rw[if_neg e]at hc⊢
     obtain⟨i,g3,g4,g5,g6⟩:=h.pe v hv hc
     refine⟨i,by simp;omega,?_,?_,g6⟩
     ·rw[zd v (by omega),if_neg e,g4]
     ·rw[dL,if_pos g3];exact g5
   ·have hs:=qQ rem hw' (rX (m.who w) m.nodes.length)
    have hl:0 < (m.who w).program.length:=by
     cases hh:(m.who w).program with
     |nil=>exact(hne hh).elim
     |cons a r=>simp
    have h1:rem (m.who w)=(m.who w).program.length:=by unfold rem;rw[hp];simp
    have h2:rem (rX (m.who w) m.nodes.length)=(m.who w).program.length - 1:=by unfold rem rX;simp
    have:=h.sum
    show((m.aa.set w _).map rem).sum+_=_
    simp only[List.length_append,List.length_singleton]
    omega
 |true=>
  have hne:=I.ne hw hp
  cases hc:(m.who w).complete with
  |false=>
   have e:iG aU m w=eV aU m w:=adz ⟨hp,hc⟩
   refine⟨out,op,.step ⟨hp,hc⟩ e,?_⟩
   rw[e]
   obtain⟨q,hq,q1,q2,q3⟩:=aao (N:=N) hP I hk hw ⟨hp,hc⟩
   have cq:=qf (m:=m) (m':=eV aU m w) hw' hq
   refine⟨by rw[G'];exact h.rn,fun v hv hx=>?_,fun v hv hx=>?_,?_⟩
   ·rw[cq]at hx
    by_cases e:v=w
    ·subst e
     rw[if_pos rfl,q2]at hx
     rcases hx with hx|hx
     ·omega
     ·cases hx
    ·rw[if_neg e]at hx
     exact h.np v hv hx
   ·rw[cq]at hx
    rw[g9 (eV aU m w) v,cq]
    by_cases e:v=w
    ·subst e
     rw[if_pos rfl]
     obtain⟨i,g3,g4,g5,_⟩:=h.pe v hv hp
     have hkq:kl q=m.kind v:=by unfold kl M.kind;rw[q1]
     have haq:qd q=qd (m.who v):=by unfold qd;rw[q1]
     rw[hkq,haq]
     exact⟨i,g3,g4,g5,q3⟩
    ·rw[if_neg e]at hx⊢
     exact h.pe v hv hx
   ·rw[hq]
    have hs:=qQ rem hw' q
    have h1:rem q=rem (m.who w):=by unfold rem;rw[q1,q2,hp]
    have:=h.sum
    omega
  |true=>
   have e:iG aU m w=Dd m w:=by unfold iG;rw[if_neg (by simp[hp]),if_pos hc]
   obtain⟨i,q3,q4,q5,q6⟩:=h.pe w hw hp
   refine⟨_,_,.gx i hp hc q3 q4 e,?_⟩
   rw[e]
   have W:=h.rn.wf
   have ZM:=((W.qk w (by omega)).2.2 i q4).1
   have R:=DS h.rn (v:=⟨w,0,0,(m.who w).res⟩) (out':=out.set i (ia (out.getD i Call.z) (m.who w).res m.events.length)) (op':=fb 8 0 op (w:Int) 0)
    ⟨by simp only;omega,by simp,.inr ⟨rfl,i,by simp only[Int.toNat_natCast];exact q4,q3,q5.1,by rw[q5.2.1];exact q6 hc,rfl,rfl⟩⟩
   have zd: ∀v,v < 8→(fb 8 0 op (w:Int) 0).getD v 0=if v=w then 0 else op.getD v 0:=fun v hv=>by rw[gy hv,Int.toNat_natCast]
   have cq: ∀v,(Dd m w).who v=if v=w then gx (m.who w)else m.who v:=fun v=>gl hw'
   have VG: ∀j,(out.set i (ia (out.getD i Call.z) (m.who w).res m.events.length)).getD j Call.z=if j=i then ia (out.getD i Call.z) (m.who w).res m.events.length else out.getD j Call.z:=fun j=>fv q3
   refine⟨R,fun v hv hx=>?_,fun v hv hx=>?_,?_⟩
   ·rw[zd v hv]
    rw[cq]at hx
    split
    ·rfl
    ·rename_i e
     rw[if_neg e]at hx
     exact h.np v hv hx
   ·rw[cq]at hx
    rw[g9 (Dd m w) v,cq]
    by_cases e:v=w
    ·subst e
     rw[if_pos rfl]at hx
     cases hx
    ·rw[if_neg e]at hx⊢
     obtain⟨j,g3,g4,g5,g6⟩:=h.pe v hv hx
     refine⟨j,by simpa using g3,?_,?_,g6⟩
     ·rw[zd v (by omega),if_neg e,g4]
     ·rw[VG]
      split
      ·rename_i e2
       subst e2
       have:=(W.qk v (by omega)).2.2 j g4
       rw[ZM]at this
       exact absurd this.1 (by omega)
      ·exact g5
   ·have hs:=qQ rem hw' (gx (m.who w))
    have hl:0 < (m.who w).program.length:=by
     cases hh:(m.who w).program with
     |nil=>exact(hne hh).elim
     |cons a r=>simp
    have h1:rem (gx (m.who w))=(m.who w).program.length - 1:=by unfold rem gx;simp
    have h2:rem (m.who w)=(m.who w).program.length - 1:=by unfold rem;rw[hp];simp
    have:=h.sum
    show((m.aa.set w _).map rem).sum+_=_
    simp only[List.length_set]
    omega
theorem h0:H N (gf aU) P0 (m0 P0) [] []:=by
 refine⟨.zero,fun w _ _=>by simp,fun w _ h=>(by rw[D9]at h;cases h),?_⟩
 unfold tot m0
 simp only[List.map_map,List.length_nil,Nat.add_zero]
 congr 1
end
end Sp
namespace Sp
open Ob Hs Sr
def q8(T:Int)(s:List Int)(kind arg:Int):List Int×Int:=
 if T=5 then([s.getD 0 0+1],s.getD 0 0)
 else if T=2 then(if kind=3 then(s++[arg],0)else if s= []then(s,-1)else(s.drop 1,s.getD 0 0))
 else(if kind=5 then(s++[arg],0)else if s= []then(s,-1)else(s.take (s.length - 1),s.getD (s.length - 1) 0))
def sq(T:Int):List Int→List Do→Option (List Int)
 |s,[]=>some s
 |s,d::l=>if(q8 T s d.kind d.arg).2=d.res then sq T (q8 T s d.kind d.arg).1 l else none
theorem Ld(T:Int): ∀(l m:List Do) (s:List Int),sq T s (l++m)=(sq T s l).bind fun t=>sq T t m
 | [],m,s=>rfl
 |d::l,m,s=>by
  simp only[List.cons_append,sq]
  split
  ·exact Ld T l m _
  ·rfl
def oe(p:P):Prop:=p.complete=true∨(kl p=3∧p.item=3)
def qg(p:P):Int:=if p.complete=true then p.res else 0
structure L(T:Int)(np:Nat)(m:M)(out:List Call)(op:List Int)(steps:List Step)(st:List Int):Prop where
 ac:Ac out (fg out) [] steps
 sq:sq T (pU T) (e7 out 0 steps)=some st
 cm: ∀i,i < out.length→(out.getD i Call.z).aY≠ -1→i∈nums steps
 dn: ∀w,w < np→(m.who w).pending=true→∀i:Nat,op.getD w 0=i+1→(oe (m.who w)→i∈nums steps∧∀s∈steps,s.call=(i:Int)→s.res=qg (m.who w))∧(¬oe (m.who w)→i∉nums steps)
theorem yC{c c':List Call}{q q':Nat→Nat→Bool}(hl:c.length≤c'.length)(hq: ∀i j,i < c.length→j < c.length→q i j=false→q' i j=false): ∀{t:List Step} {w:List Nat},(∀j∈w,j < c.length)→Ac c q w t→(∀s∈t,(c'.getD s.call.toNat Call.z).aY≠ -1→s.res=(c'.getD s.call.toNat Call.z).res)→Ac c' q' w t
 | [],_,_,_,_=>trivial
 |s::t,w,hw,⟨i,h1,h2,h3,h4,h5,h6⟩,hr=>by
  refine⟨i,h1,by omega,h3,fun j hj=>hq i j h2 (hw j hj) (h4 j hj),fun ht=>?_,yC hl hq (fun j hj=>?_) h6 fun s hs=>hr s (.tail _ hs)⟩
  ·have:=hr s (.head _)
   rw[h1,Int.toNat_natCast]at this
   exact this ht
  ·rcases List.mem_append.1 hj with hj|hj
   ·exact hw j hj
   ·rw[List.mem_singleton.1 hj];exact h2
theorem uD{c:List Call}{q:Nat→Nat→Bool}: ∀{t:List Step} {w:List Nat},Ac c q w t→∀s∈t,(0≤s.call∧s.call.toNat < c.length)∧((c.getD s.call.toNat Call.z).aY≠ -1→s.res=(c.getD s.call.toNat Call.z).res)
 | [],_,_,s,hs=>by cases hs
 |a::t,w,⟨i,h1,h2,h3,h4,h5,h6⟩,s,hs=>by
  rcases List.mem_cons.1 hs with rfl|hs
  ·rw[h1,Int.toNat_natCast];exact⟨⟨by omega,h2⟩,h5⟩
  ·exact uD h6 s hs
theorem Uv{c:List Call}{q:Nat→Nat→Bool}{i:Nat}: ∀{t:List Step} {w w':List Nat},(∀j∈w',j∈w∨j=i)→Ac c q w t→i∉nums t→(∀s∈t,q s.call.toNat i=false)→Ac c q w' t
 | [],_,_,_,_,_,_=>trivial
 |s::t,w,w',hw,⟨k,h1,h2,h3,h4,h5,h6⟩,hi,hq=>by
  have hk:s.call.toNat=k:=by omega
  have hik:i≠k:=fun e=>hi (List.mem_map.2 ⟨s,.head _,by omega⟩)
  refine⟨k,h1,h2,fun hm=>?_,fun j hj=>?_,h5,Uv (fun j hj=>?_) h6 (fun hm=>hi (List.mem_cons_of_mem _ hm)) fun s hs=>hq s (.tail _ hs)⟩
  ·rcases hw k hm with g|g
   ·exact h3 g
   ·exact hik g.symm
  ·rcases hw j hj with g|g
   ·exact h4 j g
   ·subst g
    have:=hq s (.head _)
    rwa[hk]at this
  ·rcases List.mem_append.1 hj with g|g
   ·rcases hw j g with g|g
    ·exact .inl (List.mem_append_left _ g)
    ·exact .inr g
   ·exact .inl (List.mem_append_right _ g)
theorem m8{c c':List Call}{x:Nat}: ∀{t:List Step},(∀s∈t,(c'.getD s.call.toNat Call.z).aj=(c.getD s.call.toNat Call.z).aj∧(c'.getD s.call.toNat Call.z).kind=(c.getD s.call.toNat Call.z).kind∧(c'.getD s.call.toNat Call.z).arg=(c.getD s.call.toNat Call.z).arg)→e7 c' x t=e7 c x t
 | [],_=>rfl
 |s::t,h=>by
  obtain⟨h1,h2,h3⟩:=h s (.head _)
  unfold e7
  rw[h1,h2,h3,m8 fun s hs=>h s (.tail _ hs)]
theorem vv{i:Nat}{t:List Step}:i∈nums t↔∃s∈t,s.call.toNat=i:=by unfold nums;exact List.mem_map
theorem BX{c:List Call}{i j:Nat}(h:(c.getD i Call.z).aY= -1):fg c i j=false:=by
 unfold fg
 exact decide_eq_false fun e=>e.2.2.1 h
section
variable {N:Nat} {aU T:Int} {P0:List (List Ask)} {m m':M} {w k:Nat} {out out':List Call} {op op':List Int} {steps:List Step} {st st':List Int}
theorem tt(hP:iH [T] P0)(h:H N T P0 m out op){v:Nat}(hv:v < P0.length)(hp:(m.who v).pending=true): ∃i:Nat,op.getD v 0=i+1∧i < out.length∧(out.getD i Call.z).who=v∧(out.getD i Call.z).aY= -1∧(out.getD i Call.z).aj=0∧(out.getD i Call.z).kind=m.kind v∧(out.getD i Call.z).arg=qd (m.who v):=by
 obtain⟨i,h1,h2,h3,_⟩:=h.pe v hv hp
 have h8:=hP.pW
 have:=(h.rn.wf.qk v (by omega)).2.2 i h2
 exact⟨i,h2,h1,this.1,this.2,h3⟩
theorem agz(hP:iH [T] P0)(h:H N T P0 m out op){v u:Nat}(hv:v < P0.length)(hu:u < P0.length){i:Nat}(h1:op.getD v 0=i+1)(h2:op.getD u 0=i+1):v=u:=by
 have h8:=hP.pW
 have a:=((h.rn.wf.qk v (by omega)).2.2 i h1).1
 have b:=((h.rn.wf.qk u (by omega)).2.2 i h2).1
 omega
theorem L.quiet(l:L T P0.length m out op steps st)(hw:w < m.aa.length){q:P}(hp:m'.aa=m.aa.set w q)(hq:q.pending=(m.who w).pending)(hl:oe q↔oe (m.who w))(hr:oe q→qg q=qg (m.who w)):L T P0.length m' out op steps st:=by
 have cq:=qf (m:=m) (m':=m') hw hp
 refine⟨l.ac,l.sq,l.cm,fun v hv hpv i hi=>?_⟩
 rw[cq]at hpv⊢
 by_cases e:v=w
 ·subst e
  rw[if_pos rfl]at hpv⊢
  rw[hq]at hpv
  obtain⟨d1,d2⟩:=l.dn v hv hpv i hi
  refine⟨fun g=>?_,fun g=>d2 fun e=>g (hl.2 e)⟩
  rw[hr g]
  exact d1 (hl.1 g)
 ·rw[if_neg e]at hpv⊢
  exact l.dn v hv hpv i hi
theorem L.ins(hP:iH [T] P0)(h:H N T P0 m out op)(l:L T P0.length m out op steps st)(hw:w < m.aa.length)(hw0:w < P0.length){q:P}(hp:m'.aa=m.aa.set w q)(h_:(m.who w).pending=true)(hnl: ¬oe (m.who w))(Hh:oe q){pre post:List Step}(hs:steps=pre++post){i:Nat}(ho:op.getD w 0=i+1)
  (hpost: ∀s∈post,fg out s.call.toNat i=false)(RO:Sp.sq T (pU T) (e7 out 0 (pre++(⟨(i:Int),qg q⟩::post)))=some st'):L T P0.length m' out op (pre++(⟨(i:Int),qg q⟩::post)) st':=by
 have cq:=qf (m:=m) (m':=m') hw hp
 have h8:=hP.pW
 obtain⟨i',o1,o2,o3,o4,_⟩:=tt hP h hw0 h_
 obtain rfl:i'=i:=by omega
 have hni:i'∉nums steps:=(l.dn w hw0 h_ i' ho).2 hnl
 rw[hs]at hni
 have hmem: ∀j,j∈nums (pre++(⟨(i':Int),qg q⟩::post))↔j∈nums steps∨j=i':=fun j=>by
  rw[hs]
  unfold nums
  simp only[List.map_append,List.map_cons,List.mem_append,List.mem_cons,Int.toNat_natCast]
  constructor
  ·rintro(a|a|a)
   ·exact .inl (.inl a)
   ·exact .inr a
   ·exact .inl (.inr a)
  ·rintro((a|a)|a)
   ·exact .inl a
   ·exact .inr (.inr a)
   ·exact .inr (.inl a)
 have agA:i'∉nums pre:=fun e=>hni (by unfold nums at e⊢;rw[List.map_append];exact List.mem_append_left _ e)
 have agB:i'∉nums post:=fun e=>hni (by unfold nums at e⊢;rw[List.map_append];exact List.mem_append_right _ e)
 have hac:=l.ac
 rw[hs]at hac
 obtain⟨ac1,ac2⟩:=Ac.app.1 hac
 refine⟨Ac.app.2 ⟨ac1,i',rfl,o2,by simpa using agA,fun j _=>BX o4,fun e=>(e o4).elim,Uv (fun j hj=>?_) ac2 agB hpost⟩,RO,fun j hj ht=>(hmem j).2 (.inl (l.cm j hj ht)),fun v hv hpv j hj=>?_⟩
 ·rcases List.mem_append.1 hj with g|g
  ·exact .inl g
  ·exact .inr (List.mem_singleton.1 g)
 rw[cq]at hpv⊢
 by_cases e:v=w
 ·subst e
  rw[if_pos rfl]
  obtain rfl:j=i':=by omega
  refine⟨fun _=>⟨(hmem j).2 (.inr rfl),fun s hs1 hs2=>?_⟩,fun g=>(g Hh).elim⟩
  rcases List.mem_append.1 hs1 with g|g
  ·exact(agA (vv.2 ⟨s,g,by omega⟩)).elim
  ·rcases List.mem_cons.1 g with g|g
   ·rw[g]
   ·exact(agB (vv.2 ⟨s,g,by omega⟩)).elim
 ·rw[if_neg e]at hpv⊢
  obtain⟨d1,d2⟩:=l.dn v hv hpv j hj
  have hne:j≠i':=fun e2=>e (agz hP h hv hw0 hj (by rw[e2];exact ho))
  refine⟨fun g=>⟨(hmem j).2 (.inl (d1 g).1),fun s hs1 hs2=>?_⟩,fun g hm=>?_⟩
  ·refine(d1 g).2 s ?_ hs2
   rw[hs]
   rcases List.mem_append.1 hs1 with a|a
   ·exact List.mem_append_left _ a
   ·rcases List.mem_cons.1 a with a|a
    ·rw[a]at hs2
     simp only at hs2
     omega
    ·exact List.mem_append_right _ a
  ·rcases(hmem j).1 hm with a|a
   ·exact d2 g a
   ·exact hne a
theorem L.call(hP:iH [T] P0)(h:H N T P0 m out op)(l:L T P0.length m out op steps st)(hw:w < m.aa.length)(hw0:w < P0.length)(c:Call)(hc:c.aY= -1)(hm:m'.aa=m.aa.set w (rX (m.who w) m.nodes.length)):L T P0.length m' (out++[c]) (fb 8 0 op w ((out.length:Int)+1)) steps st:=by
 have h8:=hP.pW
 have gI: ∀i,i < out.length→(out++[c]).getD i Call.z=out.getD i Call.z:=fun i hi=>by rw[dL,if_pos hi]
 have hin:=uD l.ac
 have cq:=qf (m:=m) (m':=m') hw hm
 have zd: ∀v,v < 8→(fb 8 0 op (w:Int) ((out.length:Int)+1)).getD v 0=if v=w then(out.length:Int)+1 else op.getD v 0:=fun v hv=>by rw[gy hv,Int.toNat_natCast]
 refine⟨yC (by simp) (fun i j hi hj hq=>?_) (by simp) l.ac fun s hs ht=>?_,?_,fun i hi ht=>?_,fun v hv hpv i hi=>?_⟩
 ·unfold fg at hq⊢
  rw[gI i hi,gI j hj]
  have hq:=of_decide_eq_false hq
  exact decide_eq_false fun e=>hq ⟨hi,hj,e.2.2⟩
 ·rw[gI _ (hin s hs).1.2]at ht⊢
  exact(hin s hs).2 ht
 ·rw[m8 (c:=out) fun s hs=>by rw[gI _ (hin s hs).1.2];exact⟨rfl,rfl,rfl⟩]
  exact l.sq
 ·rcases Nat.lt_or_ge i out.length with h1|h1
  ·rw[gI i h1]at ht
   exact l.cm i h1 ht
  ·have e2:i=out.length:=by simp at hi;omega
   subst e2
   rw[dL,if_neg (by omega),if_pos rfl]at ht
   exact(ht hc).elim
 ·rw[cq]at hpv⊢
  rw[zd v (by omega)]at hi
  by_cases e:v=w
  ·subst e
   rw[if_pos rfl]at hi⊢
   refine⟨fun e=>?_,fun _ hm2=>?_⟩
   ·rcases e with e|e
    ·cases e
    ·cases e.2
   ·obtain⟨s,hs,hs2⟩:=vv.1 hm2
    have h1:=(hin s hs).1
    omega
  ·rw[if_neg e]at hi hpv⊢
   exact l.dn v hv hpv i hi
theorem L.answer(hP:iH [T] P0)(h:H N T P0 m out op)(l:L T P0.length m out op steps st)(hw:w < m.aa.length)(hw0:w < P0.length){i:Nat}(hn:(m.who w).pending=true)(hc:(m.who w).complete=true)(hi:i < out.length)(ho:op.getD w 0=i+1)(hm:m'.aa=m.aa.set w (gx (m.who w))):L T P0.length m' (out.set i (ia (out.getD i Call.z) (m.who w).res m.events.length)) (fb 8 0 op w 0) steps st:=by
 have h8:=hP.pW
 have W:=h.rn.wf
 obtain⟨i',o1,o2,o3,o4,_⟩:=tt hP h hw0 hn
 obtain rfl:i'=i:=by omega
 obtain⟨d1,d2⟩:=(l.dn w hw0 hn i' ho).1 (.inl hc)
 have hres:qg (m.who w)=(m.who w).res:=by unfold qg;rw[if_pos hc]
 have gI: ∀j,(out.set i' (ia (out.getD i' Call.z) (m.who w).res m.events.length)).getD j Call.z=if j=i' then ia (out.getD i' Call.z) (m.who w).res m.events.length else out.getD j Call.z:=fun j=>fv hi
 have hin:=uD l.ac
 have cq:=qf (m:=m) (m':=m') hw hm
 have zd: ∀v,v < 8→(fb 8 0 op (w:Int) 0).getD v 0=if v=w then 0 else op.getD v 0:=fun v hv=>by rw[gy hv,Int.toNat_natCast]
 refine⟨yC (by simp) (fun j k hj hk hq=>?_) (by simp) l.ac fun s hs ht=>?_,?_,fun j hj ht=>?_,fun v hv hpv j hj=>?_⟩
 ·unfold fg at hq⊢
  have hq:=of_decide_eq_false hq
  refine decide_eq_false fun e=>hq ?_
  obtain⟨_,_,e3,e4⟩:=e
  rw[gI,gI]at e4
  rw[gI]at e3
  have hfr:=(W.one k hk).fr
  by_cases ej:j=i'
  ·rw[if_pos ej]at e4
   exfalso
   by_cases ek:k=i'
   ·subst ek
    rw[if_pos rfl]at e4
    simp only[ia]at e4
    omega
   ·rw[if_neg ek]at e4
    simp only[ia]at e4
    omega
  ·rw[if_neg ej]at e3 e4
   refine⟨hj,hk,e3,?_⟩
   by_cases ek:k=i'
   ·subst ek
    rw[if_pos rfl]at e4
    exact e4
   ·rw[if_neg ek]at e4;exact e4
 ·rw[gI]at ht⊢
  split
  ·rename_i e
   have:=(hin s hs).1
   have:=d2 s hs (by omega)
   rw[hres]at this
   exact this
  ·rename_i e
   rw[if_neg e]at ht
   exact(hin s hs).2 ht
 ·rw[m8 (c:=out) fun s hs=>?_]
  ·exact l.sq
  ·rw[gI]
   split
   ·rename_i e;rw[e];exact⟨rfl,rfl,rfl⟩
   ·exact⟨rfl,rfl,rfl⟩
 ·rw[gI]at ht
  split at ht
  ·rename_i e;rw[e];exact d1
  ·exact l.cm j (by simpa using hj) ht
 ·rw[cq]at hpv⊢
  rw[zd v (by omega)]at hj
  by_cases e:v=w
  ·subst e
   rw[if_pos rfl]at hpv
   cases hpv
  ·rw[if_neg e]at hpv hj⊢
   exact l.dn v hv hpv j hj
theorem adC(h:H N T P0 m out op){i j:Nat}{r:Int}(hi:i < out.length){a:Nat}(hj:j < out.length)(hq:fg out a j=false):fg (out.set i (ia (out.getD i Call.z) r m.events.length)) a j=false:=by
 have W:=h.rn.wf
 have gI: ∀j,(out.set i (ia (out.getD i Call.z) r m.events.length)).getD j Call.z=if j=i then ia (out.getD i Call.z) r m.events.length else out.getD j Call.z:=fun j=>fv hi
 unfold fg at hq⊢
 have hq:=of_decide_eq_false hq
 refine decide_eq_false fun e=>hq ?_
 obtain⟨e1,_,e3,e4⟩:=e
 rw[gI,gI]at e4
 rw[gI]at e3
 have hfr:=(W.one j hj).fr
 by_cases ea:a=i
 ·rw[if_pos ea]at e4
  exfalso
  by_cases ej:j=i
  ·subst ej
   rw[if_pos rfl]at e4
   simp only[ia]at e4
   omega
  ·rw[if_neg ej]at e4
   simp only[ia]at e4
   omega
 ·rw[if_neg ea]at e3 e4
  refine⟨by simpa using e1,hj,e3,?_⟩
  by_cases ej:j=i
  ·subst ej
   rw[if_pos rfl]at e4
   exact e4
  ·rw[if_neg ej]at e4;exact e4
theorem l0:L T P0.length (m0 P0) [] [] [] (pU T):=⟨trivial,rfl,fun i hi=>absurd hi (Nat.not_lt_zero _),fun w _ hp=>by rw[D9]at hp;cases hp⟩
end
end Sp
namespace Sp
open Ob Hs Sr
def vY(m:M)(cs:List Nat):List Int:=(cs.map fun c=>(m.nd ((c:Nat):Int)).value).reverse
def xz(m:M)(qs:List Nat)(h:Nat):List Int:=(qs.drop (h+1)).map fun c=>(m.nd ((c:Nat):Int)).value
def MK(np:Nat)(m:M)(out:List Call)(op:List Int)(steps:List Step):Prop:=∀w,w < np→m.act w→m.kind w=4→(m.who w).item=2→(m.who w).y= -1→∀i:Nat,op.getD w 0=i+1→∃pre post,steps=pre++post∧sq 2 [] (e7 out 0 pre)=some []∧∀s∈post,fg out s.call.toNat i=false
theorem Jx{out:List Call}{i:Nat}(h:(out.getD i Call.z).aj=0)(pre post:List Step)(r:Int):e7 out 0 (pre++(⟨(i:Int),r⟩::post))=e7 out 0 pre++(⟨(out.getD i Call.z).kind,(out.getD i Call.z).arg,r⟩::e7 out 0 post):=by
 rw[ES]
 congr 1
 simp only[e7,Int.toNat_natCast]
 rw[if_pos (by rw[h];rfl)]
theorem RP{T:Int}{s t t' st':List Int}{a b:List Do}{d:Do}(h1:sq T s a=some t)(h2:q8 T t d.kind d.arg=(t',d.res))(h3:sq T t' b=some st'):sq T s (a++d::b)=some st':=by
 rw[Ld,h1]
 show sq T t (d::b)=_
 simp only[sq,h2,if_true]
 exact h3
section
variable {N:Nat} {aU T:Int} {P0:List (List Ask)} {m m':M} {w k:Nat} {out out':List Call} {op op':List Int} {steps:List Step} {st st':List Int}
theorem L.add(hP:iH [T] P0)(h:H N T P0 m out op)(l:L T P0.length m out op steps st)(hw:w < m.aa.length)(hw0:w < P0.length){q:P}(hp:m'.aa=m.aa.set w q)(h_:(m.who w).pending=true)(hnl: ¬oe (m.who w))(Hh:oe q)(hu:q8 T st (m.kind w) (qd (m.who w))=(st',qg q)): ∃steps',L T P0.length m' out op steps' st'∧∃i:Nat,steps'=steps++[⟨(i:Int),qg q⟩]∧op.getD w 0=i+1:=by
 obtain⟨i,o1,o2,o3,o4,o5,o6,o7⟩:=tt hP h hw0 h_
 refine⟨steps++[⟨(i:Int),qg q⟩],l.ins hP h hw hw0 hp h_ hnl Hh (pre:=steps) (post:=[]) (by simp) o1 (by simp) ?_,i,rfl,o1⟩
 rw[Jx o5]
 exact RP l.sq (by rw[o6,o7];exact hu) rfl
theorem MK.put(K:MK P0.length m out op steps)(hw:w < m.aa.length){q:P}(hp:m'.aa=m.aa.set w q)(hq:B5 q→kl q=4→q.item=2→q.y= -1→∀i:Nat,op.getD w 0=i+1→∃pre post,steps=pre++post∧sq 2 [] (e7 out 0 pre)=some []∧∀s∈post,fg out s.call.toNat i=false):MK P0.length m' out op steps:=by
 have cq:=qf (m:=m) (m':=m') hw hp
 intro v hv ha hk hi hy
 rw[M.act,cq]at ha
 rw[g9 m' v,cq]at hk
 rw[cq]at hi hy
 by_cases e:v=w
 ·subst e
  rw[if_pos rfl]at ha hk hi hy
  exact hq ha hk hi hy
 ·rw[if_neg e]at ha hk hi hy
  exact K v hv ha hk hi hy
theorem MK.ins(K:MK P0.length m out op steps){Jy Fp:List Step}(hs:steps=Jy++Fp){i0:Nat}{r:Int}(gk:(out.getD i0 Call.z).aj=0)(hto:(out.getD i0 Call.z).aY= -1)(hx:Fp= []∨(sq 2 [] (e7 out 0 Jy)=some []∧q8 2 [] (out.getD i0 Call.z).kind (out.getD i0 Call.z).arg=([],r))):MK P0.length m out op (Jy++(⟨(i0:Int),r⟩::Fp)):=by
 intro v hv ha hk hi hy i ho
 obtain⟨pre,post,e1,e2,e3⟩:=K v hv ha hk hi hy i ho
 rw[hs]at e1
 rcases List.append_eq_append_iff.1 e1 with⟨a,g1,g2⟩|⟨a,g1,g2⟩
 ·
  rcases hx with hx|⟨hx1,hx2⟩
  ·have ha0:a= []∧post= []:=by
    rw[hx]at g2
    have:=g2.symm
    simpa using this
   refine⟨Jy,⟨(i0:Int),r⟩::Fp,rfl,by rw[g1,ha0.1,List.append_nil]at e2;exact e2,fun s hs2=>?_⟩
   rw[hx]at hs2
   rw[List.mem_singleton.1 hs2]
   exact BX (by rw[Int.toNat_natCast];exact hto)
  ·refine⟨Jy++(⟨(i0:Int),r⟩::a),post,by rw[g2];simp,?_,e3⟩
   rw[Jx gk]
   have e4:sq 2 [] (e7 out 0 a)=some []:=by
    have:=e2
    rw[g1,ES,Ld,hx1]at this
    exact this
   exact RP hx1 hx2 e4
 ·
  refine⟨pre,a++(⟨(i0:Int),r⟩::Fp),by rw[g1];simp,e2,fun s hs2=>?_⟩
  rcases List.mem_append.1 hs2 with b|b
  ·exact e3 s (by rw[g2];exact List.mem_append_left _ b)
  ·rcases List.mem_cons.1 b with b|b
   ·rw[b]
    exact BX (by rw[Int.toNat_natCast];exact hto)
   ·exact e3 s (by rw[g2];exact List.mem_append_right _ b)
theorem MK.call(hP:iH [T] P0)(h:H N T P0 m out op)(l:L T P0.length m out op steps st)(K:MK P0.length m out op steps)(hw:w < m.aa.length)(c:Call)(hm:m'.aa=m.aa.set w (rX (m.who w) m.nodes.length)):MK P0.length m' (out++[c]) (fb 8 0 op w ((out.length:Int)+1)) steps:=by
 have h8:=hP.pW
 have hin:=uD l.ac
 have gI: ∀i,i < out.length→(out++[c]).getD i Call.z=out.getD i Call.z:=fun i hi=>by rw[dL,if_pos hi]
 have cq:=qf (m:=m) (m':=m') hw hm
 intro v hv ha hk hi hy i ho
 rw[M.act,cq]at ha
 rw[g9 m' v,cq]at hk
 rw[cq]at hi hy
 rw[gy (show v < 8 by omega),Int.toNat_natCast]at ho
 by_cases e:v=w
 ·subst e
  rw[if_pos rfl]at hi
  exact absurd hi (by show ¬(1:Int)=2;decide)
 ·rw[if_neg e]at ha hk hi hy ho
  obtain⟨i',o1,o2,_⟩:=tt hP h hv ha.1
  obtain rfl:i'=i:=by omega
  obtain⟨pre,post,e1,e2,e3⟩:=K v hv ha hk hi hy i' ho
  refine⟨pre,post,e1,?_,fun s hs=>?_⟩
  ·rw[m8 (c:=out) fun s hs=>by rw[gI _ (hin s (by rw[e1];exact List.mem_append_left _ hs)).1.2];exact⟨rfl,rfl,rfl⟩]
   exact e2
  ·have vN:=(hin s (by rw[e1];exact List.mem_append_right _ hs)).1.2
   have:=e3 s hs
   unfold fg at this⊢
   rw[gI _ vN,gI _ o2]
   have:=of_decide_eq_false this
   exact decide_eq_false fun e=>this ⟨vN,o2,e.2.2⟩
theorem MK.answer(hP:iH [T] P0)(h:H N T P0 m out op)(l:L T P0.length m out op steps st)(K:MK P0.length m out op steps)(hw:w < m.aa.length){i0:Nat}{r:Int}(hi0:i0 < out.length)(hm:m'.aa=m.aa.set w (gx (m.who w))):MK P0.length m' (out.set i0 (ia (out.getD i0 Call.z) r m.events.length)) (fb 8 0 op w 0) steps:=by
 have h8:=hP.pW
 have cq:=qf (m:=m) (m':=m') hw hm
 have gI: ∀j,(out.set i0 (ia (out.getD i0 Call.z) r m.events.length)).getD j Call.z=if j=i0 then ia (out.getD i0 Call.z) r m.events.length else out.getD j Call.z:=fun j=>fv hi0
 intro v hv ha hk hi hy i ho
 rw[M.act,cq]at ha
 rw[g9 m' v,cq]at hk
 rw[cq]at hi hy
 rw[gy (show v < 8 by omega),Int.toNat_natCast]at ho
 by_cases e:v=w
 ·subst e
  rw[if_pos rfl]at ha
  cases ha.1
 ·rw[if_neg e]at ha hk hi hy ho
  obtain⟨i',o1,o2,_⟩:=tt hP h hv ha.1
  obtain rfl:i'=i:=by omega
  obtain⟨pre,post,e1,e2,e3⟩:=K v hv ha hk hi hy i' ho
  refine⟨pre,post,e1,?_,fun s hs=>adC h hi0 o2 (e3 s hs)⟩
  rw[m8 (c:=out) fun s hs=>?_]
  ·exact e2
  ·rw[gI]
   split
   ·rename_i e;rw[e];exact⟨rfl,rfl,rfl⟩
   ·exact⟨rfl,rfl,rfl⟩
theorem vZ(ha:m.act w)(h:m.kind w=3→(m.who w).item≠3): ¬oe (m.who w):=by
 rintro(e|e)
 ·rw[ha.2]at e;cases e
 ·exact h e.1 e.2
theorem aap(hP:iH [5] P0)(I:Inv 1 P0 k m)(h:H N 5 P0 m out op)(hw:w < P0.length)(mv:Mv 1 m w out op out' op')(l:L 5 P0.length m out op steps [m.n]): ∃steps',L 5 P0.length (iG 1 m w) out' op' steps' [(iG 1 m w).n]:=by
 have hw':=I.len hw
 have X_:iH [gf 1] P0:=hP
 cases mv with
 |same e=>rw[e];exact⟨steps,l⟩
 |call hn hne e=>rw[e];exact⟨steps,l.call hP h hw' hw _ rfl rfl⟩
 |gx i hn hc hi ho e=>rw[e];exact⟨steps,l.answer hP h hw' hw hn hc hi ho rfl⟩
 |step ha e=>
  rw[e]
  have rN:=X9 X_ I.a hw (I.ne hw ha.1) (.inl rfl)
  have hnl:=vZ ha fun e=>by omega
  cases Iz ha rN with
  |quiet q hp hq hn=>
   rw[hn]
   have ND: ¬oe q:=by
    rintro(e|e)
    ·rw[hq.2.2]at e;cases e
    ·have:kl q=m.kind w:=by unfold kl M.kind;rw[hq.1]
     omega
   exact⟨steps,l.quiet hw' hp (by rw[hq.2.1,ha.1]) ⟨fun g=>(ND g).elim,fun g=>(hnl g).elim⟩ fun g=>(ND g).elim⟩
  |take hp hn=>
   rw[hn]
   obtain⟨steps',g,_⟩:=l.add (st':=[m.n+1]) hP h hw' hw hp ha.1 hnl (.inl rfl) (by rw[rN];rfl)
   exact⟨steps',g⟩
theorem NE{cs:List Nat}(h: ∀c∈cs,(m'.nd ((c:Nat):Int)).value=(m.nd ((c:Nat):Int)).value):vY m' cs=vY m cs:=by
 unfold vY
 congr 1
 exact List.map_congr_left h
theorem RQ{c:Nat}(hc:c < m.nodes.length):((jP m w).nd ((c:Nat):Int)).value=(m.nd ((c:Nat):Int)).value:=by
 unfold M.nd jP
 simp only[List.getD_eq_getElem?_getD,Int.toNat_natCast]
 rw[List.getElem?_append_left hc]
theorem Ya(hP:iH [3] P0)(I:Inv 3 P0 k m)(h:H N 3 P0 m out op)(hw:w < P0.length)(mv:Mv 3 m w out op out' op')(l: ∃cs steps,S m cs∧L 3 P0.length m out op steps (vY m cs)): ∃cs steps,S (iG 3 m w) cs∧L 3 P0.length (iG 3 m w) out' op' steps (vY (iG 3 m w) cs):=by
 have hw':=I.len hw
 have X_:iH [gf 3] P0:=hP
 obtain⟨cs,steps,hS,l⟩:=l
 cases mv with
 |same e=>rw[e];exact⟨cs,steps,hS,l⟩
 |call hn hne e=>
  rw[e]
  refine⟨cs,steps,hS.rX hw' I.b,?_⟩
  rw[NE fun c hc=>RQ (hS.ch.lt c hc)]
  exact l.call hP h hw' hw _ rfl rfl
 |gx i hn hc hi ho e=>
  rw[e]
  exact⟨cs,steps,hS.gx hw',l.answer hP h hw' hw hn hc hi ho rfl⟩
 |step ha e=>
  rw[e]
  have rN:=kd3 X_ I.a hw (I.ne hw ha.1) rfl
  have hnl:=vZ ha fun e=>by omega
  obtain⟨cs',n3,Nh,hv⟩:=Fm (aU:=3) hS hw' ha rN
  have hval: ∀cs:List Nat,vY (eV 3 m w) cs=vY m cs:=fun cs=>NE fun c _=>hv _ (Int.natCast_nonneg c)
  refine⟨cs',?_⟩
  rw[hval]
  cases n3 with
  |quiet q hp hq=>
   have ND: ¬oe q:=by
    rintro(e|e)
    ·rw[hq.2.2]at e;cases e
    ·have:kl q=m.kind w:=by unfold kl M.kind;rw[hq.1]
     omega
   exact⟨steps,Nh,l.quiet hw' hp (by rw[hq.2.1,ha.1]) ⟨fun g=>(ND g).elim,fun g=>(hnl g).elim⟩ fun g=>(ND g).elim⟩
  |push M_ ahT hp=>
   have ho:=(hS.pu w hw' ha M_).1
   obtain⟨steps',g,_⟩:=l.add (st':=vY m ((m.who w).own.toNat::cs)) hP h hw' hw hp ha.1 hnl (.inl rfl) (by
    rw[M_]
    unfold q8
    rw[if_neg (by decide),if_neg (by decide),if_pos rfl]
    refine Prod.ext ?_ rfl
    show _=vY m _
    unfold vY
    rw[List.map_cons,List.reverse_cons,show(((m.who w).own.toNat:Nat):Int)=(m.who w).own by omega,←ahT,hv _ ho])
   exact⟨steps',Nh,g⟩
  |pop c cs' hcs Aa hp=>
   subst hcs
   obtain⟨steps',g,_⟩:=l.add (st':=vY m cs') hP h hw' hw hp ha.1 hnl (.inl rfl) (by
    rw[Aa]
    unfold q8
    have e1:vY m (c::cs')=vY m cs'++[(m.nd ((c:Nat):Int)).value]:=by unfold vY;rw[List.map_cons,List.reverse_cons]
    rw[e1,if_neg (by decide),if_neg (by decide),if_neg (by decide),if_neg (by simp)]
    have e2:(vY m cs'++[(m.nd ((c:Nat):Int)).value]).length - 1=(vY m cs').length:=by simp
    rw[e2,List.take_left]
    refine Prod.ext rfl ?_
    show(vY m cs'++[(m.nd ((c:Nat):Int)).value]).getD (vY m cs').length 0=_
    rw[List.getD_eq_getElem?_getD]
    simp[qg,fin])
   exact⟨steps',Nh,g⟩
  |empty hcs Aa hp=>
   subst hcs
   obtain⟨steps',g,_⟩:=l.add (st':=vY m []) hP h hw' hw hp ha.1 hnl (.inl rfl) (by rw[Aa];rfl)
   exact⟨steps',Nh,g⟩
theorem NF{qs:List Nat}{h:Nat}(hv: ∀c∈qs,(m'.nd ((c:Nat):Int)).value=(m.nd ((c:Nat):Int)).value):xz m' qs h=xz m qs h:=by
 unfold xz
 exact List.map_congr_left fun c hc=>hv c (List.mem_of_mem_drop hc)
theorem RR{z nx k:Int}(hk:0≤k)(hz:0≤z)(hzl:z.toNat < m.nodes.length):((m.link z nx).nd k).value=(m.nd k).value:=by
 rw[MF hk hz hzl]
 split
 ·rename_i e;rw[e]
 ·rfl
theorem Yb{qs:List Nat}{hh t:Nat}(hQ:Q m qs hh t)(hw:w < m.aa.length)(ha:m.act w)(hk:m.kind w=3∨m.kind w=4){z:Int}(hz:0≤z):((eV aU m w).nd z).value=(m.nd z).value:=by
 unfold eV
 rw[if_neg (by omega),if_neg (by omega),if_neg (by omega)]
 by_cases h3:m.kind w=3
 ·rw[if_pos h3]
  unfold rE
  split
  ·rfl
  ·split
   ·split<;>rfl
   ·split
    ·rfl
    ·split
     ·rfl
     ·split
      ·rcases(hQ.en w hw ha h3).1 with g|⟨_,i,_,i2,i3,_⟩|⟨_,i,_,i2,i3,_⟩
       ·rename_i e _ _ _ _;exact(e g).elim
       ·exact RR (m:=m.gc w (zk (m.who w))) hz (by rw[i3];exact CH _ _) (by rw[i3];exact hQ.lt _ (at_mem i2))
       ·exact RR (m:=m.gc w (zk (m.who w))) hz (by rw[i3];exact CH _ _) (by rw[i3];exact hQ.lt _ (at_mem (by omega)))
      ·rfl
 ·rw[if_neg h3]
  unfold rH
  split
  ·rfl
  ·split
   ·rfl
   ·split
    ·rfl
    ·split
     ·split<;>rfl
     ·rfl
theorem Yc(hP:iH [2] P0)(I:Inv 4 P0 k m)(h:H N 2 P0 m out op)(hw:w < P0.length)(mv:Mv 4 m w out op out' op')(l: ∃qs hh t steps,Q m qs hh t∧L 2 P0.length m out op steps (xz m qs hh)∧MK P0.length m out op steps): ∃qs hh t steps,Q (iG 4 m w) qs hh t∧L 2 P0.length (iG 4 m w) out' op' steps (xz (iG 4 m w) qs hh)∧MK P0.length (iG 4 m w) out' op' steps:=by
 have hw':=I.len hw
 have X_:iH [gf 4] P0:=hP
 obtain⟨qs,hh,t,steps,hQ,l,K⟩:=l
 cases mv with
 |same e=>rw[e];exact⟨qs,hh,t,steps,hQ,l,K⟩
 |call hn hne e=>
  rw[e]
  refine⟨qs,hh,t,steps,hQ.rX hw' I.b,?_,K.call hP h l hw' _ rfl⟩
  rw[NF fun c hc=>RQ (hQ.lt c hc)]
  exact l.call hP h hw' hw _ rfl rfl
 |gx i hn hc hi ho e=>
  rw[e]
  exact⟨qs,hh,t,steps,hQ.gx hw',l.answer hP h hw' hw hn hc hi ho rfl,K.answer hP h l hw' hi rfl⟩
 |step ha e=>
  rw[e]
  have rN:=kd2 X_ I.a hw (I.ne hw ha.1) rfl
  have QI:m.kind w=3∨m.kind w=4:=by rcases rN with g|g;exact .inl g.1;exact .inr g
  obtain⟨D8,h',t',n4,Ye⟩:=Fl (aU:=4) hQ hw' ha rN
  have hval: ∀(qs:List Nat) (h:Nat),xz (eV 4 m w) qs h=xz m qs h:=fun qs h=>NF fun c _=>Yb hQ hw' ha QI (Int.natCast_nonneg c)
  obtain⟨i,o1,o2,o3,o4,o5,o6,o7⟩:=tt hP h hw ha.1
  have vD:=hQ.ln
  have hht:=hQ.ht
  refine⟨D8,h',t',?_⟩
  rw[hval]
  cases n4 with
  |quiet t' q hp hq h3 h4=>
   have hkq:kl q=m.kind w:=by unfold kl M.kind;rw[hq.1]
   have ND: ¬oe q:=by
    rintro(e|e)
    ·rw[hq.2.2]at e;cases e
    ·exact(h3 (by omega)).2 e.2
   have hnl:=vZ ha fun e=>(h3 e).1
   refine⟨steps,Ye,l.quiet hw' hp (by rw[hq.2.1,ha.1]) ⟨fun g=>(ND g).elim,fun g=>(hnl g).elim⟩ fun g=>(ND g).elim,K.put hw' hp fun _ IA hi2 hy j hj=>?_⟩
   rcases h4 (by omega)with g|⟨_,_,g⟩
   ·omega
   ·refine⟨steps,[],by simp,?_,by simp⟩
    have e1:xz m qs hh= []:=by unfold xz;rw[List.drop_eq_nil_of_le (by have:=g hy;omega)];rfl
    have:=l.sq
    rw[e1]at this
    exact this
  |link FF hi hp=>
   have hnl:=vZ ha fun _=>by omega
   have Hh:oe (zk (m.who w)):= .inr ⟨FF,rfl⟩
   obtain⟨_,hfr⟩:=hQ.en w hw' ha FF
   obtain⟨f1,f2,f3,f4,f5⟩:=hfr (by omega)
   have pV:qg (zk (m.who w))=0:=by unfold qg;rw[if_neg];rw[show(zk (m.who w)).complete=(m.who w).complete from rfl,ha.2];simp
   obtain⟨steps',g,i',g2,g3⟩:=l.add (st':=xz m (qs++[(m.who w).own.toNat]) hh) hP h hw' hw hp ha.1 hnl Hh (by
    rw[FF,pV]
    unfold q8
    rw[if_neg (by decide),if_pos rfl,if_pos rfl]
    refine Prod.ext ?_ rfl
    show _=xz m _ hh
    unfold xz
    rw[List.drop_append_of_le_length (by omega),List.map_append,List.map_cons,List.map_nil,show(((m.who w).own.toNat:Nat):Int)=(m.who w).own by omega,f5])
   obtain rfl:i'=i:=by omega
   refine⟨steps',Ye,g,?_⟩
   rw[g2]
   have:=MK.ins (r:=qg (zk (m.who w))) (K.put (m':=eV 4 m w) hw' hp fun _ IA=>by
    have:kl (zk (m.who w))=m.kind w:=rfl
    omega) (Jy:=steps) (Fp:=[]) (by simp) (i0:=i') o5 o4 (.inl rfl)
   exact this
  |done t' FF hi hp=>
   have hlp:oe (m.who w):= .inr ⟨FF,hi⟩
   have Hh:oe (fin (m.who w) 0):= .inl rfl
   have pV:qg (m.who w)=0:=by unfold qg;rw[if_neg (by simp[ha.2])]
   exact⟨steps,Ye,l.quiet hw' hp rfl ⟨fun _=>hlp,fun _=>Hh⟩ fun _=>by rw[pV];rfl,K.put hw' hp fun e=>by cases e.2⟩
  |take IA hi hl hp=>
   have hnl:=vZ ha fun _=>by omega
   have Hh:oe (fin (m.who w) (m.nd (at_ qs (hh+1))).value):= .inl rfl
   obtain⟨steps',g,i',g2,g3⟩:=l.add (st':=xz m qs (hh+1)) hP h hw' hw hp ha.1 hnl Hh (by
    rw[IA]
    have e1:xz m qs hh=(m.nd (at_ qs (hh+1))).value::xz m qs (hh+1):=by
     unfold xz at_
     rw[List.drop_eq_getElem_cons hl,List.map_cons,aW hl]
    unfold q8
    rw[e1,if_neg (by decide),if_pos rfl,if_neg (by decide),if_neg (by simp)]
    rfl)
   obtain rfl:i'=i:=by omega
   refine⟨steps',Ye,g,?_⟩
   rw[g2]
   exact MK.ins (K.put (m':=eV 4 m w) hw' hp fun e=>by cases e.2) (Jy:=steps) (Fp:=[]) (by simp) (i0:=i') o5 o4 (.inl rfl)
  |empty IA hi hx hy hp=>
   have hnl:=vZ ha fun _=>by omega
   have Hh:oe (fin (m.who w) (-1)):= .inl rfl
   obtain⟨pre,post,e1,e2,e3⟩:=K w hw ha IA hi hy i o1
   have hu:q8 2 [] (out.getD i Call.z).kind (out.getD i Call.z).arg=([],qg (fin (m.who w) (-1))):=by
    rw[o6,IA];rfl
   have RO:sq 2 (pU 2) (e7 out 0 (pre++(⟨(i:Int),qg (fin (m.who w) (-1))⟩::post)))=some (xz m qs hh):=by
    rw[Jx o5]
    refine RP (t:=[]) (t':=[]) e2 hu ?_
    have:=l.sq
    rw[e1,ES,Ld]at this
    rw[show sq 2 (pU 2) (e7 out 0 pre)=some []from e2]at this
    exact this
   refine⟨pre++(⟨(i:Int),qg (fin (m.who w) (-1))⟩::post),Ye,l.ins hP h hw' hw hp ha.1 hnl Hh e1 o1 e3 RO,?_⟩
   exact MK.ins (K.put (m':=eV 4 m w) hw' hp fun e=>by cases e.2) e1 o5 o4 (.inr ⟨e2,hu⟩)
end
end Sp
namespace Sp
open Ob Hs
section
variable {N:Nat} {P0:List (List Ask)}
theorem aaq{T:Int}(h:dw N [T] P0=some 0):co N [T]=some 0:=by
 unfold dw at h
 obtain⟨r,hr,h⟩:=Kb h
 rcases EC h with⟨_,h⟩|⟨hc,_⟩
 ·cases h
 simp only[Bool.or_eq_false_iff,Bool.not_eq_false',decide_eq_true_eq]at hc
 rw[hr,hc.1]
end
end Sp
namespace Sp
open Ob Hs Sr
section
variable {N:Nat} {aU T:Int} {P0:List (List Ask)} {m m':M} {w k:Nat} {out out':List Call} {op op':List Int} {steps:List Step} {st st':List Int}
def MH(aU:Int)(np:Nat)(m:M)(out:List Call)(op:List Int):Prop:=
 (aU=1→∃steps,L 5 np m out op steps [m.n])∧(aU=3→∃cs steps,S m cs∧L 3 np m out op steps (vY m cs))∧(aU=4→∃qs hh t steps,Q m qs hh t∧L 2 np m out op steps (xz m qs hh)∧MK np m out op steps)
theorem adD(hP:iH [gf aU] P0)(I:Inv aU P0 k m)(h:H N (gf aU) P0 m out op)(hw:w < P0.length)(mv:Mv aU m w out op out' op')(l:MH aU P0.length m out op):MH aU P0.length (iG aU m w) out' op':=by
 refine⟨fun e=>?_,fun e=>?_,fun e=>?_⟩
 ·subst e
  obtain⟨steps,l⟩:=l.1 rfl
  exact aap (N:=N) hP I h hw mv l
 ·subst e
  exact Ya (N:=N) hP I h hw mv (l.2.1 rfl)
 ·subst e
  exact Yc (N:=N) hP I h hw mv (l.2.2 rfl)
theorem akg:MH aU P0.length (m0 P0) [] []:=by
 refine⟨fun e=>⟨[],l0⟩,fun e=>?_,fun e=>?_⟩
 ·obtain⟨cs,hS⟩:=(Jl (aU:=aU) (P0:=P0)).x.1 e
  have hc:cs= []:=by
   cases cs with
   |nil=>rfl
   |cons c cs=>
    have:=hS.ch.1
    simp[m0]at this
  subst hc
  exact⟨[],[],hS,l0⟩
 ·have:Q (m0 P0) [0] 0 0:=by
   refine⟨by simp,by simp,by simp,rfl,rfl,by simp,by simp[m0],fun i hi=>by simp at hi,rfl,fun i h1 h2=>by simp at h2;omega,fun w _ ha=>?_,fun w _ ha=>?_,fun w v _ _ _ ha=>?_⟩
   all_goals
    have:=ha.1
    rw[D9]at this
    cases this
  exact⟨[0],0,0,[],this,l0,fun w _ ha=>by have:=ha.1;rw[D9]at this;cases this⟩
theorem agC(hP:iH [gf aU] P0): ∀{turns:List Int} {k:Nat} {m:M} {out:List Call} {op:List Int},Inv aU P0 k m→H N (gf aU) P0 m out op→MH aU P0.length m out op→(∀t∈turns,0≤t∧t < P0.length)→k+turns.length≤1000→∃out' op',H N (gf aU) P0 (runM aU m turns) out' op'∧MH aU P0.length (runM aU m turns) out' op'
 | [],_,m,out,op,_,h,l,_,_=>⟨out,op,h,l⟩
 |t::turns,k,m,out,op,I,h,l,ht,hk=>by
  have hw:t.toNat < P0.length:=by have:=ht t (.head _);omega
  have hk':k+(turns.length+1)≤1000:=hk
  obtain⟨out',op',mv,h'⟩:=Uu hP I (by omega) h hw
  exact agC hP (turns:=turns) (I.iG hP hw) h' (adD hP I h hw mv l) (fun x hx=>ht x (.tail _ hx)) (by omega)
theorem agD(hP:iH [gf aU] P0)(h2:aU≠2)(l:MH aU P0.length m out op): ∃steps st,L (gf aU) P0.length m out op steps st:=by
 rcases Fo hP with e|e|e|e
 ·subst e
  obtain⟨steps,l⟩:=l.1 rfl
  exact⟨steps,_,l⟩
 ·exact(h2 e).elim
 ·subst e
  obtain⟨cs,steps,_,l⟩:=l.2.1 rfl
  exact⟨steps,_,l⟩
 ·subst e
  obtain⟨qs,hh,t,steps,_,l,_⟩:=l.2.2 rfl
  exact⟨steps,_,l⟩
theorem adE{s:List Int}{kind arg:Int}(hT:T=5∨T=2∨T=3)(hA:dz T kind arg)(hs:lS T s)(hb:(T=5→s.getD 0 0 < 1000)∧(T≠5→s.length < 50)):Ob.nx T s kind arg=some (q8 T s kind arg):=by
 unfold Ob.nx
 rw[if_pos ⟨hs,hA⟩]
 unfold oA q8
 rcases hT with rfl|rfl|rfl
 ·have:=hb.1 rfl
  rw[if_neg (by decide),if_pos rfl,if_neg (by omega),if_pos rfl]
 ·have:=hb.2 (by decide)
  have h50:s.length≠50:=by omega
  by_cases h3:kind=3
  ·simp[h3,h50]
  ·cases s with
   |nil=>simp[h3]
   |cons a s=>simp[h3]
 ·have:=hb.2 (by decide)
  have h50:s.length≠50:=by omega
  by_cases h3:kind=5
  ·simp[h3,h50]
  ·cases s with
   |nil=>simp[h3]
   |cons a s=>simp[h3]
theorem adF{s:List Int}{kind arg:Int}(hT:T=2∨T=3):(q8 T s kind arg).1.length≤s.length+1:=by
 unfold q8
 rcases hT with rfl|rfl
 ·rw[if_neg (by decide),if_pos rfl]
  split
  ·simp
  ·split
   ·simp
   ·simp;omega
 ·rw[if_neg (by decide),if_neg (by decide)]
  split
  ·simp
  ·split
   ·simp
   ·simp;omega
theorem Yf(hT:T=5∨T=2∨T=3): ∀{l:List Do} {s t:List Int},(∀d∈l,dz T d.kind d.arg)→lS T s→((T=5→s.getD 0 0+l.length≤1000)∧(T≠5→s.length+l.length≤50))→sq T s l=some t→Ob.run T s l=some t
 | [],s,t,_,_,_,h=>h
 |d::l,s,t,hA,hs,hb,h=>by
  simp only[sq]at h
  split at h
  ·rename_i hr
   have hl:(d::l).length=l.length+1:=rfl
   have e1:=adE hT (hA d (.head _)) hs ⟨fun e=>by have:=hb.1 e;omega,fun e=>by have:=hb.2 e;omega⟩
   have hok:=(HI (n:=(q8 T s d.kind d.arg).1) (res:=(q8 T s d.kind d.arg).2) e1).2.2.2
   simp only[Ob.run]
   rw[e1]
   simp only
   rw[if_pos hr]
   refine Yf hT (fun x hx=>hA x (.tail _ hx)) hok ⟨fun e=>?_,fun e=>?_⟩ h
   ·have:=hb.1 e
    have e2:(q8 T s d.kind d.arg).1.getD 0 0=s.getD 0 0+1:=by unfold q8;rw[if_pos e];rfl
    omega
   ·have:=hb.2 e
    have:=adF (s:=s) (kind:=d.kind) (arg:=d.arg) (T:=T) (by rcases hT with g|g|g;exact(e g).elim;exact .inl g;exact .inr g)
    omega
  ·cases h
theorem V5{types:List Int}{l:List Event}{k:Nat}(R:ex N [T] l k out op){steps:List Step}(hin: ∀s∈steps,s.call.toNat < out.length): ∀d∈e7 out 0 steps,dz T d.kind d.arg:=by
 induction steps with
 |nil=>intro d hd;cases hd
 |cons s steps ih=>
  intro d hd
  have hs:=hin s (.head _)
  have ih:=ih fun s hs=>hin s (.tail _ hs)
  unfold e7 at hd
  split at hd
  ·rcases List.mem_cons.1 hd with g|g
   ·rw[g]
    have a:=BU R hs
    have ht:=(R.wf.one _ hs).aj
    have:(out.getD s.call.toNat Call.z).aj=0:=by
     have a1:=ht.1
     have a2:=ht.2
     rw[List.length_singleton]at a2
     omega
    rw[this]at a
    exact a
   ·exact ih d g
  ·exact ih d hd
end
end Sp
namespace Tk
open Hs
theorem KZ{c:List Call}{q:Nat→Nat→Bool}: ∀{t:List Step} {w:List Nat},Sr.Ac c q w t→∀i,i < t.length→∃k:Nat,(t.getD i Step.z).call=k∧k < c.length∧k∉w∧(∀j,j∈w→q k j=false)∧((c.getD k Call.z).aY≠ -1→(t.getD i Step.z).res=(c.getD k Call.z).res)∧∀j,j < i→(t.getD j Step.z).call≠k∧q k (t.getD j Step.z).call.toNat=false
 | [],_,_,i,h=>absurd h (Nat.not_lt_zero _)
 |s::t,w,⟨k,a1,a2,a3,a4,a5,a6⟩,i,hi=>by
  cases i with
  |zero=>exact⟨k,a1,a2,a3,a4,a5,fun j h=>absurd h (Nat.not_lt_zero _)⟩
  |succ i=>
   obtain⟨m,b1,b2,b3,b4,b5,b6⟩:=KZ a6 i (by simpa using hi)
   refine⟨m,b1,b2,fun h=>b3 (List.mem_append.2 (.inl h)),fun j h=>b4 j (List.mem_append.2 (.inl h)),b5,fun j hj=>?_⟩
   cases j with
   |zero=>
    show s.call≠m∧q m s.call.toNat=false
    rw[a1,Int.toNat_natCast]
    refine⟨fun e=>b3 (List.mem_append.2 (.inr (List.mem_singleton.2 (by omega)))),b4 k (List.mem_append.2 (.inr (List.mem_singleton.2 rfl)))⟩
   |succ j=>exact b6 j (by omega)
theorem D0{c:List Call}{i j:Nat}:fg c i j=true↔i < c.length∧j < c.length∧(c.getD i Call.z).aY≠ -1∧(c.getD i Call.z).aY < (c.getD j Call.z).from_:=by unfold fg;exact decide_eq_true_iff
theorem Mz{c:List Call}(W:Okl c){t:List Step}(a:Sr.Ac c (fg c) [] t)(hr: ∀i,i < t.length→(t.getD i Step.z).res=i)(g2: ∀i,i < c.length→(c.getD i Call.z).aY≠ -1→i∈ []++Sr.nums t):Good c:=by
 have ix:=KZ a
 have pl: ∀x,x < c.length→gx (c.getD x Call.z)→∃p,p < t.length∧(t.getD p Step.z).call=x∧(c.getD x Call.z).res=p:=by
  intro x hx ha
  have:=g2 x hx ha
  rw[List.nil_append]at this
  obtain⟨s,hs,e⟩:=List.mem_map.1 this
  obtain⟨p,hp,e2⟩:=List.getElem_of_mem hs
  obtain⟨k,k1,k2,_,_,k5,_⟩:=ix p hp
  have e3:t.getD p Step.z=s:=by rw[aW hp,e2]
  have:k=x:=by rw[e3]at k1;rw[k1]at e;simpa using e
  subst this
  exact⟨p,hp,k1,by rw[←k5 ha,hr p hp]⟩
 have no: ∀x p,x < c.length→p < t.length→∀k:Nat,(t.getD p Step.z).call=k→∀u,u < t.length→(t.getD u Step.z).call=x→p < u→fg c x k=false:=by
  intro x p hx hp k hk u hu hxu K0
  obtain⟨m,m1,m2,_,_,_,m6⟩:=ix u hu
  have:m=x:=by omega
  subst this
  have:=(m6 p K0).2
  rw[hk,Int.toNat_natCast]at this
  exact this
 refine⟨fun i j h1 h2 h3 h4 e=>?_,fun i j h1 h2 h3 h4 h5=>?_,?_⟩
 ·obtain⟨p,p1,p2,p3⟩:=pl i h2 h3
  obtain⟨u,u1,u2,u3⟩:=pl j (by omega) h4
  have:p=u:=by omega
  subst this
  omega
 ·obtain⟨p,p1,p2,p3⟩:=pl i h1 h3
  obtain⟨u,u1,u2,u3⟩:=pl j h2 h4
  refine Int.not_lt.1 fun h=>?_
  have:=no i u h1 u1 j u2 p p1 p2 (by omega)
  rw[D0.2 ⟨h1,h2,h3,h5⟩]at this
  cases this
 have fm: ∀m,m∈um c→∃k:Nat,m.toNat < t.length∧0≤m∧(t.getD m.toNat Step.z).call=k∧k < c.length∧(c.getD k Call.z).aY= -1:=by
  intro m hm
  obtain⟨m0,m1,m2⟩:=Good.XH.1 hm
  obtain⟨x,x1,x2,x3⟩:=Ow (c:=c) (k:=c.length) (by omega)
  obtain⟨p,p1,p2,p3⟩:=pl x x1 x2
  have hlt:m.toNat < t.length:=by omega
  obtain⟨k,k1,k2,_,_,k5,_⟩:=ix m.toNat hlt
  refine⟨k,hlt,m0,k1,k2,Classical.byContradiction fun h=>?_⟩
  have:=k5 h
  rw[hr _ hlt]at this
  exact m2 k k2 h (by omega)
 refine XG (CE c _) (CF c _ _) (can c) (fun m=>(t.getD m.toNat Step.z).call) (fun m hm=>?_) (fun x hx y hy e=>?_) fun p hp q hq m n h1 h2 h3=>?_
 ·obtain⟨k,k0,k1,k2,k3,k4⟩:=fm m hm
  show(t.getD m.toNat Step.z).call∈_∧can c (t.getD m.toNat Step.z).call m
  rw[k2]
  refine⟨uC.2 ⟨k,k3,rfl,k4⟩,fun x hx ha hlt=>?_⟩
  rw[Int.toNat_natCast]at hlt
  obtain⟨p,p1,p2,p3⟩:=pl x hx ha
  refine Int.not_le.1 fun h=>?_
  rcases Int.lt_or_eq_of_le h with h4|h4
  ·have:=no x m.toNat hx k0 k k2 p p1 p2 (by omega)
   rw[D0.2 ⟨hx,k3,ha,hlt⟩]at this
   cases this
  ·have:p=m.toNat:=by omega
   subst this
   have:x=k:=by omega
   subst this
   exact ha k4
 ·obtain⟨k,k0,k1,k2,_⟩:=fm x hx
  obtain⟨j,j0,j1,j2,_⟩:=fm y hy
  have e:(t.getD x.toNat Step.z).call=(t.getD y.toNat Step.z).call:=e
  obtain⟨a,a1,_,_,_,_,a6⟩:=ix x.toNat k0
  obtain⟨b,b1,_,_,_,_,b6⟩:=ix y.toNat j0
  rcases Nat.lt_trichotomy x.toNat y.toNat with h|h|h
  ·exact absurd (by rw[e,b1]) (b6 _ h).1
  ·omega
  ·exact absurd (by rw[←e,a1]) (a6 _ h).1
 ·obtain⟨i,i1,rfl,_⟩:=uC.1 hp
  obtain⟨j,j1,rfl,_⟩:=uC.1 hq
  exact Ri W (by omega) (by omega) h1 h2 h3
end Tk
namespace Sp
open Ob Hs Sr
section
variable {N:Nat} {aU:Int} {P0:List (List Ask)} {m:M} {w k:Nat} {out:List Call} {op:List Int} {steps:List Step}
theorem sq5: ∀{steps:List Step} {v:Int} {st:List Int},(∀s∈steps,(out.getD s.call.toNat Call.z).aj=0)→Sp.sq 5 [v] (e7 out 0 steps)=some st→∀i,i < steps.length→(steps.getD i Step.z).res=v+i
 | [],_,_,_,_,i,h=>absurd h (Nat.not_lt_zero _)
 |s::t,v,st,gk,h,i,hi=>by
  have h0:=gk s (.head _)
  simp only[e7]at h
  rw[if_pos (by rw[h0];rfl)]at h
  simp only[Sp.sq]at h
  have e: ∀k a,q8 5 [v] k a=([v+1],v):=fun k a=>rfl
  rw[e]at h
  split at h
  ·rename_i hr
   cases i with
   |zero=>show s.res=v+(0:Nat);simp only at hr;omega
   |succ i=>
    have:=sq5 (fun s hs=>gk s (.tail _ hs)) h i (by simpa using hi)
    show(t.getD i Step.z).res=_
    rw[this];omega
  ·cases h
theorem aar(hP:iH [5] P0)(h:H N 5 P0 m out op)(hin: ∀i,i < out.length→(out.getD i Call.z).aj=0){st:List Int}(l:L 5 P0.length m out op steps st):Tk.Good out:=by
 have hac:=uD l.ac
 refine Tk.Mz (Tk.okl h.rn) l.ac (fun i hi=>?_) fun i hi ht=>by simpa using l.cm i hi ht
 have:=sq5 (v:=0) (fun s hs=>hin _ (hac s hs).1.2) l.sq i hi
 omega
theorem abg(C:Rw.p6 out)(Qc:Rw.Q out)(gk: ∀i,i < out.length→(out.getD i Call.z).aj=0): ∀{steps:List Step} {s:List Int} {w:List Nat} {st:List Int},Ac out (fg out) w steps→Sp.sq 2 s (e7 out 0 steps)=some st→Rw.Qr out s w (nums steps)
 | [],_,_,_,_,_=>trivial
 |x::t,s,w,st,⟨i,g1,g2,g3,g4,g5,g6⟩,h=>by
  have e1:x.call.toNat=i:=by omega
  have e:nums (x::t)=i::nums t:=by unfold nums;rw[List.map_cons,e1]
  rw[e]
  simp only[e7]at h
  rw[e1,if_pos (by rw[gk i g2];rfl)]at h
  simp only[Sp.sq]at h
  split at h
  ·rename_i hr
   have ih:=abg C Qc gk g6 h
   refine⟨g2,g3,g4,?_⟩
   rcases Qc.kd i g2 with k|k
   ·have eu:q8 2 s (out.getD i Call.z).kind (out.getD i Call.z).arg=(s++[(out.getD i Call.z).arg],0):=by unfold q8;rw[if_neg (by decide),if_pos rfl,if_pos k]
    rw[eu]at ih
    exact .inl ⟨k,ih⟩
   ·have hres:=g5 (C.dn i g2 k)
    cases s with
    |nil=>
     have eu:q8 2 [] (out.getD i Call.z).kind (out.getD i Call.z).arg=([],-1):=by unfold q8;rw[if_neg (by decide),if_pos rfl,if_neg (by omega),if_pos rfl]
     rw[eu]at ih hr
     exact .inr (.inl ⟨k,rfl,by simp only at hr;omega,ih⟩)
    |cons a s=>
     have eu:q8 2 (a::s) (out.getD i Call.z).kind (out.getD i Call.z).arg=(s,a):=by unfold q8;rw[if_neg (by decide),if_pos rfl,if_neg (by omega),if_neg (by simp)];rfl
     rw[eu]at ih hr
     refine .inr (.inr ⟨k,s,?_,ih⟩)
     simp only at hr
     rw[hr,hres]
  ·cases h
theorem agE(h:H N aU P0 m out op): ∀i,i < out.length→(out.getD i Call.z).aj=0:=fun i hi=>by
 have:=(h.rn.wf.one i hi).aj
 rw[List.length_singleton]at this
 omega
theorem G7(hN:10000 < N)(hL:jp N=some true)(aU:Int)(P0:List (List Ask))(turns:List Int)(hl: ∀l∈P0,l.length < N∧l.length≤9223372036854775807):vy N aU P0 turns=some true:=by
 refine Wp.eq ?_
 unfold vy
 refine .seq (Mj (by omega) hl turns) fun r _ hr=>?_
 cases hc:(((!(decide (r.2.2=0)))||(decide (aU=2)))||(decide (200 < (r.1.length:Int))))with
 |true=>exact .bD (a:=true) (Wp.eq (.bD hL (.bD (a:=0) rfl (.aL rfl (.one rfl))))) (.one rfl)
 |false=>
  simp only[Bool.or_eq_false_iff,Bool.not_eq_false',decide_eq_true_eq,decide_eq_false_iff_not]at hc
  obtain⟨⟨h0,h2⟩,BT⟩:=hc
  obtain⟨hP,xA,hT,rfl⟩:iH [gf aU] P0∧dw N [gf aU] P0=some 0∧(turns.length≤300∧∀t∈turns,0≤t∧t < P0.length)∧r=((runM aU (m0 P0) turns).events,(runM aU (m0 P0) turns).eh,0):=by
   rcases hr with⟨h,_⟩|h
   ·exact(h h0).elim
   ·exact h
  obtain⟨out,op,h,lx⟩:=agC (N:=N) hP Jl Sp.h0 akg hT.2 (by omega)
  obtain⟨steps,st,l⟩:=agD hP h2 lx
  generalize runM aU (m0 P0) turns=x at *
  have Ny:=aaq xA
  have hTT:gf aU=5∨gf aU=2∨gf aU=3:=by
   rcases Fo hP with e|e|e|e<;>subst e<;>decide
  have BT:x.events.length≤200:=by simp only at BT;omega
  have hs:jN N [gf aU] x.events=some true:=by
   refine Vd.Mu hN Ny BT h.rn (fun h9=>⟨steps,?_,fun i hi ht=>by simpa using l.cm i hi ht⟩) (fun _=>?_) fun S _ hS=>?_
   ·have hin: ∀s∈steps,s.call.toNat < out.length:=fun s hs=>(uD l.ac s hs).1.2
    have hlen:steps.length≤9:=by
     have:=Ac.Xe List.nodup_nil (by simp) l.ac
     have h5:=Rl.Gv this.1 this.2
     simp[nums]at h5
     omega
    have hol:=Y9 out 0 steps
    have hrun:=Yf hTT (V5 (types:=[gf aU]) h.rn hin) (Xa (hP.ty.2.2 _ (.head _))) ⟨fun e=>by rw[e];show(0:Int)+_≤1000;omega,fun e=>by
     have:(pU (gf aU)).length=0:=by rcases hTT with g|g|g;exact(e g).elim;rw[g];rfl;rw[g];rfl
     omega⟩ l.sq
    refine(DZ (fun m hm=>(h.rn.wf.one m hm).aj) (by simp[S0])).2 ⟨l.ac,fun y hy=>?_⟩
    have:y=0:=by simpa using hy
    subst this
    exact⟨st,hrun⟩
   ·exact⟨fun e=>by have e:gf aU=1:=e;omega,fun _=>Vd.Ud (by omega) _,fun _=>Vd.KR (by omega) _,fun e=>by have e:gf aU=4:=e;omega⟩
   ·have gk:=agE h
    rcases hS with⟨e,_⟩|⟨e,q,hq,rfl⟩|⟨e,q,hq,rfl⟩|⟨e,_⟩|⟨_,_,_,_,rfl⟩
    ·have e:gf aU=1:=e;omega
    ·have e:gf aU=2:=e
     rw[e]at h l Ny
     refine .inr ⟨_,rfl,Vd.DY fun h0=>?_⟩
     obtain⟨r,hr,h'⟩:=Rw.yB (by omega) Ny BT h.rn
     rw[hq]at hr
     cases hr
     rcases h' with⟨_,h'⟩|⟨C,R⟩
     ·rw[h']at h0;cases h0
     have Qc:=Rw.VQ BT h.rn
     obtain⟨n1,n2,n3,n4,n5⟩:=Rw.Uj C Qc (abg C Qc gk l.ac l.sq) l.cm
     rw[Rw.KL R n1 n2 n3 n4 n5]
    ·have e:gf aU=5:=e
     rw[e]at h l Ny hP
     refine .inr ⟨_,rfl,Vd.DY fun _=>?_⟩
     obtain⟨r,hr,_,h'⟩:=Tk.Jn (by omega) BT (nN (by omega) Ny BT h.rn) h.rn
     rw[hq]at hr
     cases hr
     exact(h'.2 (aar hP h gk l)).symm
    ·have e:gf aU=4:=e;omega
    ·exact .inl rfl
  have hb:(((!(decide ((0:Int)=0)))||(decide (aU=2)))||(decide (200 < (x.events.length:Int))))=false:=by
   rw[decide_eq_false h2,decide_eq_false (show ¬200 < (x.events.length:Int) by omega)];rfl
  exact .bD (a:=true) (Wp.eq (.bD hL (.bD (a:=gf aU) (D6 N aU) (.bg rfl (.bD hs (.one rfl)))))) (.one rfl)
theorem BZ:jp 18446744073709551616=some true:=by kernel_rfl
end
end Sp
end Go.Proofs.YtjdkkabcenohcaaGreatDoor
