import Derived.Test.YtjdkkabcenohcaaGreatDoorWp4
import Derived.Test.YtjdkkabcenohcaaGreatDoorP4
import Derived.Test.YtjdkkabcenohcaaGreatDoorP2
set_option linter.unusedVariables false
set_option linter.unusedSimpArgs false
set_option linter.unusedSectionVars false
set_option maxRecDepth 100000
namespace Go.Proofs.YtjdkkabcenohcaaGreatDoor
open Go.RowKit
namespace Sp
structure M where
 n:Int
 nodes:List cP
 top:Int
 head:Int
 tail:Int
 aa:List ae
 events:List Event
 eh:Int
abbrev P:=ae
def M.t(m:M):Int×(List cP)×Int×Int×Int×(List ae)×(List Event)×Int:=(m.n,m.nodes,m.top,m.head,m.tail,m.aa,m.events,m.eh)
def M.who(m:M)(w:Nat):P:=m.aa.getD w ae.z
def M.nd(m:M)(k:Int):cP:=m.nodes.getD k.toNat cP.z
def M.kind(m:M)(w:Nat):Int:=((m.who w).program.getD 0 Ask.z).kind
def fin(p:P)(r:Int):P:=⟨p.program,p.pending,true,r,p.item,p.n,p.x,p.y,p.z_,p.own⟩
def G_(p:P):P:=⟨p.program,p.pending,p.complete,p.res,1,p.n,p.x,p.y,p.z_,p.own⟩
def zk(p:P):P:=⟨p.program,p.pending,p.complete,p.res,3,p.n,p.x,p.y,p.z_,p.own⟩
def B4(p:P)(n x y z:Int):P:=⟨p.program,p.pending,p.complete,p.res,2,n,x,y,z,p.own⟩
def rX(p:P)(k:Nat):P:=⟨p.program,true,false,0,1,0,-1,-1,-1,(k:Int)⟩
def gx(p:P):P:=⟨p.program.drop 1,false,p.complete,p.res,p.item,p.n,p.x,p.y,p.z_,p.own⟩
def M.gc(m:M)(w:Nat)(q:P):M:=⟨m.n,m.nodes,m.top,m.head,m.tail,m.aa.set w q,m.events,m.eh⟩
def M.again(m:M)(w:Nat):M:=⟨m.n,m.nodes,m.top,m.head,m.tail,m.aa.set w (G_ (m.who w)),m.events,m.eh+1⟩
def M.V2(m:M)(n:Int):M:=⟨n,m.nodes,m.top,m.head,m.tail,m.aa,m.events,m.eh⟩
def M.uE(m:M)(t:Int):M:=⟨m.n,m.nodes,t,m.head,m.tail,m.aa,m.events,m.eh⟩
def M.D5(m:M)(t:Int):M:=⟨m.n,m.nodes,m.top,t,m.tail,m.aa,m.events,m.eh⟩
def M.tT(m:M)(t:Int):M:=⟨m.n,m.nodes,m.top,m.head,t,m.aa,m.events,m.eh⟩
def M.link(m:M)(k:Int)(nx:Int):M:=⟨m.n,m.nodes.set k.toNat ⟨(m.nd k).value,nx⟩,m.top,m.head,m.tail,m.aa,m.events,m.eh⟩
def iP(aU:Int)(m:M)(w:Nat):M:=
 if(m.who w).item=1 then m.gc w (B4 (m.who w) m.n (m.who w).x (m.who w).y (m.who w).z_)
 else if aU=2∨m.n=(m.who w).n then(m.gc w (fin (m.who w) (m.who w).n)).V2 ((m.who w).n+1)
 else m.again w
def oW(m:M)(w:Nat):M:=
 if(m.who w).item=1 then(m.gc w (B4 (m.who w) (m.who w).n m.top (m.who w).y (m.who w).z_)).link (m.who w).own m.top
 else if m.top=(m.who w).x then(m.gc w (fin (m.who w) 0)).uE (m.who w).own
 else m.again w
def sX(m:M)(w:Nat):M:=
 if(m.who w).item=1∧m.top < 0 then m.gc w (fin (m.who w) (-1))
 else if(m.who w).item=1 then m.gc w (B4 (m.who w) (m.who w).n m.top (m.nd m.top).next (m.who w).z_)
 else if m.top=(m.who w).x then(m.gc w (fin (m.who w) (m.nd (m.who w).x).value)).uE (m.who w).y
 else m.again w
def rE(m:M)(w:Nat):M:=
 if(m.who w).item=1 then m.gc w (B4 (m.who w) (m.who w).n m.tail (m.nd m.tail).next (m.who w).z_)
 else if(m.who w).item=3 then
  if m.tail=(m.who w).x then(m.gc w (fin (m.who w) 0)).tT (m.who w).own else m.gc w (fin (m.who w) 0)
 else if m.tail≠(m.who w).x then m.again w
 else if ¬(m.who w).y < 0 then(m.again w).tT (m.who w).y
 else if(m.nd (m.who w).x).next < 0 then(m.gc w (zk (m.who w))).link (m.who w).x (m.who w).own
 else m.again w
def rH(m:M)(w:Nat):M:=
 if(m.who w).item=1 then m.gc w (B4 (m.who w) (m.who w).n m.head (m.nd m.head).next m.tail)
 else if m.head≠(m.who w).x then m.again w
 else if(m.who w).x=(m.who w).z_∧(m.who w).y < 0 then m.gc w (fin (m.who w) (-1))
 else if(m.who w).x=(m.who w).z_ then
  if m.tail=(m.who w).z_ then(m.again w).tT (m.who w).y else m.again w
 else(m.gc w (fin (m.who w) (m.nd (m.who w).y).value)).D5 (m.who w).y
def eV(aU:Int)(m:M)(w:Nat):M:=
 if m.kind w=10 then iP aU m w else if m.kind w=5 then oW m w else if m.kind w=6 then sX m w else if m.kind w=3 then rE m w else rH m w
def jP(m:M)(w:Nat):M:=⟨m.n,m.nodes++[⟨((m.who w).program.getD 0 Ask.z).arg,-1⟩],m.top,m.head,m.tail,m.aa.set w (rX (m.who w) m.nodes.length),m.events++[⟨w,0,m.kind w,((m.who w).program.getD 0 Ask.z).arg⟩],m.eh⟩
def Dd(m:M)(w:Nat):M:=⟨m.n,m.nodes,m.top,m.head,m.tail,m.aa.set w (gx (m.who w)),m.events++[⟨w,0,0,(m.who w).res⟩],m.eh⟩
def iG(aU:Int)(m:M)(w:Nat):M:=
 if(m.who w).pending=false then(if(m.who w).program= []then m else jP m w)
 else if(m.who w).complete=true then Dd m w else eV aU m w
structure PB(l k:Nat)(p:P):Prop where
 x: -1≤p.x∧p.x < l
 y: -1≤p.y∧p.y < l
 z: -1≤p.z_∧p.z_ < l
 own: -1≤p.own∧p.own < l
 pend:p.pending=true→p.program≠ []∧0≤p.own
 n:0≤p.n∧p.n≤k
structure B(np k:Nat)(m:M):Prop where
 pl:m.aa.length=np
 top: -1≤m.top∧m.top < m.nodes.length
 hd:0≤m.head∧m.head < m.nodes.length
 tl:0≤m.tail∧m.tail < m.nodes.length
 nx: ∀x∈m.nodes,-1≤x.next∧x.next < m.nodes.length
 pp: ∀p∈m.aa,PB m.nodes.length k p
 ev:m.events.length≤k
 rs:0≤m.eh∧m.eh≤k
 nn:0≤m.n∧m.n≤k
def D(m:M)(w:Nat):Prop:=(m.who w).pending=true→(m.who w).complete=false→(m.who w).item≠1→((m.kind w=6∨m.kind w=3)→0≤(m.who w).x)∧(m.kind w≠10→m.kind w≠5→m.kind w≠6→m.kind w≠3→(m.who w).x≠(m.who w).z_→0≤(m.who w).y)
theorem PB.mono{l l' k k':Nat}{p:P}(h:PB l k p)(hl:l≤l')(hk:k≤k'):PB l' k' p:=
 ⟨⟨h.x.1,by have:=h.x.2;omega⟩,⟨h.y.1,by have:=h.y.2;omega⟩,⟨h.z.1,by have:=h.z.2;omega⟩,⟨h.own.1,by have:=h.own.2;omega⟩,h.pend,h.n.1,by have:=h.n.2;omega⟩
theorem RM{α:Type}{l:List α}{i:Nat}{a x:α}(h:x∈l.set i a):x=a∨x∈l:=by
 rcases List.mem_or_eq_of_mem_set h with h|h
 ·exact .inr h
 ·exact .inl h
theorem B.step{np k:Nat}{m:M}(h:B np k m){w:Nat}{q:P}{n' top' head' tail' rs':Int}{nodes':List cP}{ev':List Event}(hl:m.nodes.length≤nodes'.length)
  (ht: -1≤top'∧top' < nodes'.length)(hh:0≤head'∧head' < nodes'.length)(htl:0≤tail'∧tail' < nodes'.length)(hn: ∀x∈nodes',-1≤x.next∧x.next < nodes'.length)(hq:PB nodes'.length (k+1) q)(he:ev'.length≤k+1)(hr:0≤rs'∧rs'≤((k+1:Nat):Int))(hnn:0≤n'∧n'≤((k+1:Nat):Int)):B np (k+1) ⟨n',nodes',top',head',tail',m.aa.set w q,ev',rs'⟩:=
 ⟨by simpa using h.pl,ht,hh,htl,hn,fun p hp=>by
  rcases RM hp with rfl|hp
  ·exact hq
  ·exact(h.pp p hp).mono hl (Nat.le_succ k),he,hr,hnn⟩
theorem B.later{np k:Nat}{m:M}(h:B np k m):B np (k+1) m:=⟨h.pl,h.top,h.hd,h.tl,h.nx,fun p hp=>(h.pp p hp).mono (Nat.le_refl _) (Nat.le_succ k),Nat.le_succ_of_le h.ev,⟨h.rs.1,by have:=h.rs.2;omega⟩,h.nn.1,by have:=h.nn.2;omega⟩
section
variable {N:Nat} {aU:Int} {np k w:Nat} {m:M}
theorem xe(hw:w < m.aa.length):ix m.aa (w:Int)=some (m.who w):=by rw[El hw];unfold M.who;rw[aW hw]
theorem Fk{z:Int}(h0:0≤z)(h:z < m.nodes.length):ix m.nodes z=some (m.nd z):=by rw[wk h0 h];unfold M.nd;rw[aW]
theorem B.pb(h:B np k m)(hw:w < np):PB m.nodes.length k (m.who w):=by
 have hpl:=h.pl
 refine h.pp _ ?_
 unfold M.who;rw[aW (by omega)];exact List.getElem_mem _
theorem B.ndn(h:B np k m){z:Int}(h0:0≤z)(hz:z < m.nodes.length): -1≤(m.nd z).next∧(m.nd z).next < m.nodes.length:=by
 refine h.nx _ ?_
 unfold M.nd;rw[aW (by omega)];exact List.getElem_mem _
theorem zl(hw:w < m.aa.length)(r:Int):eN N m.aa (w:Int) r m.nodes=some (m.aa.set w (fin (m.who w) r)):=by
 unfold eN
 rw[xe hw,bZ,Int.toNat_natCast,List.set_set]
 rfl
theorem qT(hw:w < m.aa.length)(hr:0≤m.eh∧m.eh≤100000)(n t h l:Int)(e:List Event):dY N aU n t h l m.aa e m.eh (w:Int) m.nodes=some (m.aa.set w (G_ (m.who w))):=by
 unfold dY
 rw[xe hw,bZ,Int.toNat_natCast,bK (by omega)]
 rfl
theorem V3(h:B np k m)(hw:w < np)(hk:k≤1000):mu N aU m.n m.top m.head m.tail m.aa m.events m.eh (w:Int) m.nodes=some ((iP aU m w).n,(iP aU m w).aa,(iP aU m w).eh):=by
 have hpl:=h.pl
 have hw':w < m.aa.length:=by omega
 have hp:=h.pb hw
 have hn:=hp.n
 have hr:=h.rs
 unfold mu iP
 rw[xe hw',bZ]
 by_cases h1:(m.who w).item=1
 ·rw[if_pos h1,et (decide_eq_true h1),Int.toNat_natCast,List.set_set]
  rfl
 ·rw[if_neg h1,eH (decide_eq_false h1)]
  by_cases h2:aU=2∨m.n=(m.who w).n
  ·rw[if_pos h2,et (by simpa using h2),bK (by omega),zl hw',bZ]
   rfl
  ·rw[if_neg h2,eH (by simpa using h2),qT hw' (by omega),bZ]
   rfl
theorem adx(h:B np k m)(hw:w < np)(hk:k≤1000)(hp:(m.who w).pending=true):oT N aU m.n m.top m.head m.tail m.aa m.events m.eh (w:Int) m.nodes=some ((oW m w).nodes,(oW m w).top,(oW m w).aa,(oW m w).eh):=by
 have hpl:=h.pl
 have hw':w < m.aa.length:=by omega
 have hb:=h.pb hw
 have hr:=h.rs
 have ho:=(hb.pend hp).2
 have ho2:=hb.own.2
 unfold oT oW
 rw[xe hw',bZ]
 by_cases h1:(m.who w).item=1
 ·rw[if_pos h1,et (decide_eq_true h1),Int.toNat_natCast,List.set_set,Fk ho ho2]
  rfl
 ·rw[if_neg h1,eH (decide_eq_false h1),jr (jx.2 h.top),jr (jx.2 hb.x)]
  by_cases h2:m.top=(m.who w).x
  ·rw[if_pos h2,et (decide_eq_true h2),zl hw',bZ]
   rfl
  ·rw[if_neg h2,eH (decide_eq_false h2),qT hw' (by omega),bZ]
   rfl
theorem agp(h:B np k m)(hw:w < np)(hk:k≤1000)(hx:(m.who w).item≠1→0≤(m.who w).x):pL N aU m.n m.top m.head m.tail m.aa m.events m.eh (w:Int) m.nodes=some ((sX m w).top,(sX m w).aa,(sX m w).eh):=by
 have hpl:=h.pl
 have hw':w < m.aa.length:=by omega
 have hb:=h.pb hw
 have hr:=h.rs
 have ht:=h.top
 unfold pL sX
 rw[xe hw',bZ]
 by_cases h0:(m.who w).item=1∧m.top < 0
 ·rw[if_pos h0,et (by simpa using h0),zl hw',bZ]
  rfl
 ·rw[if_neg h0,eH (by simpa using h0)]
  by_cases h1:(m.who w).item=1
  ·have h2:0≤m.top:=by
    apply Classical.byContradiction;intro h3
    exact h0 ⟨h1,by omega⟩
   rw[if_pos h1,et (decide_eq_true h1),Int.toNat_natCast,Fk h2 ht.2,bZ,List.set_set,List.set_set]
   rfl
  ·rw[if_neg h1,eH (decide_eq_false h1),jr (jx.2 h.top),jr (jx.2 hb.x)]
   by_cases h2:m.top=(m.who w).x
   ·rw[if_pos h2,et (decide_eq_true h2),Fk (hx h1) hb.x.2,bZ,zl hw',bZ]
    rfl
   ·rw[if_neg h2,eH (decide_eq_false h2),qT hw' (by omega),bZ]
    rfl
theorem agq(h:B np k m)(hw:w < np)(hk:k≤1000)(hx:(m.who w).item≠1→0≤(m.who w).x):pM N aU m.n m.top m.head m.tail m.aa m.events m.eh (w:Int) m.nodes=some ((rE m w).nodes,(rE m w).tail,(rE m w).aa,(rE m w).eh):=by
 have hpl:=h.pl
 have hw':w < m.aa.length:=by omega
 have hb:=h.pb hw
 have hr:=h.rs
 have ht:=h.tl
 have vt:vp m.nodes.length m.tail=true:=jx.2 ⟨by omega,ht.2⟩
 unfold pM rE
 rw[xe hw',bZ]
 by_cases h1:(m.who w).item=1
 ·rw[if_pos h1,et (decide_eq_true h1),Int.toNat_natCast,Fk ht.1 ht.2,bZ,List.set_set,List.set_set]
  rfl
 ·rw[if_neg h1,eH (decide_eq_false h1)]
  by_cases h3:(m.who w).item=3
  ·rw[if_pos h3,et (decide_eq_true h3),jr vt,jr (jx.2 hb.x)]
   by_cases h2:m.tail=(m.who w).x
   ·rw[if_pos h2,et (decide_eq_true h2),zl hw',bZ]
    rfl
   ·rw[if_neg h2,eH (decide_eq_false h2),zl hw',bZ]
    rfl
  ·rw[if_neg h3,eH (decide_eq_false h3),jr vt,jr (jx.2 hb.x)]
   by_cases h2:m.tail=(m.who w).x
   ·rw[if_neg (fun e=>e h2),eH (by simpa using h2)]
    by_cases h4:(m.who w).y < 0
    ·rw[if_neg (fun e=>e h4),eH (by simpa using h4),Fk (hx h1) hb.x.2,bZ]
     by_cases h5:(m.nd (m.who w).x).next < 0
     ·rw[if_pos h5,et (decide_eq_true h5),bZ,Int.toNat_natCast]
      rfl
     ·rw[if_neg h5,eH (decide_eq_false h5),qT hw' (by omega),bZ]
      rfl
    ·rw[if_pos h4,et (by simpa using h4),qT hw' (by omega),bZ]
     rfl
   ·rw[if_pos h2,et (by simpa using h2),qT hw' (by omega),bZ]
    rfl
theorem agr(h:B np k m)(hw:w < np)(hk:k≤1000)(hy:(m.who w).item≠1→(m.who w).x≠(m.who w).z_→0≤(m.who w).y):pN N aU m.n m.top m.head m.tail m.aa m.events m.eh (w:Int) m.nodes=some ((rH m w).head,(rH m w).tail,(rH m w).aa,(rH m w).eh):=by
 have hpl:=h.pl
 have hw':w < m.aa.length:=by omega
 have hb:=h.pb hw
 have hr:=h.rs
 have hh:=h.hd
 have ht:=h.tl
 have vt:vp m.nodes.length m.tail=true:=jx.2 ⟨by omega,ht.2⟩
 have vh:vp m.nodes.length m.head=true:=jx.2 ⟨by omega,hh.2⟩
 have vx:=jx.2 hb.x
 have vz:=jx.2 hb.z
 unfold pN rH
 rw[xe hw',bZ]
 by_cases h1:(m.who w).item=1
 ·rw[if_pos h1,et (decide_eq_true h1),Int.toNat_natCast,Fk hh.1 hh.2,bZ,List.set_set,List.set_set,List.set_set]
  rfl
 ·rw[if_neg h1,eH (decide_eq_false h1),jr vh,jr vx]
  by_cases h2:m.head=(m.who w).x
  ·rw[if_neg (fun e=>e h2),eH (by simpa using h2),jr vx,jr vz]
   by_cases h3:(m.who w).x=(m.who w).z_∧(m.who w).y < 0
   ·rw[if_pos h3,et (by simpa using h3),zl hw',bZ]
    rfl
   ·rw[if_neg h3,eH (by simpa using h3),jr vx,jr vz]
    by_cases h4:(m.who w).x=(m.who w).z_
    ·rw[if_pos h4,et (decide_eq_true h4),jr vt,jr vz]
     by_cases h5:m.tail=(m.who w).z_
     ·rw[if_pos h5,et (decide_eq_true h5),qT hw' (by omega),bZ]
      rfl
     ·rw[if_neg h5,eH (decide_eq_false h5),qT hw' (by omega),bZ]
      rfl
    ·rw[if_neg h4,eH (decide_eq_false h4),Fk (hy h1 h4) hb.y.2,bZ,zl hw',bZ]
     rfl
  ·rw[if_pos h2,et (by simpa using h2),qT hw' (by omega),bZ]
   rfl
theorem N8:(iP aU m w).nodes=m.nodes∧(iP aU m w).top=m.top∧(iP aU m w).head=m.head∧(iP aU m w).tail=m.tail∧(iP aU m w).events=m.events:=by
 unfold iP;split
 ·exact⟨rfl,rfl,rfl,rfl,rfl⟩
 ·split<;>exact⟨rfl,rfl,rfl,rfl,rfl⟩
theorem V4:(oW m w).n=m.n∧(oW m w).head=m.head∧(oW m w).tail=m.tail∧(oW m w).events=m.events:=by
 unfold oW;split
 ·exact⟨rfl,rfl,rfl,rfl⟩
 ·split<;>exact⟨rfl,rfl,rfl,rfl⟩
theorem X2:(sX m w).n=m.n∧(sX m w).nodes=m.nodes∧(sX m w).head=m.head∧(sX m w).tail=m.tail∧(sX m w).events=m.events:=by
 unfold sX;repeat' split
 all_goals exact⟨rfl,rfl,rfl,rfl,rfl⟩
theorem X3:(rE m w).n=m.n∧(rE m w).top=m.top∧(rE m w).head=m.head∧(rE m w).events=m.events:=by
 unfold rE;repeat' split
 all_goals exact⟨rfl,rfl,rfl,rfl⟩
theorem X4:(rH m w).n=m.n∧(rH m w).nodes=m.nodes∧(rH m w).top=m.top∧(rH m w).events=m.events:=by
 unfold rH;repeat' split
 all_goals exact⟨rfl,rfl,rfl,rfl⟩
theorem step_eq(h:B np k m)(hD:D m w)(hw:w < np)(hk:k≤1000)(hp:(m.who w).pending=true)(hc:(m.who w).complete=false):oU N aU m.n m.top m.head m.tail m.aa m.events m.eh (w:Int) m.nodes=some ((eV aU m w).n,(eV aU m w).nodes,(eV aU m w).top,(eV aU m w).head,(eV aU m w).tail,(eV aU m w).aa,(eV aU m w).eh)∧(eV aU m w).events=m.events:=by
 have hpl:=h.pl
 have hw':w < m.aa.length:=by omega
 have hb:=h.pb hw
 obtain⟨a,r,e⟩: ∃a r,(m.who w).program=a::r:=by
  cases hh:(m.who w).program with
  |nil=>exact((hb.pend hp).1 hh).elim
  |cons a r=>exact⟨a,r,rfl⟩
 have rN:m.kind w=a.kind:=by unfold M.kind;rw[e];rfl
 have hD:=hD hp hc
 unfold oU eV
 rw[xe hw',bZ,e,show ix (a::r) 0=some a from rfl,bZ,rN]
 rw[rN]at hD
 by_cases k1:a.kind=10
 ·rw[if_pos k1,et (decide_eq_true k1),V3 h hw hk,bZ]
  obtain⟨e1,e2,e3,e4,e5⟩:=N8 (aU:=aU) (m:=m) (w:=w)
  rw[e1,e2,e3,e4]
  exact⟨rfl,e5⟩
 rw[if_neg k1,eH (decide_eq_false k1)]
 by_cases k2:a.kind=5
 ·rw[if_pos k2,et (decide_eq_true k2),adx h hw hk hp,bZ]
  obtain⟨e1,e2,e3,e4⟩:=V4 (m:=m) (w:=w)
  rw[e1,e2,e3]
  exact⟨rfl,e4⟩
 rw[if_neg k2,eH (decide_eq_false k2)]
 by_cases k3:a.kind=6
 ·rw[if_pos k3,et (decide_eq_true k3),agp h hw hk fun h1=>(hD h1).1 (.inl k3),bZ]
  obtain⟨e1,e2,e3,e4,e5⟩:=X2 (m:=m) (w:=w)
  rw[e1,e2,e3,e4]
  exact⟨rfl,e5⟩
 rw[if_neg k3,eH (decide_eq_false k3)]
 by_cases k4:a.kind=3
 ·rw[if_pos k4,et (decide_eq_true k4),agq h hw hk fun h1=>(hD h1).1 (.inr k4),bZ]
  obtain⟨e1,e2,e3,e4⟩:=X3 (m:=m) (w:=w)
  rw[e1,e2,e3]
  exact⟨rfl,e4⟩
 rw[if_neg k4,eH (decide_eq_false k4),agr h hw hk fun h1=>(hD h1).2 k1 k2 k3 k4,bZ]
 obtain⟨e1,e2,e3,e4⟩:=X4 (m:=m) (w:=w)
 rw[e1,e2,e3]
 exact⟨rfl,e4⟩
theorem ady(h:B np k m)(hD:D m w)(hw:w < np)(hk:k≤1000):oV N aU m.n m.top m.head m.tail m.aa m.events m.eh (w:Int) m.nodes=some (iG aU m w).t:=by
 have hpl:=h.pl
 have hw':w < m.aa.length:=by omega
 have hb:=h.pb hw
 have hev:=h.ev
 unfold oV iG
 rw[xe hw',bZ]
 cases hp:(m.who w).pending with
 |false=>
  rw[if_pos rfl]
  cases hprog:(m.who w).program with
  |nil=>
   rw[if_pos rfl]
   exact et (by simp)
  |cons a r=>
   rw[if_neg (by simp),eH (by simp;omega),et (show(!false)=true from rfl),show ix (a::r) 0=some a from rfl,bZ,O0 (by simp;omega) (by simp;omega)]
   have hh:=h.hd
   have ht:=h.tl
   rw[jr (List.all_eq_true.2 fun x hx=>by unfold yK;exact jx.2 (h.nx x hx)),jr (jx.2 h.top),jr (jx.2 ⟨by omega,hh.2⟩),jr (jx.2 ⟨by omega,ht.2⟩),
    jr (List.all_eq_true.2 fun p hp=>by have:=h.pp p hp;unfold tu;simp only[Bool.and_eq_true];exact⟨jx.2 this.x,jx.2 this.y,jx.2 this.z,jx.2 this.own⟩)]
   unfold jP M.t M.kind rX
   rw[hprog,Int.toNat_natCast]
   rfl
 |true=>
  rw[if_neg (by simp),eH (show(!true&&decide (((m.who w).program.length:Int)=0))=false from rfl),eH (show(!true)=false from rfl)]
  cases hc:(m.who w).complete with
  |true=>
   rw[if_pos rfl,et rfl,O0 (by simp;omega) (by simp;omega)]
   have hne:=(hb.pend hp).1
   have hl:0 < (m.who w).program.length:=by
    cases hh:(m.who w).program with
    |nil=>exact(hne hh).elim
    |cons a r=>simp
   rw[jr (by simp[pB];omega)]
   unfold Dd M.t gx
   rw[Int.toNat_natCast,List.set_set,hc]
   rfl
  |false=>
   rw[if_neg (by simp),eH rfl]
   obtain⟨e1,e2⟩:=step_eq (N:=N) (aU:=aU) h hD hw hk hp hc
   rw[e1,bZ]
   unfold M.t
   rw[e2]
end
end Sp
namespace Sp
section
variable {N:Nat} {aU:Int} {np k w:Nat} {m:M}
theorem B.gc(h:B np k m){q:P}(hq:PB m.nodes.length (k+1) q):B np (k+1) (m.gc w q):=
 h.step (Nat.le_refl _) h.top h.hd h.tl h.nx hq (Nat.le_succ_of_le h.ev) ⟨h.rs.1,by have:=h.rs.2;omega⟩ ⟨h.nn.1,by have:=h.nn.2;omega⟩
theorem B.again(h:B np k m)(hw:w < np):B np (k+1) (m.again w):=
 h.step (Nat.le_refl _) h.top h.hd h.tl h.nx (by have:=(h.pb hw).mono (Nat.le_refl _) (Nat.le_succ k);exact⟨this.x,this.y,this.z,this.own,this.pend,this.n⟩) (Nat.le_succ_of_le h.ev) ⟨by have:=h.rs.1;omega,by have:=h.rs.2;omega⟩ ⟨h.nn.1,by have:=h.nn.2;omega⟩
theorem B.V2(h:B np k m){n:Int}(hn:0≤n∧n≤k):B np k (m.V2 n):=⟨h.pl,h.top,h.hd,h.tl,h.nx,h.pp,h.ev,h.rs,hn⟩
theorem B.uE(h:B np k m){t:Int}(hn: -1≤t∧t < m.nodes.length):B np k (m.uE t):=⟨h.pl,hn,h.hd,h.tl,h.nx,h.pp,h.ev,h.rs,h.nn⟩
theorem B.D5(h:B np k m){t:Int}(hn:0≤t∧t < m.nodes.length):B np k (m.D5 t):=⟨h.pl,h.top,hn,h.tl,h.nx,h.pp,h.ev,h.rs,h.nn⟩
theorem B.tT(h:B np k m){t:Int}(hn:0≤t∧t < m.nodes.length):B np k (m.tT t):=⟨h.pl,h.top,h.hd,hn,h.nx,h.pp,h.ev,h.rs,h.nn⟩
theorem B.link(h:B np k m){z nx:Int}(hn: -1≤nx∧nx < m.nodes.length):B np k (m.link z nx):=by
 have e:(m.link z nx).nodes.length=m.nodes.length:=by simp[M.link]
 exact⟨h.pl,by rw[e];exact h.top,by rw[e];exact h.hd,by rw[e];exact h.tl,fun x hx=>by
  rw[e]
  rcases RM hx with rfl|hx
  ·exact hn
  ·exact h.nx x hx,fun p hp=>by rw[e];exact h.pp p hp,h.ev,h.rs,h.nn⟩
theorem PB.fin{l k:Nat}{p:P}(h:PB l k p)(r:Int):PB l k (Sp.fin p r):=⟨h.x,h.y,h.z,h.own,h.pend,h.n⟩
theorem PB.zk{l k:Nat}{p:P}(h:PB l k p):PB l k (Sp.zk p):=⟨h.x,h.y,h.z,h.own,h.pend,h.n⟩
theorem PB.B4{l k:Nat}{p:P}(h:PB l k p){n x y z:Int}(hn:0≤n∧n≤k)(hx: -1≤x∧x < l)(hy: -1≤y∧y < l)(hz: -1≤z∧z < l):PB l k (Sp.B4 p n x y z):=⟨hx,hy,hz,h.own,h.pend,hn⟩
theorem ags(h:B np k m)(hD:D m w)(hw:w < np)(hp:(m.who w).pending=true)(hc:(m.who w).complete=false):B np (k+1) (eV aU m w):=by
 have hb:=h.pb hw
 have hb':PB m.nodes.length (k+1) (m.who w):=hb.mono (Nat.le_refl _) (Nat.le_succ k)
 have ht:=h.top
 have hh:=h.hd
 have htl:=h.tl
 have hn1:=hb.n
 have ho:=(hb.pend hp).2
 have hD:=hD hp hc
 have ha:=h.again hw
 unfold eV
 split
 ·unfold iP
  split
  ·exact h.gc (hb'.B4 ⟨h.nn.1,by have:=h.nn.2;omega⟩ hb.x hb.y hb.z)
  ·split
   ·exact(h.gc (hb'.fin _)).V2 ⟨by omega,by omega⟩
   ·exact ha
 rename_i k1
 split
 ·unfold oW
  split
  ·exact(h.gc (hb'.B4 hb'.n ht hb.y hb.z)).link ht
  ·split
   ·exact(h.gc (hb'.fin _)).uE hb.own
   ·exact ha
 rename_i k2
 split
 ·rename_i k3
  unfold sX
  split
  ·exact h.gc (hb'.fin _)
  ·rename_i h0
   split
   ·rename_i h1
    have h2:0≤m.top:=by
     apply Classical.byContradiction;intro h3
     exact h0 ⟨h1,by omega⟩
    exact h.gc (hb'.B4 hb'.n ht (h.ndn h2 ht.2) hb.z)
   ·split
    ·exact(h.gc (hb'.fin _)).uE hb.y
    ·exact ha
 rename_i k3
 split
 ·rename_i k4
  unfold rE
  split
  ·exact h.gc (hb'.B4 hb'.n ⟨by omega,htl.2⟩ (h.ndn htl.1 htl.2) hb.z)
  ·split
   ·split
    ·exact(h.gc (hb'.fin _)).tT ⟨ho,hb.own.2⟩
    ·exact h.gc (hb'.fin _)
   ·split
    ·exact ha
    ·split
     ·exact ha.tT ⟨by omega,hb.y.2⟩
     ·split
      ·exact(h.gc hb'.zk).link hb.own
      ·exact ha
 rename_i k4
 unfold rH
 split
 ·exact h.gc (hb'.B4 hb'.n ⟨by omega,hh.2⟩ (h.ndn hh.1 hh.2) ⟨by omega,htl.2⟩)
 ·rename_i h1
  split
  ·exact ha
  ·split
   ·exact h.gc (hb'.fin _)
   ·rename_i h2
    split
    ·rename_i h3
     split
     ·refine ha.tT ⟨?_,hb.y.2⟩
      apply Classical.byContradiction;intro h4
      exact h2 ⟨h3,by omega⟩
     ·exact ha
    ·rename_i h3
     exact(h.gc (hb'.fin _)).D5 ⟨(hD h1).2 k1 k2 k3 k4 h3,hb.y.2⟩
theorem ahO(h:B np k m)(hne:(m.who w).program≠ []):B np (k+1) (jP m w):=by
 have hev:=h.ev
 have ht:=h.top
 have hh:=h.hd
 have htl:=h.tl
 have hn:=h.nn
 have hr:=h.rs
 refine h.step (by simp) (by simp;omega) (by simp;omega) (by simp;omega) (fun x hx=>?_) ⟨by simp[rX];omega,by simp[rX];omega,by simp[rX];omega,by simp[rX];omega,fun _=>⟨hne,by simp[rX]⟩,by simp[rX];omega⟩ (by simp;omega) (by omega) (by omega)
 rw[List.length_append]
 rcases List.mem_append.1 hx with hx|hx
 ·have:=h.nx x hx
  simp;omega
 ·rw[List.mem_singleton.1 hx]
  simp;omega
theorem ahP(h:B np k m)(hw:w < np):B np (k+1) (Dd m w):=by
 have hb':PB m.nodes.length (k+1) (m.who w):=(h.pb hw).mono (Nat.le_refl _) (Nat.le_succ k)
 have hev:=h.ev
 have hn:=h.nn
 have hr:=h.rs
 exact h.step (Nat.le_refl _) h.top h.hd h.tl h.nx ⟨hb'.x,hb'.y,hb'.z,hb'.own,fun e=>(by cases e),hb'.n⟩ (by simp;omega) (by omega) (by omega)
theorem ahQ(h:B np k m)(hD:D m w)(hw:w < np):B np (k+1) (iG aU m w):=by
 unfold iG
 split
 ·split
  ·exact h.later
  ·rename_i h1;exact ahO h h1
 ·rename_i h1
  have hp:(m.who w).pending=true:=by simpa using h1
  split
  ·exact ahP h hw
  ·rename_i h2
   exact ags h hD hw hp (by simpa using h2)
theorem gl{q:P}{v:Nat}(hw:w < m.aa.length):(m.aa.set w q).getD v ae.z=if v=w then q else m.who v:=by
 unfold M.who
 simp only[List.getD_eq_getElem?_getD]
 by_cases e:v=w
 ·subst e;rw[if_pos rfl];simp[hw]
 ·rw[if_neg e,List.getElem?_set_ne (fun e2=>e e2.symm)]
theorem SG(hw:w < m.aa.length){v:Nat}(e:v≠w):(eV aU m w).who v=m.who v:=by
 have key: ∀q,(m.aa.set w q).getD v ae.z=m.who v:=fun q=>by rw[gl hw,if_neg e]
 unfold eV iP oW sX rE rH
 repeat' split
 all_goals exact key _
theorem X5(hw:w < m.aa.length):((eV aU m w).who w).program=(m.who w).program∧((eV aU m w).who w).pending=(m.who w).pending∧((eV aU m w).who w).own=(m.who w).own:=by
 have key: ∀q:P,q.program=(m.who w).program→q.pending=(m.who w).pending→q.own=(m.who w).own→((m.aa.set w q).getD w ae.z).program=(m.who w).program∧((m.aa.set w q).getD w ae.z).pending=(m.who w).pending∧((m.aa.set w q).getD w ae.z).own=(m.who w).own:=fun q h1 h2 h3=>by rw[gl hw,if_pos rfl];exact⟨h1,h2,h3⟩
 unfold eV iP oW sX rE rH
 repeat' split
 all_goals exact key _ rfl rfl rfl
theorem G':(eV aU m w).events=m.events:=by
 unfold eV iP oW sX rE rH
 repeat' split
 all_goals rfl
theorem X6:(eV aU m w).aa.length=m.aa.length:=by
 unfold eV iP oW sX rE rH
 repeat' split
 all_goals exact List.length_set
def had(l:List Event)(w:Nat):Nat:=l.countP fun e=>decide (e.who=(w:Int))&&decide (e.kind=0)
theorem MD(a b:List Event)(w:Nat):had (a++b) w=had a w+had b w:=List.countP_append
structure A(P0:List (List Ask))(m:M):Prop where
 pl:m.aa.length=P0.length
 pr: ∀w,w < P0.length→∃d,(m.who w).program=(P0.getD w []).drop d∧d≤(P0.getD w []).length∧had m.events w=d
theorem A.mem{P0:List (List Ask)}(h:A P0 m)(hw:w < P0.length){a:Ask}(ha:a∈(m.who w).program):a∈P0.getD w []:=by
 obtain⟨d,h1,_⟩:=h.pr w hw
 rw[h1]at ha
 exact List.mem_of_mem_drop ha
theorem ahR{P0:List (List Ask)}(h:A P0 m)(hw:w < P0.length)(hk: ∀a∈P0.getD w [],a.kind≠0)(hne:(m.who w).pending=true→(m.who w).program≠ []):A P0 (iG aU m w):=by
 have hpl:=h.pl
 have hw':w < m.aa.length:=by omega
 unfold iG
 split
 ·split
  ·exact h
  ·rename_i h1
   have hkn:m.kind w≠0:=by
    unfold M.kind
    cases hh:(m.who w).program with
    |nil=>exact(h1 hh).elim
    |cons a r=>exact hk a (h.mem hw (by rw[hh];exact .head _))
   refine⟨by simpa[jP]using hpl,fun v hv=>?_⟩
   obtain⟨d,g1,g2,g3⟩:=h.pr v hv
   refine⟨d,?_,g2,?_⟩
   ·show((m.aa.set w _).getD v ae.z).program=_
    rw[gl hw']
    split
    ·rename_i e;subst e;exact g1
    ·exact g1
   ·show had (m.events++_) v=_
    rw[MD,g3]
    simp[had,hkn]
 ·rename_i h1
  have hp:(m.who w).pending=true:=by simpa using h1
  split
  ·refine⟨by simpa[Dd]using hpl,fun v hv=>?_⟩
   obtain⟨d,g1,g2,g3⟩:=h.pr v hv
   by_cases e:v=w
   ·subst e
    have hl:d < (P0.getD v []).length:=by
     have:=hne hp
     rw[g1]at this
     apply Classical.byContradiction
     intro h5
     exact this (List.drop_eq_nil_of_le (by omega))
    refine⟨d+1,?_,hl,?_⟩
    ·show((m.aa.set v _).getD v ae.z).program=_
     rw[gl hw',if_pos rfl]
     show(m.who v).program.drop 1=_
     rw[g1,List.drop_drop]
    ·show had (m.events++_) v=_
     rw[MD,g3]
     simp[had]
   ·refine⟨d,?_,g2,?_⟩
    ·show((m.aa.set w _).getD v ae.z).program=_
     rw[gl hw',if_neg e];exact g1
    ·show had (m.events++_) v=_
     rw[MD,g3]
     have: ¬(w:Int)=(v:Int):=by omega
     simp[had,this]
  ·refine⟨by rw[X6];exact hpl,fun v hv=>?_⟩
   obtain⟨d,g1,g2,g3⟩:=h.pr v hv
   refine⟨d,?_,g2,by rw[G'];exact g3⟩
   by_cases e:v=w
   ·subst e;rw[(X5 hw').1];exact g1
   ·rw[SG hw' e];exact g1
end
end Sp
namespace Sp
open Ob
structure iH(types:List Int)(aa:List (List Ask)):Prop where
 ty:1≤types.length∧types.length≤4∧∀x∈types,1≤x∧x≤5
 pW:aa.length≤8
 ask: ∀l∈aa,∀a∈l,(0≤a.aj∧a.aj < types.length)∧dz (types.getD a.aj.toNat 0) a.kind a.arg
theorem sU{t k n:Int}:dz t k n↔(t≠0∧t8 k=t)∧(((k=2∨k=4∨k=6∨k=10)→n=0)∧(¬(k=2∨k=4∨k=6∨k=10)→gH n)):=by unfold dz;exact⟨fun h=>⟨⟨h.1,h.2.1⟩,h.2.2⟩,fun h=>⟨h.1.1,h.1.2,h.2⟩⟩
theorem mJ{N:Nat}(hN:5000 < N){types:List Int}{aa:List (List Ask)}(hl: ∀l∈aa,l.length < N∧l.length≤9223372036854775807):Wp (dw N types aa) fun e=>e=0→iH types aa:=by
 unfold dw
 refine .seq (Hs.uW (by omega)) fun r _ hr=> .cond (fun _=> .one (by simp)) fun hc=>?_
 simp only[Bool.or_eq_false_iff,Bool.not_eq_false',decide_eq_true_eq,decide_eq_false_iff_not]at hc
 obtain⟨rfl,h8⟩:=hc
 have hT:=hr rfl
 have h8:aa.length≤8:=by omega
 refine .seq (P:=fun _=>True) (.iter aa.length (fun k st=>st.2=(k:Int)) (by omega) rfl ?_ ?_) fun n _ _=> .cond (fun _=> .one (by simp)) fun _=>?_
 ·rintro k ⟨n,v⟩ hk hv
  simp only at hv
  subst hv
  simp only[ey]
  exact .bg (decide_eq_true (by omega)) (.ix hk (.bK (by omega) (.one (by simp))))
 ·rintro⟨n,v⟩ hv
  simp only at hv
  subst hv
  simp only[ey]
  exact .aL (decide_eq_false (by omega)) (.one trivial)
 refine .elim (P:=fun t=>match t with| .inl _=>∀l∈aa,∀a∈l,(0≤a.aj∧a.aj < types.length)∧dz (types.getD a.aj.toNat 0) a.kind a.arg| .inr r=>r≠0)
  (.iter aa.length (fun k v=>v=(k:Int)∧∀j,j < k→∀a∈aa.getD j [],(0≤a.aj∧a.aj < types.length)∧dz (types.getD a.aj.toNat 0) a.kind a.arg) (by omega) ⟨rfl,fun j h=>absurd h (Nat.not_lt_zero _)⟩ ?_ ?_) (fun _ _ h=> .one fun _=>⟨hT,h8,h⟩) (fun r _ h=> .one fun e=>(h e).elim)
 ·rintro k v hk ⟨rfl,hI⟩
  simp only[fE]
  refine .bg (decide_eq_true (by omega)) ?_
  have hlk:=hl aa[k] (List.getElem_mem hk)
  refine .elim (P:=fun t=>match t with| .inl _=>∀a∈aa[k],(0≤a.aj∧a.aj < types.length)∧dz (types.getD a.aj.toNat 0) a.kind a.arg| .inr r=>r≠0) (.ix hk ?_) (fun _ _ h=> .bK (by omega) (.one ⟨by simp,fun j hj=>?_⟩)) (fun r _ h=> .one h)
  ·refine .iter aa[k].length (fun i v=>v=(i:Int)∧∀j,j < i→(0≤(aa[k].getD j Ask.z).aj∧(aa[k].getD j Ask.z).aj < types.length)∧dz (types.getD (aa[k].getD j Ask.z).aj.toNat 0) (aa[k].getD j Ask.z).kind (aa[k].getD j Ask.z).arg) hlk.1 ⟨rfl,fun j h=>absurd h (Nat.not_lt_zero _)⟩ ?_ ?_
   ·rintro i v hi ⟨rfl,hJ⟩
    simp only[fD]
    refine .bg (decide_eq_true (by omega)) (.fL Ask.z (by omega) (by omega) ?_)
    simp only[Int.toNat_natCast]
    obtain⟨A,hA⟩: ∃A,aa[k].getD i Ask.z=A:=⟨_,rfl⟩
    simp only[hA]
    by_cases h1:0≤A.aj∧A.aj < types.length
    ·have e1:(decide (A.aj < 0)||decide ((types.length:Int)≤A.aj))=false:=by simp;omega
     rw[e1]
     refine .bD (a:=types.getD A.aj.toNat 0) ((et rfl).trans (by rw[wk h1.1 h1.2,aW])) ?_
     refine .bD (a:=decide (types.getD A.aj.toNat 0≠0∧t8 A.kind=types.getD A.aj.toNat 0)) ((et rfl).trans (HH ..)) ?_
     by_cases h2:types.getD A.aj.toNat 0≠0∧t8 A.kind=types.getD A.aj.toNat 0
     ·rw[decide_eq_true h2]
      refine .bD (by rw[et (by rfl),pm,LP]) ?_
      by_cases h3:((A.kind=2∨A.kind=4∨A.kind=6∨A.kind=10)→A.arg=0)∧(¬(A.kind=2∨A.kind=4∨A.kind=6∨A.kind=10)→gH A.arg)
      ·rw[decide_eq_true h3]
       refine .aL rfl (.bK (by omega) (.one ⟨by simp,fun j hj=>?_⟩))
       rcases Nat.lt_or_ge j i with h4|h4
       ·exact hJ j h4
       ·obtain rfl:j=i:=by omega
        rw[hA]
        exact⟨h1,sU.2 ⟨h2,h3⟩⟩
      ·rw[decide_eq_false h3]
       exact .bg rfl (.one (by simp))
     ·rw[decide_eq_false h2]
      exact .bD (a:=false) rfl (.bg rfl (.one (by simp)))
    ·have e1:(decide (A.aj < 0)||decide ((types.length:Int)≤A.aj))=true:=by simp;omega
     rw[e1]
     exact .bD (a:=0) rfl (.bD (a:=false) rfl (.bD (a:=false) rfl (.bg rfl (.one (by simp)))))
   ·rintro v ⟨rfl,hJ⟩
    simp only[fD]
    refine .aL (decide_eq_false (by omega)) (.one fun a ha=>?_)
    obtain⟨j,hj,rfl⟩:=List.getElem_of_mem ha
    have:=hJ j hj
    rwa[aW hj]at this
  ·rcases Nat.lt_or_ge j k with h4|h4
   ·exact hI j h4
   ·obtain rfl:j=k:=by omega
    rw[aW hk];exact h
 ·rintro v ⟨rfl,hI⟩
  simp only[fE]
  refine .aL (decide_eq_false (by omega)) (.one fun l hl2=>?_)
  obtain⟨j,hj,rfl⟩:=List.getElem_of_mem hl2
  have:=hI j hj
  rwa[aW hj]at this
theorem E9{N:Nat}(hN:5000 < N)(np:Int)(turns:List Int):Wp (jR N np 300 turns) fun e=>(e=0∧turns.length≤300∧∀t∈turns,0≤t∧t < np)∨(e≠0∧¬(turns.length≤300∧∀t∈turns,0≤t∧t < np)∧(e=2↔¬turns.length≤300)):=by
 unfold jR
 refine .cond (fun h=> .one (.inr ⟨by simp,fun h2=>?_,fun _=>?_,fun _=>rfl⟩)) fun h=>?_
 ·have:=of_decide_eq_true h;omega
 ·have:=of_decide_eq_true h;omega
 have hl:turns.length≤300:=by have:=of_decide_eq_false h;omega
 refine .elim (P:=fun t=>match t with| .inl _=>∀t∈turns,0≤t∧t < np| .inr r=>r=1∧¬ ∀t∈turns,0≤t∧t < np)
  (.iter turns.length (fun k v=>v=(k:Int)∧∀j,j < k→0≤turns.getD j 0∧turns.getD j 0 < np) (by omega) ⟨rfl,fun j h=>absurd h (Nat.not_lt_zero _)⟩ ?_ ?_) (fun _ _ h=> .one (.inl ⟨rfl,hl,h⟩)) (fun r _ h=> .one (.inr ⟨by omega,fun h2=>h.2 h2.2,fun e=>by omega,fun h2=>(h2 hl).elim⟩))
 ·rintro k v hk ⟨rfl,hI⟩
  simp only[j7]
  refine .bg (decide_eq_true (by omega)) (.fL 0 (by omega) (by omega) ?_)
  simp only[Int.toNat_natCast]
  refine .cond (fun h=> .one ⟨rfl,fun h2=>?_⟩) fun h=> .bK (by omega) (.one ⟨by simp,fun j hj=>?_⟩)
  ·have:=h2 (turns.getD k 0) (by rw[aW hk];exact List.getElem_mem hk)
   simp only[Bool.or_eq_true,decide_eq_true_eq]at h
   omega
  ·rcases Nat.lt_or_ge j k with h4|h4
   ·exact hI j h4
   ·obtain rfl:j=k:=by omega
    simp only[Bool.or_eq_false_iff,decide_eq_false_iff_not]at h
    omega
 ·rintro v ⟨rfl,hI⟩
  simp only[j7]
  refine .aL (decide_eq_false (by omega)) (.one fun t ht=>?_)
  obtain⟨j,hj,rfl⟩:=List.getElem_of_mem ht
  have:=hI j hj
  rwa[aW hj]at this
def gf(aU:Int):Int:=if aU=1∨aU=2 then 5 else if aU=3 then 3 else if aU=4 then 2 else 0
theorem D6(N:Nat)(aU:Int):tz N aU=some (gf aU):=by
 unfold tz gf
 by_cases h1:aU=1
 ·subst h1;rfl
 by_cases h2:aU=2
 ·subst h2;rfl
 rw[if_neg (by omega),eH (decide_eq_false h1),bZ,eH (decide_eq_false h2)]
 by_cases h3:aU=3
 ·subst h3;rfl
 rw[if_neg h3,eH (decide_eq_false h3)]
 by_cases h4:aU=4
 ·subst h4;rfl
 rw[if_neg h4,eH (decide_eq_false h4)]
theorem agt{k n:Int}(h:dz 5 k n):k=10:=by
 have h1:=h.2.1
 unfold t8 at h1
 repeat' split at h1
 all_goals omega
theorem agu{k n:Int}(h:dz 3 k n):(k=5∧gH n)∨k=6:=by
 have h1:=h.2.1
 unfold t8 at h1
 have h2:=(sU.1 h).2.2
 by_cases h5:k=5
 ·exact .inl ⟨h5,h2 (by omega)⟩
 refine .inr ?_
 repeat' split at h1
 all_goals omega
theorem agv{k n:Int}(h:dz 2 k n):(k=3∧gH n)∨k=4:=by
 have h1:=h.2.1
 unfold t8 at h1
 have h2:=(sU.1 h).2.2
 by_cases h5:k=3
 ·exact .inl ⟨h5,h2 (by omega)⟩
 refine .inr ?_
 repeat' split at h1
 all_goals omega
theorem agw{aU:Int}{P0:List (List Ask)}(h:iH [gf aU] P0){w:Nat}(hw:w < P0.length){a:Ask}(ha:a∈P0.getD w []):a.aj=0∧dz (gf aU) a.kind a.arg:=by
 have:=h.ask _ (by rw[aW hw];exact List.getElem_mem hw) a ha
 have ht:a.aj=0:=by have:=this.1;simp at this;omega
 refine⟨ht,?_⟩
 have:=this.2
 rw[ht]at this
 exact this
theorem Ut{t k n:Int}(h:dz t k n):k≠0:=by
 intro e
 have h1:=h.2.1
 subst e
 exact h.1 h1.symm
end Sp
namespace Sp
open Ob
def B5(q:P):Prop:=q.pending=true∧q.complete=false
def kl(q:P):Int:=(q.program.getD 0 Ask.z).kind
def qd(q:P):Int:=(q.program.getD 0 Ask.z).arg
abbrev M.act(m:M)(w:Nat):Prop:=B5 (m.who w)
abbrev at_(qs:List Nat)(i:Nat):Int:=((qs.getD i 0:Nat):Int)
def yL(qs:List Nat)(t:Nat)(p:P):Prop:=
 p.item=1∨(p.item=2∧∃i,i≤t∧i < qs.length∧p.x=at_ qs i∧(p.y= -1∨(i+1 < qs.length∧p.y=at_ qs (i+1))))∨(p.item=3∧∃i,i≤t∧i+1 < qs.length∧p.x=at_ qs i∧p.own=at_ qs (i+1))
def yM(qs:List Nat)(h t:Nat)(p:P):Prop:=
 p.item=1∨(p.item=2∧∃i j,i≤h∧i≤j∧j≤t∧j < qs.length∧p.x=at_ qs i∧p.z_=at_ qs j∧((p.y= -1∧i=j)∨(i+1 < qs.length∧p.y=at_ qs (i+1))))
def Ha(m:M)(qs:List Nat)(p:P):Prop:=0≤p.own∧p.own.toNat < m.nodes.length∧p.own.toNat∉qs∧(m.nd p.own).next= -1∧(m.nd p.own).value=qd p
structure Q(m:M)(qs:List Nat)(h t:Nat):Prop where
 ln:t < qs.length
 ht:h≤t
 X7:qs.length≤t+2
 hd:m.head=at_ qs h
 tl:m.tail=at_ qs t
 nd:qs.Nodup
 lt: ∀i∈qs,i < m.nodes.length
 ch: ∀i,i+1 < qs.length→(m.nd (at_ qs i)).next=at_ qs (i+1)
 la:(m.nd (at_ qs (qs.length - 1))).next= -1
 va: ∀i,1≤i→i < qs.length→gH (m.nd (at_ qs i)).value
 en: ∀w,w < m.aa.length→m.act w→m.kind w=3→yL qs t (m.who w)∧((m.who w).item≠3→Ha m qs (m.who w))
 de: ∀w,w < m.aa.length→m.act w→m.kind w=4→yM qs h t (m.who w)
 dj: ∀w v,w < m.aa.length→v < m.aa.length→w≠v→m.act w→m.act v→m.kind w=3→m.kind v=3→(m.who w).item≠3→(m.who v).item≠3→(m.who w).own≠(m.who v).own
theorem qe{qs:List Nat}{x i:Nat}(h:i < qs.length):at_ (qs++[x]) i=at_ qs i:=by
 unfold at_
 rw[List.getD_eq_getElem?_getD,List.getD_eq_getElem?_getD,List.getElem?_append_left h]
theorem HW{qs:List Nat}{x:Nat}:at_ (qs++[x]) qs.length=(x:Int):=by
 unfold at_
 rw[List.getD_eq_getElem?_getD]
 simp
theorem at_mem{qs:List Nat}{i:Nat}(h:i < qs.length):(at_ qs i).toNat∈qs:=by
 unfold at_
 rw[Int.toNat_natCast,aW h];exact List.getElem_mem h
theorem D7{qs:List Nat}(hn:qs.Nodup){i j:Nat}(hi:i < qs.length)(hj:j < qs.length)(h:at_ qs i=at_ qs j):i=j:=by
 unfold at_ at h
 rw[aW hi,aW hj]at h
 exact(List.getElem_inj hn).1 (by omega)
theorem yL.mono{qs:List Nat}{t t':Nat}{p:P}(h:yL qs t p)(ht:t≤t'):yL qs t' p:=by
 rcases h with h|⟨h,i,h1,h2⟩|⟨h,i,h1,h2⟩
 ·exact .inl h
 ·exact .inr (.inl ⟨h,i,by omega,h2⟩)
 ·exact .inr (.inr ⟨h,i,by omega,h2⟩)
theorem yM.mono{qs:List Nat}{h h' t t':Nat}{p:P}(H:yM qs h t p)(hh:h≤h')(ht:t≤t'):yM qs h' t' p:=by
 rcases H with H|⟨H,i,j,h1,h2,h3,h4⟩
 ·exact .inl H
 ·exact .inr ⟨H,i,j,by omega,h2,by omega,h4⟩
theorem yL.more{qs:List Nat}{t x:Nat}{p:P}(h:yL qs t p):yL (qs++[x]) t p:=by
 rcases h with h|⟨h,i,h1,h2,h3,h4⟩|⟨h,i,h1,h2,h3,h4⟩
 ·exact .inl h
 ·refine .inr (.inl ⟨h,i,h1,by simp;omega,by rw[qe h2];exact h3,?_⟩)
  rcases h4 with h4|⟨h4,h5⟩
  ·exact .inl h4
  ·exact .inr ⟨by simp;omega,by rw[qe h4];exact h5⟩
 ·exact .inr (.inr ⟨h,i,h1,by simp;omega,by rw[qe (by omega)];exact h3,by rw[qe h2];exact h4⟩)
theorem yM.more{qs:List Nat}{h t x:Nat}{p:P}(H:yM qs h t p):yM (qs++[x]) h t p:=by
 rcases H with H|⟨H,i,j,h1,h2,h3,h4,h5,h6,h7⟩
 ·exact .inl H
 ·refine .inr ⟨H,i,j,h1,h2,h3,by simp;omega,by rw[qe (by omega)];exact h5,by rw[qe h4];exact h6,?_⟩
  rcases h7 with h7|⟨h7,h8⟩
  ·exact .inl h7
  ·exact .inr ⟨by simp;omega,by rw[qe h7];exact h8⟩
section
variable {aU:Int} {m m':M} {qs:List Nat} {h t w:Nat}
theorem qf{q:P}(hw:w < m.aa.length)(hp:m'.aa=m.aa.set w q)(v:Nat):m'.who v=if v=w then q else m.who v:=by
 show m'.aa.getD v _=_
 rw[hp];exact gl hw
theorem g9(m:M)(w:Nat):m.kind w=kl (m.who w):=rfl
theorem Q.put(H:Q m qs h t)(hw:w < m.aa.length){q:P}(hn:m'.nodes=m.nodes)(hh:m'.head=m.head)(htl:m'.tail=m.tail)(hp:m'.aa=m.aa.set w q)
  (X8:B5 q→kl q=3→yL qs t q∧(q.item≠3→Ha m qs q∧∀v,v < m.aa.length→v≠w→m.act v→m.kind v=3→(m.who v).item≠3→q.own≠(m.who v).own))(hde:B5 q→kl q=4→yM qs h t q):Q m' qs h t:=by
 have hnd: ∀k,m'.nd k=m.nd k:=fun k=>by unfold M.nd;rw[hn]
 have cq:=qf (m:=m) (m':=m') hw hp
 have hl:m'.aa.length=m.aa.length:=by rw[hp,List.length_set]
 have hfree: ∀p,Ha m qs p→Ha m' qs p:=fun p hf=>by unfold Ha at hf⊢;rw[hn,hnd];exact hf
 refine⟨H.ln,H.ht,H.X7,by rw[hh];exact H.hd,by rw[htl];exact H.tl,H.nd,by rw[hn];exact H.lt,fun i hi=>by rw[hnd];exact H.ch i hi,by rw[hnd];exact H.la,fun i h1 h2=>by rw[hnd];exact H.va i h1 h2,fun v hv ha hk=>?_,fun v hv ha hk=>?_,fun u v hu hv huv ha1 ha2 iU hk2 hi1 hi2=>?_⟩
 ·rw[hl]at hv
  rw[M.act,cq]at ha
  rw[g9,cq]at hk
  rw[cq]
  by_cases e:v=w
  ·subst e
   rw[if_pos rfl]at ha hk⊢
   have:=X8 ha hk
   exact⟨this.1,fun hi=>hfree _ (this.2 hi).1⟩
  ·rw[if_neg e]at ha hk⊢
   have:=H.en v hv ha hk
   exact⟨this.1,fun hi=>hfree _ (this.2 hi)⟩
 ·rw[hl]at hv
  rw[M.act,cq]at ha
  rw[g9,cq]at hk
  rw[cq]
  by_cases e:v=w
  ·subst e
   rw[if_pos rfl]at ha hk⊢
   exact hde ha hk
  ·rw[if_neg e]at ha hk⊢
   exact H.de v hv ha hk
 ·rw[hl]at hu hv
  rw[M.act,cq]at ha1 ha2
  rw[g9,cq]at iU hk2
  rw[cq]at hi1 hi2
  rw[cq,cq]
  by_cases e:u=w
  ·subst e
   rw[if_pos rfl]at ha1 iU hi1⊢
   rw[if_neg (fun e=>huv e.symm)]at ha2 hk2 hi2⊢
   exact((X8 ha1 iU).2 hi1).2 v hv (fun e=>huv e.symm) ha2 hk2 hi2
  ·rw[if_neg e]at ha1 iU hi1⊢
   by_cases e2:v=w
   ·subst e2
    rw[if_pos rfl]at ha2 hk2 hi2⊢
    exact fun e3=>((X8 ha2 hk2).2 hi2).2 u hu e ha1 iU hi1 e3.symm
   ·rw[if_neg e2]at ha2 hk2 hi2⊢
    exact H.dj u v hu hv huv ha1 ha2 iU hk2 hi1 hi2
theorem Q.head'(H:Q m qs h t)(h1:h+1≤t):Q (m.D5 (at_ qs (h+1))) qs (h+1) t:=
 ⟨H.ln,h1,H.X7,rfl,H.tl,H.nd,H.lt,H.ch,H.la,H.va,H.en,fun v hv ha hk=>(H.de v hv ha hk).mono (Nat.le_succ h) (Nat.le_refl _),H.dj⟩
theorem Q.tail'(H:Q m qs h t)(h1:t+1 < qs.length):Q (m.tT (at_ qs (t+1))) qs h (t+1):=
 ⟨h1,Nat.le_succ_of_le H.ht,by have:=H.X7;omega,H.hd,rfl,H.nd,H.lt,H.ch,H.la,H.va,fun v hv ha hk=>⟨(H.en v hv ha hk).1.mono (Nat.le_succ t),(H.en v hv ha hk).2⟩,fun v hv ha hk=>(H.de v hv ha hk).mono (Nat.le_refl _) (Nat.le_succ t),H.dj⟩
theorem MF{z nx:Int}{k:Int}(hk:0≤k)(hz:0≤z)(hzl:z.toNat < m.nodes.length):((m.link z nx).nd k)=if k=z then⟨(m.nd z).value,nx⟩else m.nd k:=by
 unfold M.nd M.link
 simp only[List.getD_eq_getElem?_getD]
 by_cases e:k=z
 ·subst e;rw[if_pos rfl];simp[hzl,M.nd]
 ·rw[if_neg e,List.getElem?_set_ne (by omega)]
theorem Q.ahS(H:Q m qs h t)(hw:w < m.aa.length)(ha:m.act w)(hk:m.kind w=3)(hi:(m.who w).item=2)(hx:(m.who w).x=at_ qs t)(hl:t+1=qs.length)(RN:gH (qd (m.who w))):
  Q ((m.gc w (zk (m.who w))).link (m.who w).x (m.who w).own) (qs++[(m.who w).own.toNat]) h t:=by
 obtain⟨_,hfr⟩:=H.en w hw ha hk
 obtain⟨f1,f2,f3,f4,f5⟩:=hfr (by omega)
 have Fu:(m.who w).x.toNat∈qs:=by rw[hx];exact at_mem H.ln
 have hxl:=H.lt _ Fu
 have hx0:0≤(m.who w).x:=by rw[hx];exact Int.natCast_nonneg _
 generalize hm':(m.gc w (zk (m.who w))).link (m.who w).x (m.who w).own=m'
 have hnd: ∀k,0≤k→m'.nd k=if k=(m.who w).x then⟨(m.nd (m.who w).x).value,(m.who w).own⟩else m.nd k:=fun k hk=>by rw[←hm'];exact MF (m:=m.gc w (zk (m.who w))) hk hx0 hxl
 have hp:m'.aa=m.aa.set w (zk (m.who w)):=by rw[←hm'];rfl
 have hnl:m'.nodes.length=m.nodes.length:=by rw[←hm'];simp[M.link,M.gc]
 have cq:=qf (m:=m) (m':=m') hw hp
 have hpl:m'.aa.length=m.aa.length:=by rw[hp,List.length_set]
 have hxv: ∀k,0≤k→(m'.nd k).value=(m.nd k).value:=fun k hk=>by
  rw[hnd k hk];split
  ·rename_i e;rw[e]
  ·rfl
 have h0: ∀i,(0:Int)≤at_ qs i:=fun i=>Int.natCast_nonneg _
 have hno: ∀i,i < qs.length→(m.who w).own≠at_ qs i:=fun i hi e=>f3 (by rw[e];exact at_mem hi)
 refine⟨by simp;omega,H.ht,by simp;omega,?_,?_,?_,?_,?_,?_,?_,?_,?_,?_⟩
 ·rw[qe (by have:=H.ht;have:=H.ln;omega),←H.hd,←hm'];rfl
 ·rw[qe H.ln,←H.tl,←hm'];rfl
 ·rw[List.nodup_append]
  refine⟨H.nd,by simp,fun a ha b hb e=>?_⟩
  rw[List.mem_singleton.1 hb]at e
  exact f3 (e▸ha)
 ·intro i hi
  rw[hnl]
  rcases List.mem_append.1 hi with hi|hi
  ·exact H.lt i hi
  ·rw[List.mem_singleton.1 hi];exact f2
 ·intro i hi
  simp only[List.length_append,List.length_singleton]at hi
  rw[qe (by omega),hnd _ (h0 i)]
  by_cases e:i=t
  ·subst e
   rw[if_pos hx.symm,hl,HW]
   show(m.who w).own=_
   omega
  ·rw[if_neg (fun e2=>e (D7 H.nd (by omega) H.ln (e2.trans hx))),qe (by omega)]
   exact H.ch i (by omega)
 ·have:(qs++[(m.who w).own.toNat]).length - 1=qs.length:=by simp
  rw[this,HW,show(((m.who w).own.toNat:Nat):Int)=(m.who w).own by omega,hnd _ f1,if_neg (fun e=>hno t H.ln (e.trans hx))]
  exact f4
 ·intro i h1 h2
  simp only[List.length_append,List.length_singleton]at h2
  rcases Nat.lt_or_ge i qs.length with g|g
  ·rw[qe g,hxv _ (h0 i)];exact H.va i h1 g
  ·obtain rfl:i=qs.length:=by omega
   rw[HW,show(((m.who w).own.toNat:Nat):Int)=(m.who w).own by omega,hxv _ f1,f5]
   exact RN
 ·intro v hv ha2 hk2
  rw[hpl]at hv
  rw[M.act,cq]at ha2
  rw[g9,cq]at hk2
  rw[cq]
  by_cases e:v=w
  ·subst e
   rw[if_pos rfl]
   refine⟨.inr (.inr ⟨rfl,t,Nat.le_refl _,by simp;omega,by rw[qe H.ln];exact hx,?_⟩),fun hi=>(hi rfl).elim⟩
   rw[hl,HW]
   show(m.who v).own=_
   omega
  ·rw[if_neg e]at ha2 hk2⊢
   obtain⟨g1,g2⟩:=H.en v hv ha2 hk2
   refine⟨g1.more,fun hi2=>?_⟩
   obtain⟨a1,a2,a3,a4,a5⟩:=g2 hi2
   have hne:=H.dj v w hv hw e ha2 ha hk2 hk hi2 (by omega)
   refine⟨a1,by rw[hnl];exact a2,?_,?_,by rw[hxv _ a1];exact a5⟩
   ·intro hm
    rcases List.mem_append.1 hm with hm|hm
    ·exact a3 hm
    ·have:=List.mem_singleton.1 hm
     omega
   ·rw[hnd _ a1,if_neg]
    ·exact a4
    ·intro e3
     exact a3 (by rw[e3,hx];exact at_mem H.ln)
 ·intro v hv ha2 hk2
  rw[hpl]at hv
  rw[M.act,cq]at ha2
  rw[g9,cq]at hk2
  rw[cq]
  by_cases e:v=w
  ·subst e
   rw[if_pos rfl]at hk2
   have:kl (zk (m.who v))=m.kind v:=rfl
   rw[this,hk]at hk2;omega
  ·rw[if_neg e]at ha2 hk2⊢
   exact(H.de v hv ha2 hk2).more
 ·intro u v hu hv huv ha1 ha2 iU hk2 hi1 hi2
  rw[hpl]at hu hv
  rw[M.act,cq]at ha1 ha2
  rw[g9,cq]at iU hk2
  rw[cq]at hi1 hi2
  rw[cq,cq]
  by_cases e:u=w
  ·subst e
   rw[if_pos rfl]at hi1
   exact(hi1 rfl).elim
  ·rw[if_neg e]at ha1 iU hi1⊢
   by_cases e2:v=w
   ·subst e2
    rw[if_pos rfl]at hi2
    exact(hi2 rfl).elim
   ·rw[if_neg e2]at ha2 hk2 hi2⊢
    exact H.dj u v hu hv huv ha1 ha2 iU hk2 hi1 hi2
end
end Sp
end Go.Proofs.YtjdkkabcenohcaaGreatDoor
