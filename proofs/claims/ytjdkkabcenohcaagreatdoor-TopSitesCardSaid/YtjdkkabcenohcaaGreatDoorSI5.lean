import Derived.Test.YtjdkkabcenohcaaGreatDoorSI4
import Derived.Test.YtjdkkabcenohcaaGreatDoorR1
import Derived.Test.YtjdkkabcenohcaaGreatDoorR0
set_option linter.unusedVariables false
set_option linter.unusedSimpArgs false
set_option linter.unusedSectionVars false
set_option maxRecDepth 100000
namespace Go.Proofs.YtjdkkabcenohcaaGreatDoor
open Go.RowKit
namespace Si
open Hs Sr
theorem adU{a b:bM}(h1:a.stamp=b.stamp)(h2:a.who=b.who):a=b:=by
 cases a;cases b;simp only at h1 h2;rw[h1,h2]
def rk(g:Gh)(i:Nat):Int:=(g.tag i).stamp * 8+(g.tag i).who
def Sg(g:Gh)(i:Nat):Bool:=g.tg i&&(decide ((g.call i).aY≠ -1)||decide ((g.call i).kind=1))
section
variable {N:Nat} {bt:Bool} {np n:Nat} {m:M} {g:Gh}
theorem Li{i:Nat}(h:Sg g i=true):g.tg i=true∧((g.call i).aY≠ -1∨(g.call i).kind=1):=by
 unfold Sg at h
 rw[Bool.and_eq_true,Bool.or_eq_true,decide_eq_true_eq,decide_eq_true_eq]at h
 exact h
theorem Ec(z:Z N bt np n m g){i:Nat}(hi:i < g.c.length)(h:Sg g i=true):(0≤(g.tag i).who∧(g.tag i).who < 8)∧0≤(g.tag i).stamp:=by
 have wr: ∀k,k < g.c.length→g.tg k=true→(g.call k).kind=1→(0≤(g.tag k).who∧(g.tag k).who < 8)∧0≤(g.tag k).stamp:=fun k hk h1 h2=>by
  obtain⟨t1,t2⟩:=z.tw k hk h1 h2
  have:=(z.fr hk).2.2
  rw[t1]
  exact⟨this,by omega⟩
 obtain⟨h1,h2⟩:=Li h
 by_cases hk:(g.call i).kind=1
 ·exact wr i hi h1 hk
 ·rcases(z.dn i hi (h2.resolve_right hk)).2.2.2 hk with⟨h3,_⟩|⟨k,k1,k2,k3,k4,_⟩
  ·rw[h3];exact⟨⟨by decide,by decide⟩,by decide⟩
  ·rw[←k4];exact wr k k1 k2 k3
theorem UE(z:Z N false np n m g):RB g.c (Sg g) (rk g):=by
 have hdn: ∀i,i < g.c.length→(g.call i).aY≠ -1→Sg g i=true:=fun i hi h=>by
  unfold Sg;rw[(z.dn i hi h).1,decide_eq_true h];rfl
 refine⟨hdn,fun a b ha hb h1 h2 h3=>?_,fun a b ha hb h1 h2 k1 k2 e=>?_,fun i hi h1 h2=>?_,fun i hi h1 h2=>?_⟩
 ·obtain⟨t1,t2⟩:=z.ord a b ha hb h1 h2 (.inl rfl) (Li h3).1
  have r1:=Ec z ha (hdn a ha h1)
  have r2:=Ec z hb h3
  unfold rk
  refine⟨?_,fun hk=>?_⟩
  ·unfold iz at t1;omega
  ·have t2:=t2 hk
   unfold iz at t2;omega
 ·have r1:=Ec z ha h1
  have r2:=Ec z hb h2
  unfold rk at e
  exact z.G6 a b ha hb (Li h1).1 (Li h2).1 k1 k2 (adU (by omega) (by omega))
 ·have r1:=Ec z hi h1
  have t:=(z.tw i hi (Li h1).1 h2).2
  refine⟨by unfold rk;omega,fun h=>(z.dn i hi h).2.2.1 h2⟩
 ·rcases(z.dn i hi h1).2.2.2 h2 with⟨h3,h4⟩|⟨k,k1,k2,k3,k4,k5,_⟩
  ·refine .inl ⟨?_,h4⟩
   unfold rk;rw[h3];rfl
  ·refine .inr ⟨k,k1,?_,k3,?_,k5⟩
   ·unfold Sg;rw[k2,decide_eq_true k3];simp
   ·unfold rk;rw[k4]
end
theorem G7{N:Nat}(hN:10000 < N)(hL:jp N=some true)(n:Int)(aa:List (List Ask))(cn:List Act)(hl: ∀l∈aa,l.length < N∧l.length≤9223372036854775807)(ha:cn.length < N∧cn.length≤9223372036854775807)(hq9: ∀q∈aa,q.length≤10000000000000):vA N n aa cn=some true:=by
 refine Wp.eq ?_
 unfold vA
 rcases aaD (by omega) n false cn hl ha with⟨e,he,hP⟩|⟨hP,hn,h8,hok,hlen,hact⟩
 ·refine .bD hP ?_
  dsimp only
  rw[decide_eq_false he]
  exact .bD (a:=true) (Wp.eq (.bD hL (.aL rfl (.one rfl)))) (.one rfl)
 have h12:=aaF (by omega) hl hq9 ha hP h8
 obtain⟨g,A,hr,_⟩:=Yo (zz0 N false (n:=n.toNat) h8 (by omega) (adT hok)) hact
 obtain⟨r0,_⟩:=agY n.toNat aa
 rw[r0]at hr
 have hg:g.c.length≤12:=by
  have:([]:List Call).length=0:=rfl
  simp only[this]at hr
  omega
 refine .bD hP ?_
 generalize run false (m0 n.toNat aa) cn=X at A⊢
 have R:=A.z.run
 have h3:=R.wf.cnt
 have h4:=List.countP_le_length (p:=fun c:Call=>!decide (c.aY= -1)) (l:=g.c)
 have h2:X.events.length≤200:=by omega
 have hA:=XT R
 have hft:=af_ R
 have ht:=bn (N:=N) (by omega)
 have hs:jN N [1] X.events=some true:=by
  refine Vd.Mu hN ht h2 R (fun h9=>?_) (fun _=>?_) fun S _ hS=>?_
  ·have hc9:=G0 (nN (by omega) ht h2 R) h9
   obtain⟨rel,C⟩:=cx9 (VK (by omega) hc9) (by omega:300 < N)
   exact adm C hA hft (UE A.z)
  ·exact⟨fun _=>Vd.Rq (by omega) _,fun e=>absurd (show(1:Int)=2 from e) (by decide),fun e=>absurd (show(1:Int)=5 from e) (by decide),fun e=>absurd (show(1:Int)=4 from e) (by decide)⟩
  ·rcases hS with⟨_,q,hq,rfl⟩|⟨e,_⟩|⟨e,_⟩|⟨e,_⟩|⟨e,_⟩
   ·exact .inr ⟨_,rfl,Vd.DY fun h0=>Zo.ezr (by omega) ht h2 R (UE A.z) hq h0⟩
   ·exact absurd (show(1:Int)=2 from e) (by decide)
   ·exact absurd (show(1:Int)=5 from e) (by decide)
   ·exact absurd (show(1:Int)=4 from e) (by decide)
   ·exact absurd rfl e
 exact .bD (a:=true) (Wp.eq (.bD hL (.bg rfl (.bD hs (.one rfl))))) (.one rfl)
theorem BZ:jp 18446744073709551616=some true:=by kernel_rfl
end Si
end Go.Proofs.YtjdkkabcenohcaaGreatDoor
