import Derived.Test.YtjdkkabcenohcaaGreatDoorP6
import Derived.Test.YtjdkkabcenohcaaGreatDoorP9
set_option linter.unusedVariables false
set_option linter.unusedSimpArgs false
set_option linter.unusedSectionVars false
set_option maxRecDepth 100000
namespace Go.Proofs.YtjdkkabcenohcaaGreatDoor
open Go.RowKit
namespace Sr
open Rl Hs
theorem cx9{N:Nat}{types:List Int}{l:List Event}{c:List Call}(H:Hc N types l c)(hN:300 < N): ∃rel,Cx types c rel (fg c):=by
 have hf:=H.pW
 obtain⟨a,_,ha⟩:=Qj hN (c:=c) (by omega)
 exact⟨_,Ol (n:=a.1) H.his (by omega) ha.2.2⟩
theorem G0{N:Nat}{types:List Int}{l:List Event}{c:List Call}(h:cB N types l=some (c,0,0))(hl:c.length≤9):gW N types l=some (c,0):=by
 unfold gW
 rw[ahc h]
 exact(eH rfl).trans (eH (decide_eq_false (by simp only;omega)))
theorem VK{N:Nat}(hN:300 < N){types:List Int}{l:List Event}{c:List Call}(h:gW N types l=some (c,0)):Hc N types l c:=by
 obtain⟨r,h1,h2⟩:=Cs hN types l
 rw[h]at h1
 cases h1
 rcases h2 with⟨_,H,_⟩|⟨h,_⟩
 ·exact H
 ·exact(h rfl).elim
theorem BU{N:Nat}{types:List Int}{l:List Event}{k:Nat}{c:List Call}{op:List Int}(R:ex N types l k c op){m:Nat}(hm:m < c.length):Ob.dz (types.getD (c.getD m Call.z).aj.toNat 0) (c.getD m Call.z).kind (c.getD m Call.z).arg:=by
 have O:=R.wf.one m hm
 have a1:=(w_ R m hm).1
 rw[Ob.pm]at a1
 refine⟨O.fit.1,O.fit.2,fun h=>?_,fun h=>?_⟩
 ·rw[if_pos h]at a1
  simpa using a1
 ·rw[if_neg h]at a1
  have:1≤(c.getD m Call.z).arg∧(c.getD m Call.z).arg≤1000:=by simpa using a1
  exact this
end Sr
namespace Hs
end Hs
namespace Sr
open Rl Hs
structure DU(c:List Call)(s:Step):Prop where
 eJ:0≤s.call∧s.call < c.length
 res:(c.getD s.call.toNat Call.z).aY≠ -1→s.res=(c.getD s.call.toNat Call.z).res
def T9(q:Nat→Nat→Bool)(a b:Step):Prop:=a.call≠b.call∧q b.call.toNat a.call.toNat=false
theorem VN{c:List Call}{q:Nat→Nat→Bool}: ∀{t:List Step} {w:List Nat},Ac c q w t↔(∀s∈t,DU c s∧s.call.toNat∉w∧∀j∈w,q s.call.toNat j=false)∧t.Pairwise (T9 q)
 | [],w=>by simp[Ac]
 |s::t,w=>by
  constructor
  ·rintro⟨i,h1,h2,h3,h4,h5,h6⟩
   obtain⟨g1,g2⟩:=VN.1 h6
   have e:s.call.toNat=i:=by omega
   refine⟨fun x hx=>?_,List.pairwise_cons.2 ⟨fun x hx=>?_,g2⟩⟩
   ·rcases List.mem_cons.1 hx with rfl|hx
    ·exact⟨⟨by omega,by rw[e];exact h5⟩,by rw[e];exact h3,by rw[e];exact h4⟩
    ·obtain⟨a1,a2,a3⟩:=g1 x hx
     exact⟨a1,fun h=>a2 (List.mem_append.2 (.inl h)),fun j hj=>a3 j (List.mem_append.2 (.inl hj))⟩
   ·obtain⟨a1,a2,a3⟩:=g1 x hx
    refine⟨fun h=>a2 (by rw[←h,e];simp),?_⟩
    rw[e];exact a3 i (by simp)
  ·rintro⟨g1,g2⟩
   obtain⟨g2,g3⟩:=List.pairwise_cons.1 g2
   obtain⟨a1,a2,a3⟩:=g1 s (.head _)
   have:=a1.eJ
   refine⟨s.call.toNat,by omega,by omega,a2,a3,a1.res,VN.2 ⟨fun x hx=>?_,g3⟩⟩
   obtain⟨b1,b2,b3⟩:=g1 x (.tail _ hx)
   have b4:=g2 x hx
   have:=b1.eJ
   refine⟨b1,fun h=>?_,fun j hj=>?_⟩
   ·rcases List.mem_append.1 h with h|h
    ·exact b2 h
    ·have:=List.mem_singleton.1 h;exact b4.1 (by omega)
   ·rcases List.mem_append.1 hj with h|h
    ·exact b3 j h
    ·rw[List.mem_singleton.1 h];exact b4.2
theorem XI{c:List Call}{q:Nat→Nat→Bool}{t:List Step}:Ac c q [] t↔(∀s∈t,DU c s)∧t.Pairwise (T9 q):=by
 rw[VN]
 exact⟨fun⟨h1,h2⟩=>⟨fun s hs=>(h1 s hs).1,h2⟩,fun⟨h1,h2⟩=>⟨fun s hs=>⟨h1 s hs,(nomatch ·),fun j hj=>(nomatch hj)⟩,h2⟩⟩
end Sr
namespace Sr
open Rl Hs
variable {N:Nat} {types:List Int} {g:Int→Int→Int→Bool} {p:List Event} {k:Nat} {out out':List Call} {op op':List Int} {idx pos:List Nat}
end Sr
end Go.Proofs.YtjdkkabcenohcaaGreatDoor
