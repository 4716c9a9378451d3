/- slices.SortFunc of structs that hold slices, no two of which compare alike: out of XSort. It speaks of every program. -/
import Derived.Test.YtjdkkabcenohcaaGreatDoorSort
set_option linter.unusedVariables false
set_option linter.unusedSimpArgs false
set_option linter.unusedSectionVars false
namespace Go.Proofs.YtjdkkabcenohcaaGreatDoor
open Go.RowKit Go.Sort Go.Shelf
def yP{T:Type}[DecidableEq T](cf:T→T→Int)(xs:List T):Bool:=xs.all fun a=>xs.all fun b=>decide (cf a b < 0)||decide (cf b a < 0)||decide (a=b)
def BM{T:Type}[DecidableEq T](S:T→Bool)[Inhabited (dK S)](cf:T→T→Int)(xs:List T):Option (List T):=
 if xs≠ []∧xs.all S=true∧yP cf xs=true∧xs.length < 4611686018427387904 then some (gI S cf xs)else none
abbrev S2{T:Type}(η:Type)(S:T→Bool):η×T→Bool:=fun p=>S p.2
instance aaI{T:Type}{S:T→Bool}{η:Type}[h:Inhabited (dK S)][h2:Inhabited η]:Inhabited (dK (S2 η S)):=⟨⟨(h2.default,h.default.1),h.default.2⟩⟩
section
variable {T η:Type} [DecidableEq T] {S:T→Bool} [Inhabited (dK S)] [Inhabited η] {cf:T→T→Int}
theorem F'(h:SWO (ltOf fun a b:dK S=>cf a.1 b.1)):SWO (ltOf fun a b:dK (S2 η S)=>cf a.1.2 b.1.2):=by
 obtain⟨h1,h2,h3⟩:=h
 exact⟨fun x=>h1 ⟨x.1.2,x.2⟩,fun x y z a b=>h2 ⟨x.1.2,x.2⟩ ⟨y.1.2,y.2⟩ ⟨z.1.2,z.2⟩ a b,fun x y z a b=>h3 ⟨x.1.2,x.2⟩ ⟨y.1.2,y.2⟩ ⟨z.1.2,z.2⟩ a b⟩
theorem Al: ∀ps:List (η×T),List.zip (ps.map (·.1)) (ps.map (·.2))=ps
 | []=>rfl
 |p::ps=>by rw[List.map_cons,List.map_cons,List.zip_cons_cons,Al ps]
theorem yQ: ∀{hs:List η} {xs:List T},hs.length=xs.length→(List.zip hs xs).map (·.2)=xs
 | [],[],_=>rfl
 |h::hs,x::xs,e=>by rw[List.zip_cons_cons,List.map_cons,yQ (by simpa using e)]
 | [],_::_,e=>by simp at e
 |_::_,[],e=>by simp at e
theorem Lr(hO:SWO (ltOf fun a b:dK S=>cf a.1 b.1)){hs:List η}{xs:List T}(hl:hs.length=xs.length)(hS:xs.all S=true)(hu:yP cf xs=true):
  (gI (S2 η S) (fun a b=>cf a.2 b.2) (List.zip hs xs)).map (·.2)=gI S cf xs∧(gI (S2 η S) (fun a b=>cf a.2 b.2) (List.zip hs xs)).Perm (List.zip hs xs):=by
 have hz:(List.zip hs xs).all (S2 η S)=true:=by
  rw[List.all_eq_true]at hS⊢
  intro p hp
  have:p.2∈(List.zip hs xs).map (·.2):=List.mem_map_of_mem hp
  rw[yQ hl]at this
  exact hS _ this
 obtain⟨p1,q1⟩:=mN (cf:=fun a b:η×T=>cf a.2 b.2) (F' (η:=η) hO) hz
 obtain⟨p2,q2⟩:=mN hO hS
 refine⟨?_,p1⟩
 have p3:((gI (S2 η S) (fun a b=>cf a.2 b.2) (List.zip hs xs)).map (·.2)).Perm (gI S cf xs):=by
  have:=p1.map (·.2)
  rw[yQ hl]at this
  exact this.trans p2.symm
 refine List.Perm.eq_of_pairwise (le:=fun a b=>¬cf b a < 0) (fun a b ha hb h1 h2=>?_) ?_ q2 p3
 ·have ha:a∈xs:=by
   have:=p3.mem_iff.1 ha
   exact p2.mem_iff.1 this
  have hb:b∈xs:=p2.mem_iff.1 hb
  unfold yP at hu
  rw[List.all_eq_true]at hu
  have:=hu a ha
  rw[List.all_eq_true]at this
  have:=this b hb
  simp only[Bool.or_eq_true,decide_eq_true_eq]at this
  rcases this with(h|h)|h
  ·exact(h2 h).elim
  ·exact(h1 h).elim
  ·exact h
 ·rw[List.pairwise_map];exact q1
end
section
variable {P:Program} {ρ:Go.Shelf.Ren}
theorem G9{T η:Type}[DecidableEq T]{S:T→Bool}[Inhabited (dK S)][Inhabited η]{cf:T→T→Int}(Ly:SlLaysF0.n6 P ρ){k:Nat}(aE: ∀w,(isAgg (ρ.t 24)).run P w= .ok true w)(zE: ∀w,(Go.sizeOf (ρ.t 24)).run P w= .ok k w){enc:η→T→List Value}{bb:η→T→List Chunk}(hk: ∀h x,(enc h x).length=k)(h1: ∀h x,∀v∈enc h x,v.oneCell'=true)
  (hO:SWO (ltOf fun a b:dK S=>cf a.1 b.1)){c:Nat}(eg: ∀args w,(callFunc c args).run P w= .ok (.enter c args) w)
  (hcmp: ∀(h h':η) (x y:T),S x=true→S y=true→∀W,Calls P c #[.agg (enc h x).toArray,.agg (enc h' y).toArray] W fun e w'=>e= .returned (.int .i64 (cf x y))∧∃q os',w'=grow (W.drewN q) os')
  {xs res:List T}{hs:List η}(hF:BM S cf xs=some res){A:Option Addr}{cap:Nat}{w0 w:World}{R:List Chunk}(hw:St w0.heap.size w0 ([cN enc bb k A cap (ρ.t 24) hs xs]++R) w):
  Calls P (ρ.f 6) (List.toArray [.slice A xs.length cap,.func (.func c) #[] #[]]) w (fun e w'=>∃hs':List η,(res.length=xs.length)∧e= .returned (.tuple #[])∧St w0.heap.size w0 ([cN enc bb k A cap (ρ.t 24) hs' res]++R) w'):=by
 unfold BM at hF
 by_cases hc:xs≠ []∧xs.all S=true∧yP cf xs=true∧xs.length < 4611686018427387904
 case neg=>rw[if_neg hc]at hF;cases hF
 rw[if_pos hc]at hF
 obtain⟨hne,hS,hu,XO⟩:=hc
 obtain rfl:=Option.some.inj hF
 have hl:hs.length=xs.length:=sy (i:=0) hw rfl
 obtain⟨e1,e2⟩:=Lr (η:=η) hO hl hS hu
 have hzl:(List.zip hs xs).length=xs.length:=by rw[List.length_zip,hl,Nat.min_self]
 have BN:St w0.heap.size w0 ([cR (fun p:η×T=>enc p.1 p.2) k A cap (ρ.t 24) (List.zip hs xs)]++(gk bb hs xs++R)) w:=by
  have:=(bc.AY (L:=R)).at _ _ _ hw
  have e:cR (fun p:η×T=>enc p.1 p.2) k A cap (ρ.t 24) (List.zip hs xs)=cc A cap (ρ.t 24) k xs.length (dP enc hs xs):=by unfold cR dP;rw[hzl]
  rw[List.singleton_append,e];exact this
 have hz:(List.zip hs xs).all (S2 η S)=true:=by
  rw[List.all_eq_true]at hS⊢
  intro p hp
  have:p.2∈(List.zip hs xs).map (·.2):=List.mem_map_of_mem hp
  rw[yQ hl]at this
  exact hS _ this
 have bS:sN (S2 η S) (fun a b=>cf a.2 b.2) (List.zip hs xs)=some (gI (S2 η S) (fun a b=>cf a.2 b.2) (List.zip hs xs)):=by
  unfold sN;rw[if_pos ⟨hz,by omega⟩]
 have vM:=ws (S:=S2 η S) (cf:=fun a b=>cf a.2 b.2) Ly aE zE (enc:=fun p:η×T=>enc p.1 p.2) (fun p=>hk _ _) (fun p=>h1 _ _) (F' (η:=η) hO) eg (fun x y hx hy W=>hcmp x.1 y.1 x.2 y.2 hx hy W) (xs:=List.zip hs xs) (fun e=>hne (by have:=congrArg List.length e;rw[hzl]at this;exact List.eq_nil_of_length_eq_zero this)) bS BN
 rw[hzl]at vM
 generalize gI (S2 η S) (fun a b=>cf a.2 b.2) (List.zip hs xs)=ps at e1 e2 vM
 refine vM.mono fun e w' h=>?_
 obtain⟨_,hlen,he,hst⟩:=h
 refine⟨ps.map (·.1),by rw[←e1,List.length_map,hlen],he,?_⟩
 rw[←e1]
 have hps:cR (fun p:η×T=>enc p.1 p.2) k A cap (ρ.t 24) ps=cc A cap (ρ.t 24) k (ps.map (·.2)).length (dP enc (ps.map (·.1)) (ps.map (·.2))):=by
  unfold cR dP;rw[Al,List.length_map]
 have hpi:(gk bb hs xs++R).Perm (gk bb (ps.map (·.1)) (ps.map (·.2))++R):=by
  refine List.Perm.append_right R ?_
  unfold gk
  rw[Al]
  exact(List.Perm.flatMap_right _ e2.symm)
 have h3:=(bc.trans (.cons (.perm hpi)) (bc.ui (enc:=enc) (bb:=bb) (sz:=k) (A:=A) (cap:=cap) (E:=ρ.t 24) (hs:=ps.map (·.1)) (xs:=ps.map (·.2)) (L:=R) (by simp))).at w0.heap.size w0 w' (by rw[←hps];exact hst)
 exact h3
end
end Go.Proofs.YtjdkkabcenohcaaGreatDoor
