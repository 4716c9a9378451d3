/- Maps from numbers to slices that are the map's own; a range over such a map, whose outcome hangs on no order. It speaks of every program. -/
import Derived.Test.YtjdkkabcenohcaaGreatDoorBor
import Derived.Test.YtjdkkabcenohcaaGreatDoorShelf
import Derived.Laws.IdiomRangeMap
set_option linter.unusedVariables false
set_option linter.unusedSimpArgs false
set_option linter.unusedSectionVars false
namespace Go.Proofs.YtjdkkabcenohcaaGreatDoor
open Go.RowKit
section
variable {α ρ:Type}
def JM:List (Option (Unit ⊕ ρ))→Option (List ρ)
 | []=>some []
 |none::_=>none
 |some (.inl _)::r=>JM r
 |some (.inr x)::r=>(JM r).map (x:: ·)
def aaJ [DecidableEq ρ](body:Option α→Option (Unit ⊕ ρ))(m:List α):Option ρ:=
 match JM (m.map fun a=>body (some a))with
 |none=>none
 |some []=>match body none with
  |some (.inr x)=>some x
  |_=>none
 |some (x::r)=>if r.all (fun y=>decide (y=x))=true then some x else none
variable [DecidableEq ρ] {body:Option α→Option (Unit ⊕ ρ)} {m:List α} {o:ρ}
end
variable {P:Program} {n:Nat} {base:Nat} {w0 w:World} {L:List Chunk} {e:Env}
variable {ops rest:List Oper} {Q:Exit→Act→World→Prop} {d:Nat} {D:Option Tmp} {op:Op} {t:TypeId} {pos:String} {af:Array Edge} {G:Option (Nat×Bool)} {v u:Value} {x y z:Operand} {K:Act→World→Prop}
theorem Gu{b s c:Nat}{m:Option Nat}{sn:Array Nat}(hb:w.heap[b]? =some (.mapIter m s sn c)):(getObj b).run P w= .ok (.mapIter m s sn c) w:=by
 simp[getObj,Sem.run,hb]
theorem Nz{b s c:Nat}{m:Option Nat}{sn:Array Nat}{o':Obj}(hb:w.heap[b]? =some (.mapIter m s sn c)):(setObj b o').run P w= .ok () {w with heap:=w.heap.setIfInBounds b o'}:=by
 simp[setObj,Sem.run,hb]
theorem NA{es:Array MapEntry}{sn:Array Nat}{clock:Nat}(h: ∀x∈es.toList,x.born < clock):(Go.leftOf es sn).filter (fun x=>decide (x.born < clock))=Go.leftOf es sn∧(Go.leftOf es sn).filter (fun x=>decide (x.born≥clock))= #[]:=by
 have hm: ∀x∈(Go.leftOf es sn).toList,x.born < clock:=fun x hx=>h x (Go.mem_left hx).1
 refine⟨Array.filter_eq_self.2 fun x hx=>by simpa using hm x (by simpa using hx),?_⟩
 rw[Array.filter_eq_empty_iff]
 intro x hx
 have:=hm x (by simpa using hx)
 simp only[ge_iff_le,decide_eq_true_eq,Nat.not_le]
 exact this
theorem LB{ty:TypeId}{r b clock:Nat}{es:Array MapEntry}{sn:Array Nat}(hr:w.heap[r]? =some (.mapIter (some b) clock sn clock))(hb:w.heap[b]? =some (.map es clock))(hst:Go.MapKept.Stamped es clock):
  ((∀x∈es.toList,sn.contains x.born=true)∧(Instr.next (.pointer (some ⟨r,0,none⟩)) false ty).run P w= .ok (.tuple #[.bool false]) w)∨
  ∃x∈es.toList,sn.contains x.born=false∧∃w1,(w1=w∨w1=w.drew)∧(Instr.next (.pointer (some ⟨r,0,none⟩)) false ty).run P w= .ok (.tuple #[.bool true,x.key,x.val]) {w1 with heap:=w1.heap.setIfInBounds r (.mapIter (some b) clock (sn.push x.born) clock)}:=by
 have hold:=((Go.MapKept.stamped_iff _ _).1 hst).1
 obtain⟨e1,e2⟩:=NA (sn:=sn) hold
 have ht:=Go.next_test_false sn es clock clock hold (Nat.le_refl _)
 have hfl:es.filter (fun e=>!sn.contains e.born)=Go.leftOf es sn:=rfl
 simp only[Instr.next,Sem.run_bind,Gu hr,mb hb,Result.andThen_ok,ht,Bool.false_eq_true,if_false,hfl,e1,e2,Array.append_empty]
 by_cases h0:(Go.leftOf es sn).size=0
 ·left
  have hL:Go.leftOf es sn= #[]:=Array.eq_empty_of_size_eq_zero h0
  refine⟨fun x hx=>?_,?_⟩
  ·cases hc:sn.contains x.born with
   |true=>rfl
   |false=>
    have:x∈Go.leftOf es sn:=Array.mem_filter.2 ⟨Array.mem_toList_iff.1 hx,by rw[hc];rfl⟩
    rw[hL]at this
    simp at this
  ·rw[hL]
   simp[choose,Sem.run,Question.forced]
 ·right
  have hne:(Go.leftOf es sn).isEmpty=false:=by simp[Array.isEmpty,h0]
  simp only[hne,Bool.false_eq_true,if_false,Array.empty_append,Array.size_map]
  have hch: ∃(j:Nat) (w1:World),j < (Go.leftOf es sn).size∧(w1=w∨w1=w.drew)∧(choose (Question.mapNext (Go.leftOf es sn).size)).run P w= .ok j w1:=by
   by_cases hf:(Go.leftOf es sn).size≤1
   ·exact⟨0,w,by omega,.inl rfl,by simp[choose,Sem.run,Question.forced,hf]⟩
   ·exact⟨_,w.drew,Nat.mod_lt _ (by omega),.inr rfl,by
     simp only[choose,Sem.run,Question.forced,decide_eq_true_eq,hf,if_false,Question.cut]
     rfl⟩
  obtain⟨j,w1,hj,hal,hrun⟩:=hch
  have hmem:(Go.leftOf es sn)[j]∈(Go.leftOf es sn).toList:=by simp
  obtain⟨h1,h2⟩:=Go.mem_left hmem
  have sP:w1.heap[r]? =some (.mapIter (some b) clock sn clock):=by rcases hal with rfl|rfl<;>exact hr
  refine⟨_,h1,h2,w1,hal,?_⟩
  simp only[hrun,Array.getElem?_map,Array.getElem?_eq_getElem hj,Option.map_some,Sem.run_bind,Nz sP,Result.andThen_ok]
  rfl
theorem JN{r b clock:Nat}{es:Array MapEntry}{sn:Array Nat}{en:MapEntry}(hr:w.heap[r]? =some (.mapIter (some b) clock (sn.push en.born) clock))(hb:w.heap[b]? =some (.map es clock))(hst:Go.MapKept.Stamped es clock)(he:en∈es.toList):
  (Instr.entry (.pointer (some ⟨r,0,none⟩))).run P w= .ok (.tuple #[en.key,en.val]) w:=by
 have hf:es.find? (·.born==en.born)=some en:=by rw[←Array.find?_toList];exact Go.find_born en es.toList ((Go.MapKept.stamped_iff _ _).1 hst).2.1 he
 simp only[Instr.entry,Sem.run_bind,Gu hr,mb hb,Result.andThen_ok,Array.back?_push,bne_self_eq_false,Bool.false_eq_true,if_false,hf]
 rfl
theorem WO.next{ty:TypeId}{r b clock i j:Nat}{es:Array MapEntry}{sn:Array Nat}(hst:Go.MapKept.Stamped es clock)(hx:ap n e x (.pointer (some ⟨r,0,none⟩)))(hi:L[i]? =some (ig b (.map es clock)))(hj:L[j]? =some (ig r (.mapIter (some b) clock sn clock)))(hd:Nat.blt d n=true)
  (h0:(∀x∈es.toList,sn.contains x.born=true)→KK n base w0 ((d,.tuple #[.bool false])::e) L K)
  (h1: ∀en∈es.toList,sn.contains en.born=false→KK n base w0 ((d,.tuple #[.bool true,en.key,en.val])::e) (L.set j (ig r (.mapIter (some b) clock (sn.push en.born) clock))) K):
  WO P ops n base w0 e L ⟨some d,.next x false,ty,pos,af,none⟩ K Q:=by
 refine WO.of_run rfl fun a w ha hw=>?_
 have hrr:w.heap[r]? =some (.mapIter (some b) clock sn clock):=hw.obj hj
 have hbb:w.heap[b]? =some (.map es clock):=hw.obj hi
 rcases LB (P:=P) (ty:=ty) hrr hbb hst with⟨hall,hrun⟩|⟨en,he,hn,w1,hw1,hrun⟩
 ·have hr:(execOp a.eval ⟨some d,.next x false,ty,pos,af,none⟩).run P w= .ok (.value (.tuple #[.bool false])) w:=by
   simp[execOp,hx a ha,hrun]
  unfold Oper.wp
  rw[hr]
  exact h0 hall _ _ (ha.put d _ hd) hw
 ·have hr:(execOp a.eval ⟨some d,.next x false,ty,pos,af,none⟩).run P w= .ok (.value (.tuple #[.bool true,en.key,en.val])) {w1 with heap:=w1.heap.setIfInBounds r (.mapIter (some b) clock (sn.push en.born) clock)}:=by
   simp[execOp,hx a ha,hrun]
  unfold Oper.wp
  rw[hr]
  have hs1:St base w0 L w1:=by
   rcases hw1 with rfl|rfl
   ·exact hw
   ·exact hw.drew
  have hlt:r < w1.heap.size:=(Array.getElem?_eq_some_iff.1 (hs1.obj hj)).1
  refine h1 en he hn _ _ (ha.put d _ hd) (hs1.Hi hj rfl rfl rfl rfl rfl (by simp) (fun k hk=>by simp[Array.getElem?_setIfInBounds_ne (Ne.symm hk)]) ?_)
  show((some r).bind fun q=>(w1.heap.setIfInBounds r _)[q]?)=_
  simp[hlt]
theorem Y.entry{r b clock i j:Nat}{es:Array MapEntry}{sn:Array Nat}{en:MapEntry}(hst:Go.MapKept.Stamped es clock)(he:en∈es.toList)(hk:en.key=u)(hv:en.val=v)(hx:ap n e x (.pointer (some ⟨r,0,none⟩)))(hi:L[i]? =some (ig b (.map es clock)))(hj:L[j]? =some (ig r (.mapIter (some b) clock (sn.push en.born) clock))):
  Yd P n base w0 e L ⟨D,.entry x,t,pos,af,G⟩ (.tuple #[u,v]):=by
 intro a w ha hw
 have:=JN (P:=P) (hw.obj hj) (hw.obj hi) hst he
 simp[execOp,hx a ha,this,hk,hv]
def rT{α ρ:Type}(body:Option α→Option (Unit ⊕ ρ))(es:Array MapEntry)(m:List α)(sn:Array Nat):Prop:=
 ∀(i:Nat) x p,es.toList[i]? =some x→m[i]? =some p→sn.contains x.born=true→body (some p)=some (.inl ())
theorem rT.zero{α ρ:Type}{body:Option α→Option (Unit ⊕ ρ)}{es:Array MapEntry}{m:List α}:rT body es m #[]:=fun i x p _ _ h=>by simp at h
theorem rT.step{α ρ:Type}{body:Option α→Option (Unit ⊕ ρ)}{es:Array MapEntry}{m:List α}{sn:Array Nat}{clock:Nat}(h:rT body es m sn)(hst:Go.MapKept.Stamped es clock){i:Nat}{x:MapEntry}{p:α}(hx:es.toList[i]? =some x)(hp:m[i]? =some p)(hb:body (some p)=some (.inl ())):rT body es m (sn.push x.born):=by
 intro i' x' p' hx' hp' hs
 rw[Go.contains_push]at hs
 by_cases hc:sn.contains x'.born=true
 ·exact h i' x' p' hx' hp' hc
 ·have he:x'.born=x.born:=by
   rcases(Bool.or_eq_true _ _).mp hs with h2|h2
   ·exact absurd h2 hc
   ·exact beq_iff_eq.1 h2
  have hn:=((Go.MapKept.stamped_iff _ _).1 hst).2.1
  have h1:(es.toList.map (·.born))[i]? =some x.born:=by rw[List.getElem?_map,hx];rfl
  have h2:(es.toList.map (·.born))[i']? =some x.born:=by rw[List.getElem?_map,hx',←he];rfl
  obtain rfl:i=i':=(List.getElem?_inj (List.getElem?_eq_some_iff.1 h1).1 hn).1 (h1.trans h2.symm)
  rw[hp]at hp'
  obtain rfl:=Option.some.inj hp'
  exact hb
theorem rT.all{α ρ:Type}{body:Option α→Option (Unit ⊕ ρ)}{es:Array MapEntry}{m:List α}{sn:Array Nat}(h:rT body es m sn)(hl:es.toList.length=m.length)(ha: ∀x∈es.toList,sn.contains x.born=true): ∀p∈m,body (some p)=some (.inl ()):=by
 intro p hp
 obtain⟨i,hi,rfl⟩:=List.mem_iff_getElem.1 hp
 have hi':i < es.toList.length:=by omega
 exact h i _ _ (List.getElem?_eq_getElem hi') (List.getElem?_eq_getElem hi) (ha _ (List.getElem_mem hi'))
section
variable {α:Type} {enc:α→List Value} {sz E:Nat}
abbrev HS(α:Type):=Hd×List α
def X3(q:HS α):Value:= .slice q.1.1 q.2.length q.1.2
def CU(hs:List Hd)(m:List (Int×List α)):List (Int×HS α):=List.zipWith (fun h p=>(p.1,(h,p.2))) hs m
def Vb(enc:α→List Value)(sz E:Nat)(q:Int×HS α):List Chunk:=[cR enc sz q.2.1.1 q.2.1.2 E q.2.2]
def cMN(enc:α→List Value)(sz E:Nat)(b:Nat)(hs:List Hd)(m:List (Int×List α)):Chunk:=
 jR (cM X3 (some b) (CU hs m)::cF (hs.length=m.length)::(CU hs m).flatMap (Vb enc sz E))
def Vc{β:Type}:List (Int×β)→Int→List (Int×β)
 | [],_=>[]
 |(a,v)::r,k=>if a=k then r else(a,v)::Vc r k
def cMH(enc:α→List Value)(sz E:Nat)(b:Nat)(hs:List Hd)(m:List (Int×List α))(k:Int):Chunk:=
 jR (cM X3 (some b) (CU hs m)::cF (hs.length=m.length)::(Vc (CU hs m) k).flatMap (Vb enc sz E))
def aaO(hs:List Hd)(m:List (Int×List α))(k:Int):Hd:=((cY (CU hs m) k).getD ((none,0),[])).1
def aaP(hs:List Hd)(m:List (Int×List α))(k:Int)(h:Hd)(ys:List α):List Hd:=(fM (CU hs m) k (h,ys)).map (·.2.1)
variable {hs:List Hd} {m:List (Int×List α)} {b i k' T KT TE:Nat} {k:Int} {xs ys:List α}
end
theorem WR{α β γ:Type}{f:α→γ}{g:β→γ}{x:α}{r:γ}(h:Sum.elim f g (Sum.inl x)=r):f x=r:=h
theorem W.aF{c1 c2:Code}(hx:ap n e x (.bool true))(h:W P n base w0 e L c1 Q):W P n base w0 e L (.cond x c1 c2) Q:=W.cond hx (fun _=>h) (fun h=>nomatch h)
theorem W.aw{c1 c2:Code}(hx:ap n e x (.bool false))(h:W P n base w0 e L c2 Q):W P n base w0 e L (.cond x c1 c2) Q:=W.cond hx (fun h=>nomatch h) (fun _=>h)
end Go.Proofs.YtjdkkabcenohcaaGreatDoor
