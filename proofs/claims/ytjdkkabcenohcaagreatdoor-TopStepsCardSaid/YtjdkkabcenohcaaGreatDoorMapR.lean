import Derived.Test.YtjdkkabcenohcaaGreatDoorShelf
import Derived.Shelf.SlIterI.Sorted
import Derived.Shelf.SortM.Plain
import Derived.Shelf.SortM.SortNone
import Derived.Test.YtjdkkabcenohcaaGreatDoorBor
import Derived.Laws.IdiomRangeMap
set_option linter.unusedVariables false
set_option linter.unusedSimpArgs false
set_option linter.unusedSectionVars false
namespace Go.Proofs.YtjdkkabcenohcaaGreatDoor
open Go.RowKit Go.Maps Go.Sort Go.Shelf
open Go.WideElems (rg rg_of)
open Go.WideShapes (sorted_perm)
def Iq(z:Int):Bool:=(Lit.int .i64 z).wf
def Oq(m:List (Int×Int)):Option (List Int):=
 if(m.all fun p=>Iq p.1&&Iq p.2)=true∧m.length≤1000000 then some ((m.map (·.1)).mergeSort fun x y=>decide (x≤y))else none
def GL:Value→Int
 | .int _ a=>a
 |_=>0
section
variable {base:Nat} {w0 w:World} {L:List Chunk} {P:Program}
theorem acw{H:Type}{k E:TypeId}(hk:P.underlying k=some (.int .i64))(hE:P.underlying E=some (.int .i64)){b i:Nat}{m:List (Int×Int)}(hw:St base w0 L w)(hi:L[i]? =some (cM (Value.int .i64) (some b) m))(hok:(m.all fun p=>Iq p.1&&Iq p.2)=true)(hl:m.length≤maxLen):
  ∃D:List (Lit×DataW H),w.ownsMap P k (plainElem P E) b m.length (.map D)∧(D.map fun p=>Go.intOf p.1).Perm (m.map (·.1))∧D.length=m.length:=by
 obtain⟨es,clock,hb,hm,hst⟩:=hw.sat _ (List.mem_of_getElem? hi)
 have hb:w.heap[b]? =some (.map es clock):=hb
 unfold yE at hm
 have hlen:es.size=m.length:=by
  have:=congrArg List.length hm
  simpa[AV]using this
 have hx: ∀x∈es.toList,∃p∈m,x.key= .int .i64 p.1∧x.val= .int .i64 p.2:=by
  intro x hx
  have:(x.key,x.val)∈(AV (Value.int .i64) m).map fun p=>(Value.int .i64 p.1,p.2):=hm▸List.mem_map.2 ⟨x,hx,rfl⟩
  obtain⟨q,hq,e⟩:=List.mem_map.1 this
  unfold AV at hq
  obtain⟨p,hp,rfl⟩:=List.mem_map.1 hq
  obtain⟨e1,e2⟩:=Prod.mk.inj e
  exact⟨p,hp,e1.symm,e2.symm⟩
 have hrd: ∀x∈es.toList,∃d,Go.WideElems.rd (H:=H) P k (plainElem P E) x=some (Lit.int .i64 (GL x.key),d):=by
  intro x hx'
  obtain⟨p,hp,e1,e2⟩:=hx x hx'
  have hwf:=List.all_eq_true.1 hok p hp
  rw[Bool.and_eq_true]at hwf
  have hkey:keyOf P k x.key=some (.int .i64 p.1):=by
   rw[e1];simp[keyOf,hk,mapKey];exact hwf.1
  have hval:plainElem (H:=H) P E x.val=some (.lit (.int .i64 p.2),[]):=by rw[e2];exact plainElem_int hE hwf.2
  refine⟨.lit (.int .i64 p.2),?_⟩
  have:GL x.key=p.1:=by rw[e1];rfl
  rw[this]
  unfold Go.WideElems.rd
  rw[hkey,hval];rfl
 refine⟨(es.toList.map (rg P k (plainElem P E))).foldr DataW.insert [],⟨es,clock,hb,⟨by rw[hlen];exact hl,hst,fun x hx'=>?_⟩,by omega,rfl⟩,?_,?_⟩
 ·obtain⟨d,hd⟩:=hrd x hx'
  exact⟨_,hd⟩
 ·refine((sorted_perm _).map _).trans ?_
  have e:(es.toList.map (rg (H:=H) P k (plainElem P E))).map (fun p=>Go.intOf p.1)=m.map (·.1):=by
   have h1:(es.toList.map (rg (H:=H) P k (plainElem P E))).map (fun p=>Go.intOf p.1)=es.toList.map fun x=>GL x.key:=by
    rw[List.map_map]
    refine List.map_congr_left fun x hx'=>?_
    obtain⟨d,hd⟩:=hrd x hx'
    show Go.intOf (rg P k (plainElem P E) x).1=_
    rw[rg_of hd];rfl
   rw[h1]
   have h2:=congrArg (List.map fun q:Value×Value=>GL q.1) hm
   rw[List.map_map,List.map_map]at h2
   have h3:(AV (Value.int .i64) m).map ((fun q:Value×Value=>GL q.1)∘fun p=>(Value.int .i64 p.1,p.2))=m.map (·.1):=by
    unfold AV
    rw[List.map_map];rfl
   rw[h3]at h2
   exact h2
  rw[e]
 ·have:=(sorted_perm (es.toList.map (rg (H:=H) P k (plainElem P E)))).length_eq
  rw[this,List.length_map,Array.length_toList,hlen]
theorem QG{ρ ρk:Go.Shelf.Ren}(Ls:SlLaysZI.n6 P ρ)(Lk:SlLaysZI.n10 P ρk)(hsort: ∀m,AnyZI.SortsIn P ρ Fence.wide m)(e9: ∀args w,(callFunc (ρ.f 9) args).run P w= .ok (.enter (ρ.f 9) args) w)(eg: ∀args w,(callFunc (ρk.f 10) args).run P w= .ok (.enter (ρk.f 10) args) w)
  {E:TypeId}(hk:P.underlying (ρk.t 26)=some (.int .i64))(hE:P.underlying E=some (.int .i64)){m:List (Int×Int)}{res:List Int}(hF:Oq m=some res){b2 bm T2:Nat}{w0 w:World}{R:List Chunk}(hw:St w0.heap.size w0 ([aw b2 T2 [.map (some bm)],cM (Value.int .i64) (some bm) m]++R) w):
  Calls P (ρ.f 6) (List.toArray [.func (.func (ρk.f 10)) #[] #[.pointer (some ⟨b2,0,none⟩)]]) w (fun e w'=>∃g:Option Addr×Nat,True∧e= .returned (.slice g.1 res.length g.2)∧St w0.heap.size w0 ([cR (eI .i64) 1 g.1 g.2 (ρ.t 26) res,aw b2 T2 [.map (some bm)],cM (Value.int .i64) (some bm) m]++R) w'):=by
 unfold Oq at hF
 by_cases hc:(m.all fun p=>Iq p.1&&Iq p.2)=true∧m.length≤1000000
 case neg=>rw[if_neg hc]at hF;cases hF
 rw[if_pos hc]at hF
 obtain rfl:=Option.some.inj hF
 obtain⟨hok,hle⟩:=hc
 obtain⟨D,hown,CB,hDl⟩:=acw (H:=Unit) hk hE hw (i:=1) rfl hok (by unfold maxLen;omega)
 have SN:=hw.obj (i:=0) rfl
 have hlt:b2 < w.heap.size:=(Array.getElem?_eq_some_iff.1 SN).1
 have hcell:w.cell? ⟨b2,0,none⟩=some (.map (some bm)):=by simp[World.cell?,SN]
 have hsz:Maps.size (.map D:DataW Unit)=m.length:=hDl
 have hseq:=AnyZI.keys_gives Lk Fence.wide 2 trivial rfl (by omega) b2 bm m.length (.map D) w hlt hcell hown
 have cS:=AnyZI.sorted_in Ls Fence.wide 5 trivial trivial trivial trivial rfl (by omega) (hsort _) e9 (ρk.f 10) #[.pointer (some ⟨b2,0,none⟩)] trivial eg _ (Maps.size (.map D:DataW Unit)) (by rw[hsz];unfold maxLen;omega) (by rw[hsz];omega) w hseq
 refine((callsIn_wide (n:=5)).1 cS).mono ?_
 rintro e w' ⟨v,ss,rfl,hS,hrow,hnil,hb⟩
 have TL:ss.mergeSort (fun x y=>decide (x≤y))=(m.map (·.1)).mergeSort (fun x y=>decide (x≤y)):=mergeSort_of_perm_i (hS.trans CB)
 rw[TL]at hrow
 have hl:ss.length=((m.map (·.1)).mergeSort fun x y=>decide (x≤y)).length:=by rw[←TL,List.length_mergeSort]
 rw[hl]at hrow
 generalize ((m.map (·.1)).mergeSort fun x y=>decide (x≤y))=res at hrow
 have hfl:res.flatMap (eI .i64)=res.map encZ:=Ht res
 obtain⟨h1,h2⟩:=hrow
 rcases h2 with⟨rfl,h3⟩|⟨g,cap,cur,rfl,hbase,hx,r1,r2,r3,r4⟩
 ·refine⟨(none,0),trivial,by rw[h3],?_⟩
  have k:St w.heap.size w [cR (eI .i64) 1 none 0 (ρ.t 26) res] w':=by
   refine⟨hb,Nat.le_refl _,fun c hc=>?_,by simp[owns,eR,Chunk.one],fun b hb=>by simp[owns,eR,Chunk.one]at hb⟩
   rw[List.mem_singleton.1 hc]
   exact⟨by rw[hfl];exact h1,.inl ⟨rfl,h3,rfl⟩⟩
  exact hw.merge k
 ·refine⟨(some ⟨g,0,none⟩,cap),trivial,rfl,?_⟩
  have Gz:g < w'.heap.size:=(Array.getElem?_eq_some_iff.1 hx).1
  have k:St w.heap.size w [cR (eI .i64) 1 (some ⟨g,0,none⟩) cap (ρ.t 26) res] w':=by
   refine⟨hb,Nat.le_refl _,fun c hc=>?_,by simp[owns,eR,Chunk.one],fun b hb=>?_⟩
   ·rw[List.mem_singleton.1 hc]
    exact⟨by rw[hfl];exact h1,.inr ⟨g,cur,rfl,hx,r1,r2,r3,by rw[hfl];exact r4⟩⟩
   ·have hb:b=g:=by simpa[owns,eR,Chunk.one]using hb
    subst hb
    exact⟨hbase,Gz⟩
  exact hw.merge k
end
end Go.Proofs.YtjdkkabcenohcaaGreatDoor
set_option linter.unusedVariables false
set_option linter.unusedSimpArgs false
set_option linter.unusedSectionVars false
namespace Go.Proofs.YtjdkkabcenohcaaGreatDoor
open Go.RowKit
section
variable {α ρ:Type}
def Vy:List (Option (Unit ⊕ ρ))→Option (List ρ)
 | []=>some []
 |none::_=>none
 |some (.inl _)::r=>Vy r
 |some (.inr x)::r=>(Vy r).map (x:: ·)
def akD [DecidableEq ρ](body:Option α→Option (Unit ⊕ ρ))(m:List α):Option ρ:=
 match Vy (m.map fun a=>body (some a))with
 |none=>none
 |some []=>match body none with
  |some (.inr x)=>some x
  |_=>none
 |some (x::r)=>if r.all (fun y=>decide (y=x))=true then some x else none
variable [DecidableEq ρ] {body:Option α→Option (Unit ⊕ ρ)} {m:List α} {o:ρ}
end
variable {P:Program} {n:Nat} {base:Nat} {w0 w:World} {L:List Chunk} {e:Env}
variable {ops rest:List Oper} {Q:Exit→Act→World→Prop} {d:Nat} {D:Option Tmp} {op:Op} {t:TypeId} {pos:String} {af:Array Edge} {G:Option (Nat×Bool)} {v u:Value} {x y z:Operand} {K:Act→World→Prop}
theorem QH{b s c:Nat}{m:Option Nat}{sn:Array Nat}(hb:w.heap[b]? =some (.mapIter m s sn c)):(getObj b).run P w= .ok (.mapIter m s sn c) w:=by
 simp[getObj,Sem.run,hb]
theorem Zr{b s c:Nat}{m:Option Nat}{sn:Array Nat}{o':Obj}(hb:w.heap[b]? =some (.mapIter m s sn c)):(setObj b o').run P w= .ok () {w with heap:=w.heap.setIfInBounds b o'}:=by
 simp[setObj,Sem.run,hb]
theorem Zs{es:Array MapEntry}{sn:Array Nat}{clock:Nat}(h: ∀x∈es.toList,x.born < clock):(Go.leftOf es sn).filter (fun x=>decide (x.born < clock))=Go.leftOf es sn∧(Go.leftOf es sn).filter (fun x=>decide (x.born≥clock))= #[]:=by
 have hm: ∀x∈(Go.leftOf es sn).toList,x.born < clock:=fun x hx=>h x (Go.mem_left hx).1
 refine⟨Array.filter_eq_self.2 fun x hx=>by simpa using hm x (by simpa using hx),?_⟩
 rw[Array.filter_eq_empty_iff]
 intro x hx
 have:=hm x (by simpa using hx)
 simp only[ge_iff_le,decide_eq_true_eq,Nat.not_le]
 exact this
theorem Xk{ty:TypeId}{r b clock:Nat}{es:Array MapEntry}{sn:Array Nat}(hr:w.heap[r]? =some (.mapIter (some b) clock sn clock))(hb:w.heap[b]? =some (.map es clock))(hst:Go.MapKept.Stamped es clock):
  ((∀x∈es.toList,sn.contains x.born=true)∧(Instr.next (.pointer (some ⟨r,0,none⟩)) false ty).run P w= .ok (.tuple #[.bool false]) w)∨
  ∃x∈es.toList,sn.contains x.born=false∧∃w1,(w1=w∨w1=w.drew)∧(Instr.next (.pointer (some ⟨r,0,none⟩)) false ty).run P w= .ok (.tuple #[.bool true,x.key,x.val]) {w1 with heap:=w1.heap.setIfInBounds r (.mapIter (some b) clock (sn.push x.born) clock)}:=by
 have hold:=((Go.MapKept.stamped_iff _ _).1 hst).1
 obtain⟨e1,e2⟩:=Zs (sn:=sn) hold
 have ht:=Go.next_test_false sn es clock clock hold (Nat.le_refl _)
 have hfl:es.filter (fun e=>!sn.contains e.born)=Go.leftOf es sn:=rfl
 simp only[Instr.next,Sem.run_bind,QH hr,s5 hb,Result.andThen_ok,ht,Bool.false_eq_true,if_false,hfl,e1,e2,Array.append_empty]
 by_cases h0:(Go.leftOf es sn).size=0
 ·left
  have hL:Go.leftOf es sn= #[]:=Array.eq_empty_of_size_eq_zero h0
  refine⟨fun x hx=>?_,?_⟩
  ·cases hc:sn.contains x.born with
   |true=>rfl
   |false=>
    have:x∈Go.leftOf es sn:=Array.mem_filter.2 ⟨Array.mem_toList_iff.1 hx,by rw[hc];rfl⟩
    rw[hL]at this
    simp at this
  ·rw[hL]
   simp[choose,Sem.run,Question.forced]
 ·right
  have hne:(Go.leftOf es sn).isEmpty=false:=by simp[Array.isEmpty,h0]
  simp only[hne,Bool.false_eq_true,if_false,Array.empty_append,Array.size_map]
  have hch: ∃(j:Nat) (w1:World),j < (Go.leftOf es sn).size∧(w1=w∨w1=w.drew)∧(choose (Question.mapNext (Go.leftOf es sn).size)).run P w= .ok j w1:=by
   by_cases hf:(Go.leftOf es sn).size≤1
   ·exact⟨0,w,by omega,.inl rfl,by simp[choose,Sem.run,Question.forced,hf]⟩
   ·exact⟨_,w.drew,Nat.mod_lt _ (by omega),.inr rfl,by
     simp only[choose,Sem.run,Question.forced,decide_eq_true_eq,hf,if_false,Question.cut]
     rfl⟩
  obtain⟨j,w1,hj,hal,hrun⟩:=hch
  have hmem:(Go.leftOf es sn)[j]∈(Go.leftOf es sn).toList:=by simp
  obtain⟨h1,h2⟩:=Go.mem_left hmem
  have za:w1.heap[r]? =some (.mapIter (some b) clock sn clock):=by rcases hal with rfl|rfl<;>exact hr
  refine⟨_,h1,h2,w1,hal,?_⟩
  simp only[hrun,Array.getElem?_map,Array.getElem?_eq_getElem hj,Option.map_some,Sem.run_bind,Zr za,Result.andThen_ok]
  rfl
theorem Vz{r b clock:Nat}{es:Array MapEntry}{sn:Array Nat}{en:MapEntry}(hr:w.heap[r]? =some (.mapIter (some b) clock (sn.push en.born) clock))(hb:w.heap[b]? =some (.map es clock))(hst:Go.MapKept.Stamped es clock)(he:en∈es.toList):
  (Instr.entry (.pointer (some ⟨r,0,none⟩))).run P w= .ok (.tuple #[en.key,en.val]) w:=by
 have hf:es.find? (·.born==en.born)=some en:=by rw[←Array.find?_toList];exact Go.find_born en es.toList ((Go.MapKept.stamped_iff _ _).1 hst).2.1 he
 simp only[Instr.entry,Sem.run_bind,QH hr,s5 hb,Result.andThen_ok,Array.back?_push,bne_self_eq_false,Bool.false_eq_true,if_false,hf]
 rfl
theorem WO.next{ty:TypeId}{r b clock i j:Nat}{es:Array MapEntry}{sn:Array Nat}(hst:Go.MapKept.Stamped es clock)(hx:aD n e x (.pointer (some ⟨r,0,none⟩)))(hi:L[i]? =some (mx b (.map es clock)))(hj:L[j]? =some (mx r (.mapIter (some b) clock sn clock)))(hd:Nat.blt d n=true)
  (h0:(∀x∈es.toList,sn.contains x.born=true)→KK n base w0 ((d,.tuple #[.bool false])::e) L K)
  (h1: ∀en∈es.toList,sn.contains en.born=false→KK n base w0 ((d,.tuple #[.bool true,en.key,en.val])::e) (L.set j (mx r (.mapIter (some b) clock (sn.push en.born) clock))) K):
  WO P ops n base w0 e L ⟨some d,.next x false,ty,pos,af,none⟩ K Q:=by
 refine WO.of_run rfl fun a w ha hw=>?_
 have hrr:w.heap[r]? =some (.mapIter (some b) clock sn clock):=hw.obj hj
 have hbb:w.heap[b]? =some (.map es clock):=hw.obj hi
 rcases Xk (P:=P) (ty:=ty) hrr hbb hst with⟨hall,hrun⟩|⟨en,he,hn,w1,hw1,hrun⟩
 ·have hr:(execOp a.eval ⟨some d,.next x false,ty,pos,af,none⟩).run P w= .ok (.value (.tuple #[.bool false])) w:=by
   simp[execOp,hx a ha,hrun]
  unfold Oper.wp
  rw[hr]
  exact h0 hall _ _ (ha.put d _ hd) hw
 ·have hr:(execOp a.eval ⟨some d,.next x false,ty,pos,af,none⟩).run P w= .ok (.value (.tuple #[.bool true,en.key,en.val])) {w1 with heap:=w1.heap.setIfInBounds r (.mapIter (some b) clock (sn.push en.born) clock)}:=by
   simp[execOp,hx a ha,hrun]
  unfold Oper.wp
  rw[hr]
  have hs1:St base w0 L w1:=by
   rcases hw1 with rfl|rfl
   ·exact hw
   ·exact hw.drew
  have hlt:r < w1.heap.size:=(Array.getElem?_eq_some_iff.1 (hs1.obj hj)).1
  refine h1 en he hn _ _ (ha.put d _ hd) (hs1.SI hj rfl rfl rfl rfl rfl (by simp) (fun k hk=>by simp[Array.getElem?_setIfInBounds_ne (Ne.symm hk)]) ?_)
  show((some r).bind fun q=>(w1.heap.setIfInBounds r _)[q]?)=_
  simp[hlt]
theorem Y.entry{r b clock i j:Nat}{es:Array MapEntry}{sn:Array Nat}{en:MapEntry}(hst:Go.MapKept.Stamped es clock)(he:en∈es.toList)(hk:en.key=u)(hv:en.val=v)(hx:aD n e x (.pointer (some ⟨r,0,none⟩)))(hi:L[i]? =some (mx b (.map es clock)))(hj:L[j]? =some (mx r (.mapIter (some b) clock (sn.push en.born) clock))):
  Yd P n base w0 e L ⟨D,.entry x,t,pos,af,G⟩ (.tuple #[u,v]):=by
 intro a w ha hw
 have:=Vz (P:=P) (hw.obj hj) (hw.obj hi) hst he
 simp[execOp,hx a ha,this,hk,hv]
def BK{α ρ:Type}(body:Option α→Option (Unit ⊕ ρ))(es:Array MapEntry)(m:List α)(sn:Array Nat):Prop:=
 ∀(i:Nat) x p,es.toList[i]? =some x→m[i]? =some p→sn.contains x.born=true→body (some p)=some (.inl ())
theorem BK.zero{α ρ:Type}{body:Option α→Option (Unit ⊕ ρ)}{es:Array MapEntry}{m:List α}:BK body es m #[]:=fun i x p _ _ h=>by simp at h
theorem BK.step{α ρ:Type}{body:Option α→Option (Unit ⊕ ρ)}{es:Array MapEntry}{m:List α}{sn:Array Nat}{clock:Nat}(h:BK body es m sn)(hst:Go.MapKept.Stamped es clock){i:Nat}{x:MapEntry}{p:α}(hx:es.toList[i]? =some x)(hp:m[i]? =some p)(hb:body (some p)=some (.inl ())):BK body es m (sn.push x.born):=by
 intro i' x' p' hx' hp' hs
 rw[Go.contains_push]at hs
 by_cases hc:sn.contains x'.born=true
 ·exact h i' x' p' hx' hp' hc
 ·have he:x'.born=x.born:=by
   rcases(Bool.or_eq_true _ _).mp hs with h2|h2
   ·exact absurd h2 hc
   ·exact beq_iff_eq.1 h2
  have hn:=((Go.MapKept.stamped_iff _ _).1 hst).2.1
  have h1:(es.toList.map (·.born))[i]? =some x.born:=by rw[List.getElem?_map,hx];rfl
  have h2:(es.toList.map (·.born))[i']? =some x.born:=by rw[List.getElem?_map,hx',←he];rfl
  obtain rfl:i=i':=(List.getElem?_inj (List.getElem?_eq_some_iff.1 h1).1 hn).1 (h1.trans h2.symm)
  rw[hp]at hp'
  obtain rfl:=Option.some.inj hp'
  exact hb
theorem BK.all{α ρ:Type}{body:Option α→Option (Unit ⊕ ρ)}{es:Array MapEntry}{m:List α}{sn:Array Nat}(h:BK body es m sn)(hl:es.toList.length=m.length)(ha: ∀x∈es.toList,sn.contains x.born=true): ∀p∈m,body (some p)=some (.inl ()):=by
 intro p hp
 obtain⟨i,hi,rfl⟩:=List.mem_iff_getElem.1 hp
 have hi':i < es.toList.length:=by omega
 exact h i _ _ (List.getElem?_eq_getElem hi') (List.getElem?_eq_getElem hi) (ha _ (List.getElem_mem hi'))
section
variable {α:Type} {enc:α→List Value} {sz E:Nat}
abbrev HS(α:Type):=Hd×List α
def fSl(q:HS α):Value:= .slice q.1.1 q.2.length q.1.2
def Mb(hs:List Hd)(m:List (Int×List α)):List (Int×HS α):=List.zipWith (fun h p=>(p.1,(h,p.2))) hs m
def afo(enc:α→List Value)(sz E:Nat)(q:Int×HS α):List Chunk:=[cR enc sz q.2.1.1 q.2.1.2 E q.2.2]
def cMN(enc:α→List Value)(sz E:Nat)(b:Nat)(hs:List Hd)(m:List (Int×List α)):Chunk:=
 nB (cM fSl (some b) (Mb hs m)::cF (hs.length=m.length)::(Mb hs m).flatMap (afo enc sz E))
def afp{β:Type}:List (Int×β)→Int→List (Int×β)
 | [],_=>[]
 |(a,v)::r,k=>if a=k then r else(a,v)::afp r k
def cMH(enc:α→List Value)(sz E:Nat)(b:Nat)(hs:List Hd)(m:List (Int×List α))(k:Int):Chunk:=
 nB (cM fSl (some b) (Mb hs m)::cF (hs.length=m.length)::(afp (Mb hs m) k).flatMap (afo enc sz E))
def akV(hs:List Hd)(m:List (Int×List α))(k:Int):Hd:=((gz (Mb hs m) k).getD ((none,0),[])).1
def akW(hs:List Hd)(m:List (Int×List α))(k:Int)(h:Hd)(ys:List α):List Hd:=(kX (Mb hs m) k (h,ys)).map (·.2.1)
variable {hs:List Hd} {m:List (Int×List α)} {b i k' T KT TE:Nat} {k:Int} {xs ys:List α}
end
theorem ahw{α β γ:Type}{f:α→γ}{g:β→γ}{x:α}{r:γ}(h:Sum.elim f g (Sum.inl x)=r):f x=r:=h
theorem W.bg{c1 c2:Code}(hx:aD n e x (.bool true))(h:W P n base w0 e L c1 Q):W P n base w0 e L (.cond x c1 c2) Q:=W.cond hx (fun _=>h) (fun h=>nomatch h)
theorem W.aL{c1 c2:Code}(hx:aD n e x (.bool false))(h:W P n base w0 e L c2 Q):W P n base w0 e L (.cond x c1 c2) Q:=W.cond hx (fun h=>nomatch h) (fun _=>h)
end Go.Proofs.YtjdkkabcenohcaaGreatDoor
