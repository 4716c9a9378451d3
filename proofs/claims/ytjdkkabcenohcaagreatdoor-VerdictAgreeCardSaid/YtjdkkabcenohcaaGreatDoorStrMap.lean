/- Maps with strings for keys; strings made of bytes. It speaks of every program. (Printed by mkstr.py.) -/
import Derived.Test.YtjdkkabcenohcaaGreatDoorIface
import Derived.Laws.BytesString
set_option linter.unusedVariables false
set_option linter.unusedSimpArgs false
set_option linter.unusedSectionVars false
namespace Go.Proofs.YtjdkkabcenohcaaGreatDoor
open Go.RowKit
theorem E9(a b:ByteArray):(a==b)=true↔a=b:=by
 cases a with|mk a=>cases b with|mk b=>rw[show((⟨a⟩:ByteArray)==⟨b⟩)=(a==b)from rfl,beq_iff_eq,ByteArray.mk.injEq]
instance:LawfulBEq ByteArray where
 eq_of_beq h:=(E9 _ _).1 h
 rfl:=(E9 _ _).2 rfl
section
variable {P:Program} {n:Nat} {base:Nat} {w0 w:World} {L:List Chunk} {e:Env}
variable {ops rest:List Oper} {Q:Exit→Act→World→Prop} {K:Act→World→Prop} {d:Nat} {D:Option Tmp} {op:Op} {t:TypeId} {pos:String} {af:Array Edge} {G:Option (Nat×Bool)} {x y z:Operand} {v u:Value}
def qJ:List (ByteArray×Value)→ByteArray→Option Value
 | [],_=>none
 |(a,v)::r,k=>if a=k then some v else qJ r k
def pG:List (ByteArray×Value)→ByteArray→Value→List (ByteArray×Value)
 | [],k,v=>[(k,v)]
 |(a,u)::r,k,v=>if a=k then(a,v)::r else(a,u)::pG r k v
def pM(es:Array MapEntry)(l:List (ByteArray×Value)):Prop:=es.toList.map (fun e=>(e.key,e.val))=l.map fun p=>(Value.string p.1,p.2)
def Bf(b:Nat)(l:List (ByteArray×Value)):Chunk:= .one (some b) fun x=>∃es clock,x=some (.map es clock)∧pM es l
def fu:List (ByteArray×Value)→ByteArray→Option (Nat×Value)
 | [],_=>none
 |(a,v)::r,k=>if k=a then some (0,v)else(fu r k).map fun p=>(p.1+1,p.2)
theorem Bh(k:ByteArray): ∀l:List (ByteArray×Value),(fu l k).map (·.2)=qJ l k
 | []=>rfl
 |(a,v)::r=>by
  simp only[fu,qJ]
  by_cases h:k=a
  ·subst h;simp
  ·rw[if_neg h,if_neg (Ne.symm h),←Bh k r];cases fu r k<;>rfl
theorem w6(k:ByteArray): ∀(es:List MapEntry) (l:List (ByteArray×Value)) (i:Nat),es.map (fun e=>(e.key,e.val))=l.map (fun p=>(Value.string p.1,p.2))→
  Instr.findNow .string (.string k) es i=some ((fu l k).map fun p=>(i+p.1,p.2))
 | [],l,i,h=>by
  have:l= []:=by simpa using h.symm
  subst this;rfl
 |e::es,[],i,h=>by simp at h
 |e::es,(a,v)::l,i,h=>by
  simp only[List.map_cons,List.cons.injEq,Prod.mk.injEq]at h
  obtain⟨⟨h1,h2⟩,h3⟩:=h
  have ih:=w6 k es l (i+1) h3
  unfold Instr.findNow
  rw[h1]
  by_cases hk:k=a
  ·subst hk;simp[Instr.sameNow,fu,h2]
  ·have hb:(k==a)=false:=by simpa using hk
   simp only[Instr.sameNow,if_true,hb,fu,if_neg hk]
   rw[ih]
   cases fu l k with
   |none=>rfl
   |some p=>simp[Nat.add_assoc,Nat.add_comm 1]
theorem sC(k:ByteArray)(v:Value): ∀(es:List MapEntry) (l:List (ByteArray×Value)) (j:Nat) (u:Value),es.map (fun e=>(e.key,e.val))=l.map (fun p=>(Value.string p.1,p.2))→fu l k=some (j,u)→
  (es.modify j fun e=>{e with key:= .string k,val:=v}).map (fun e=>(e.key,e.val))=(pG l k v).map (fun p=>(Value.string p.1,p.2))∧(es[j]?).map (·.key)=some (.string k)
 | [],l,j,u,h,hf=>by
  have:l= []:=by simpa using h.symm
  subst this;cases hf
 |e::es,[],j,u,h,hf=>by cases hf
 |e::es,(a,x)::l,j,u,h,hf=>by
  simp only[List.map_cons,List.cons.injEq,Prod.mk.injEq]at h
  obtain⟨⟨h1,h2⟩,h3⟩:=h
  simp only[fu]at hf
  by_cases hk:k=a
  ·subst hk
   rw[if_pos rfl]at hf
   obtain⟨rfl,rfl⟩:0=j∧x=u:=by simpa using hf
   simp[pG,h1,h3]
  ·rw[if_neg hk]at hf
   cases hf':fu l k with
   |none=>rw[hf']at hf;cases hf
   |some p=>
    rw[hf']at hf
    obtain⟨hj,hu⟩:p.1+1=j∧p.2=u:=by simpa using hf
    subst hj
    have:=sC k v es l p.1 p.2 h3 hf'
    simp only[pG,if_neg (Ne.symm hk),List.modify_succ_cons,List.map_cons,h1,h2,this.1]
    exact⟨trivial,by simpa using this.2⟩
theorem sD(k:ByteArray)(v:Value): ∀(l:List (ByteArray×Value)),fu l k=none→pG l k v=l++[(k,v)]
 | [],_=>rfl
 |(a,x)::l,hf=>by
  simp only[fu]at hf
  by_cases hk:k=a
  ·rw[if_pos hk]at hf;cases hf
  ·rw[if_neg hk]at hf
   have:=sD k v l (by cases h:fu l k with|none=>rfl|some p=>rw[h]at hf;cases hf)
   simp[pG,if_neg (Ne.symm hk),this]
theorem Cg{P:Program}{w:World}{KT:Nat}(hK:P.underlying KT=some .string)(em:Bool)(k:ByteArray)(m:Nat):(Instr.checkKey em (m+1) KT (.string k)).run P w= .ok () w:=by
 simp[Instr.checkKey,run_underlying hK]
theorem p_{P:Program}{w:World}{KT:Nat}(hK:P.underlying KT=some .string)(em:Bool)(k:ByteArray):(Instr.checkKey em 10000 KT (.string k)).run P w= .ok () w:=
 Cg hK em k 9999
theorem rc{P:Program}{w:World}{KT:Nat}{es:Array MapEntry}{l:List (ByteArray×Value)}(hK:P.underlying KT=some .string)(hl:pM es l)(k:ByteArray):(Instr.findKey KT (.string k) es.toList).run P w= .ok (fu l k) w:=by
 unfold Instr.findKey
 rw[Sem.run_bind,run_underlying hK]
 simp only[Result.andThen_ok,w6 k es.toList l 0 hl,Sem.run_pure]
 cases fu l k<;>simp
theorem GY{P:Program}{w:World}{T KT E b:Nat}{es:Array MapEntry}{clock:Nat}{l:List (ByteArray×Value)}(hT:P.underlying T=some (.map KT E))(hK:P.underlying KT=some .string)(hb:w.heap[b]? =some (.map es clock))(hl:pM es l)(k:ByteArray)(v:Value):
  ∃es' clock',(Instr.mapUpdate T (.map (some b)) (.string k) v).run P w= .ok () {w with heap:=w.heap.setIfInBounds b (.map es' clock')}∧pM es' (pG l k v):=by
 unfold Instr.mapUpdate
 simp only[Sem.run_bind,run_underlying hT,Result.andThen_ok,mb hb,p_ hK,rc hK hl]
 cases hf:fu l k with
 |none=>
  refine⟨es.push ⟨.string k,v,clock⟩,clock+1,by simp[qD hb],?_⟩
  unfold pM at hl⊢
  rw[sD k v l hf]
  simp[hl]
 |some p=>
  obtain⟨j,u⟩:=p
  obtain⟨h1,h2⟩:=sC k v es.toList l j u hl hf
  have J7:(es[j]?).map (·.key)=some (.string k):=by simpa using h2
  refine⟨es.modify j fun e=>{e with key:= .string k,val:=v},clock,?_,?_⟩
  ·simp[J7,Instr.keyThatStays,Instr.sameBits,qD hb]
  ·unfold pM
   rw[Array.toList_modify]
   exact h1
theorem GZ{P:Program}{w:World}{T KT E b:Nat}{es:Array MapEntry}{clock:Nat}{l:List (ByteArray×Value)}{z:Value}(hT:P.underlying T=some (.map KT E))(hK:P.underlying KT=some .string)(hz: ∃i,P.info? E=some i∧i.zero=some z)(hb:w.heap[b]? =some (.map es clock))(hl:pM es l)(k:ByteArray)(wL:Bool):
  (Instr.lookup T (.map (some b)) (.string k) wL).run P w= .ok (if wL then .tuple #[(qJ l k).getD z,.bool (qJ l k).isSome]else(qJ l k).getD z) w:=by
 obtain⟨i,hi,hz⟩:=hz
 unfold Instr.lookup
 rw[←Bh k l]
 simp only[Sem.run_bind,run_underlying hT,Result.andThen_ok,mb hb,p_ hK,rc hK hl,Sem.run_pure]
 cases hf:fu l k with
 |none=>simp[zeroValue,typeInfo,hi,hz]
 |some p=>simp
theorem Y.P'{T KT E i b:Nat}{l:List (ByteArray×Value)}{k:ByteArray}{u:Value}(hT:P.underlying T=some (.map KT E))(hK:P.underlying KT=some .string)(hz: ∃i,P.info? E=some i∧i.zero=some u)(hx:ap n e x (.map (some b)))(hy:ap n e y (.string k))(hi:L[i]? =some (Bf b l)):
  Yd P n base w0 e L ⟨D,.lookup T x y false,t,pos,af,G⟩ ((qJ l k).getD u):=by
 intro a w ha hw
 obtain⟨es,clock,hb,hl⟩:=hw.sat _ (List.mem_of_getElem? hi)
 have:=GZ (P:=P) (w:=w) hT hK hz hb hl k false
 simp[execOp,hx a ha,hy a ha,this]
theorem WO.Ms{T:Nat}(hd:Nat.blt d n=true)(h: ∀b,KK n base w0 ((d,.map (some b))::e) (Bf b []::L) K):WO P ops n base w0 e L ⟨some d,.makeMap T none,t,pos,af,none⟩ K Q:=by
 refine WO.of_run rfl fun a w ha hw=>?_
 have hr:(execOp a.eval ⟨some d,.makeMap T none,t,pos,af,none⟩).run P w= .ok (.value (.map (some w.heap.size))) (w.alloc (.map #[] 0)):=by
  simp[execOp,Instr.makeMap]
 unfold Oper.wp
 rw[hr]
 exact h w.heap.size _ _ (ha.put d _ hd) ((hw.alloc _).weak (fun x hx=>⟨#[],0,hx,rfl⟩))
theorem WO.Qa{T E i b:Nat}{x y z:Operand}{l:List (ByteArray×Value)}{k:ByteArray}{KT:Nat}(hT:P.underlying T=some (.map KT E))(hK:P.underlying KT=some .string)(hx:ap n e x (.map (some b)))(hy:ap n e y (.string k))(hz:ap n e z v)
  (hi:L[i]? =some (Bf b l))(h:KK n base w0 e (L.set i (Bf b (pG l k v))) K):WO P ops n base w0 e L ⟨none,.mapUpdate T x y z,t,pos,af,none⟩ K Q:=by
 refine WO.of_run rfl fun a w ha hw=>?_
 obtain⟨es,clock,hb,hl⟩:=hw.sat _ (List.mem_of_getElem? hi)
 have hb':w.heap[b]? =some (.map es clock):=hb
 obtain⟨es',clock',hrun,hl'⟩:=GY (P:=P) (w:=w) hT hK hb' hl k v
 have hr:(execOp a.eval ⟨none,.mapUpdate T x y z,t,pos,af,none⟩).run P w= .ok .skip {w with heap:=w.heap.setIfInBounds b (.map es' clock')}:=by
  simp[execOp,hx a ha,hy a ha,hz a ha,hrun]
 unfold Oper.wp
 rw[hr]
 have Mc:b < w.heap.size:=(Array.getElem?_eq_some_iff.1 hb').1
 refine h _ _ (ha.B9 undef) (hw.Hi hi rfl rfl rfl rfl rfl (by simp) (fun j hj=>by simp[Array.getElem?_setIfInBounds_ne (Ne.symm hj)]) ?_)
 exact⟨es',clock',by simp[Bf,Mc],hl'⟩
def iV{α:Type}:List (ByteArray×α)→ByteArray→Option α
 | [],_=>none
 |(a,v)::r,k=>if a=k then some v else iV r k
def qK{α:Type}:List (ByteArray×α)→ByteArray→α→List (ByteArray×α)
 | [],k,v=>[(k,v)]
 |(a,u)::r,k,v=>if a=k then(a,v)::r else(a,u)::qK r k v
def yC{α:Type}(f:α→Value)(m:List (ByteArray×α)):List (ByteArray×Value):=m.map fun p=>(p.1,f p.2)
def iz{α:Type}(f:α→Value)(o:Option Nat)(m:List (ByteArray×α)):Chunk:= .one o fun x=>match o with|none=>m= []|some b=>∃es clock,x=some (.map es clock)∧pM es (yC f m)
theorem Ch{P:Program}{w:World}{T KT E:Nat}{z:Value}(hT:P.underlying T=some (.map KT E))(hK:P.underlying KT=some .string)(hz: ∃i,P.info? E=some i∧i.zero=some z)(k:ByteArray)(wL:Bool):
  (Instr.lookup T (.map none) (.string k) wL).run P w= .ok (if wL then .tuple #[z,.bool false]else z) w:=by
 obtain⟨i,hi,hz⟩:=hz
 unfold Instr.lookup
 have hf:=rc (P:=P) (w:=w) (es:= #[]) (l:=[]) hK rfl k
 simp only[List.toList_toArray]at hf
 simp only[Sem.run_bind,run_underlying hT,Result.andThen_ok,p_ hK,Sem.run_pure,hf]
 simp[fu,zeroValue,typeInfo,hi,hz]
theorem Dl{α:Type}(f:α→Value)(k:ByteArray): ∀m:List (ByteArray×α),qJ (yC f m) k=(iV m k).map f
 | []=>rfl
 |(a,v)::r=>by
  simp only[yC,List.map_cons,qJ,iV]
  by_cases h:a=k
  ·rw[if_pos h,if_pos h];rfl
  ·rw[if_neg h,if_neg h];exact Dl f k r
theorem Dm{α:Type}(f:α→Value)(k:ByteArray)(v:α): ∀m:List (ByteArray×α),pG (yC f m) k (f v)=yC f (qK m k v)
 | []=>rfl
 |(a,u)::r=>by
  simp only[yC,List.map_cons,pG,qK]
  by_cases h:a=k
  ·rw[if_pos h,if_pos h];rfl
  ·rw[if_neg h,if_neg h];simp only[List.map_cons];exact congrArg _ (Dm f k v r)
section
variable {α:Type} {f:α→Value} {m:List (ByteArray×α)} {a:α} {k:ByteArray} {i b T KT E:Nat} {o:Option Nat}
theorem Y.iV{dv:α}(hT:P.underlying T=some (.map KT E))(hK:P.underlying KT=some .string)(hz: ∃i,P.info? E=some i∧i.zero=some (f dv))(hx:ap n e x (.map o))(hy:ap n e y (.string k))(hi:L[i]? =some (iz f o m)):
  Yd P n base w0 e L ⟨D,.lookup T x y false,t,pos,af,G⟩ (f ((iV m k).getD dv)):=by
 cases o with
 |none=>
  intro ac w ha hw
  have hm:m= []:=hw.sat _ (List.mem_of_getElem? hi)
  subst hm
  have:=Ch (P:=P) (w:=w) hT hK hz k false
  simp[execOp,hx ac ha,hy ac ha,this,Go.Proofs.YtjdkkabcenohcaaGreatDoor.iV]
 |some b=>
  have:=Y.P' (D:=D) (t:=t) (pos:=pos) (af:=af) (G:=G) (base:=base) (w0:=w0) hT hK hz hx hy hi
  rw[Dl]at this
  have e1:(((Go.Proofs.YtjdkkabcenohcaaGreatDoor.iV m k).map f).getD (f dv))=f ((Go.Proofs.YtjdkkabcenohcaaGreatDoor.iV m k).getD dv):=by cases Go.Proofs.YtjdkkabcenohcaaGreatDoor.iV m k<;>rfl
  rw[←e1];exact this
theorem WO.Tb{T:Nat}(f:α→Value)(hd:Nat.blt d n=true)(h: ∀b,KK n base w0 ((d,.map (some b))::e) (iz f (some b) []::L) K):WO P ops n base w0 e L ⟨some d,.makeMap T none,t,pos,af,none⟩ K Q:=
 WO.Ms hd h
theorem WO.Wr(hT:P.underlying T=some (.map KT E))(hK:P.underlying KT=some .string)(hx:ap n e x (.map (some b)))(hy:ap n e y (.string k))(hz:ap n e z (f a))
  (hi:L[i]? =some (iz f (some b) m))(h:KK n base w0 e (L.set i (iz f (some b) (qK m k a))) K):WO P ops n base w0 e L ⟨none,.mapUpdate T x y z,t,pos,af,none⟩ K Q:=
 WO.Qa hT hK hx hy hz hi (by rw[Dm];exact h)
end
def qc(xs:List Int):ByteArray:=xs.foldl (fun r n=>r.push (UInt8.ofNat n.toNat)) ByteArray.empty
theorem Ws(xs:List Int):xs.flatMap (eI .u8)=xs.map (Value.int .u8):=by
 induction xs with
 |nil=>rfl
 |cons x xs ih=>rw[List.flatMap_cons,ih];rfl
theorem Y.qc{src dst E m i cap:Nat}{A:Option Addr}{xs:List Int}(hs:P.underlying src=some (.slice E))(hE:P.underlying E=some (.int .u8))(hd:P.underlying dst=some .string)(hx:ap n e x (.slice A m cap))(hm:m=xs.length)(hi:L[i]? =some (cR (eI .u8) 1 A cap E xs)):
  Yd P n base w0 e L ⟨D,.convert src dst x,t,pos,af,G⟩ (.string (Go.Proofs.YtjdkkabcenohcaaGreatDoor.qc xs)):=by
 subst hm
 intro a w ha hw
 have hr:(Conv.bytesToString (.slice A xs.length cap)).run P w= .ok (.string (Go.Proofs.YtjdkkabcenohcaaGreatDoor.qc xs)) w:=by
  obtain⟨hl,hs⟩:=hw.sat _ (List.mem_of_getElem? hi)
  rcases hs with⟨rfl,hm,rfl⟩|⟨g,cur,rfl,hx,lp,hcm,hcs,dA⟩
  ·obtain rfl:xs= []:=List.length_eq_zero_iff.1 hm
   rfl
  ·have hx':w.heap[g]? =some (.cells cur E (0,0)):=hx
   have hl2:(loadCells ⟨g,0,none⟩ (xs.map (Value.int .u8)).length).run P w= .ok (xs.map (Value.int .u8)).toArray w:=run_loadCells_list w ⟨g,0,none⟩ _ (fun j v hj=>by
    rw[dz,Nat.zero_add]
    rw[Ws,Nat.mul_one]at dA
    rw[←dA,List.getElem?_take]at hj
    split at hj
    ·exact dN hx' (by simpa using hj)
    ·cases hj)
   rw[List.length_map]at hl2
   exact run_bytesToString w _ _ _ xs hl2
 simp[execOp,hx a ha,convert,run_underlying hs,run_underlying hE,run_underlying hd,hr]
end
end Go.Proofs.YtjdkkabcenohcaaGreatDoor
