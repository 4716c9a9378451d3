import Derived.Test.YtjdkkabcenohcaaGreatDoorIface
import Derived.Laws.BytesString
set_option linter.unusedVariables false
set_option linter.unusedSimpArgs false
set_option linter.unusedSectionVars false
namespace Go.Proofs.YtjdkkabcenohcaaGreatDoor
open Go.RowKit
theorem Pn(a b:ByteArray):(a==b)=true↔a=b:=by
 cases a with|mk a=>cases b with|mk b=>rw[show((⟨a⟩:ByteArray)==⟨b⟩)=(a==b)from rfl,beq_iff_eq,ByteArray.mk.injEq]
instance:LawfulBEq ByteArray where
 eq_of_beq h:=(Pn _ _).1 h
 rfl:=(Pn _ _).2 rfl
section
variable {P:Program} {n:Nat} {base:Nat} {w0 w:World} {L:List Chunk} {e:Env}
variable {ops rest:List Oper} {Q:Exit→Act→World→Prop} {K:Act→World→Prop} {d:Nat} {D:Option Tmp} {op:Op} {t:TypeId} {pos:String} {af:Array Edge} {G:Option (Nat×Bool)} {x y z:Operand} {v u:Value}
def Ao:List (ByteArray×Value)→ByteArray→Option Value
 | [],_=>none
 |(a,v)::r,k=>if a=k then some v else Ao r k
def yG:List (ByteArray×Value)→ByteArray→Value→List (ByteArray×Value)
 | [],k,v=>[(k,v)]
 |(a,u)::r,k,v=>if a=k then(a,v)::r else(a,u)::yG r k v
def yS(es:Array MapEntry)(l:List (ByteArray×Value)):Prop:=es.toList.map (fun e=>(e.key,e.val))=l.map fun p=>(Value.string p.1,p.2)
def J1(b:Nat)(l:List (ByteArray×Value)):Chunk:= .one (some b) fun x=>∃es clock,x=some (.map es clock)∧yS es l
def ky:List (ByteArray×Value)→ByteArray→Option (Nat×Value)
 | [],_=>none
 |(a,v)::r,k=>if k=a then some (0,v)else(ky r k).map fun p=>(p.1+1,p.2)
theorem J2(k:ByteArray): ∀l:List (ByteArray×Value),(ky l k).map (·.2)=Ao l k
 | []=>rfl
 |(a,v)::r=>by
  simp only[ky,Ao]
  by_cases h:k=a
  ·subst h;simp
  ·rw[if_neg h,if_neg (Ne.symm h),←J2 k r];cases ky r k<;>rfl
theorem F7(k:ByteArray): ∀(es:List MapEntry) (l:List (ByteArray×Value)) (i:Nat),es.map (fun e=>(e.key,e.val))=l.map (fun p=>(Value.string p.1,p.2))→
  Instr.findNow .string (.string k) es i=some ((ky l k).map fun p=>(i+p.1,p.2))
 | [],l,i,h=>by
  have:l= []:=by simpa using h.symm
  subst this;rfl
 |e::es,[],i,h=>by simp at h
 |e::es,(a,v)::l,i,h=>by
  simp only[List.map_cons,List.cons.injEq,Prod.mk.injEq]at h
  obtain⟨⟨h1,h2⟩,h3⟩:=h
  have ih:=F7 k es l (i+1) h3
  unfold Instr.findNow
  rw[h1]
  by_cases hk:k=a
  ·subst hk;simp[Instr.sameNow,ky,h2]
  ·have hb:(k==a)=false:=by simpa using hk
   simp only[Instr.sameNow,if_true,hb,ky,if_neg hk]
   rw[ih]
   cases ky l k with
   |none=>rfl
   |some p=>simp[Nat.add_assoc,Nat.add_comm 1]
theorem Cj(k:ByteArray)(v:Value): ∀(es:List MapEntry) (l:List (ByteArray×Value)) (j:Nat) (u:Value),es.map (fun e=>(e.key,e.val))=l.map (fun p=>(Value.string p.1,p.2))→ky l k=some (j,u)→
  (es.modify j fun e=>{e with key:= .string k,val:=v}).map (fun e=>(e.key,e.val))=(yG l k v).map (fun p=>(Value.string p.1,p.2))∧(es[j]?).map (·.key)=some (.string k)
 | [],l,j,u,h,hf=>by
  have:l= []:=by simpa using h.symm
  subst this;cases hf
 |e::es,[],j,u,h,hf=>by cases hf
 |e::es,(a,x)::l,j,u,h,hf=>by
  simp only[List.map_cons,List.cons.injEq,Prod.mk.injEq]at h
  obtain⟨⟨h1,h2⟩,h3⟩:=h
  simp only[ky]at hf
  by_cases hk:k=a
  ·subst hk
   rw[if_pos rfl]at hf
   obtain⟨rfl,rfl⟩:0=j∧x=u:=by simpa using hf
   simp[yG,h1,h3]
  ·rw[if_neg hk]at hf
   cases hf':ky l k with
   |none=>rw[hf']at hf;cases hf
   |some p=>
    rw[hf']at hf
    obtain⟨hj,hu⟩:p.1+1=j∧p.2=u:=by simpa using hf
    subst hj
    have:=Cj k v es l p.1 p.2 h3 hf'
    simp only[yG,if_neg (Ne.symm hk),List.modify_succ_cons,List.map_cons,h1,h2,this.1]
    exact⟨trivial,by simpa using this.2⟩
theorem Ck(k:ByteArray)(v:Value): ∀(l:List (ByteArray×Value)),ky l k=none→yG l k v=l++[(k,v)]
 | [],_=>rfl
 |(a,x)::l,hf=>by
  simp only[ky]at hf
  by_cases hk:k=a
  ·rw[if_pos hk]at hf;cases hf
  ·rw[if_neg hk]at hf
   have:=Ck k v l (by cases h:ky l k with|none=>rfl|some p=>rw[h]at hf;cases hf)
   simp[yG,if_neg (Ne.symm hk),this]
theorem Lz{P:Program}{w:World}{KT:Nat}(hK:P.underlying KT=some .string)(em:Bool)(k:ByteArray)(m:Nat):(Instr.checkKey em (m+1) KT (.string k)).run P w= .ok () w:=by
 simp[Instr.checkKey,run_underlying hK]
theorem zx{P:Program}{w:World}{KT:Nat}(hK:P.underlying KT=some .string)(em:Bool)(k:ByteArray):(Instr.checkKey em 10000 KT (.string k)).run P w= .ok () w:=
 Lz hK em k 9999
theorem Bd{P:Program}{w:World}{KT:Nat}{es:Array MapEntry}{l:List (ByteArray×Value)}(hK:P.underlying KT=some .string)(hl:yS es l)(k:ByteArray):(Instr.findKey KT (.string k) es.toList).run P w= .ok (ky l k) w:=by
 unfold Instr.findKey
 rw[Sem.run_bind,run_underlying hK]
 simp only[Result.andThen_ok,F7 k es.toList l 0 hl,Sem.run_pure]
 cases ky l k<;>simp
theorem Sh{P:Program}{w:World}{T KT E b:Nat}{es:Array MapEntry}{clock:Nat}{l:List (ByteArray×Value)}(hT:P.underlying T=some (.map KT E))(hK:P.underlying KT=some .string)(hb:w.heap[b]? =some (.map es clock))(hl:yS es l)(k:ByteArray)(v:Value):
  ∃es' clock',(Instr.mapUpdate T (.map (some b)) (.string k) v).run P w= .ok () {w with heap:=w.heap.setIfInBounds b (.map es' clock')}∧yS es' (yG l k v):=by
 unfold Instr.mapUpdate
 simp only[Sem.run_bind,run_underlying hT,Result.andThen_ok,s5 hb,zx hK,Bd hK hl]
 cases hf:ky l k with
 |none=>
  refine⟨es.push ⟨.string k,v,clock⟩,clock+1,by simp[Ag hb],?_⟩
  unfold yS at hl⊢
  rw[Ck k v l hf]
  simp[hl]
 |some p=>
  obtain⟨j,u⟩:=p
  obtain⟨h1,h2⟩:=Cj k v es.toList l j u hl hf
  have V7:(es[j]?).map (·.key)=some (.string k):=by simpa using h2
  refine⟨es.modify j fun e=>{e with key:= .string k,val:=v},clock,?_,?_⟩
  ·simp[V7,Instr.keyThatStays,Instr.sameBits,Ag hb]
  ·unfold yS
   rw[Array.toList_modify]
   exact h1
theorem Sj{P:Program}{w:World}{T KT E b:Nat}{es:Array MapEntry}{clock:Nat}{l:List (ByteArray×Value)}{z:Value}(hT:P.underlying T=some (.map KT E))(hK:P.underlying KT=some .string)(hz: ∃i,P.info? E=some i∧i.zero=some z)(hb:w.heap[b]? =some (.map es clock))(hl:yS es l)(k:ByteArray)(FP:Bool):
  (Instr.lookup T (.map (some b)) (.string k) FP).run P w= .ok (if FP then .tuple #[(Ao l k).getD z,.bool (Ao l k).isSome]else(Ao l k).getD z) w:=by
 obtain⟨i,hi,hz⟩:=hz
 unfold Instr.lookup
 rw[←J2 k l]
 simp only[Sem.run_bind,run_underlying hT,Result.andThen_ok,s5 hb,zx hK,Bd hK hl,Sem.run_pure]
 cases hf:ky l k with
 |none=>simp[zeroValue,typeInfo,hi,hz]
 |some p=>simp
theorem Y.abt{T KT E i b:Nat}{l:List (ByteArray×Value)}{k:ByteArray}{u:Value}(hT:P.underlying T=some (.map KT E))(hK:P.underlying KT=some .string)(hz: ∃i,P.info? E=some i∧i.zero=some u)(hx:aD n e x (.map (some b)))(hy:aD n e y (.string k))(hi:L[i]? =some (J1 b l)):
  Yd P n base w0 e L ⟨D,.lookup T x y false,t,pos,af,G⟩ ((Ao l k).getD u):=by
 intro a w ha hw
 obtain⟨es,clock,hb,hl⟩:=hw.sat _ (List.mem_of_getElem? hi)
 have:=Sj (P:=P) (w:=w) hT hK hz hb hl k false
 simp[execOp,hx a ha,hy a ha,this]
theorem WO.YH{T:Nat}(hd:Nat.blt d n=true)(h: ∀b,KK n base w0 ((d,.map (some b))::e) (J1 b []::L) K):WO P ops n base w0 e L ⟨some d,.makeMap T none,t,pos,af,none⟩ K Q:=by
 refine WO.of_run rfl fun a w ha hw=>?_
 have hr:(execOp a.eval ⟨some d,.makeMap T none,t,pos,af,none⟩).run P w= .ok (.value (.map (some w.heap.size))) (w.alloc (.map #[] 0)):=by
  simp[execOp,Instr.makeMap]
 unfold Oper.wp
 rw[hr]
 exact h w.heap.size _ _ (ha.put d _ hd) ((hw.alloc _).weak (fun x hx=>⟨#[],0,hx,rfl⟩))
theorem WO.abu{T E i b:Nat}{x y z:Operand}{l:List (ByteArray×Value)}{k:ByteArray}{KT:Nat}(hT:P.underlying T=some (.map KT E))(hK:P.underlying KT=some .string)(hx:aD n e x (.map (some b)))(hy:aD n e y (.string k))(hz:aD n e z v)
  (hi:L[i]? =some (J1 b l))(h:KK n base w0 e (L.set i (J1 b (yG l k v))) K):WO P ops n base w0 e L ⟨none,.mapUpdate T x y z,t,pos,af,none⟩ K Q:=by
 refine WO.of_run rfl fun a w ha hw=>?_
 obtain⟨es,clock,hb,hl⟩:=hw.sat _ (List.mem_of_getElem? hi)
 have hb':w.heap[b]? =some (.map es clock):=hb
 obtain⟨es',clock',hrun,hl'⟩:=Sh (P:=P) (w:=w) hT hK hb' hl k v
 have hr:(execOp a.eval ⟨none,.mapUpdate T x y z,t,pos,af,none⟩).run P w= .ok .skip {w with heap:=w.heap.setIfInBounds b (.map es' clock')}:=by
  simp[execOp,hx a ha,hy a ha,hz a ha,hrun]
 unfold Oper.wp
 rw[hr]
 have Yv:b < w.heap.size:=(Array.getElem?_eq_some_iff.1 hb').1
 refine h _ _ (ha.Lj undef) (hw.SI hi rfl rfl rfl rfl rfl (by simp) (fun j hj=>by simp[Array.getElem?_setIfInBounds_ne (Ne.symm hj)]) ?_)
 exact⟨es',clock',by simp[J1,Yv],hl'⟩
def n_{α:Type}:List (ByteArray×α)→ByteArray→Option α
 | [],_=>none
 |(a,v)::r,k=>if a=k then some v else n_ r k
def Ap{α:Type}:List (ByteArray×α)→ByteArray→α→List (ByteArray×α)
 | [],k,v=>[(k,v)]
 |(a,u)::r,k,v=>if a=k then(a,v)::r else(a,u)::Ap r k v
def Hw{α:Type}(f:α→Value)(m:List (ByteArray×α)):List (ByteArray×Value):=m.map fun p=>(p.1,f p.2)
def nE{α:Type}(f:α→Value)(o:Option Nat)(m:List (ByteArray×α)):Chunk:= .one o fun x=>match o with|none=>m= []|some b=>∃es clock,x=some (.map es clock)∧yS es (Hw f m)
theorem LA{P:Program}{w:World}{T KT E:Nat}{z:Value}(hT:P.underlying T=some (.map KT E))(hK:P.underlying KT=some .string)(hz: ∃i,P.info? E=some i∧i.zero=some z)(k:ByteArray)(FP:Bool):
  (Instr.lookup T (.map none) (.string k) FP).run P w= .ok (if FP then .tuple #[z,.bool false]else z) w:=by
 obtain⟨i,hi,hz⟩:=hz
 unfold Instr.lookup
 have hf:=Bd (P:=P) (w:=w) (es:= #[]) (l:=[]) hK rfl k
 simp only[List.toList_toArray]at hf
 simp only[Sem.run_bind,run_underlying hT,Result.andThen_ok,zx hK,Sem.run_pure,hf]
 simp[ky,zeroValue,typeInfo,hi,hz]
theorem M3{α:Type}(f:α→Value)(k:ByteArray): ∀m:List (ByteArray×α),Ao (Hw f m) k=(n_ m k).map f
 | []=>rfl
 |(a,v)::r=>by
  simp only[Hw,List.map_cons,Ao,n_]
  by_cases h:a=k
  ·rw[if_pos h,if_pos h];rfl
  ·rw[if_neg h,if_neg h];exact M3 f k r
theorem M4{α:Type}(f:α→Value)(k:ByteArray)(v:α): ∀m:List (ByteArray×α),yG (Hw f m) k (f v)=Hw f (Ap m k v)
 | []=>rfl
 |(a,u)::r=>by
  simp only[Hw,List.map_cons,yG,Ap]
  by_cases h:a=k
  ·rw[if_pos h,if_pos h];rfl
  ·rw[if_neg h,if_neg h];simp only[List.map_cons];exact congrArg _ (M4 f k v r)
section
variable {α:Type} {f:α→Value} {m:List (ByteArray×α)} {a:α} {k:ByteArray} {i b T KT E:Nat} {o:Option Nat}
theorem Y.n_{dv:α}(hT:P.underlying T=some (.map KT E))(hK:P.underlying KT=some .string)(hz: ∃i,P.info? E=some i∧i.zero=some (f dv))(hx:aD n e x (.map o))(hy:aD n e y (.string k))(hi:L[i]? =some (nE f o m)):
  Yd P n base w0 e L ⟨D,.lookup T x y false,t,pos,af,G⟩ (f ((n_ m k).getD dv)):=by
 cases o with
 |none=>
  intro ac w ha hw
  have hm:m= []:=hw.sat _ (List.mem_of_getElem? hi)
  subst hm
  have:=LA (P:=P) (w:=w) hT hK hz k false
  simp[execOp,hx ac ha,hy ac ha,this,Go.Proofs.YtjdkkabcenohcaaGreatDoor.n_]
 |some b=>
  have:=Y.abt (D:=D) (t:=t) (pos:=pos) (af:=af) (G:=G) (base:=base) (w0:=w0) hT hK hz hx hy hi
  rw[M3]at this
  have e1:(((Go.Proofs.YtjdkkabcenohcaaGreatDoor.n_ m k).map f).getD (f dv))=f ((Go.Proofs.YtjdkkabcenohcaaGreatDoor.n_ m k).getD dv):=by cases Go.Proofs.YtjdkkabcenohcaaGreatDoor.n_ m k<;>rfl
  rw[←e1];exact this
theorem WO.aeq{T:Nat}(f:α→Value)(hd:Nat.blt d n=true)(h: ∀b,KK n base w0 ((d,.map (some b))::e) (nE f (some b) []::L) K):WO P ops n base w0 e L ⟨some d,.makeMap T none,t,pos,af,none⟩ K Q:=
 WO.YH hd h
theorem WO.ahe(hT:P.underlying T=some (.map KT E))(hK:P.underlying KT=some .string)(hx:aD n e x (.map (some b)))(hy:aD n e y (.string k))(hz:aD n e z (f a))
  (hi:L[i]? =some (nE f (some b) m))(h:KK n base w0 e (L.set i (nE f (some b) (Ap m k a))) K):WO P ops n base w0 e L ⟨none,.mapUpdate T x y z,t,pos,af,none⟩ K Q:=
 WO.abu hT hK hx hy hz hi (by rw[M4];exact h)
end
def zy(xs:List Int):ByteArray:=xs.foldl (fun r n=>r.push (UInt8.ofNat n.toNat)) ByteArray.empty
theorem ahf(xs:List Int):xs.flatMap (eI .u8)=xs.map (Value.int .u8):=by
 induction xs with
 |nil=>rfl
 |cons x xs ih=>rw[List.flatMap_cons,ih];rfl
theorem Y.zy{src dst E m i cap:Nat}{A:Option Addr}{xs:List Int}(hs:P.underlying src=some (.slice E))(hE:P.underlying E=some (.int .u8))(hd:P.underlying dst=some .string)(hx:aD n e x (.slice A m cap))(hm:m=xs.length)(hi:L[i]? =some (cR (eI .u8) 1 A cap E xs)):
  Yd P n base w0 e L ⟨D,.convert src dst x,t,pos,af,G⟩ (.string (Go.Proofs.YtjdkkabcenohcaaGreatDoor.zy xs)):=by
 subst hm
 intro a w ha hw
 have hr:(Conv.bytesToString (.slice A xs.length cap)).run P w= .ok (.string (Go.Proofs.YtjdkkabcenohcaaGreatDoor.zy xs)) w:=by
  obtain⟨hl,hs⟩:=hw.sat _ (List.mem_of_getElem? hi)
  rcases hs with⟨rfl,hm,rfl⟩|⟨g,cur,rfl,hx,rJ,hcm,hcs,ij⟩
  ·obtain rfl:xs= []:=List.length_eq_zero_iff.1 hm
   rfl
  ·have hx':w.heap[g]? =some (.cells cur E (0,0)):=hx
   have hl2:(loadCells ⟨g,0,none⟩ (xs.map (Value.int .u8)).length).run P w= .ok (xs.map (Value.int .u8)).toArray w:=run_loadCells_list w ⟨g,0,none⟩ _ (fun j v hj=>by
    rw[eX,Nat.zero_add]
    rw[ahf,Nat.mul_one]at ij
    rw[←ij,List.getElem?_take]at hj
    split at hj
    ·exact g_ hx' (by simpa using hj)
    ·cases hj)
   rw[List.length_map]at hl2
   exact run_bytesToString w _ _ _ xs hl2
 simp[execOp,hx a ha,convert,run_underlying hs,run_underlying hE,run_underlying hd,hr]
end
end Go.Proofs.YtjdkkabcenohcaaGreatDoor
