import Derived.Test.YtjdkkabcenohcaaGreatDoorView
set_option linter.unusedVariables false
set_option linter.unusedSimpArgs false
set_option linter.unusedSectionVars false
namespace Go.Proofs.YtjdkkabcenohcaaGreatDoor
open Go.RowKit
def A_(c:Int):Value:=if c=0 then .nilIface else .iface c.toNat (.agg #[])
theorem Wv{c:Int}{k:Nat}(h:c=(k:Int))(hk:Nat.blt 0 k=true):A_ c= .iface k (.agg #[]):=by
 subst h
 have:0 < k:=by simpa using hk
 unfold A_
 rw[if_neg (by omega),Int.toNat_natCast]
section
variable {P:Program} {n:Nat} {base:Nat} {w0 w:World} {L:List Chunk} {e:Env}
variable {ops rest:List Oper} {Q:Exit→Act→World→Prop} {K:Act→World→Prop} {d:Nat} {D:Option Tmp} {op:Op} {t:TypeId} {pos:String} {af:Array Edge} {G:Option (Nat×Bool)} {x y z:Operand} {v:Value}
theorem Y.Ww{T:Nat}{fs:Array Field}(hT:P.underlying T=some (.struct fs))(h0:Nat.blt 0 T=true)(hx:aD n e x (.agg #[])):
  Yd P n base w0 e L ⟨D,.makeInterface T x,t,pos,af,G⟩ (A_ (T:Nat)):=by
 intro a w ha _
 rw[Wv rfl h0]
 simp[execOp,hx a ha,Instr.makeInterface,run_underlying hT]
theorem UU{T:TypeId}{ms:_}{c:Int}(hT:P.underlying T=some (.interface ms))(w:World)(dp:Nat):(Op.equalIn (dp+1) T (A_ c) .nilIface).run P w= .ok (decide (c=0)) w:=by
 unfold Op.equalIn
 rw[Sem.run_bind,run_underlying hT]
 unfold A_
 by_cases h:c=0
 ·rw[if_pos h,decide_eq_true h];rfl
 ·rw[if_neg h,decide_eq_false h];rfl
theorem Y.Wx{T:TypeId}{ms:_}{c:Int}{ty:TypeId}(hT:P.underlying T=some (.interface ms))(hx:aD n e x (A_ c)):Yd P n base w0 e L ⟨D,.binOp .eql T x (.const .nilIface) ty,t,pos,af,G⟩ (.bool (decide (c=0))):=by
 intro a w ha _
 have:=UU (P:=P) (c:=c) hT w 9999
 have hg:(eqGuard .eql T x (.const .nilIface) (A_ c) .nilIface).run P w= .ok () w:=by
  unfold A_
  by_cases h:c=0
  ·rw[if_pos h];simp[eqGuard]
  ·rw[if_neg h];simp[eqGuard]
 simp[execOp,hx a ha,o0,binOp,Op.equal,Op.maxDepth,this,hg]
theorem aD.vF{c:Int}{k:Nat}(h:c=(k:Int))(hk:Nat.blt 0 k=true)(hx:aD n e x (A_ c)):aD n e x (.iface k (.agg #[])):=Wv h hk▸hx
theorem Y.Lr{name:String}{k:Nat}{u:Value}{cap:Array Value}(hn: ∀w,(nilAhead (P.types.size+Made.depth) k u name).run P w= .ok (some false) w)(hx:aD n e x (.func (.method name) #[.iface k u] cap)):
  Yd P n base w0 e L ⟨D,.nilCheck x,t,pos,af,G⟩ (.func (.method name) #[.iface k u] cap):=by
 intro a w ha _
 simp[execOp,hx a ha,hn]
theorem Wy{f:FuncId}{name:String}{k:Nat}{u v:Value}{args:List Operand}{vs:List Value}{ats:Array TypeId}(hm: ∀w,(method (P.types.size+Made.depth) k u name).run P w= .ok (f,v) w)(hg:se P f)(hf:aD n e x (.iface k u))(hx:ik n e args vs)(a:Act)(w:World)(ha:Fits n e a):
  (execOp a.eval ⟨D,.call {callee:= .invoke x name,args:=args.toArray,argTypes:=ats},t,pos,af,G⟩).run P w= .ok (.enter f (v::vs).toArray) w:=by
 have:=hx a ha
 have h1:=hf a ha
 obtain⟨fn,hf,hn,hb⟩:=hg
 have hn': ¬fn.name= "runtime.NumGoroutine" :=by simpa using hn
 have hb': ¬fn.body=none:=fun h=>by simp[h]at hb
 simp[execOp,resolve,h1,invoke,callMethod,callFunc,hf,hn',hb',this,hm]
theorem WO.Hr{γ:Type}{f:FuncId}{name:String}{k:Nat}{u v:Value}{args:List Operand}{vs:List Value}{ats:Array TypeId}{D:Option Tmp}(V:γ→Value)(L':γ→List Chunk)(I:γ→Prop)(hm: ∀w,(method (P.types.size+Made.depth) k u name).run P w= .ok (f,v) w)(hg:se P f)(hf:aD n e x (.iface k u))(hx:ik n e args vs)(hd:OB D n=true)
  (hc: ∀w,St base w0 L w→Calls P f (v::vs).toArray w fun e w'=>∃g,I g∧e= .returned (V g)∧St base w0 (L' g) w')(h: ∀g,I g→KK n base w0 (IE D (V g) e) (L' g) K):
  WO P ops n base w0 e L ⟨D,.call {callee:= .invoke x name,args:=args.toArray,argTypes:=ats},t,pos,af,none⟩ K Q:=by
 refine WO.of_run rfl fun a w ha hw=>?_
 unfold Oper.wp
 rw[Wy hm hg hf hx a w ha]
 simp only[Oper.upon]
 refine(hc w hw).mono ?_
 rintro e' w' ⟨g,hI,rfl,hs⟩
 exact h g hI _ _ (ha.Ys hd) hs
theorem WO.ain{L':List Chunk}{o:Oper}(h:cp L L')(k:WO P ops n base w0 e L' o K Q):WO P ops n base w0 e L o K Q:=fun a w ha hw=>k a w ha (h.at _ _ _ hw)
theorem Y.F4{T:Nat}{fs:Array Field}(hT:P.underlying T=some (.struct fs))(hz: ∃i,P.info? T=some i∧i.zero=some (.agg #[]))(hp:(fs.toList.all fun f=>(P.info? f.type).isSome)=true):
  Yd P n base w0 e L ⟨D,.build T #[],t,pos,af,G⟩ (.agg #[]):=by
 intro a w ha _
 obtain⟨i,hi,hz⟩:=hz
 have h3: ∃ps,(fs.mapM (m:=Sem) fun f=>do pure (f.offset,←sizeOf f.type)).run P w= .ok ps w:=by
  rw[Array.mapM_eq_mapM_toList]
  have: ∀l:List Field,(∀f∈l,∃i,P.info? f.type=some i)→∃ps,(l.mapM (m:=Sem) fun f=>do pure (f.offset,←sizeOf f.type)).run P w= .ok ps w:=by
   intro l
   induction l with
   |nil=>exact fun _=>⟨[],rfl⟩
   |cons f l ih=>
    intro h
    obtain⟨ps,h1⟩:=ih fun g hg=>h g (.tail _ hg)
    obtain⟨j,hj⟩:=h f (.head _)
    have h2:((do pure (f.offset,←sizeOf f.type)):Sem (Nat×Nat)).run P w= .ok (f.offset,j.size) w:=by simp[sizeOf,typeInfo,hj]
    exact⟨(f.offset,j.size)::ps,by rw[List.mapM_cons,Sem.run_bind,h2,Result.andThen_ok,Sem.run_bind,h1];rfl⟩
  obtain⟨ps,h1⟩:=this fs.toList fun f hf=>Option.isSome_iff_exists.1 (List.all_eq_true.1 hp f hf)
  exact⟨ps.toArray,by rw[Sem.run_map,h1];rfl⟩
 obtain⟨ps,h3⟩:=h3
 simp only[execOp,Instr.build,Sem.run_bind,zeroValue,typeInfo,Sem.run_pure,run_program,Result.andThen_ok,hi,hz,run_underlying hT,h3]
 simp[Instr.fill,Value.cells]
theorem MX{T:TypeId}(h: ∃i,P.info? T=some i∧i.size=0)(w:World):(sizeOf T).run P w= .ok 0 w:=by
 obtain⟨i,hi,hs⟩:=h
 simp[sizeOf,typeInfo,hi,hs]
theorem Y.Eo{T T' i ft b i':Nat}{fs:Array Field}{cs:List Value}(hT:P.underlying T=some (.struct fs))(hf:(fs[i]?).map (fun f=>(f.offset,f.byteOffset,f.type))=some (0,0,ft))(hk: ∃i,P.info? ft=some i∧i.size=0)(hk':P.cellsOf T'=0)(hx:aD n e x (.pointer (some ⟨b,0,none⟩)))(hi:L[i']? =some (aw b T' cs)):
  Yd P n base w0 e L ⟨D,.fieldAddr T x i,t,pos,af,G⟩ (.pointer (some ⟨b,0,none⟩)):=by
 intro a w ha hw
 have ho:=hw.obj hi
 have hb:(byteOf ⟨b,0,none⟩).run P w= .ok 0 w:=by
  simp[byteOf,noView,viewAt,shape,Sem.run,ho,Sem.run_bind,hk',World.shape?]
 cases h:fs[i]? with
 |none=>rw[h]at hf;cases hf
 |some f=>
  rw[h]at hf
  obtain⟨h1,h2,h3⟩:f.offset=0∧f.byteOffset=0∧f.type=ft:=by simpa using hf
  simp[execOp,hx a ha,Instr.fieldAt,run_underlying hT,h,Instr.sureAddr,fieldPlace,h3,MX hk,partAt,h1,h2,hb]
theorem Y.UV{T b:Nat}{fs:Array Field}(hT:P.underlying T=some (.struct fs))(hk: ∃i,P.info? T=some i∧i.size=0)(hx:aD n e x (.pointer (some ⟨b,0,none⟩))):
  Yd P n base w0 e L ⟨D,.load T x,t,pos,af,G⟩ (.agg #[]):=by
 intro a w ha hw
 simp[execOp,hx a ha,Instr.loadAt,Instr.sureAddr,loadVar,zp hT rfl,MX hk,loadCells,loadCellsFrom]
end
section
variable {α:Type} {enc:α→List Value} {sz:Nat} {base:Nat} {w0 w:World} {L:List Chunk}
theorem bi.ahd(hz: ∀a,(enc a).length=sz){A:Option Addr}{cap E:Nat}{xs:List α}(h:(cR enc sz A cap E xs).sat w):bi enc sz w (.slice A xs.length cap) xs:=by
 obtain⟨hl,hs⟩:=h
 rcases hs with⟨rfl,hm,rfl⟩|⟨g,cur,rfl,hx,rJ,hcm,hcs,ij⟩
 ·obtain rfl:xs= []:=List.length_eq_zero_iff.1 hm
  exact bi.nil
 ·have hx':w.heap[g]? =some (.cells cur E (0,0)):=hx
  refine⟨_,_,rfl,rJ,fun j hj=>⟨⟨rfl,fun p hp=>by cases hp;rfl⟩,fun c v hc=>?_⟩⟩
  have h1:=SM hz hj hc
  rw[←ij,List.getElem?_take]at h1
  simp only[dr,Nat.zero_add]
  split at h1
  ·exact g_ hx' (by simpa using h1)
  ·cases h1
abbrev IJ(A:Option Addr):Option Nat:=A.map (·.block)
def cV(o:Option Nat)(enc:α→List Value)(sz:Nat)(A:Option Addr)(cap:Nat)(xs:List α):Chunk:=
 ⟨o.toList,fun f=>∀w:World,(∀b∈o.toList,w.heap[b]? =f b)→bi enc sz w (.slice A xs.length cap) xs,fun f g h hf w hw=>hf w fun b hb=>by rw[hw b hb,h b hb]⟩
theorem bi.ofV{i:Nat}{o:Option Nat}{A:Option Addr}{cap:Nat}{xs:List α}(h:St base w0 L w)(hi:L[i]? =some (cV o enc sz A cap xs)):bi enc sz w (.slice A xs.length cap) xs:=
 h.sat _ (List.mem_of_getElem? hi) w fun _ _=>rfl
theorem St.O'(hz: ∀a,(enc a).length=sz){i cap E cap':Nat}{A A':Option Addr}{xs ys:List α}(h:St base w0 L w)(hi:L[i]? =some (cR enc sz A cap E xs))(hf: ∀w,bi enc sz w (.slice A xs.length cap) xs→bi enc sz w (.slice A' ys.length cap') ys):
  St base w0 (L.set i (cV (A.map (·.block)) enc sz A' cap' ys)) w:=by
 have hlt:=(List.getElem?_eq_some_iff.1 hi).1
 have ho:owns (L.set i (cV (A.map (·.block)) enc sz A' cap' ys))=owns L:=by
  obtain⟨e1,e2⟩:=FN hi
  rw[e2]
  conv=>rhs;rw[e1]
  simp only[jf]
  rfl
 refine⟨h.below,h.ot,fun c hc=>?_,ho▸h.nodup,ho▸h.ge⟩
 rcases List.mem_or_eq_of_mem_set hc with hc|rfl
 ·exact h.sat c hc
 ·intro w' hw'
  have hs:=h.sat _ (List.mem_of_getElem? hi)
  refine hf w' (bi.ahd hz (E:=E) ?_)
  exact(cR enc sz A cap E xs).loc _ _ (fun b hb=>(hw' b hb).symm) hs
end
end Go.Proofs.YtjdkkabcenohcaaGreatDoor
