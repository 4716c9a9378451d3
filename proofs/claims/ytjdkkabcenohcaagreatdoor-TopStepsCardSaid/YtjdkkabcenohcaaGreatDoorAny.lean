import Derived.Test.YtjdkkabcenohcaaGreatDoorRow
set_option linter.unusedVariables false
set_option linter.unusedSimpArgs false
set_option linter.unusedSectionVars false
namespace Go.Proofs.YtjdkkabcenohcaaGreatDoor
open Go.RowKit
section
variable {P:Program} {ops:Array Oper} {Q:Exit→Act→World→Prop} {C:World→Prop} {s:Nat}
def AQ(ops:Array Oper)(listed:Array Bool):Prop:=∀j oj,ops[j]? =some oj→listed.getD j false=true→∀e∈oj.after,Region.binds .any e=true→listed.getD e.on false=true
def xJ(ops:Array Oper)(listed:Array Bool):Bool:=(List.range ops.size).all fun j=>!(listed.getD j false)||match ops[j]? with
 |some o=>o.after.toList.all fun e=>!(Region.binds .any e)||listed.getD e.on false
 |none=>true
theorem Ce{listed:Array Bool}(h:xJ ops listed=true):AQ ops listed:=by
 intro j oj hj hl e he hb
 have h1:=List.all_eq_true.1 h j (List.mem_range.2 (Array.getElem?_eq_some_iff.1 hj).1)
 simp only[hl,hj,Bool.not_true,Bool.false_or]at h1
 have h2:=List.all_eq_true.1 h1 e (by simpa using he)
 simpa[hb]using h2
def Ai(ops:Array Oper)(i:Nat):Nat→Nat→Bool
 |0,_=>false
 |f+1,s=>Region.waitsFor .any ops s i||(List.range ops.size).any fun j=>Region.waitsFor .any ops s j&&Ai ops i f j
theorem CP{i:Nat}{listed:Array Bool}(hc:AQ ops listed): ∀f s,Ai ops i f s=true→listed.getD s false=true→listed.getD i false=true
 |0,_,h,_=>by cases h
 |f+1,s,h,hs=>by
  simp only[Ai,Bool.or_eq_true,List.any_eq_true,Bool.and_eq_true]at h
  rcases h with h|⟨j,_,h1,h2⟩
  ·obtain⟨os,ho,e,he,hb,rfl⟩:=Region.waitsFor_spec h
   exact hc s os ho hs e he hb
  ·obtain⟨os,ho,e,he,hb,rfl⟩:=Region.waitsFor_spec h1
   exact CP hc f _ h2 (hc s os ho hs e he hb)
theorem UI{i:Nat}{listed:Array Bool}(hc:AQ ops listed): ∀f s,Ai ops i f s=true→s∈Region.ready .any ops listed→listed.getD i false=true
 |0,_,h,_=>by cases h
 |f+1,s,h,hs=>by
  obtain⟨_,os,ho,hall⟩:=mem_ready.1 hs
  simp only[Ai,Bool.or_eq_true,List.any_eq_true,Bool.and_eq_true]at h
  rcases h with h|⟨j,_,h1,h2⟩
  ·obtain⟨os',ho',e,he,hb,rfl⟩:=Region.waitsFor_spec h
   obtain rfl:os=os':=Option.some.inj (ho.symm.trans ho')
   exact hall e he hb
  ·obtain⟨os',ho',e,he,hb,rfl⟩:=Region.waitsFor_spec h1
   obtain rfl:os=os':=Option.some.inj (ho.symm.trans ho')
   exact CP hc f _ h2 (hall e he hb)
theorem AQ.set{listed:Array Bool}{j:Nat}(hc:AQ ops listed)(hj:j∈Region.ready .any ops listed):AQ ops (listed.setIfInBounds j true):=by
 obtain⟨_,o,ho,hall⟩:=mem_ready.1 hj
 intro k ok hk hl e he hb
 by_cases hjk:j=k
 ·subst hjk
  obtain rfl:o=ok:=Option.some.inj (ho.symm.trans hk)
  exact getD_set_true (hall e he hb)
 ·rw[getD_set_ne false hjk]at hl
  exact getD_set_true (hc k ok hk hl e he hb)
theorem Wh{Y:Act→Prop}{K:Act→World→Prop}{j:Nat}{oj:Oper}{a:Act}{w:World}(hj:ops[j]? =some oj)(hput: ∀u,Y (a.put oj.dst u))(ah_: ∀d,Y ({a with defers:=d::a.defers}.put oj.dst undef))
  (h:wpOp P ops Q j K a w):wpOp P ops Q j (fun a' w'=>Y a'∧K a' w') a w:=by
 unfold wpOp at h⊢
 simp only[hj]at h⊢
 by_cases hw:Region.wanted oj (yielded ops a.tmps)=true
 ·rw[if_pos hw]at h⊢
  refine h.imp_left fun h=>?_
  unfold Oper.wp at h⊢
  generalize (execOp a.eval oj).run P w=r at h⊢
  cases r with
  |ok nx w'=>
   cases nx with
   |value u=>exact⟨hput u,h⟩
   |skip=>exact⟨hput _,h⟩
   |defer d=>exact⟨ah_ d,h⟩
   |enter f args=>
    refine Calls.mono h fun e w'' he=>?_
    cases e with
    |returned u=>exact⟨hput u,he⟩
    |panicked c=>exact he
    |outgrown=>exact he
   |row row args=>exact Rows.mono h fun u w'' he=>⟨hput u,he⟩
   |_=>exact h
  |halt x w'=>cases x<;>exact h
 ·rw[if_neg hw]at h⊢
  exact⟨hput _,h⟩
def anyI(P:Program)(ops:Array Oper)(Q:Exit→Act→World→Prop)(C:World→Prop)(s:Nat):Nat→Array Bool→Act→World→Prop
 |0,listed,a,w=>(listed.getD s false=false→C w)∧Region.ready .any ops listed= []∧Q .normal a w
 |f+1,listed,a,w=>(listed.getD s false=false→C w)∧(Region.ready .any ops listed= []→Q .normal a w)∧∀i∈Region.ready .any ops listed,wpOp P ops Q i (anyI P ops Q C s f (listed.setIfInBounds i true)) a w
theorem Ei: ∀(f:Nat) (listed:Array Bool) (a:Act) (w:World),anyI P ops Q C s f listed a w→wpAny P .any ops Q f listed a w
 |0,_,_,_,h=>h.2
 |f+1,_,_,_,h=>⟨h.2.1,fun i hi=>wpOp_mono (fun a w h=>Ei f _ a w h) (h.2.2 i hi)⟩
theorem OO{f:Nat}{listed:Array Bool}{a:Act}{w:World}(h:anyI P ops Q C s f listed a w)(hs:listed.getD s false=false):C w:=by
 cases f with
 |zero=>exact h.1 hs
 |succ f=>exact h.1 hs
theorem SQ: ∀(f:Nat) (listed:Array Bool) (a:Act) (w:World),listed.getD s false=true→wpAny P .any ops Q f listed a w→anyI P ops Q C s f listed a w
 |0,_,_,_,hs,h=>⟨fun h0=>absurd (hs.symm.trans h0) (by decide),h⟩
 |f+1,_,_,_,hs,h=>⟨fun h0=>absurd (hs.symm.trans h0) (by decide),h.1,fun i hi=>wpOp_mono (fun a w h=>SQ f _ a w (getD_set_true hs) h) (h.2 i hi)⟩
def Leaves(P:Program)(ops:Array Oper)(C:World→Prop)(o:Oper)(v:Value)(a:Act):Prop:=
 (Region.wanted o (yielded ops a.tmps)=true∧∀w,C w→(execOp a.eval o).run P w= .ok (.value v) w)∨(Region.wanted o (yielded ops a.tmps)=false∧v=undef)
theorem Aj{D:World→Prop}{i F:Nat}{oi:Oper}{v:Value}(hi:ops[i]? =some oi)(hsel: ∀(j:Nat) (o:Oper) cs b,ops[j]? =some o→o.op≠ .select cs b)(hQ: ∀c a w,¬Q (.panic c) a w)(hm:(∀w,D w)∨((∀w,C w→D w)∧Ai ops i F s=true))(hsi:s≠i):
  ∀(f:Nat) (listed:Array Bool) (a:Act) (w:World),AQ ops listed→
   (∀j oj,ops[j]? =some oj→j≠i→listed.getD j true=false→(∀e∈oj.after,Region.binds .any e=true→e.on≠i)→oi.apart ops oj=true)→
   i∈Region.ready .any ops listed→Leaves P ops D oi v a→D w→anyI P ops Q C s f (listed.setIfInBounds i true) (a.put oi.dst v) w→anyI P ops Q C s (f+1) listed a w:=by
 have now: ∀(K:Act→World→Prop) (a:Act) (w:World),Leaves P ops D oi v a→D w→K (a.put oi.dst v) w→wpOp P ops Q i K a w:=by
  intro K a w hy hC h
  unfold wpOp
  simp only[hi]
  rcases hy with⟨hw,hv⟩|⟨hw,rfl⟩
  ·rw[if_pos hw];refine .inl ?_;unfold Oper.wp;rw[hv w hC];exact h
  ·rw[if_neg (by rw[hw];decide)];exact h
 intro f
 induction f with
 |zero=>
  intro listed a w _ _ hr hy hC H
  refine⟨fun h0=>OO H (by rw[getD_set_ne false (Ne.symm hsi)];exact h0),fun h=>(by rw[h]at hr;cases hr),fun j hj=>?_⟩
  by_cases hji:j=i
  ·subst hji;exact now _ a w hy hC H
  ·have:=ready_mono hj hji
   rw[H.2.1]at this
   cases this
 |succ f ih=>
  intro listed a w hcl hfree hr hy hC H
  refine⟨fun h0=>OO H (by rw[getD_set_ne false (Ne.symm hsi)];exact h0),fun h=>(by rw[h]at hr;cases hr),fun j hj=>?_⟩
  by_cases hji:j=i
  ·subst hji;exact now _ a w hy hC H
  ·have h1:=H.2.2 j (ready_mono hj hji)
   obtain⟨adZ,oj,hoj,hall⟩:=mem_ready.1 hj
   have ah':=(mem_ready.1 hr).1
   have both: ∀{k:Nat},listed.getD k true=false→listed.getD k false=false:=fun {k} hk=>by
    rcases Nat.lt_or_ge k listed.size with h'|h'
    ·simp[h']at hk⊢;exact hk
    ·simp[Array.getElem?_eq_none h']at hk
   have hif:=both ah'
   have hnot: ∀e∈oj.after,Region.binds .any e=true→e.on≠i:=fun e he hb heq=>by
    have h2:=hall e he hb
    rw[heq,hif]at h2;cases h2
   have hap:=hfree j oj hoj hji adZ hnot
   obtain⟨a1,a2,a3⟩:=Oper.apart_spec hap
   have aia:({oi with op:= .assign (.const v),guard:=none}:Oper).apart ops oj=true:=by
    unfold Oper.apart at hap⊢
    simp only[Bool.and_eq_true]at hap⊢
    refine⟨hap.1,?_⟩
    cases hd:oj.dst with
    |none=>rfl
    |some d=>simp[Oper.looksAt,Op.operands]
   have hy':Yields P ops ({oi with op:= .assign (.const v),guard:=none}:Oper) v a:= .inl ⟨by simp[Region.wanted],fun w=>by simp[execOp,Act.eval]⟩
   have h2:=wpOp_put (oi:={oi with op:= .assign (.const v),guard:=none}) hoj aia (fun cs b=>by simp) (fun cs b=>hsel j oj cs b hoj) (fun c a w h=>absurd h (hQ c _ w)) hy' h1
   have h3:=Wh (Y:=Leaves P ops D oi v) hoj (fun u=>by unfold Leaves at hy⊢;rw[execOp_put oi (fun cs b=>hsel i oi cs b hi) a oj.dst u a3,wanted_put oi a oj.dst u a3];exact hy)
    (fun d=>by
     unfold Leaves at hy⊢
     rw[execOp_put oi (fun cs b=>hsel i oi cs b hi) _ oj.dst undef a3,wanted_put oi _ oj.dst undef a3];exact hy) h2
   have ad0: ∀k ok,ops[k]? =some ok→k≠i→(listed.setIfInBounds j true).getD k true=false→(∀e∈ok.after,Region.binds .any e=true→e.on≠i)→oi.apart ops ok=true:=fun k ok hk hki hun hno=>by
    refine hfree k ok hk hki ?_ hno
    by_cases hjk:j=k
    ·subst hjk;exact adZ
    ·rw[getD_set_ne true hjk]at hun;exact hun
   have hD': ∀a' w',anyI P ops Q C s f ((listed.setIfInBounds i true).setIfInBounds j true) a' w'→D w':=by
    intro a' w' h
    rcases hm with hm|⟨hm1,hm⟩
    ·exact hm w'
    refine hm1 w' (OO h ?_)
    have hjs:j≠s:=fun e=>by
     have:=UI hcl F s hm (e▸hj)
     rw[hif]at this;cases this
    rw[getD_set_ne false hjs,getD_set_ne false (Ne.symm hsi)]
    cases hls:listed.getD s false with
    |false=>rfl
    |true=>
     have:=CP hcl F s hm hls
     rw[hif]at this;cases this
   refine wpOp_mono (fun a' w' h4=>ih (listed.setIfInBounds j true) a' w' (hcl.set hj) ad0 (ready_mono hr (Ne.symm hji)) h4.1 (hD' _ _ h4.2.2) ?_) h3
   rw[Array.setIfInBounds_comm _ _ hji]
   exact h4.2.2
end
section
variable {P:Program} {n:Nat} {base:Nat} {w0 w:World} {L L0:List Chunk} {e:Env}
variable {ops:List Oper} {Q:Exit→Act→World→Prop} {d:Nat} {op:Op} {t:TypeId} {pos:String} {af:Array Edge} {v:Value} {K:Act→World→Prop} {fuel s:Nat} {listed:Array Bool}
def WX(P:Program)(ops:List Oper)(n:Nat)(base:Nat)(w0:World)(e:Env)(L L0:List Chunk)(s fuel:Nat)(listed:Array Bool)(K:Act→World→Prop):Prop:=
 KK n base w0 e L (anyI P ops.toArray (fun x a w=>x= .normal∧K a w) (St base w0 L0) s fuel listed)
theorem St.tail: ∀(A:List Chunk) {L:List Chunk},St base w0 (A++L) w→St base w0 L w:=fun A {L} h=>h.sub ⟨A,List.perm_append_comm⟩
theorem MR{C C':World→Prop}{s:Nat}{ops:Array Oper}{Q:Exit→Act→World→Prop}(h: ∀w,C' w→C w): ∀(f:Nat) (listed:Array Bool) (a:Act) (w:World),anyI P ops Q C' s f listed a w→anyI P ops Q C s f listed a w
 |0,_,_,_,k=>⟨fun h0=>h _ (k.1 h0),k.2⟩
 |f+1,_,_,_,k=>⟨fun h0=>h _ (k.1 h0),k.2.1,fun i hi=>wpOp_mono (fun a w q=>MR h f _ a w q) (k.2.2 i hi)⟩
theorem WX.now(hs: ∀w,St base w0 L w→St base w0 L0 w)(k:WX P ops n base w0 e L L s fuel listed K):WX P ops n base w0 e L L0 s fuel listed K:=fun a w ha hw=>MR hs fuel listed a w (k a w ha hw)
theorem WX.take(i:Nat)(fe:Array Bool)(hs: ∀w,St base w0 L w→St base w0 L0 w)(hi:ops[i]? =some ⟨some d,op,t,pos,af,none⟩)
  (hB:(Region.noSelect ops.toArray&&Region.free .any ops.toArray listed i&&(Region.ready .any ops.toArray listed).contains i&&listed.setIfInBounds i true==fe&&xJ ops.toArray listed&&Ai ops.toArray i ops.length s&& !(Nat.beq s i))=true)
  (y:Yd P n base w0 e L0 ⟨some d,op,t,pos,af,none⟩ v)(hd:Nat.blt d n=true)(k:WX P ops n base w0 ((d,v)::e) L L0 s fuel fe K):WX P ops n base w0 e L L0 s (fuel+1) listed K:=by
 simp only[Bool.and_eq_true,beq_iff_eq]at hB
 obtain⟨⟨⟨⟨⟨⟨h1,h2⟩,h3⟩,rfl⟩,h5⟩,h6⟩,h7⟩:=hB
 intro a w ha hw
 have hi':ops.toArray[i]? =some ⟨some d,op,t,pos,af,none⟩:=by simpa using hi
 refine Aj (v:=v) hi' (Region.noSelect_spec h1) (fun c a w h=>by cases h.1) (.inr ⟨fun _ h=>h,h6⟩) (fun e=>by subst e;simp at h7) fuel listed a w (Ce h5) (Region.free_spec hi' h2) (by simpa using h3) (.inl ⟨by simp[Region.wanted],fun w hw=>y a w ha hw⟩) (hs w hw) ?_
 exact k _ w (ha.put d v hd) hw
theorem WX.pure(i:Nat)(fe:Array Bool)(hi:ops[i]? =some ⟨some d,op,t,pos,af,none⟩)
  (hB:(Region.noSelect ops.toArray&&Region.free .any ops.toArray listed i&&(Region.ready .any ops.toArray listed).contains i&&listed.setIfInBounds i true==fe&&xJ ops.toArray listed&& !(Nat.beq s i))=true)
  (y: ∀base w0,Yd P n base w0 e [] ⟨some d,op,t,pos,af,none⟩ v)(hd:Nat.blt d n=true)(k:WX P ops n base w0 ((d,v)::e) L L0 s fuel fe K):WX P ops n base w0 e L L0 s (fuel+1) listed K:=by
 simp only[Bool.and_eq_true,beq_iff_eq]at hB
 obtain⟨⟨⟨⟨⟨h1,h2⟩,h3⟩,rfl⟩,h5⟩,h7⟩:=hB
 intro a w ha hw
 have hi':ops.toArray[i]? =some ⟨some d,op,t,pos,af,none⟩:=by simpa using hi
 refine Aj (D:=fun _=>True) (F:=0) (v:=v) hi' (Region.noSelect_spec h1) (fun c a w h=>by cases h.1) (.inl fun _=>trivial) (fun e=>by subst e;simp at h7) fuel listed a w (Ce h5) (Region.free_spec hi' h2) (by simpa using h3) (.inl ⟨by simp[Region.wanted],fun w _=>y w.heap.size w a w ha (St.start w)⟩) trivial ?_
 exact k _ w (ha.put d v hd) hw
def Yg(P:Program)(ops:List Oper)(n:Nat)(base:Nat)(w0:World)(e:Env)(L:List Chunk)(o:Oper)(v:Value):Prop:=∀a,Fits n e a→Leaves P ops.toArray (St base w0 L) o v a
theorem Yg.g{j:Nat}{want b:Bool}(g:Gd ops n e j want b)(y:b=true→Yd P n base w0 e L ⟨some d,op,t,pos,af,some (j,want)⟩ v):Yg P ops n base w0 e L ⟨some d,op,t,pos,af,some (j,want)⟩ (gv b v):=by
 intro a ha
 have hg:=g a ha
 cases b with
 |true=>exact .inl ⟨by simp only[Region.wanted,hg],fun w hw=>y rfl a w ha hw⟩
 |false=>exact .inr ⟨by simp only[Region.wanted,hg],rfl⟩
theorem Yg.yes{j:Nat}{want b:Bool}(g:Gd ops n e j want b)(hb:b=true)(y:Yd P n base w0 e L ⟨some d,op,t,pos,af,none⟩ v):Yg P ops n base w0 e L ⟨some d,op,t,pos,af,some (j,want)⟩ v:=by
 intro a ha
 have hg:=g a ha
 exact .inl ⟨by simp only[Region.wanted,hg,hb],fun w hw=>y a w ha hw⟩
theorem Yg.no{j:Nat}{want b:Bool}(g:Gd ops n e j want b)(hb:b=false):Yg P ops n base w0 e L ⟨some d,op,t,pos,af,some (j,want)⟩ undef:=by
 intro a ha
 have hg:=g a ha
 exact .inr ⟨by simp only[Region.wanted,hg,hb],rfl⟩
theorem WX.JK(i:Nat){G:Option (Nat×Bool)}(fe:Array Bool)(hs: ∀w,St base w0 L w→St base w0 L0 w)(hi:ops[i]? =some ⟨some d,op,t,pos,af,G⟩)
  (hB:(Region.noSelect ops.toArray&&Region.free .any ops.toArray listed i&&(Region.ready .any ops.toArray listed).contains i&&listed.setIfInBounds i true==fe&&xJ ops.toArray listed&&Ai ops.toArray i ops.length s&& !(Nat.beq s i))=true)
  (y:Yg P ops n base w0 e L0 ⟨some d,op,t,pos,af,G⟩ v)(hd:Nat.blt d n=true)(k:WX P ops n base w0 ((d,v)::e) L L0 s fuel fe K):WX P ops n base w0 e L L0 s (fuel+1) listed K:=by
 simp only[Bool.and_eq_true,beq_iff_eq]at hB
 obtain⟨⟨⟨⟨⟨⟨h1,h2⟩,h3⟩,rfl⟩,h5⟩,h6⟩,h7⟩:=hB
 intro a w ha hw
 have hi':ops.toArray[i]? =some ⟨some d,op,t,pos,af,G⟩:=by simpa using hi
 refine Aj (v:=v) hi' (Region.noSelect_spec h1) (fun c a w h=>by cases h.1) (.inr ⟨fun _ h=>h,h6⟩) (fun e=>by subst e;simp at h7) fuel listed a w (Ce h5) (Region.free_spec hi' h2) (by simpa using h3) (y a ha) (hs w hw) ?_
 exact k _ w (ha.put d v hd) hw
theorem WX.Cf(i:Nat){G:Option (Nat×Bool)}(fe:Array Bool)(hi:ops[i]? =some ⟨some d,op,t,pos,af,G⟩)
  (hB:(Region.noSelect ops.toArray&&Region.free .any ops.toArray listed i&&(Region.ready .any ops.toArray listed).contains i&&listed.setIfInBounds i true==fe&&xJ ops.toArray listed&& !(Nat.beq s i))=true)
  (y: ∀base w0,Yg P ops n base w0 e [] ⟨some d,op,t,pos,af,G⟩ v)(hd:Nat.blt d n=true)(k:WX P ops n base w0 ((d,v)::e) L L0 s fuel fe K):WX P ops n base w0 e L L0 s (fuel+1) listed K:=by
 simp only[Bool.and_eq_true,beq_iff_eq]at hB
 obtain⟨⟨⟨⟨⟨h1,h2⟩,h3⟩,rfl⟩,h5⟩,h7⟩:=hB
 intro a w ha hw
 have hi':ops.toArray[i]? =some ⟨some d,op,t,pos,af,G⟩:=by simpa using hi
 refine Aj (D:=fun _=>True) (F:=0) (v:=v) hi' (Region.noSelect_spec h1) (fun c a w h=>by cases h.1) (.inl fun _=>trivial) (fun e=>by subst e;simp at h7) fuel listed a w (Ce h5) (Region.free_spec hi' h2) (by simpa using h3) ?_ trivial ?_
 ·rcases y w.heap.size w a ha with⟨h8,h9⟩|h8
  ·refine .inl ⟨h8,fun w' _=>?_⟩
   rcases y w'.heap.size w' a ha with⟨_,h10⟩|⟨h10,_⟩
   ·exact h10 w' (St.start w')
   ·rw[h8]at h10;cases h10
  ·exact .inr h8
 ·exact k _ w (ha.put d v hd) hw
theorem WA.JK{K:Act→World→Prop}{fuel:Nat}{listed:Array Bool}(i:Nat){G:Option (Nat×Bool)}(fe:Array Bool)(hi:ops[i]? =some ⟨some d,op,t,pos,af,G⟩)
  (hB:(Region.noSelect ops.toArray&&Region.free .any ops.toArray listed i&&(Region.ready .any ops.toArray listed).contains i&&listed.setIfInBounds i true==fe)=true)
  (y: ∀base w0,Yg P ops n base w0 e [] ⟨some d,op,t,pos,af,G⟩ v)(hd:Nat.blt d n=true)(k:WA P ops n base w0 ((d,v)::e) L fuel fe K):WA P ops n base w0 e L (fuel+1) listed K:=by
 simp only[Bool.and_eq_true,beq_iff_eq]at hB
 obtain⟨⟨⟨h1,h2⟩,h3⟩,rfl⟩:=hB
 intro a w ha hw
 refine wpAny_take (v:=v) (by simpa using hi) h1 h2 h3 (fun c a w h=>by cases h.1) ?_ ?_
 ·rcases y w.heap.size w a ha with⟨h8,h9⟩|h8
  ·refine .inl ⟨h8,fun w'=>?_⟩
   rcases y w'.heap.size w' a ha with⟨_,h10⟩|⟨h10,_⟩
   ·exact h10 w' (St.start w')
   ·rw[h8]at h10;cases h10
  ·exact .inr h8
 ·exact k _ w (ha.put d v hd) hw
theorem WO.gT{D:Option Tmp}{j:Nat}{want b:Bool}{K:Act→World→Prop}{Q:Exit→Act→World→Prop}(g:Gd ops n e j want b)(hb:b=true)(h:WO P ops n base w0 e L ⟨D,op,t,pos,af,none⟩ K Q):WO P ops n base w0 e L ⟨D,op,t,pos,af,some (j,want)⟩ K Q:=by
 intro a w ha hw
 have hg:=g a ha
 have h1:=h a w ha hw
 simp only[Region.wanted,hg,hb,if_true]at h1⊢
 exact h1
theorem WO.gN{j:Nat}{want b:Bool}{K:Act→World→Prop}{Q:Exit→Act→World→Prop}(g:Gd ops n e j want b)(hb:b=false)(hd:Nat.blt d n=true)(h:KK n base w0 ((d,undef)::e) L K):WO P ops n base w0 e L ⟨some d,op,t,pos,af,some (j,want)⟩ K Q:=by
 intro a w ha hw
 have hg:=g a ha
 simp only[Region.wanted,hg,hb,Bool.false_eq_true,if_false]
 exact h _ _ (ha.put d undef hd) hw
theorem WX.one(i:Nat){o:Oper}(fe:Array Bool)(hs: ∀w,St base w0 L w→St base w0 L0 w)(hi:ops[i]? =some o)
  (hB:(Region.ready .any ops.toArray listed== [i]&&listed.setIfInBounds i true==fe)=true)
  (h:WO P ops n base w0 e L o (anyI P ops.toArray (fun x a w=>x= .normal∧K a w) (St base w0 L0) s fuel fe) (fun x a w=>x= .normal∧K a w)):WX P ops n base w0 e L L0 s (fuel+1) listed K:=by
 simp only[Bool.and_eq_true,beq_iff_eq]at hB
 obtain⟨h1,rfl⟩:=hB
 intro a w ha hw
 refine⟨fun _=>hs w hw,fun h=>(by rw[h1]at h;cases h),fun j hj=>?_⟩
 rw[h1]at hj
 obtain rfl:j=i:=by simpa using hj
 unfold wpOp
 have:ops.toArray[j]? =some o:=by simpa using hi
 simp only[this]
 exact h a w ha hw
def JL(P:Program)(ops:List Oper)(n:Nat)(base:Nat)(w0:World)(e:Env)(L L0:List Chunk)(s fuel:Nat)(listed:Array Bool)(K:Act→World→Prop)(i:Nat):Prop:=
 KK n base w0 e L (wpOp P ops.toArray (fun x a w=>x= .normal∧K a w) i (anyI P ops.toArray (fun x a w=>x= .normal∧K a w) (St base w0 L0) s fuel (listed.setIfInBounds i true)))
theorem WX.branch(rs:List Nat)(hs: ∀w,St base w0 L w→St base w0 L0 w)(hB:(Region.ready .any ops.toArray listed==rs&& !rs.isEmpty)=true)(h:Hj (JL P ops n base w0 e L L0 s fuel listed K) rs):WX P ops n base w0 e L L0 s (fuel+1) listed K:=by
 simp only[Bool.and_eq_true,beq_iff_eq,Bool.not_eq_true',List.isEmpty_eq_false_iff]at hB
 intro a w ha hw
 refine⟨fun _=>hs w hw,fun h'=>absurd (hB.1.symm.trans h') hB.2,fun j hj=>?_⟩
 rw[hB.1]at hj
 exact h.get j hj a w ha hw
theorem JL.step{i:Nat}{o:Oper}(fe:Array Bool)(hi:ops[i]? =some o)(hl:listed.setIfInBounds i true=fe)
  (h:WO P ops n base w0 e L o (anyI P ops.toArray (fun x a w=>x= .normal∧K a w) (St base w0 L0) s fuel fe) (fun x a w=>x= .normal∧K a w)):JL P ops n base w0 e L L0 s fuel listed K i:=by
 subst hl
 intro a w ha hw
 unfold wpOp
 have:ops.toArray[i]? =some o:=by simpa using hi
 simp only[this]
 exact h a w ha hw
theorem WX.stop{o:Oper}(fe:Array Bool)(hs: ∀w,St base w0 L w→St base w0 L0 w)(hi:ops[s]? =some o)
  (hB:(Region.ready .any ops.toArray listed== [s]&&listed.setIfInBounds s true==fe&&fe.getD s false)=true)
  (h:WO P ops n base w0 e L o (wpAny P .any ops.toArray (fun x a w=>x= .normal∧K a w) fuel fe) (fun x a w=>x= .normal∧K a w)):WX P ops n base w0 e L L0 s (fuel+1) listed K:=by
 simp only[Bool.and_eq_true,beq_iff_eq]at hB
 obtain⟨⟨h1,rfl⟩,h3⟩:=hB
 intro a w ha hw
 refine⟨fun _=>hs w hw,fun h=>(by rw[h1]at h;cases h),fun j hj=>?_⟩
 rw[h1]at hj
 obtain rfl:j=s:=by simpa using hj
 refine wpOp_mono (fun a w h=>SQ fuel _ a w h3 h) ?_
 unfold wpOp
 have:ops.toArray[j]? =some o:=by simpa using hi
 simp only[this]
 exact h a w ha hw
theorem W.xL{y:Code}{id:Nat}{l:List Oper}(s:Nat)(hm:P.follows .mixedOrders=true)(h: ∀K:Act→World→Prop,(∀a w,y.wp P Q a w→K a w)→WX P l n base w0 e L L s l.length (Array.replicate l.length false) K):W P n base w0 e L (.seq (.region id l.toArray true) y) Q:=
 W.ah7 hm fun K hK a w ha hw=>Ei _ _ _ _ (h K hK a w ha hw)
theorem W.ag0{id:Nat}{l:List Oper}(s:Nat)(idx:List Nat)(hm:P.follows .mixedOrders=true)(h:WX P l n base w0 e L (idx.filterMap (L[·]?)) s l.length (Array.replicate l.length false) (fun a w=>Q .normal a w)):W P n base w0 e L (.region id l.toArray true) Q:=by
 intro a w ha hw
 have h1:=wp_region_any (id:=id) (ops:=l.toArray) (Q:=fun x a w=>x= .normal∧Q .normal a w) (a:=a) (w:=w) hm (by simpa using Ei _ _ _ _ (h a w.drew ha hw.drew))
 refine wp_mono h1 ?_
 rintro e a w ⟨rfl,h⟩
 exact h
end
end Go.Proofs.YtjdkkabcenohcaaGreatDoor
