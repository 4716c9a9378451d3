import Derived.Test.YtjdkkabcenohcaaGreatDoorLoops
set_option linter.unusedVariables false
set_option linter.unusedSimpArgs false
set_option linter.unusedSectionVars false
namespace Go.Proofs.YtjdkkabcenohcaaGreatDoor
open Go.RowKit
variable {P:Program} {n:Nat} {base:Nat} {w0 w:World} {L:List Chunk} {e:Env}
variable {ops rest:List Oper} {Q:Exit→Act→World→Prop} {d:Nat} {D:Option Tmp} {op:Op} {t:TypeId} {pos:String} {af:Array Edge} {G:Option (Nat×Bool)} {v u:Value} {x y z:Operand}
def nB(M:List Chunk):Chunk:=⟨owns M,fun f=>∀c∈M,c.ok f,fun f g h hf c hc=>c.loc f g (fun b hb=>h b (xF hc hb)) (hf c hc)⟩
def cF(p:Prop):Chunk:=⟨[],fun _=>p,fun _ _ _ h=>h⟩
def cp(L L':List Chunk):Prop:=∀R base w0 w,St base w0 (R++L) w→St base w0 (R++L') w
theorem cp.at{L L':List Chunk}(h:cp L L'): ∀base w0 w,St base w0 L w→St base w0 L' w:=fun b w0 w hw=>h [] b w0 w hw
theorem cp.refl{L:List Chunk}:cp L L:=fun _ _ _ _ h=>h
theorem cp.trans{L M N:List Chunk}(h:cp L M)(k:cp M N):cp L N:=fun R b w0 w hw=>k R b w0 w (h R b w0 w hw)
theorem cp.perm{L M:List Chunk}(h:L.Perm M):cp L M:=fun R _ _ _ hw=>hw.sub ⟨[],by rw[List.append_nil];exact(List.Perm.append_left R h).symm⟩
theorem cp.cons{c:Chunk}{L M:List Chunk}(h:cp L M):cp (c::L) (c::M):=fun R b w0 w hw=>by
 have e: ∀X:List Chunk,R++c::X=(R++[c])++X:=fun X=>by simp
 rw[e]at hw⊢;exact h _ _ _ _ hw
theorem cp.app{X L M:List Chunk}(h:cp L M):cp (X++L) (X++M):=fun R b w0 w hw=>by
 rw[←List.append_assoc]at hw⊢;exact h _ _ _ _ hw
theorem cp.Hp{M R:List Chunk}:cp (nB M::R) (M++R):=fun X b w0 w h=>by
 have ho:owns (X++(M++R))=owns (X++nB M::R):=by rw[jf,jf,jf,m9];rfl
 refine⟨h.below,h.ot,fun c hc=>?_,ho▸h.nodup,ho▸h.ge⟩
 have Cb:c∈X∨c∈M∨c∈R:=by simpa using hc
 rcases Cb with hc|hc|hc
 ·exact h.sat c (by simp[hc])
 ·exact h.sat (nB M) (by simp) c hc
 ·exact h.sat c (by simp[hc])
theorem cp.AW{M R:List Chunk}:cp (M++R) (nB M::R):=fun X b w0 w h=>by
 have ho:owns (X++(M++R))=owns (X++nB M::R):=by rw[jf,jf,jf,m9];rfl
 refine⟨h.below,h.ot,fun c hc=>?_,ho▸h.nodup,ho▸h.ge⟩
 have Cb:c∈X∨c=nB M∨c∈R:=by simpa using hc
 rcases Cb with hc|rfl|hc
 ·exact h.sat c (by simp[hc])
 ·exact fun c hc=>h.sat c (by simp[hc])
 ·exact h.sat c (by simp[hc])
theorem cp.drop{M R:List Chunk}:cp (M++R) R:=fun X _ _ _ h=>h.sub ⟨M,by
 have:(X++R++M).Perm (X++(R++M)):=by simp
 exact this.trans (List.Perm.append_left X List.perm_append_comm)⟩
theorem JQ{L:List Chunk}{i:Nat}{c:Chunk}(hi:L[i]? =some c):L.Perm (c::L.eraseIdx i):=by
 obtain⟨e1,-⟩:=FN hi
 have h2:L.eraseIdx i=L.take i++L.drop (i+1):=List.eraseIdx_eq_take_drop_succ ..
 rw[h2]
 conv=>lhs;rw[e1]
 exact List.perm_middle
theorem cp.head{i:Nat}{c:Chunk}(hi:L[i]? =some c):cp L (c::L.eraseIdx i):= .perm (JQ hi)
theorem cp.fact{p:Prop}{R:List Chunk}(h:p):cp R (cF p::R):=fun X b w0 w hw=>by
 have ho:owns (X++cF p::R)=owns (X++R):=by rw[jf,jf,m9];rfl
 refine⟨hw.below,hw.ot,fun c hc=>?_,ho▸hw.nodup,ho▸hw.ge⟩
 have Cb:c∈X∨c=cF p∨c∈R:=by simpa using hc
 rcases Cb with hc|rfl|hc
 ·exact hw.sat c (by simp[hc])
 ·exact h
 ·exact hw.sat c (by simp[hc])
theorem cp.pick(idx:List Nat)(hi:(decide idx.Nodup&&idx.all fun i=>Nat.blt i L.length)=true):cp L (idx.filterMap (L[·]?)):=fun R b w0 w hw=>by
 simp only[Bool.and_eq_true,decide_eq_true_eq,List.all_eq_true,Nat.blt_eq]at hi
 obtain⟨hn,hl⟩:=hi
 have hp:(idx.filterMap (L[·]?)++((List.range L.length).filter (fun i=>decide (i∉idx))).filterMap (L[·]?)).Perm L:=by
  conv=>rhs;rw[←Ef L]
  rw[←List.filterMap_append]
  refine List.Perm.filterMap _ ?_
  rw[List.perm_ext_iff_of_nodup]
  ·intro a
   simp only[List.mem_append,List.mem_filter,List.mem_range,decide_eq_true_eq]
   constructor
   ·rintro(h|h)
    ·exact hl a h
    ·exact h.1
   ·intro h
    by_cases ha:a∈idx
    ·exact .inl ha
    ·exact .inr ⟨h,ha⟩
  ·rw[List.nodup_append]
   refine⟨hn,List.Pairwise.filter _ List.nodup_range,fun a ha b hb e=>?_⟩
   subst e
   simp at hb
   exact hb.2 ha
  ·exact List.nodup_range
 have h1:=cp.perm hp.symm R b w0 w hw
 exact h1.sub ⟨((List.range L.length).filter (fun i=>decide (i∉idx))).filterMap (L[·]?),by rw[List.append_assoc]⟩
theorem cp.Oe(k:Nat)(idx:List Nat)(hi:(decide idx.Nodup&&idx.all (fun i=>Nat.blt i k)&&Nat.ble k L.length)=true):cp L (idx.filterMap (L[·]?)++L.drop k):=fun R b w0 w hw=>by
 have h1:St b w0 (L++R) w:=cp.perm (List.perm_append_comm (l₁:=R) (l₂:=L)) [] b w0 w hw
 have e1: ∀i,i < k→(L++R)[i]? =L[i]? :=fun i hi'=>by
  simp only[Bool.and_eq_true,Nat.ble_eq]at hi
  exact List.getElem?_append_left (by omega)
 have hi2:(decide idx.Nodup&&idx.all (fun i=>Nat.blt i k)&&Nat.ble k (L++R).length)=true:=by
  simp only[Bool.and_eq_true,Nat.ble_eq,List.length_append]at hi⊢
  exact⟨hi.1,by omega⟩
 have h2:=h1.cY k idx hi2
 have hk:k≤L.length:=by simp only[Bool.and_eq_true,Nat.ble_eq]at hi;exact hi.2
 have hl: ∀i∈idx,i < k:=by simp only[Bool.and_eq_true,List.all_eq_true,Nat.blt_eq]at hi;exact hi.1.2
 have e2: ∀l:List Nat,(∀i∈l,i < k)→l.filterMap ((L++R)[·]?)=l.filterMap (L[·]?):=by
  intro l
  induction l with
  |nil=>intro _;rfl
  |cons a l ih=>
   intro h
   rw[List.filterMap_cons,List.filterMap_cons,e1 a (h a (by simp)),ih (fun i hi=>h i (by simp[hi]))]
 rw[e2 idx hl,List.drop_append_of_le_length hk,←List.append_assoc]at h2
 exact cp.perm (List.perm_append_comm) [] b w0 w h2
theorem cp.qp{α:Type}(enc:α→List Value)(sz E:Nat):cp L (cR enc sz none 0 E ([]:List α)::L):=fun R b w0 w hw=>by
 have h1:=St.qp hw enc sz E
 exact h1.sub ⟨[],by rw[List.append_nil];exact List.perm_middle⟩
theorem cp.cY{X T:List Chunk}(idx:List Nat)(hi:(decide idx.Nodup&&idx.all fun i=>Nat.blt i X.length)=true):cp (X++T) (idx.filterMap (X[·]?)++T):=
 .trans (.perm List.perm_append_comm) (.trans (.app (.pick idx hi)) (.perm List.perm_append_comm))
theorem St.inside(h:St base w0 L w){M:List Chunk}{c:Chunk}(hM:nB M∈L)(hc:c∈M):St base w0 [c] w:=by
 obtain⟨X,Y,rfl⟩:=List.append_of_mem hM
 have h1:=cp.Hp.at _ _ _ (h.sub ⟨[],by rw[List.append_nil];exact(List.perm_middle (l₁:=X) (a:=nB M) (l₂:=Y)).symm⟩)
 obtain⟨X',Y',rfl⟩:=List.append_of_mem hc
 refine h1.sub ⟨X'++Y'++(X++Y),?_⟩
 have:([c]++(X'++Y'++(X++Y))).Perm ((c::(X'++Y'))++(X++Y)):=by simp
 exact this.trans (List.Perm.append_right _ List.perm_middle.symm)
theorem WL.AX{L':List Chunk}(h:cp L L')(k:WL P ops n base w0 e L' rest Q):WL P ops n base w0 e L rest Q:=fun a w ha hw=>k a w ha (h.at _ _ _ hw)
theorem KK.AX{K:Act→World→Prop}{L':List Chunk}(h:cp L L')(k:KK n base w0 e L' K):KK n base w0 e L K:=fun a w ha hw=>k a w ha (h.at _ _ _ hw)
theorem WO.AX{o:Oper}{K:Act→World→Prop}{L':List Chunk}(h:cp L L')(k:WO P ops n base w0 e L' o K Q):WO P ops n base w0 e L o K Q:=fun a w ha hw=>k a w ha (h.at _ _ _ hw)
section
variable {η α:Type} {enc:η→α→List Value} {bN:η→α→List Chunk} {sz:Nat} {A:Option Addr} {cap m k i p E T T':Nat} {hs:List η} {xs:List α} {a:α} {h0:η} {kd:IntKind} {idx:Int}
def ga(enc:η→α→List Value)(hs:List η)(xs:List α):List Value:=(List.zip hs xs).flatMap fun p=>enc p.1 p.2
def lu(bN:η→α→List Chunk)(hs:List η)(xs:List α):List Chunk:=(List.zip hs xs).flatMap fun p=>bN p.1 p.2
def cN(enc:η→α→List Value)(bN:η→α→List Chunk)(sz:Nat)(A:Option Addr)(cap:Nat)(E:TypeId)(hs:List η)(xs:List α):Chunk:=
 nB (eR A cap E sz xs.length (ga enc hs xs)::cF (hs.length=xs.length)::lu bN hs xs)
def F0(bN:η→α→List Chunk)(hs:List η)(xs:List α)(k:Nat):List Chunk:=((List.zip hs xs).eraseIdx k).flatMap fun p=>bN p.1 p.2
def cH(bN:η→α→List Chunk)(sz:Nat)(A:Option Addr)(cap:Nat)(E:TypeId)(enc:η→α→List Value)(hs:List η)(xs:List α)(k:Nat):Chunk:=
 nB (eR A cap E sz xs.length (ga enc hs xs)::cF (hs.length=xs.length)::F0 bN hs xs k)
theorem Dn(hl:hs.length=xs.length)(hx:xs[k]? =some a):(List.zip hs xs)[k]? =some (hs.getD k h0,a):=by
 obtain⟨hk,rfl⟩:=List.getElem?_eq_some_iff.1 hx
 rw[List.getElem?_eq_getElem (by simp;omega)]
 simp[List.getD_eq_getElem?_getD,List.getElem?_eq_getElem (show k < hs.length by omega)]
theorem Al(h:St base w0 L w)(hi:L[i]? =some (cN enc bN sz A cap E hs xs)):hs.length=xs.length:=by
 have:=h.sat _ (List.mem_of_getElem? hi)
 exact this (cF (hs.length=xs.length)) (by simp)
theorem aaN(h:St base w0 L w)(hi:L[i]? =some (cN enc bN sz A cap E hs xs)):St base w0 [eR A cap E sz xs.length (ga enc hs xs)] w:=
 h.inside (List.mem_of_getElem? hi) (by simp)
theorem Og(h:St base w0 L w)(hi:L[i]? =some (cN enc bN sz A cap E hs xs))(hb:0≤idx∧idx < xs.length):xk A:=
 ((aaN h hi).iA (i:=0) rfl).2.2 (by omega)
theorem Wr(h:St base w0 L w)(hz: ∀h a,(enc h a).length=sz)(hi:L[i]? =some (cN enc bN sz A cap E hs xs))(hx:xs[k]? =some a){j:Nat}(hv:(enc (hs.getD k h0) a)[j]? =some v):w.cell? (dr A (k * sz+j))=some v:=by
 have hl:=Al h hi
 have OU:=Dn (h0:=h0) hl hx
 obtain⟨hk,he⟩:=List.getElem?_eq_some_iff.1 OU
 have hj:j < sz:=by rw[←hz (hs.getD k h0) a];exact(List.getElem?_eq_some_iff.1 hv).1
 refine((aaN h hi).AE (i:=0) rfl (j:=k * sz+j) ?_).2
 unfold ga
 rw[uQ (fun p=>hz p.1 p.2) _ k j hk hj,he]
 exact hv
theorem SX(h:St base w0 L w)(hi:L[i]? =some (cN enc bN sz A cap E hs xs))(hx:xs[k]? =some a){c:Chunk}(hc:c∈bN (hs.getD k h0) a):St base w0 [c] w:=by
 refine h.inside (List.mem_of_getElem? hi) ?_
 have OU:=Dn (h0:=h0) (Al h hi) hx
 simp only[List.mem_cons]
 right;right
 exact List.mem_flatMap.2 ⟨_,List.mem_of_getElem? OU,hc⟩
theorem Y.xl(hT:P.underlying T=some (.slice E))(hk:P.cellsOf E=k+1)(hi:L[i]? =some (cN enc bN sz A cap T' hs xs))(hx:aD n e x (.slice A m cap))(hm:m=xs.length)(hy:aD n e y (.int kd idx))(hb:0≤idx∧idx < xs.length):
  Yd P n base w0 e L ⟨D,.indexAddr T x y,t,pos,af,G⟩ (.pointer (some (dr A (idx.toNat * (k+1))))):=by
 subst hm
 intro a w ha hw
 exact Y.Cd hT hk hx hy hb (Og hw hi hb) a w ha hw
theorem Y.bJ{T i i' off ft k:Nat}{fs:Array Field}{j:Nat}(hT:P.underlying T=some (.struct fs))(hf:pO P fs i off ft)(hk:P.cellsOf ft=k+1)(hi:L[i']? =some (cN enc bN sz A cap T' hs xs))(hb:0≤idx∧idx < xs.length)(hx:aD n e x (.pointer (some (dr A j)))):
  Yd P n base w0 e L ⟨D,.fieldAddr T x i,t,pos,af,G⟩ (.pointer (some (dr A (j+off)))):=by
 intro a w ha hw
 exact Y.wc hT hf hk (Og hw hi hb).1 hx a w ha hw
theorem Y.cu{dT:TypeDesc}{j:Nat}(hT:P.underlying T=some dT)(hd:fx dT=true)(hz: ∀h a,(enc h a).length=sz)(hi:L[i]? =some (cN enc bN sz A cap T' hs xs))(hx:aD n e x (.pointer (some (dr A p))))(ha:xs[idx.toNat]? =some a)(hp:p=idx.toNat * sz+j)(hv:(enc (hs.getD idx.toNat h0) a)[j]? =some v):
  Yd P n base w0 e L ⟨D,.load T x,t,pos,af,G⟩ v:=Y.load hT hd hx (fun w hw=>by subst hp;exact Wr hw hz hi ha hv)
theorem Y.JR{dT:TypeDesc}{j:Nat}{ds:List Value}(hT:P.underlying T=some dT)(hd:xG dT=true)(hk:P.cellsOf T=k+1)(hz: ∀h a,(enc h a).length=sz)(hi:L[i]? =some (cN enc bN sz A cap T' hs xs))(hx:aD n e x (.pointer (some (dr A p))))(ha:xs[idx.toNat]? =some a)(hp:p=idx.toNat * sz+j)(hl:ds.length=k+1)(hv: ∀q v,ds[q]? =some v→(enc (hs.getD idx.toNat h0) a)[j+q]? =some v):
  Yd P n base w0 e L ⟨D,.load T x,t,pos,af,G⟩ (.agg ds.toArray):=by
 intro ac w hac hw
 have hlt:=(List.getElem?_eq_some_iff.1 ha).1
 have hs:A.isSome=true:=(Og (idx:=(idx.toNat:Int)) hw hi ⟨Int.natCast_nonneg _,Int.ofNat_lt.2 hlt⟩).1
 exact Y.IH hT hd hk hs hx hl (fun w hw q v hq=>by subst hp;rw[Nat.add_assoc];exact Wr hw hz hi ha (hv q v hq)) ac w hac hw
theorem ahb(h:St base w0 L w)(hi:L[i]? =some (cH bN sz A cap E enc hs xs m))(hb:0≤idx∧idx < xs.length):xk A:=by
 have h1:St base w0 [eR A cap E sz xs.length (ga enc hs xs)] w:=h.inside (List.mem_of_getElem? hi) (by simp)
 exact(h1.iA (i:=0) rfl).2.2 (by omega)
theorem Y.aea{T i i' off ft k mm:Nat}{fs:Array Field}{j:Nat}(hT:P.underlying T=some (.struct fs))(hf:pO P fs i off ft)(hk:P.cellsOf ft=k+1)(hi:L[i']? =some (cH bN sz A cap T' enc hs xs mm))(hb:0≤idx∧idx < xs.length)(hx:aD n e x (.pointer (some (dr A j)))):
  Yd P n base w0 e L ⟨D,.fieldAddr T x i,t,pos,af,G⟩ (.pointer (some (dr A (j+off)))):=by
 intro a w ha hw
 exact Y.wc hT hf hk (ahb hw hi hb).1 hx a w ha hw
theorem bi.inN{β:Type}{pc:β→List Value}{OV c2 E2:Nat}{A2:Option Addr}{ys:List β}(hz: ∀a,(pc a).length=OV)(h:St base w0 L w)(hi:L[i]? =some (cN enc bN sz A cap E hs xs))(hx:ix xs idx=some a)(hc:cR pc OV A2 c2 E2 ys∈bN (hs.getD idx.toNat h0) a):bi pc OV w (.slice A2 ys.length c2) ys:=
 bi.ofRow hz (SX h hi (aI hx) hc) (i:=0) rfl
theorem cp.AY(hl:hs.length=xs.length):cp (eR A cap E sz xs.length (ga enc hs xs)::(lu bN hs xs++L)) (cN enc bN sz A cap E hs xs::L):=
 .trans (.trans (.fact hl) (.perm (List.Perm.swap ..))) (.AW (M:=_::_::lu bN hs xs))
theorem cp.Hq:cp (cN enc bN sz A cap E hs xs::L) (eR A cap E sz xs.length (ga enc hs xs)::(lu bN hs xs++L)):=
 .trans .Hp (.cons (.drop (M:=[cF (hs.length=xs.length)])))
theorem cp.Yy(enc:η→α→List Value)(bN:η→α→List Chunk)(sz E:Nat):cp L (cN enc bN sz none 0 E ([]:List η) ([]:List α)::L):=by
 refine .trans ?_ (cp.AY (hs:=[]) (xs:=[]) rfl)
 intro R b w0 w hw
 have h1:=(St.Wd hw E sz)
 exact h1.sub ⟨[],by rw[List.append_nil];exact List.perm_middle⟩
theorem St.Yy(h:St base w0 L w)(enc:η→α→List Value)(bN:η→α→List Chunk)(sz E:Nat):St base w0 (cN enc bN sz none 0 E ([]:List η) ([]:List α)::L) w:=(cp.Yy enc bN sz E).at _ _ _ h
theorem Dp(hl:hs.length=xs.length)(k:Nat)(h':η)(a':α):List.zip (hs.set k h') (xs.set k a')=(List.zip hs xs).set k (h',a'):=by
 apply List.ext_getElem?
 intro j
 by_cases hj:j=k
 ·subst hj
  by_cases hlt:j < xs.length
  ·rw[List.getElem?_eq_getElem (by simp;omega),List.getElem?_eq_getElem (by simp;omega)]
   simp
  ·rw[List.getElem?_eq_none (by simp;omega),List.getElem?_eq_none (by simp;omega)]
 ·by_cases hlt:j < xs.length
  ·rw[List.getElem?_eq_getElem (by simp;omega),List.getElem?_eq_getElem (by simp;omega)]
   simp[List.getElem_set,Ne.symm hj]
  ·rw[List.getElem?_eq_none (by simp;omega),List.getElem?_eq_none (by simp;omega)]
theorem Ek{β:Type}(f:β→List Chunk): ∀(l:List β) (k:Nat) (b:β),l[k]? =some b→(l.flatMap f).Perm (f b++(l.eraseIdx k).flatMap f)
 | [],_,_,h=>by simp at h
 |c::l,0,b,h=>by
  obtain rfl:c=b:=by simpa using h
  simp
 |c::l,k+1,b,h=>by
  have ih:=Ek f l k b (by simpa using h)
  simp only[List.flatMap_cons,List.eraseIdx_cons_succ]
  refine(List.Perm.append_left _ ih).trans ?_
  rw[←List.append_assoc,←List.append_assoc]
  exact List.Perm.append_right _ List.perm_append_comm
theorem MT{β:Type}: ∀(l:List β) (k:Nat) (b:β),(l.set k b).eraseIdx k=l.eraseIdx k
 | [],_,_=>rfl
 |_::_,0,_=>rfl
 |c::l,k+1,b=>by simp[MT l k b]
theorem cp.UO(hl:hs.length=xs.length)(hx:xs[k]? =some a):cp (lu bN hs xs++L) (bN (hs.getD k h0) a++(F0 bN hs xs k++L)):=by
 have:=Ek (fun p:η×α=>bN p.1 p.2) (List.zip hs xs) k _ (Dn (h0:=h0) hl hx)
 rw[←List.append_assoc]
 exact .perm (List.Perm.append_right L this)
theorem cp.wb(hl:hs.length=xs.length)(hk:k < xs.length)(h':η)(a':α):cp (bN h' a'++(F0 bN hs xs k++L)) (lu bN (hs.set k h') (xs.set k a')++L):=by
 have h1:(List.zip (hs.set k h') (xs.set k a'))[k]? =some (h',a'):=by
  rw[Dp hl,List.getElem?_set_self (by simp;omega)]
 have:=Ek (fun p:η×α=>bN p.1 p.2) _ k _ h1
 rw[Dp hl,MT]at this
 rw[←List.append_assoc]
 refine .perm (List.Perm.append_right L ?_)
 unfold lu F0
 rw[Dp hl]
 exact this.symm
theorem OW(hz: ∀h a,(enc h a).length=sz)(hl:hs.length=xs.length)(hx:xs[k]? =some a){j:Nat}{v:Value}{h':η}{a':α}(hj:j < sz)(hs':(enc (hs.getD k h0) a).set j v=enc h' a'):(ga enc hs xs).set (k * sz+j) v=ga enc (hs.set k h') (xs.set k a'):=by
 have OU:=Dn (h0:=h0) hl hx
 obtain⟨hk,he⟩:=List.getElem?_eq_some_iff.1 OU
 unfold ga
 rw[Dp hl]
 exact Eh (enc:=fun p:η×α=>enc p.1 p.2) (fun p=>hz p.1 p.2) _ k j v (h',a') hk hj (by rw[he];exact hs')
theorem Yz{hs2:List η}{ys:List α}(hl:hs.length=xs.length):lu bN (hs++hs2) (xs++ys)=lu bN hs xs++lu bN hs2 ys:=by
 unfold lu;rw[List.zip_append hl,List.flatMap_append]
theorem YA{hs2:List η}{ys:List α}(hl:hs.length=xs.length):ga enc (hs++hs2) (xs++ys)=ga enc hs xs++ga enc hs2 ys:=by
 unfold ga;rw[List.zip_append hl,List.flatMap_append]
theorem cp.hole(hi:L[i]? =some (cN enc bN sz A cap E hs xs))(hx:xs[k]? =some a):cp L (bN (hs.getD k h0) a++(cH bN sz A cap E enc hs xs k::L.eraseIdx i)):=by
 intro R b w0 w hw
 have h1:=cp.head hi R b w0 w hw
 have hl:=Al (enc:=enc) (bN:=bN) (sz:=sz) (A:=A) (cap:=cap) (E:=E) (hs:=hs) (xs:=xs) (i:=R.length) h1 (by simp)
 have h2:=cp.Hq R b w0 w h1
 have h3:=(cp.cons (.UO (h0:=h0) hl hx)) R b w0 w h2
 have h4:=(cp.perm (List.perm_middle (a:=eR A cap E sz xs.length (ga enc hs xs)) (l₁:=bN (hs.getD k h0) a) (l₂:=F0 bN hs xs k++L.eraseIdx i)).symm) R b w0 w h3
 refine(cp.app ?_) R b w0 w h4
 exact .trans (.trans (.fact hl) (.perm (List.Perm.swap ..))) (.AW (M:=_::_::F0 bN hs xs k))
theorem Lv{enc:η→α→List Value}(hz: ∀h a,(enc h a).length=sz): ∀(hs:List η) (xs:List α),hs.length=xs.length→(ga enc hs xs).length=xs.length * sz
 | [],[],_=>by simp[ga]
 |h::hs,a::xs,hl=>by
  have:=Lv hz hs xs (by simpa using hl)
  unfold ga at this⊢
  simp only[List.zip_cons_cons,List.flatMap_cons,List.length_append,hz,this,List.length_cons,Nat.add_mul];omega
 | [],_::_,hl=>by simp at hl
 |_::_,[],hl=>by simp at hl
section
variable {K:Act→World→Prop}
theorem WO.vC{T E len:Nat}{zv:Value}{es:List (Nat×Operand)}{vs:List Value}{L':List Chunk}(hT:P.underlying T=some (.slice E))(hz: ∃i,P.info? E=some i∧i.zero=some zv∧i.size=sz)(hx:MP n e 0 es vs)(hl:vs.length=len)(aid:vs.map (fun v=>v.cells.size)=List.replicate len sz)
  (hv:(vs.flatMap fun v=>v.cells.toList)=ga enc hs xs)(hh:hs.length=xs.length)(JJ:xs.length=len)(wh: ∀h a,(enc h a).length=sz)(hpos:0 < sz)(hsm:len * sz≤16777216)(hM:cp L (lu bN hs xs++L'))(hd:Nat.blt d n=true)
  (h: ∀b,KK n base w0 ((d,.slice (some ⟨b,0,none⟩) xs.length xs.length)::e) (cN enc bN sz (some ⟨b,0,none⟩) xs.length E hs xs::L') K):WO P ops n base w0 e L ⟨some d,.buildSlice T len es.toArray,t,pos,af,none⟩ K Q:=by
 have hcs: ∀v∈vs,v.cells.size=sz:=fun v hm=>by
  have:v.cells.size∈List.replicate len sz:=by rw[←aid];exact List.mem_map.2 ⟨v,hm,rfl⟩
  exact(List.mem_replicate.1 this).2
 refine WO.V' hT hz hx hl hcs hsm hd (fun b=>?_)
 subst JJ
 rw[hv]
 intro a w ha hw
 refine h b a w ha ((cp.AY hh).at _ _ _ ?_)
 have h1:St base w0 (eR (some ⟨b,0,none⟩) xs.length E sz xs.length (ga enc hs xs)::L) w:=by
  refine St.N' (o:=some b) hw (fun o ho=>?_)
  subst ho
  have hle:xs.length * 1≤xs.length * sz:=Nat.mul_le_mul_left _ hpos
  have vD:=Lv wh hs xs hh
  refine⟨vD,.inr ⟨b,_,rfl,rfl,Nat.le_refl _,by unfold maxLen;omega,by simpa using vD,?_⟩⟩
  exact List.take_of_length_le (by simpa using Nat.le_of_eq vD)
 exact(cp.cons hM).at _ _ _ h1
theorem WO.xO{t E size bytes i c cap m:Nat}{A:Option Addr}{ty:TypeId}{b:Nat}{hs2:List η}{ys:List α}{L0:List Chunk}(hT:P.underlying t=some (.slice E))(hz: ∃i z,P.info? E=some i∧i.zero=some z∧i.size=size∧i.bytes=bytes∧z.cells.size=size∧0 < size)
  (wh: ∀h a,(enc h a).length=size)(h1: ∀h a,∀u∈enc h a,u.oneCell'=true)
  (hx:aD n e x (.slice A m cap))(hm:m=xs.length)(hy:aD n e y (.slice (some ⟨b,0,none⟩) ys.length c))(hi:L0[i]? =some (cN enc bN size A cap E hs xs))(hb:eY bytes (xs.length+ys.length)=true)(hd:Nat.blt d n=true)
  (h: ∀A' cap',KK n base w0 ((d,.slice A' (xs++ys).length cap')::e) (cN enc bN size A' cap' E (hs++hs2) (xs++ys)::L0.eraseIdx i) K):
  WO P ops n base w0 e (cN enc bN size (some ⟨b,0,none⟩) c E hs2 ys::L0) ⟨some d,.call {callee:= .builtin .append,args:= #[x,y],argTypes:= #[t,t]},ty,pos,af,none⟩ K Q:=by
 intro a w ha hw
 subst hm
 have hl2:=Al (i:=0) hw rfl
 have hl:=Al (i:=i+1) hw (by simpa using hi)
 obtain⟨hb1,hb2⟩:=Lo hb
 have e1:cp (cN enc bN size (some ⟨b,0,none⟩) c E hs2 ys::L0) (eR A cap E size xs.length (ga enc hs xs)::eR (some ⟨b,0,none⟩) c E size ys.length (ga enc hs2 ys)::(lu bN hs xs++(lu bN hs2 ys++L0.eraseIdx i))):=by
  refine .trans (.cons (.head hi)) (.trans .Hq ?_)
  refine .trans (.cons (.app .Hq)) (.perm ?_)
  have p1:(lu bN hs2 ys++(eR A cap E size xs.length (ga enc hs xs)::(lu bN hs xs++L0.eraseIdx i))).Perm (eR A cap E size xs.length (ga enc hs xs)::(lu bN hs xs++(lu bN hs2 ys++L0.eraseIdx i))):=by
   refine List.perm_middle.trans (List.Perm.cons _ ?_)
   rw[←List.append_assoc,←List.append_assoc]
   exact List.Perm.append_right _ List.perm_append_comm
  exact(List.Perm.cons _ p1).trans (List.Perm.swap ..)
 refine(WO.append (ops:=ops) (Q:=Q) (K:=K) (i:=0) (news:=ga enc hs2 ys) hT hz hx hy rfl (Lv wh hs2 ys hl2) (fun w hw j u hj=>?_) (fun u hu=>?_) hb1 hb2 hd (fun A' cap'=>?_)) a w ha (e1.at _ _ _ hw)
 ·have:=(hw.AE (i:=1) rfl hj).2
  rw[eX]
  simpa[dr]using this
 ·obtain⟨p,_,hp⟩:=List.mem_flatMap.1 hu
  exact h1 p.1 p.2 u hp
 ·have hK:=h A' cap'
  rw[List.length_append]at hK
  refine KK.AX ?_ hK
  rw[←YA hl]
  refine .trans (.cons (.drop (M:=[eR (some ⟨b,0,none⟩) c E size ys.length (ga enc hs2 ys)]))) ?_
  have e3:(lu bN hs xs).append (lu bN hs2 ys++L0.eraseIdx i)=lu bN (hs++hs2) (xs++ys)++L0.eraseIdx i:=by
   rw[Yz hl,List.append_assoc];rfl
  rw[e3,←List.length_append]
  exact .AY (by simp[hl,hl2])
theorem UQ{X Y Z:List Chunk}:(X++(Y++Z)).Perm (Y++(X++Z)):=by
 rw[←List.append_assoc,←List.append_assoc]
 exact List.Perm.append_right _ List.perm_append_comm
theorem WO.JS{L':List Chunk}{h':η}{a':α}(hc:P.cellsOf T=1)(hx:aD n e x (.pointer (some (dr A p))))(hy:aD n e y v)(hv:v.oneCell'=true)(hz: ∀h a,(enc h a).length=sz){j:Nat}
  (hi:L[i]? =some (cN enc bN sz A cap T' hs xs))(ha:xs[idx.toNat]? =some a)(hp:p=idx.toNat * sz+j)(hj:j < sz)(hs':(enc (hs.getD idx.toNat h0) a).set j v=enc h' a')(hM:cp (bN (hs.getD idx.toNat h0) a++L.eraseIdx i) (bN h' a'++L'))
  (h:KK n base w0 e (cN enc bN sz A cap T' (hs.set idx.toNat h') (xs.set idx.toNat a')::L') K):
  WO P ops n base w0 e L ⟨none,.store T x y,t,pos,af,none⟩ K Q:=by
 subst hp
 intro ac w hac hw
 have hl:=Al hw hi
 have hk:=(List.getElem?_eq_some_iff.1 ha).1
 have hle:(idx.toNat+1) * sz≤xs.length * sz:=Nat.mul_le_mul_right _ hk
 rw[Nat.add_mul]at hle
 have hw1:=(cp.trans (.head hi) .Hq).at _ _ _ hw
 refine(WO.OK (ops:=ops) (Q:=Q) (K:=K) (i:=0) hc hx hy hv rfl (by rw[Lv hz _ _ hl];omega) ?_) ac w hac hw1
 rw[OW (h0:=h0) hz hl ha hj hs']
 refine KK.AX ?_ h
 have e2:(eR A cap T' sz xs.length (ga enc (hs.set idx.toNat h') (xs.set idx.toNat a')))=eR A cap T' sz (xs.set idx.toNat a').length (ga enc (hs.set idx.toNat h') (xs.set idx.toNat a')):=by rw[List.length_set]
 show cp (eR A cap T' sz xs.length (ga enc (hs.set idx.toNat h') (xs.set idx.toNat a'))::(lu bN hs xs++L.eraseIdx i)) _
 rw[e2]
 refine .trans (.cons ?_) (.AY (by simp[hl]))
 exact .trans (.UO (h0:=h0) hl ha) (.trans (.perm UQ) (.trans (.app hM) (.trans (.perm UQ) (.wb hl hk h' a'))))
theorem WO.dG{a':α}(hc:P.cellsOf T=1)(hx:aD n e x (.pointer (some (dr A p))))(hy:aD n e y v)(hv:v.oneCell'=true)(hz: ∀h a,(enc h a).length=sz){j:Nat}
  (hi:L[i]? =some (cN enc bN sz A cap T' hs xs))(ha:xs[idx.toNat]? =some a)(hp:p=idx.toNat * sz+j)(hj:j < sz)(hs':(enc (hs.getD idx.toNat h0) a).set j v=enc (hs.getD idx.toNat h0) a')(hM:bN (hs.getD idx.toNat h0) a=bN (hs.getD idx.toNat h0) a')
  (h:KK n base w0 e (cN enc bN sz A cap T' hs (xs.set idx.toNat a')::L.eraseIdx i) K):
  WO P ops n base w0 e L ⟨none,.store T x y,t,pos,af,none⟩ K Q:=by
 intro ac w hac hw
 have hl:=Al hw hi
 have hk:=(List.getElem?_eq_some_iff.1 ha).1
 refine(WO.JS (ops:=ops) (Q:=Q) (K:=K) (h0:=h0) (h':=hs.getD idx.toNat h0) hc hx hy hv hz hi ha hp hj hs' (by rw[hM];exact .refl) ?_) ac w hac hw
 have e1:hs.set idx.toNat (hs.getD idx.toNat h0)=hs:=by
  apply List.ext_getElem (by simp)
  intro q h1 h2
  rw[List.getElem_set]
  split
  ·rename_i hq
   subst hq
   simp[List.getD_eq_getElem?_getD,List.getElem?_eq_getElem h2]
  ·rfl
 rw[e1];exact h
theorem WO.JT{L':List Chunk}{h':η}{a':α}(hc:P.cellsOf T=1)(hx:aD n e x (.pointer (some (dr A p))))(hy:aD n e y v)(hv:v.oneCell'=true)(hz: ∀h a,(enc h a).length=sz){j:Nat}
  (hi:L[i]? =some (cH bN sz A cap T' enc hs xs idx.toNat))(ha:xs[idx.toNat]? =some a)(hp:p=idx.toNat * sz+j)(hj:j < sz)(hs':(enc (hs.getD idx.toNat h0) a).set j v=enc h' a')(hM:cp (L.eraseIdx i) (bN h' a'++L'))
  (h:KK n base w0 e (cN enc bN sz A cap T' (hs.set idx.toNat h') (xs.set idx.toNat a')::L') K):
  WO P ops n base w0 e L ⟨none,.store T x y,t,pos,af,none⟩ K Q:=by
 subst hp
 intro ac w hac hw
 have hl:hs.length=xs.length:=hw.sat _ (List.mem_of_getElem? hi) (cF (hs.length=xs.length)) (by simp)
 have hk:=(List.getElem?_eq_some_iff.1 ha).1
 have hle:(idx.toNat+1) * sz≤xs.length * sz:=Nat.mul_le_mul_right _ hk
 rw[Nat.add_mul]at hle
 have e1:cp L (eR A cap T' sz xs.length (ga enc hs xs)::(F0 bN hs xs idx.toNat++L.eraseIdx i)):=
  .trans (.head hi) (.trans .Hp (.cons (.drop (M:=[cF (hs.length=xs.length)]))))
 have hw1:=e1.at _ _ _ hw
 refine(WO.OK (ops:=ops) (Q:=Q) (K:=K) (i:=0) hc hx hy hv rfl (by rw[Lv hz _ _ hl];omega) ?_) ac w hac hw1
 rw[OW (h0:=h0) hz hl ha hj hs']
 refine KK.AX ?_ h
 have e2:(eR A cap T' sz xs.length (ga enc (hs.set idx.toNat h') (xs.set idx.toNat a')))=eR A cap T' sz (xs.set idx.toNat a').length (ga enc (hs.set idx.toNat h') (xs.set idx.toNat a')):=by rw[List.length_set]
 show cp (eR A cap T' sz xs.length (ga enc (hs.set idx.toNat h') (xs.set idx.toNat a'))::(F0 bN hs xs idx.toNat++L.eraseIdx i)) _
 rw[e2]
 refine .trans (.cons ?_) (.AY (by simp[hl]))
 exact .trans (.app hM) (.trans (.perm UQ) (.wb hl hk h' a'))
end
end
abbrev Hd:=Option Addr×Nat
def eo{α:Type}(h:Hd)(x:List α):List Value:=[.slice h.1 x.length h.2]
def eQ{α:Type}(enc:α→List Value)(sz E:Nat)(h:Hd)(x:List α):List Chunk:=[cR enc sz h.1 h.2 E x]
theorem yF{α:Type}(h:Hd)(x:List α):(eo h x).length=1:=rfl
theorem aaO{α:Type}(h:Hd)(x:List α): ∀u∈eo h x,u.oneCell'=true:=fun u hu=>by obtain rfl:=List.mem_singleton.1 hu;rfl
section
def eqA(n:Nat)(xs ys:List Int):Bool:=(List.range n).all fun i=>decide (xs.getD i 0=ys.getD i 0)
structure ak4(P:Program)(T n:Nat)(k1 k2:IntKind):Prop where
 is: ∃t1 t2 e k3,P.underlying T=some (.struct (P.fieldsOf T))∧P.stoodInHeld T=false∧P.eqGuardType P.depth T=false∧(P.fieldsOf T).toList.map (fun f=>(f.name== "_",f.offset,f.type))= [(false,0,t1),(false,1,t2)]∧P.underlying t1=some (.int k1)∧P.underlying t2=some (.array n e)∧P.underlying e=some (.int k3)∧P.cellsOf e=0+1∧P.cellsOf t2=n∧0 < n
end
end Go.Proofs.YtjdkkabcenohcaaGreatDoor
