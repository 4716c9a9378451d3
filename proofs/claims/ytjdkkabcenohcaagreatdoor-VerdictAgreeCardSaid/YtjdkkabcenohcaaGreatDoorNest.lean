/- Rows of things that hold slices themselves: a row, and what lies behind each of its elements, as one piece of memory. It speaks of every program. -/
import Derived.Test.YtjdkkabcenohcaaGreatDoorLoops
set_option linter.unusedVariables false
set_option linter.unusedSimpArgs false
set_option linter.unusedSectionVars false
namespace Go.Proofs.YtjdkkabcenohcaaGreatDoor
open Go.RowKit
variable {P:Program} {n:Nat} {base:Nat} {w0 w:World} {L:List Chunk} {e:Env}
variable {ops rest:List Oper} {Q:Exit→Act→World→Prop} {d:Nat} {D:Option Tmp} {op:Op} {t:TypeId} {pos:String} {af:Array Edge} {G:Option (Nat×Bool)} {v u:Value} {x y z:Operand}
def jR(M:List Chunk):Chunk:=⟨owns M,fun f=>∀c∈M,c.ok f,fun f g h hf c hc=>c.loc f g (fun b hb=>h b (oW hc hb)) (hf c hc)⟩
def cF(p:Prop):Chunk:=⟨[],fun _=>p,fun _ _ _ h=>h⟩
def bc(L L':List Chunk):Prop:=∀R base w0 w,St base w0 (R++L) w→St base w0 (R++L') w
theorem bc.at{L L':List Chunk}(h:bc L L'): ∀base w0 w,St base w0 L w→St base w0 L' w:=fun b w0 w hw=>h [] b w0 w hw
theorem bc.refl{L:List Chunk}:bc L L:=fun _ _ _ _ h=>h
theorem bc.trans{L M N:List Chunk}(h:bc L M)(k:bc M N):bc L N:=fun R b w0 w hw=>k R b w0 w (h R b w0 w hw)
theorem bc.perm{L M:List Chunk}(h:L.Perm M):bc L M:=fun R _ _ _ hw=>hw.sub ⟨[],by rw[List.append_nil];exact(List.Perm.append_left R h).symm⟩
theorem bc.cons{c:Chunk}{L M:List Chunk}(h:bc L M):bc (c::L) (c::M):=fun R b w0 w hw=>by
 have e: ∀X:List Chunk,R++c::X=(R++[c])++X:=fun X=>by simp
 rw[e]at hw⊢;exact h _ _ _ _ hw
theorem bc.app{X L M:List Chunk}(h:bc L M):bc (X++L) (X++M):=fun R b w0 w hw=>by
 rw[←List.append_assoc]at hw⊢;exact h _ _ _ _ hw
theorem bc.D9{M R:List Chunk}:bc (jR M::R) (M++R):=fun X b w0 w h=>by
 have ho:owns (X++(M++R))=owns (X++jR M::R):=by rw[eA,eA,eA,lC];rfl
 refine⟨h.below,h.jc,fun c hc=>?_,ho▸h.nodup,ho▸h.ge⟩
 have sp:c∈X∨c∈M∨c∈R:=by simpa using hc
 rcases sp with hc|hc|hc
 ·exact h.sat c (by simp[hc])
 ·exact h.sat (jR M) (by simp) c hc
 ·exact h.sat c (by simp[hc])
theorem bc.AV{M R:List Chunk}:bc (M++R) (jR M::R):=fun X b w0 w h=>by
 have ho:owns (X++(M++R))=owns (X++jR M::R):=by rw[eA,eA,eA,lC];rfl
 refine⟨h.below,h.jc,fun c hc=>?_,ho▸h.nodup,ho▸h.ge⟩
 have sp:c∈X∨c=jR M∨c∈R:=by simpa using hc
 rcases sp with hc|rfl|hc
 ·exact h.sat c (by simp[hc])
 ·exact fun c hc=>h.sat c (by simp[hc])
 ·exact h.sat c (by simp[hc])
theorem bc.drop{M R:List Chunk}:bc (M++R) R:=fun X _ _ _ h=>h.sub ⟨M,by
 have:(X++R++M).Perm (X++(R++M)):=by simp
 exact this.trans (List.Perm.append_left X List.perm_append_comm)⟩
theorem I4{L:List Chunk}{i:Nat}{c:Chunk}(hi:L[i]? =some c):L.Perm (c::L.eraseIdx i):=by
 obtain⟨e1,-⟩:=wJ hi
 have h2:L.eraseIdx i=L.take i++L.drop (i+1):=List.eraseIdx_eq_take_drop_succ ..
 rw[h2]
 conv=>lhs;rw[e1]
 exact List.perm_middle
theorem bc.head{i:Nat}{c:Chunk}(hi:L[i]? =some c):bc L (c::L.eraseIdx i):= .perm (I4 hi)
theorem bc.fact{p:Prop}{R:List Chunk}(h:p):bc R (cF p::R):=fun X b w0 w hw=>by
 have ho:owns (X++cF p::R)=owns (X++R):=by rw[eA,eA,lC];rfl
 refine⟨hw.below,hw.jc,fun c hc=>?_,ho▸hw.nodup,ho▸hw.ge⟩
 have sp:c∈X∨c=cF p∨c∈R:=by simpa using hc
 rcases sp with hc|rfl|hc
 ·exact hw.sat c (by simp[hc])
 ·exact h
 ·exact hw.sat c (by simp[hc])
theorem bc.pick(idx:List Nat)(hi:(decide idx.Nodup&&idx.all fun i=>Nat.blt i L.length)=true):bc L (idx.filterMap (L[·]?)):=fun R b w0 w hw=>by
 simp only[Bool.and_eq_true,decide_eq_true_eq,List.all_eq_true,Nat.blt_eq]at hi
 obtain⟨hn,hl⟩:=hi
 have hp:(idx.filterMap (L[·]?)++((List.range L.length).filter (fun i=>decide (i∉idx))).filterMap (L[·]?)).Perm L:=by
  conv=>rhs;rw[←uY L]
  rw[←List.filterMap_append]
  refine List.Perm.filterMap _ ?_
  rw[List.perm_ext_iff_of_nodup]
  ·intro a
   simp only[List.mem_append,List.mem_filter,List.mem_range,decide_eq_true_eq]
   constructor
   ·rintro(h|h)
    ·exact hl a h
    ·exact h.1
   ·intro h
    by_cases ha:a∈idx
    ·exact .inl ha
    ·exact .inr ⟨h,ha⟩
  ·rw[List.nodup_append]
   refine⟨hn,List.Pairwise.filter _ List.nodup_range,fun a ha b hb e=>?_⟩
   subst e
   simp at hb
   exact hb.2 ha
  ·exact List.nodup_range
 have h1:=bc.perm hp.symm R b w0 w hw
 exact h1.sub ⟨((List.range L.length).filter (fun i=>decide (i∉idx))).filterMap (L[·]?),by rw[List.append_assoc]⟩
theorem bc.Oy(k:Nat)(idx:List Nat)(hi:(decide idx.Nodup&&idx.all (fun i=>Nat.blt i k)&&Nat.ble k L.length)=true):bc L (idx.filterMap (L[·]?)++L.drop k):=fun R b w0 w hw=>by
 have h1:St b w0 (L++R) w:=bc.perm (List.perm_append_comm (l₁:=R) (l₂:=L)) [] b w0 w hw
 have e1: ∀i,i < k→(L++R)[i]? =L[i]? :=fun i hi'=>by
  simp only[Bool.and_eq_true,Nat.ble_eq]at hi
  exact List.getElem?_append_left (by omega)
 have hi2:(decide idx.Nodup&&idx.all (fun i=>Nat.blt i k)&&Nat.ble k (L++R).length)=true:=by
  simp only[Bool.and_eq_true,Nat.ble_eq,List.length_append]at hi⊢
  exact⟨hi.1,by omega⟩
 have h2:=h1.eU k idx hi2
 have hk:k≤L.length:=by simp only[Bool.and_eq_true,Nat.ble_eq]at hi;exact hi.2
 have hl: ∀i∈idx,i < k:=by simp only[Bool.and_eq_true,List.all_eq_true,Nat.blt_eq]at hi;exact hi.1.2
 have e2: ∀l:List Nat,(∀i∈l,i < k)→l.filterMap ((L++R)[·]?)=l.filterMap (L[·]?):=by
  intro l
  induction l with
  |nil=>intro _;rfl
  |cons a l ih=>
   intro h
   rw[List.filterMap_cons,List.filterMap_cons,e1 a (h a (by simp)),ih (fun i hi=>h i (by simp[hi]))]
 rw[e2 idx hl,List.drop_append_of_le_length hk,←List.append_assoc]at h2
 exact bc.perm (List.perm_append_comm) [] b w0 w h2
theorem bc.kw{α:Type}(enc:α→List Value)(sz E:Nat):bc L (cR enc sz none 0 E ([]:List α)::L):=fun R b w0 w hw=>by
 have h1:=St.kw hw enc sz E
 exact h1.sub ⟨[],by rw[List.append_nil];exact List.perm_middle⟩
theorem bc.eU{X T:List Chunk}(idx:List Nat)(hi:(decide idx.Nodup&&idx.all fun i=>Nat.blt i X.length)=true):bc (X++T) (idx.filterMap (X[·]?)++T):=
 .trans (.perm List.perm_append_comm) (.trans (.app (.pick idx hi)) (.perm List.perm_append_comm))
theorem St.inside(h:St base w0 L w){M:List Chunk}{c:Chunk}(hM:jR M∈L)(hc:c∈M):St base w0 [c] w:=by
 obtain⟨X,Y,rfl⟩:=List.append_of_mem hM
 have h1:=bc.D9.at _ _ _ (h.sub ⟨[],by rw[List.append_nil];exact(List.perm_middle (l₁:=X) (a:=jR M) (l₂:=Y)).symm⟩)
 obtain⟨X',Y',rfl⟩:=List.append_of_mem hc
 refine h1.sub ⟨X'++Y'++(X++Y),?_⟩
 have:([c]++(X'++Y'++(X++Y))).Perm ((c::(X'++Y'))++(X++Y)):=by simp
 exact this.trans (List.Perm.append_right _ List.perm_middle.symm)
theorem WL.AW{L':List Chunk}(h:bc L L')(k:WL P ops n base w0 e L' rest Q):WL P ops n base w0 e L rest Q:=fun a w ha hw=>k a w ha (h.at _ _ _ hw)
theorem KK.AW{K:Act→World→Prop}{L':List Chunk}(h:bc L L')(k:KK n base w0 e L' K):KK n base w0 e L K:=fun a w ha hw=>k a w ha (h.at _ _ _ hw)
theorem WO.AW{o:Oper}{K:Act→World→Prop}{L':List Chunk}(h:bc L L')(k:WO P ops n base w0 e L' o K Q):WO P ops n base w0 e L o K Q:=fun a w ha hw=>k a w ha (h.at _ _ _ hw)
section
variable {η α:Type} {enc:η→α→List Value} {bb:η→α→List Chunk} {sz:Nat} {A:Option Addr} {cap m k i p E T T':Nat} {hs:List η} {xs:List α} {a:α} {h0:η} {kd:IntKind} {idx:Int}
def dP(enc:η→α→List Value)(hs:List η)(xs:List α):List Value:=(List.zip hs xs).flatMap fun p=>enc p.1 p.2
def gk(bb:η→α→List Chunk)(hs:List η)(xs:List α):List Chunk:=(List.zip hs xs).flatMap fun p=>bb p.1 p.2
def cN(enc:η→α→List Value)(bb:η→α→List Chunk)(sz:Nat)(A:Option Addr)(cap:Nat)(E:TypeId)(hs:List η)(xs:List α):Chunk:=
 jR (cc A cap E sz xs.length (dP enc hs xs)::cF (hs.length=xs.length)::gk bb hs xs)
def wV(bb:η→α→List Chunk)(hs:List η)(xs:List α)(k:Nat):List Chunk:=((List.zip hs xs).eraseIdx k).flatMap fun p=>bb p.1 p.2
def cH(bb:η→α→List Chunk)(sz:Nat)(A:Option Addr)(cap:Nat)(E:TypeId)(enc:η→α→List Value)(hs:List η)(xs:List α)(k:Nat):Chunk:=
 jR (cc A cap E sz xs.length (dP enc hs xs)::cF (hs.length=xs.length)::wV bb hs xs k)
theorem yp(hl:hs.length=xs.length)(hx:xs[k]? =some a):(List.zip hs xs)[k]? =some (hs.getD k h0,a):=by
 obtain⟨hk,rfl⟩:=List.getElem?_eq_some_iff.1 hx
 rw[List.getElem?_eq_getElem (by simp;omega)]
 simp[List.getD_eq_getElem?_getD,List.getElem?_eq_getElem (show k < hs.length by omega)]
theorem sy(h:St base w0 L w)(hi:L[i]? =some (cN enc bb sz A cap E hs xs)):hs.length=xs.length:=by
 have:=h.sat _ (List.mem_of_getElem? hi)
 exact this (cF (hs.length=xs.length)) (by simp)
theorem Oz(h:St base w0 L w)(hi:L[i]? =some (cN enc bb sz A cap E hs xs)):St base w0 [cc A cap E sz xs.length (dP enc hs xs)] w:=
 h.inside (List.mem_of_getElem? hi) (by simp)
theorem D_(h:St base w0 L w)(hi:L[i]? =some (cN enc bb sz A cap E hs xs))(hb:0≤idx∧idx < xs.length):qt A:=
 ((Oz h hi).gw (i:=0) rfl).2.2 (by omega)
theorem Kq(h:St base w0 L w)(hz: ∀h a,(enc h a).length=sz)(hi:L[i]? =some (cN enc bb sz A cap E hs xs))(hx:xs[k]? =some a){j:Nat}(hv:(enc (hs.getD k h0) a)[j]? =some v):w.cell? (bQ A (k * sz+j))=some v:=by
 have hl:=sy h hi
 have Kr:=yp (h0:=h0) hl hx
 obtain⟨hk,he⟩:=List.getElem?_eq_some_iff.1 Kr
 have hj:j < sz:=by rw[←hz (hs.getD k h0) a];exact(List.getElem?_eq_some_iff.1 hv).1
 refine((Oz h hi).qS (i:=0) rfl (j:=k * sz+j) ?_).2
 unfold dP
 rw[mZ (fun p=>hz p.1 p.2) _ k j hk hj,he]
 exact hv
theorem P2(h:St base w0 L w)(hi:L[i]? =some (cN enc bb sz A cap E hs xs))(hx:xs[k]? =some a){c:Chunk}(hc:c∈bb (hs.getD k h0) a):St base w0 [c] w:=by
 refine h.inside (List.mem_of_getElem? hi) ?_
 have Kr:=yp (h0:=h0) (sy h hi) hx
 simp only[List.mem_cons]
 right;right
 exact List.mem_flatMap.2 ⟨_,List.mem_of_getElem? Kr,hc⟩
theorem Y.AX(hT:P.underlying T=some (.slice E))(hk:P.cellsOf E=k+1)(hi:L[i]? =some (cN enc bb sz A cap T' hs xs))(hx:ap n e x (.slice A m cap))(hm:m=xs.length)(hy:ap n e y (.int kd idx))(hb:0≤idx∧idx < xs.length):
  Yd P n base w0 e L ⟨D,.indexAddr T x y,t,pos,af,G⟩ (.pointer (some (bQ A (idx.toNat * (k+1))))):=by
 subst hm
 intro a w ha hw
 exact Y.xZ hT hk hx hy hb (D_ hw hi hb) a w ha hw
theorem Y.lG{T i i' off ft k:Nat}{fs:Array Field}{j:Nat}(hT:P.underlying T=some (.struct fs))(hf:jO P fs i off ft)(hk:P.cellsOf ft=k+1)(hi:L[i']? =some (cN enc bb sz A cap T' hs xs))(hb:0≤idx∧idx < xs.length)(hx:ap n e x (.pointer (some (bQ A j)))):
  Yd P n base w0 e L ⟨D,.fieldAddr T x i,t,pos,af,G⟩ (.pointer (some (bQ A (j+off)))):=by
 intro a w ha hw
 exact Y.nV hT hf hk (D_ hw hi hb).1 hx a w ha hw
theorem Y.mT{dT:TypeDesc}{j:Nat}(hT:P.underlying T=some dT)(hd:cu dT=true)(hz: ∀h a,(enc h a).length=sz)(hi:L[i]? =some (cN enc bb sz A cap T' hs xs))(hx:ap n e x (.pointer (some (bQ A p))))(ha:xs[idx.toNat]? =some a)(hp:p=idx.toNat * sz+j)(hv:(enc (hs.getD idx.toNat h0) a)[j]? =some v):
  Yd P n base w0 e L ⟨D,.load T x,t,pos,af,G⟩ v:=Y.load hT hd hx (fun w hw=>by subst hp;exact Kq hw hz hi ha hv)
theorem Y.Ks{dT:TypeDesc}{j:Nat}{ds:List Value}(hT:P.underlying T=some dT)(hd:oY dT=true)(hk:P.cellsOf T=k+1)(hz: ∀h a,(enc h a).length=sz)(hi:L[i]? =some (cN enc bb sz A cap T' hs xs))(hx:ap n e x (.pointer (some (bQ A p))))(ha:xs[idx.toNat]? =some a)(hp:p=idx.toNat * sz+j)(hl:ds.length=k+1)(hv: ∀q v,ds[q]? =some v→(enc (hs.getD idx.toNat h0) a)[j+q]? =some v):
  Yd P n base w0 e L ⟨D,.load T x,t,pos,af,G⟩ (.agg ds.toArray):=by
 intro ac w hac hw
 have hlt:=(List.getElem?_eq_some_iff.1 ha).1
 have hs:A.isSome=true:=(D_ (idx:=(idx.toNat:Int)) hw hi ⟨Int.natCast_nonneg _,Int.ofNat_lt.2 hlt⟩).1
 exact Y.zJ hT hd hk hs hx hl (fun w hw q v hq=>by subst hp;rw[Nat.add_assoc];exact Kq hw hz hi ha (hv q v hq)) ac w hac hw
theorem Wl(h:St base w0 L w)(hi:L[i]? =some (cH bb sz A cap E enc hs xs m))(hb:0≤idx∧idx < xs.length):qt A:=by
 have h1:St base w0 [cc A cap E sz xs.length (dP enc hs xs)] w:=h.inside (List.mem_of_getElem? hi) (by simp)
 exact(h1.gw (i:=0) rfl).2.2 (by omega)
theorem Y.SP{T i i' off ft k mm:Nat}{fs:Array Field}{j:Nat}(hT:P.underlying T=some (.struct fs))(hf:jO P fs i off ft)(hk:P.cellsOf ft=k+1)(hi:L[i']? =some (cH bb sz A cap T' enc hs xs mm))(hb:0≤idx∧idx < xs.length)(hx:ap n e x (.pointer (some (bQ A j)))):
  Yd P n base w0 e L ⟨D,.fieldAddr T x i,t,pos,af,G⟩ (.pointer (some (bQ A (j+off)))):=by
 intro a w ha hw
 exact Y.nV hT hf hk (Wl hw hi hb).1 hx a w ha hw
theorem aP.SQ{β:Type}{jS:β→List Value}{Hy c2 E2:Nat}{A2:Option Addr}{ys:List β}(hz: ∀a,(jS a).length=Hy)(h:St base w0 L w)(hi:L[i]? =some (cN enc bb sz A cap E hs xs))(hx:ix xs idx=some a)(hc:cR jS Hy A2 c2 E2 ys∈bb (hs.getD idx.toNat h0) a):aP jS Hy w (.slice A2 ys.length c2) ys:=
 aP.ofRow hz (P2 h hi (bx hx) hc) (i:=0) rfl
theorem bc.ui(hl:hs.length=xs.length):bc (cc A cap E sz xs.length (dP enc hs xs)::(gk bb hs xs++L)) (cN enc bb sz A cap E hs xs::L):=
 .trans (.trans (.fact hl) (.perm (List.Perm.swap ..))) (.AV (M:=_::_::gk bb hs xs))
theorem bc.AY:bc (cN enc bb sz A cap E hs xs::L) (cc A cap E sz xs.length (dP enc hs xs)::(gk bb hs xs++L)):=
 .trans .D9 (.cons (.drop (M:=[cF (hs.length=xs.length)])))
theorem bc.Mh(enc:η→α→List Value)(bb:η→α→List Chunk)(sz E:Nat):bc L (cN enc bb sz none 0 E ([]:List η) ([]:List α)::L):=by
 refine .trans ?_ (bc.ui (hs:=[]) (xs:=[]) rfl)
 intro R b w0 w hw
 have h1:=(St.Ka hw E sz)
 exact h1.sub ⟨[],by rw[List.append_nil];exact List.perm_middle⟩
theorem St.Mh(h:St base w0 L w)(enc:η→α→List Value)(bb:η→α→List Chunk)(sz E:Nat):St base w0 (cN enc bb sz none 0 E ([]:List η) ([]:List α)::L) w:=(bc.Mh enc bb sz E).at _ _ _ h
theorem yq(hl:hs.length=xs.length)(k:Nat)(h':η)(a':α):List.zip (hs.set k h') (xs.set k a')=(List.zip hs xs).set k (h',a'):=by
 apply List.ext_getElem?
 intro j
 by_cases hj:j=k
 ·subst hj
  by_cases hlt:j < xs.length
  ·rw[List.getElem?_eq_getElem (by simp;omega),List.getElem?_eq_getElem (by simp;omega)]
   simp
  ·rw[List.getElem?_eq_none (by simp;omega),List.getElem?_eq_none (by simp;omega)]
 ·by_cases hlt:j < xs.length
  ·rw[List.getElem?_eq_getElem (by simp;omega),List.getElem?_eq_getElem (by simp;omega)]
   simp[List.getElem_set,Ne.symm hj]
  ·rw[List.getElem?_eq_none (by simp;omega),List.getElem?_eq_none (by simp;omega)]
theorem vc{β:Type}(f:β→List Chunk): ∀(l:List β) (k:Nat) (b:β),l[k]? =some b→(l.flatMap f).Perm (f b++(l.eraseIdx k).flatMap f)
 | [],_,_,h=>by simp at h
 |c::l,0,b,h=>by
  obtain rfl:c=b:=by simpa using h
  simp
 |c::l,k+1,b,h=>by
  have ih:=vc f l k b (by simpa using h)
  simp only[List.flatMap_cons,List.eraseIdx_cons_succ]
  refine(List.Perm.append_left _ ih).trans ?_
  rw[←List.append_assoc,←List.append_assoc]
  exact List.Perm.append_right _ List.perm_append_comm
theorem Dd{β:Type}: ∀(l:List β) (k:Nat) (b:β),(l.set k b).eraseIdx k=l.eraseIdx k
 | [],_,_=>rfl
 |_::_,0,_=>rfl
 |c::l,k+1,b=>by simp[Dd l k b]
theorem bc.OA(hl:hs.length=xs.length)(hx:xs[k]? =some a):bc (gk bb hs xs++L) (bb (hs.getD k h0) a++(wV bb hs xs k++L)):=by
 have:=vc (fun p:η×α=>bb p.1 p.2) (List.zip hs xs) k _ (yp (h0:=h0) hl hx)
 rw[←List.append_assoc]
 exact .perm (List.Perm.append_right L this)
theorem bc.oX(hl:hs.length=xs.length)(hk:k < xs.length)(h':η)(a':α):bc (bb h' a'++(wV bb hs xs k++L)) (gk bb (hs.set k h') (xs.set k a')++L):=by
 have h1:(List.zip (hs.set k h') (xs.set k a'))[k]? =some (h',a'):=by
  rw[yq hl,List.getElem?_set_self (by simp;omega)]
 have:=vc (fun p:η×α=>bb p.1 p.2) _ k _ h1
 rw[yq hl,Dd]at this
 rw[←List.append_assoc]
 refine .perm (List.Perm.append_right L ?_)
 unfold gk wV
 rw[yq hl]
 exact this.symm
theorem EM(hz: ∀h a,(enc h a).length=sz)(hl:hs.length=xs.length)(hx:xs[k]? =some a){j:Nat}{v:Value}{h':η}{a':α}(hj:j < sz)(hs':(enc (hs.getD k h0) a).set j v=enc h' a'):(dP enc hs xs).set (k * sz+j) v=dP enc (hs.set k h') (xs.set k a'):=by
 have Kr:=yp (h0:=h0) hl hx
 obtain⟨hk,he⟩:=List.getElem?_eq_some_iff.1 Kr
 unfold dP
 rw[yq hl]
 exact u6 (enc:=fun p:η×α=>enc p.1 p.2) (fun p=>hz p.1 p.2) _ k j v (h',a') hk hj (by rw[he];exact hs')
theorem Mi{hs2:List η}{ys:List α}(hl:hs.length=xs.length):gk bb (hs++hs2) (xs++ys)=gk bb hs xs++gk bb hs2 ys:=by
 unfold gk;rw[List.zip_append hl,List.flatMap_append]
theorem Mj{hs2:List η}{ys:List α}(hl:hs.length=xs.length):dP enc (hs++hs2) (xs++ys)=dP enc hs xs++dP enc hs2 ys:=by
 unfold dP;rw[List.zip_append hl,List.flatMap_append]
theorem bc.hole(hi:L[i]? =some (cN enc bb sz A cap E hs xs))(hx:xs[k]? =some a):bc L (bb (hs.getD k h0) a++(cH bb sz A cap E enc hs xs k::L.eraseIdx i)):=by
 intro R b w0 w hw
 have h1:=bc.head hi R b w0 w hw
 have hl:=sy (enc:=enc) (bb:=bb) (sz:=sz) (A:=A) (cap:=cap) (E:=E) (hs:=hs) (xs:=xs) (i:=R.length) h1 (by simp)
 have h2:=bc.AY R b w0 w h1
 have h3:=(bc.cons (.OA (h0:=h0) hl hx)) R b w0 w h2
 have h4:=(bc.perm (List.perm_middle (a:=cc A cap E sz xs.length (dP enc hs xs)) (l₁:=bb (hs.getD k h0) a) (l₂:=wV bb hs xs k++L.eraseIdx i)).symm) R b w0 w h3
 refine(bc.app ?_) R b w0 w h4
 exact .trans (.trans (.fact hl) (.perm (List.Perm.swap ..))) (.AV (M:=_::_::wV bb hs xs k))
theorem EO{enc:η→α→List Value}(hz: ∀h a,(enc h a).length=sz): ∀(hs:List η) (xs:List α),hs.length=xs.length→(dP enc hs xs).length=xs.length * sz
 | [],[],_=>by simp[dP]
 |h::hs,a::xs,hl=>by
  have:=EO hz hs xs (by simpa using hl)
  unfold dP at this⊢
  simp only[List.zip_cons_cons,List.flatMap_cons,List.length_append,hz,this,List.length_cons,Nat.add_mul];omega
 | [],_::_,hl=>by simp at hl
 |_::_,[],hl=>by simp at hl
section
variable {K:Act→World→Prop}
theorem WO.yr{T E len:Nat}{zv:Value}{es:List (Nat×Operand)}{vs:List Value}{L':List Chunk}(hT:P.underlying T=some (.slice E))(hz: ∃i,P.info? E=some i∧i.zero=some zv∧i.size=sz)(hx:C_ n e 0 es vs)(hl:vs.length=len)(YW:vs.map (fun v=>v.cells.size)=List.replicate len sz)
  (hv:(vs.flatMap fun v=>v.cells.toList)=dP enc hs xs)(hh:hs.length=xs.length)(EG:xs.length=len)(oO: ∀h a,(enc h a).length=sz)(hpos:0 < sz)(Ok:len * sz≤16777216)(hM:bc L (gk bb hs xs++L'))(hd:Nat.blt d n=true)
  (h: ∀b,KK n base w0 ((d,.slice (some ⟨b,0,none⟩) xs.length xs.length)::e) (cN enc bb sz (some ⟨b,0,none⟩) xs.length E hs xs::L') K):WO P ops n base w0 e L ⟨some d,.buildSlice T len es.toArray,t,pos,af,none⟩ K Q:=by
 have hcs: ∀v∈vs,v.cells.size=sz:=fun v hm=>by
  have:v.cells.size∈List.replicate len sz:=by rw[←YW];exact List.mem_map.2 ⟨v,hm,rfl⟩
  exact(List.mem_replicate.1 this).2
 refine WO.J_ hT hz hx hl hcs Ok hd (fun b=>?_)
 subst EG
 rw[hv]
 intro a w ha hw
 refine h b a w ha ((bc.ui hh).at _ _ _ ?_)
 have h1:St base w0 (cc (some ⟨b,0,none⟩) xs.length E sz xs.length (dP enc hs xs)::L) w:=by
  refine St.IP (o:=some b) hw (fun o ho=>?_)
  subst ho
  have hle:xs.length * 1≤xs.length * sz:=Nat.mul_le_mul_left _ hpos
  have SR:=EO oO hs xs hh
  refine⟨SR,.inr ⟨b,_,rfl,rfl,Nat.le_refl _,by unfold maxLen;omega,by simpa using SR,?_⟩⟩
  exact List.take_of_length_le (by simpa using Nat.le_of_eq SR)
 exact(bc.cons hM).at _ _ _ h1
theorem WO.Ce{t E size bytes i c cap m:Nat}{A:Option Addr}{ty:TypeId}{b:Nat}{hs2:List η}{ys:List α}{L0:List Chunk}(hT:P.underlying t=some (.slice E))(hz: ∃i z,P.info? E=some i∧i.zero=some z∧i.size=size∧i.bytes=bytes∧z.cells.size=size∧0 < size)
  (oO: ∀h a,(enc h a).length=size)(h1: ∀h a,∀u∈enc h a,u.oneCell'=true)
  (hx:ap n e x (.slice A m cap))(hm:m=xs.length)(hy:ap n e y (.slice (some ⟨b,0,none⟩) ys.length c))(hi:L0[i]? =some (cN enc bb size A cap E hs xs))(hb:dh bytes (xs.length+ys.length)=true)(hd:Nat.blt d n=true)
  (h: ∀A' cap',KK n base w0 ((d,.slice A' (xs++ys).length cap')::e) (cN enc bb size A' cap' E (hs++hs2) (xs++ys)::L0.eraseIdx i) K):
  WO P ops n base w0 e (cN enc bb size (some ⟨b,0,none⟩) c E hs2 ys::L0) ⟨some d,.call {callee:= .builtin .append,args:= #[x,y],argTypes:= #[t,t]},ty,pos,af,none⟩ K Q:=by
 intro a w ha hw
 subst hm
 have hl2:=sy (i:=0) hw rfl
 have hl:=sy (i:=i+1) hw (by simpa using hi)
 obtain⟨hb1,hb2⟩:=B' hb
 have e1:bc (cN enc bb size (some ⟨b,0,none⟩) c E hs2 ys::L0) (cc A cap E size xs.length (dP enc hs xs)::cc (some ⟨b,0,none⟩) c E size ys.length (dP enc hs2 ys)::(gk bb hs xs++(gk bb hs2 ys++L0.eraseIdx i))):=by
  refine .trans (.cons (.head hi)) (.trans .AY ?_)
  refine .trans (.cons (.app .AY)) (.perm ?_)
  have p1:(gk bb hs2 ys++(cc A cap E size xs.length (dP enc hs xs)::(gk bb hs xs++L0.eraseIdx i))).Perm (cc A cap E size xs.length (dP enc hs xs)::(gk bb hs xs++(gk bb hs2 ys++L0.eraseIdx i))):=by
   refine List.perm_middle.trans (List.Perm.cons _ ?_)
   rw[←List.append_assoc,←List.append_assoc]
   exact List.Perm.append_right _ List.perm_append_comm
  exact(List.Perm.cons _ p1).trans (List.Perm.swap ..)
 refine(WO.append (ops:=ops) (Q:=Q) (K:=K) (i:=0) (news:=dP enc hs2 ys) hT hz hx hy rfl (EO oO hs2 ys hl2) (fun w hw j u hj=>?_) (fun u hu=>?_) hb1 hb2 hd (fun A' cap'=>?_)) a w ha (e1.at _ _ _ hw)
 ·have:=(hw.qS (i:=1) rfl hj).2
  rw[dz]
  simpa[bQ]using this
 ·obtain⟨p,_,hp⟩:=List.mem_flatMap.1 hu
  exact h1 p.1 p.2 u hp
 ·have hK:=h A' cap'
  rw[List.length_append]at hK
  refine KK.AW ?_ hK
  rw[←Mj hl]
  refine .trans (.cons (.drop (M:=[cc (some ⟨b,0,none⟩) c E size ys.length (dP enc hs2 ys)]))) ?_
  have e3:(gk bb hs xs).append (gk bb hs2 ys++L0.eraseIdx i)=gk bb (hs++hs2) (xs++ys)++L0.eraseIdx i:=by
   rw[Mi hl,List.append_assoc];rfl
  rw[e3,←List.length_append]
  exact .ui (by simp[hl,hl2])
theorem I5{X Y Z:List Chunk}:(X++(Y++Z)).Perm (Y++(X++Z)):=by
 rw[←List.append_assoc,←List.append_assoc]
 exact List.Perm.append_right _ List.perm_append_comm
theorem WO.SS{L':List Chunk}{h':η}{a':α}(hc:P.cellsOf T=1)(hx:ap n e x (.pointer (some (bQ A p))))(hy:ap n e y v)(hv:v.oneCell'=true)(hz: ∀h a,(enc h a).length=sz){j:Nat}
  (hi:L[i]? =some (cN enc bb sz A cap T' hs xs))(ha:xs[idx.toNat]? =some a)(hp:p=idx.toNat * sz+j)(hj:j < sz)(hs':(enc (hs.getD idx.toNat h0) a).set j v=enc h' a')(hM:bc (bb (hs.getD idx.toNat h0) a++L.eraseIdx i) (bb h' a'++L'))
  (h:KK n base w0 e (cN enc bb sz A cap T' (hs.set idx.toNat h') (xs.set idx.toNat a')::L') K):
  WO P ops n base w0 e L ⟨none,.store T x y,t,pos,af,none⟩ K Q:=by
 subst hp
 intro ac w hac hw
 have hl:=sy hw hi
 have hk:=(List.getElem?_eq_some_iff.1 ha).1
 have hle:(idx.toNat+1) * sz≤xs.length * sz:=Nat.mul_le_mul_right _ hk
 rw[Nat.add_mul]at hle
 have hw1:=(bc.trans (.head hi) .AY).at _ _ _ hw
 refine(WO.EC (ops:=ops) (Q:=Q) (K:=K) (i:=0) hc hx hy hv rfl (by rw[EO hz _ _ hl];omega) ?_) ac w hac hw1
 rw[EM (h0:=h0) hz hl ha hj hs']
 refine KK.AW ?_ h
 have e2:(cc A cap T' sz xs.length (dP enc (hs.set idx.toNat h') (xs.set idx.toNat a')))=cc A cap T' sz (xs.set idx.toNat a').length (dP enc (hs.set idx.toNat h') (xs.set idx.toNat a')):=by rw[List.length_set]
 show bc (cc A cap T' sz xs.length (dP enc (hs.set idx.toNat h') (xs.set idx.toNat a'))::(gk bb hs xs++L.eraseIdx i)) _
 rw[e2]
 refine .trans (.cons ?_) (.ui (by simp[hl]))
 exact .trans (.OA (h0:=h0) hl ha) (.trans (.perm I5) (.trans (.app hM) (.trans (.perm I5) (.oX hl hk h' a'))))
theorem WO.qT{a':α}(hc:P.cellsOf T=1)(hx:ap n e x (.pointer (some (bQ A p))))(hy:ap n e y v)(hv:v.oneCell'=true)(hz: ∀h a,(enc h a).length=sz){j:Nat}
  (hi:L[i]? =some (cN enc bb sz A cap T' hs xs))(ha:xs[idx.toNat]? =some a)(hp:p=idx.toNat * sz+j)(hj:j < sz)(hs':(enc (hs.getD idx.toNat h0) a).set j v=enc (hs.getD idx.toNat h0) a')(hM:bb (hs.getD idx.toNat h0) a=bb (hs.getD idx.toNat h0) a')
  (h:KK n base w0 e (cN enc bb sz A cap T' hs (xs.set idx.toNat a')::L.eraseIdx i) K):
  WO P ops n base w0 e L ⟨none,.store T x y,t,pos,af,none⟩ K Q:=by
 intro ac w hac hw
 have hl:=sy hw hi
 have hk:=(List.getElem?_eq_some_iff.1 ha).1
 refine(WO.SS (ops:=ops) (Q:=Q) (K:=K) (h0:=h0) (h':=hs.getD idx.toNat h0) hc hx hy hv hz hi ha hp hj hs' (by rw[hM];exact .refl) ?_) ac w hac hw
 have e1:hs.set idx.toNat (hs.getD idx.toNat h0)=hs:=by
  apply List.ext_getElem (by simp)
  intro q h1 h2
  rw[List.getElem_set]
  split
  ·rename_i hq
   subst hq
   simp[List.getD_eq_getElem?_getD,List.getElem?_eq_getElem h2]
  ·rfl
 rw[e1];exact h
theorem WO.EP{L':List Chunk}{h':η}{a':α}(hc:P.cellsOf T=1)(hx:ap n e x (.pointer (some (bQ A p))))(hy:ap n e y v)(hv:v.oneCell'=true)(hz: ∀h a,(enc h a).length=sz){j:Nat}
  (hi:L[i]? =some (cH bb sz A cap T' enc hs xs idx.toNat))(ha:xs[idx.toNat]? =some a)(hp:p=idx.toNat * sz+j)(hj:j < sz)(hs':(enc (hs.getD idx.toNat h0) a).set j v=enc h' a')(hM:bc (L.eraseIdx i) (bb h' a'++L'))
  (h:KK n base w0 e (cN enc bb sz A cap T' (hs.set idx.toNat h') (xs.set idx.toNat a')::L') K):
  WO P ops n base w0 e L ⟨none,.store T x y,t,pos,af,none⟩ K Q:=by
 subst hp
 intro ac w hac hw
 have hl:hs.length=xs.length:=hw.sat _ (List.mem_of_getElem? hi) (cF (hs.length=xs.length)) (by simp)
 have hk:=(List.getElem?_eq_some_iff.1 ha).1
 have hle:(idx.toNat+1) * sz≤xs.length * sz:=Nat.mul_le_mul_right _ hk
 rw[Nat.add_mul]at hle
 have e1:bc L (cc A cap T' sz xs.length (dP enc hs xs)::(wV bb hs xs idx.toNat++L.eraseIdx i)):=
  .trans (.head hi) (.trans .D9 (.cons (.drop (M:=[cF (hs.length=xs.length)]))))
 have hw1:=e1.at _ _ _ hw
 refine(WO.EC (ops:=ops) (Q:=Q) (K:=K) (i:=0) hc hx hy hv rfl (by rw[EO hz _ _ hl];omega) ?_) ac w hac hw1
 rw[EM (h0:=h0) hz hl ha hj hs']
 refine KK.AW ?_ h
 have e2:(cc A cap T' sz xs.length (dP enc (hs.set idx.toNat h') (xs.set idx.toNat a')))=cc A cap T' sz (xs.set idx.toNat a').length (dP enc (hs.set idx.toNat h') (xs.set idx.toNat a')):=by rw[List.length_set]
 show bc (cc A cap T' sz xs.length (dP enc (hs.set idx.toNat h') (xs.set idx.toNat a'))::(wV bb hs xs idx.toNat++L.eraseIdx i)) _
 rw[e2]
 refine .trans (.cons ?_) (.ui (by simp[hl]))
 exact .trans (.app hM) (.trans (.perm I5) (.oX hl hk h' a'))
end
end
abbrev Hd:=Option Addr×Nat
def cQ{α:Type}(h:Hd)(x:List α):List Value:=[.slice h.1 x.length h.2]
def dB{α:Type}(enc:α→List Value)(sz E:Nat)(h:Hd)(x:List α):List Chunk:=[cR enc sz h.1 h.2 E x]
theorem yu{α:Type}(h:Hd)(x:List α):(cQ h x).length=1:=rfl
theorem Wm{α:Type}(h:Hd)(x:List α): ∀u∈cQ h x,u.oneCell'=true:=fun u hu=>by obtain rfl:=List.mem_singleton.1 hu;rfl
section
def eqA(n:Nat)(xs ys:List Int):Bool:=(List.range n).all fun i=>decide (xs.getD i 0=ys.getD i 0)
structure aaT(P:Program)(T n:Nat)(k1 k2:IntKind):Prop where
 is: ∃t1 t2 e k3,P.underlying T=some (.struct (P.fieldsOf T))∧P.stoodInHeld T=false∧P.eqGuardType P.depth T=false∧(P.fieldsOf T).toList.map (fun f=>(f.name== "_",f.offset,f.type))= [(false,0,t1),(false,1,t2)]∧P.underlying t1=some (.int k1)∧P.underlying t2=some (.array n e)∧P.underlying e=some (.int k3)∧P.cellsOf e=0+1∧P.cellsOf t2=n∧0 < n
end
end Go.Proofs.YtjdkkabcenohcaaGreatDoor
