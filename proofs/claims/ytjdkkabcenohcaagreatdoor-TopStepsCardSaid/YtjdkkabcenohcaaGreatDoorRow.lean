import Derived.Test.YtjdkkabcenohcaaGreatDoorEng
import Derived.Maps.AppendAt
import Derived.Laws.CopyRow
import Derived.Laws.StructEq
set_option linter.unusedVariables false
set_option linter.unusedSimpArgs false
set_option linter.unusedSectionVars false
namespace Go.Proofs.YtjdkkabcenohcaaGreatDoor
open Go.RowKit
variable {P:Program} {n:Nat} {base:Nat} {w0 w:World} {L:List Chunk} {e:Env}
variable {ops rest:List Oper} {Q:Exit→Act→World→Prop} {R:Act→World→Prop} {d:Nat} {D:Option Tmp} {op:Op} {t:TypeId} {pos:String} {af:Array Edge} {G:Option (Nat×Bool)} {v u:Value} {x y z:Operand}
def At(w:World)(A:Option Addr)(j:Nat)(cs:List Value):Prop:=∀i v,cs[i]? =some v→w.cell? (dr A (j+i))=some v
theorem At.mono{w:World}{A:Option Addr}{j:Nat}{cs:List Value}{w':World}{L:List Chunk}(h:At w A j cs)(hw:St w.heap.size w L w'):At w' A j cs:=fun i v hi=>hw.JD (h i v hi)
theorem At.sub{w:World}{A:Option Addr}{j k m:Nat}{cs ds:List Value}(h:At w A j cs)(hk:k=j+m)(hd: ∀i v,ds[i]? =some v→cs[m+i]? =some v):At w A k ds:=fun i v hi=>by
 have:=h (m+i) v (hd i v hi)
 rw[hk,Nat.add_assoc];exact this
theorem uQ{α:Type}{enc:α→List Value}{sz:Nat}(hz: ∀a,(enc a).length=sz): ∀(xs:List α) (i c:Nat) (h:i < xs.length),c < sz→(xs.flatMap enc)[i * sz+c]? =(enc xs[i])[c]?
 | [],_,_,h,_=>by simp at h
 |x::xs,0,c,_,hc=>by
  simp only[List.flatMap_cons,Nat.zero_mul,Nat.zero_add,List.getElem_cons_zero]
  rw[List.getElem?_append_left (by rw[hz];exact hc)]
 |x::xs,i+1,c,h,hc=>by
  simp only[List.flatMap_cons,List.getElem_cons_succ]
  rw[List.getElem?_append_right (by rw[hz,Nat.add_mul];omega),hz,show(i+1) * sz+c - sz=i * sz+c by rw[Nat.add_mul];omega]
  exact uQ hz xs i c (by simpa using h) hc
theorem o_{α:Type}{enc:α→List Value}{sz:Nat}(hz: ∀a,(enc a).length=sz): ∀(xs:List α),(xs.flatMap enc).length=xs.length * sz
 | []=>by simp
 |x::xs=>by simp only[List.flatMap_cons,List.length_append,hz,o_ hz xs,List.length_cons,Nat.add_mul];omega
def putAt(l:List Value)(o:Nat)(cs:List Value):List Value:=l.take o++cs++l.drop (o+cs.length)
theorem Wb{l:List Value}{o:Nat}{cs:List Value}(h:o+cs.length≤l.length):(putAt l o cs).length=l.length:=by unfold putAt;simp;omega
theorem OJ{α:Type}{enc:α→List Value}{sz:Nat}(hz: ∀a,(enc a).length=sz): ∀(xs:List α) (i:Nat) (a:α),i < xs.length→putAt (xs.flatMap enc) (i * sz) (enc a)=(xs.set i a).flatMap enc
 | [],_,_,h=>by simp at h
 |x::xs,0,a,_=>by
  unfold putAt
  simp[hz,List.drop_append,List.drop_of_length_le]
 |x::xs,i+1,a,h=>by
  have ih:=OJ hz xs i a (by simpa using h)
  unfold putAt at ih⊢
  simp only[List.set_cons_succ,List.flatMap_cons,←ih]
  have e1:(i+1) * sz=(enc x).length+i * sz:=by rw[hz,Nat.add_mul];omega
  rw[e1,List.take_append,List.drop_append]
  simp[List.take_of_length_le,List.drop_of_length_le,Nat.add_assoc]
theorem Eh{α:Type}{enc:α→List Value}{sz:Nat}(hz: ∀a,(enc a).length=sz): ∀(xs:List α) (i c:Nat) (v:Value) (a:α) (h:i < xs.length),c < sz→(enc xs[i]).set c v=enc a→(xs.flatMap enc).set (i * sz+c) v=(xs.set i a).flatMap enc
 | [],_,_,_,_,h,_,_=>by simp at h
 |x::xs,0,c,v,a,_,hc,ha=>by
  simp only[List.flatMap_cons,Nat.zero_mul,Nat.zero_add,List.set_cons_zero]
  rw[List.set_append_left _ _ (by rw[hz];exact hc),←ha];rfl
 |x::xs,i+1,c,v,a,h,hc,ha=>by
  simp only[List.flatMap_cons,List.set_cons_succ]
  rw[List.set_append_right _ _ (by rw[hz,Nat.add_mul];omega),hz,show(i+1) * sz+c - sz=i * sz+c by rw[Nat.add_mul];omega]
  rw[Eh hz xs i c v a (by simpa using h) hc ha]
structure bi{α:Type}(enc:α→List Value)(sz:Nat)(w:World)(v:Value)(xs:List α):Prop where
 is: ∃a cap,v= .slice a xs.length cap∧xs.length≤cap∧∀i (h:i < xs.length),xk a∧At w a (i * sz) (enc xs[i])
theorem bi.mono{α:Type}{enc:α→List Value}{sz:Nat}{w:World}{v:Value}{xs:List α}{L:List Chunk}{w':World}(h:bi enc sz w v xs)(hw:St w.heap.size w L w'):bi enc sz w' v xs:=by
 obtain⟨a,cap,hv,hl,hc⟩:=h
 exact⟨a,cap,hv,hl,fun i hi=>⟨(hc i hi).1,(hc i hi).2.mono hw⟩⟩
theorem bi.take{α:Type}{enc:α→List Value}{sz:Nat}{w:World}{a:Option Addr}{m c:Nat}{xs:List α}{j:Nat}(h:bi enc sz w (.slice a m c) xs)(hj:j≤xs.length):bi enc sz w (.slice a j c) (xs.take j):=by
 obtain⟨a',c',e,hc,hi⟩:=h
 cases e
 have hl:(xs.take j).length=j:=by simp;omega
 refine⟨a,c,by rw[hl],by omega,fun i hh=>?_⟩
 rw[List.getElem_take]
 exact hi i (by omega)
theorem bi.nil{α:Type}{enc:α→List Value}{sz:Nat}{w:World}:bi enc sz w (.slice none 0 0) ([]:List α):=⟨none,0,rfl,Nat.le_refl _,fun i h=>by simp at h⟩
def vB:List Bool→List Value→List Value→Option Bool
 | [],[],[]=>some true
 | [true],[.int .i64 a],[.int .i64 b]=>some (decide (a=b))
 |true::ks,.int .i64 a::xs,.int .i64 b::ys=>(vB ks xs ys).map (decide (a=b)&& ·)
 |false::ks,.bool a::xs,.bool b::ys=>(vB ks xs ys).map ((a==b)&& ·)
 |_,_,_=>none
def SL(P:Program):Nat→List Field→List Bool→Bool
 |_,[],[]=>true
 |k,f::fs,b::bs=>(f.name != "_")&&Nat.beq f.offset k&&(match P.underlying f.type,b with|some (.int .i64),true=>true|some .bool,false=>true|_,_=>false)&&SL P (k+1) fs bs
 |_,_,_=>false
structure aky(P:Program)(T:TypeId)(ks:List Bool):Prop where
 is: ∃fs,P.underlying T=some (.struct fs)∧P.stoodInHeld T=false∧P.eqGuardType P.depth T=false∧SL P 0 fs.toList ks=true
def rowIs(A:Option Addr)(cap:Nat)(E:TypeId)(size m:Nat)(xs:List Value)(x:Option Obj):Prop:=
 xs.length=m * size∧((A=none∧m=0∧cap=0)∨∃g cur,A=some ⟨g,0,none⟩∧x=some (.cells cur E (0,0))∧m≤cap∧cap≤maxLen∧cur.size=cap * size∧cur.toList.take (m * size)=xs)
def eR(A:Option Addr)(cap:Nat)(E:TypeId)(size m:Nat)(xs:List Value):Chunk:= .one (A.map (·.block)) (rowIs A cap E size m xs)
theorem St.Wd(h:St base w0 L w)(E:TypeId)(size:Nat):St base w0 (eR none 0 E size 0 []::L) w:=by
 refine⟨h.below,h.ot,fun c hc=>?_,h.nodup,h.ge⟩
 rcases List.mem_cons.1 hc with rfl|hc
 ·exact⟨by simp,.inl ⟨rfl,rfl,rfl⟩⟩
 ·exact h.sat c hc
theorem St.AE(h:St base w0 L w){i cap E size m j:Nat}{A:Option Addr}{xs:List Value}(hi:L[i]? =some (eR A cap E size m xs))(hj:xs[j]? =some v):xk A∧w.cell? (dr A j)=some v:=by
 obtain⟨hl,hs⟩:=h.sat _ (List.mem_of_getElem? hi)
 have hlt:j < xs.length:=(List.getElem?_eq_some_iff.1 hj).1
 rcases hs with⟨rfl,rfl,rfl⟩|⟨g,cur,rfl,hx,rJ,hcm,hcs,ij⟩
 ·rw[Nat.zero_mul]at hl;omega
 ·refine⟨⟨rfl,fun p hp=>by cases hp;rfl⟩,?_⟩
  have hx':w.heap[g]? =some (.cells cur E (0,0)):=hx
  have hg:cur.toList[j]? =some v:=by
   rw[←ij,List.getElem?_take]at hj
   split at hj
   ·exact hj
   ·cases hj
  simp only[dr,Nat.zero_add]
  exact g_ hx' (by simpa using hg)
theorem St.iA(h:St base w0 L w){i cap E size m:Nat}{A:Option Addr}{xs:List Value}(hi:L[i]? =some (eR A cap E size m xs)):m≤cap∧xs.length=m * size∧(0 < m→xk A):=by
 obtain⟨hl,hs⟩:=h.sat _ (List.mem_of_getElem? hi)
 rcases hs with⟨rfl,rfl,rfl⟩|⟨g,cur,rfl,hx,rJ,hcm,hcs,ij⟩
 ·exact⟨Nat.le_refl _,hl,fun h=>by omega⟩
 ·exact⟨rJ,hl,fun _=>⟨rfl,fun p hp=>by cases hp;rfl⟩⟩
theorem SM{α:Type}{enc:α→List Value}{sz:Nat}(hz: ∀a,(enc a).length=sz){xs:List α}{i c:Nat}(h:i < xs.length)(hv:(enc xs[i])[c]? =some v):(xs.flatMap enc)[i * sz+c]? =some v:=by
 have hc:c < sz:=by rw[←hz xs[i]];exact(List.getElem?_eq_some_iff.1 hv).1
 rw[uQ hz xs i c h hc,hv]
theorem St.ah8{α:Type}{enc:α→List Value}{sz:Nat}(h:St base w0 L w)(hz: ∀a,(enc a).length=sz){i cap E m k:Nat}{A:Option Addr}{xs:List α}(hi:L[i]? =some (eR A cap E sz m (xs.flatMap enc)))(hk:k < xs.length): ∀j v,(enc xs[k])[j]? =some v→w.cell? (dr A (k * sz+j))=some v:=
 fun j v hv=>(h.AE hi (SM hz hk hv)).2
theorem W.dB{F:Prop}{c:Code}{Q:Exit→Act→World→Prop}(hF: ∀w,St base w0 L w→F)(h:F→W P n base w0 e L c Q):W P n base w0 e L c Q:=fun a w ha hw=>h (hF w hw) a w ha hw
theorem bi.row{α:Type}{enc:α→List Value}{sz:Nat}(hz: ∀a,(enc a).length=sz)(h:St base w0 L w){i cap E m:Nat}{A:Option Addr}{xs:List α}(hi:L[i]? =some (eR A cap E sz m (xs.flatMap enc)))(hm:m=xs.length:=by rfl):bi enc sz w (.slice A m cap) xs:=by
 subst hm
 refine⟨A,cap,rfl,(h.iA hi).1,fun j hj=>⟨(h.iA hi).2.2 (by omega),fun c v hc=>?_⟩⟩
 have hcl:c < sz:=by rw[←hz xs[j]];exact(List.getElem?_eq_some_iff.1 hc).1
 exact(h.AE hi (by rw[uQ hz xs j c hj hcl];exact hc)).2
theorem bi.lit{α:Type}{enc:α→List Value}{sz:Nat}(hz: ∀a,(enc a).length=sz)(h:St base w0 L w){i b m cap:Nat}{T:TypeId}{xs:List α}(hi:L[i]? =some (mx b (.cells (xs.flatMap enc).toArray T (0,0))))(hm:m=xs.length:=by rfl)(hc:m≤cap:=by simp):bi enc sz w (.slice (some ⟨b,0,none⟩) m cap) xs:=by
 subst hm
 refine⟨_,_,rfl,hc,fun j hj=>⟨⟨rfl,fun p hp=>by cases hp;rfl⟩,fun c v hc=>?_⟩⟩
 have hcl:c < sz:=by rw[←hz xs[j]];exact(List.getElem?_eq_some_iff.1 hc).1
 have:=uQ hz xs j c hj hcl
 simp only[dr,Nat.zero_add]
 exact g_ (h.obj hi) (by simpa[this]using hc)
theorem sa.row(h:St base w0 L w){i cap E m:Nat}{A:Option Addr}{xs:List Int}(hi:L[i]? =some (eR A cap E 1 m (ints xs)))(hm:m=xs.length:=by rfl):sa w (.slice A m cap) xs:=by
 subst hm
 exact⟨A,cap,rfl,(h.iA hi).1,fun j hj=>⟨(h.iA hi).2.2 (by omega),(h.AE hi (by simp[ints,hj])).2⟩⟩
theorem adX{l cs:List Value}(h:l.length=cs.length):putAt l 0 cs=cs:=by unfold putAt;simp;omega
theorem St.grow(h:St base w0 L w){w':World}{i:Nat}{c c':Chunk}{o o':Option Nat}(hi:L[i]? =some c)(ho:c.own=o.toList)(ho':c'.own=o'.toList)(hg:w.grownBy w' o)(Cb:o'=o∨o'=some w.heap.size)(hlt: ∀b,o'=some b→b < w'.heap.size)(Ed:c'.sat w'):St base w0 (L.set i c') w':=by
 refine h.OC hi hg.os hg.tape hg.output hg.size (fun k hk hk'=>hg.block k hk (fun e=>hk' ?_)) Ed ?_ (fun b hb=>?_)
 ·rw[ho,←e];simp
 ·rw[ho'];cases o'<;>simp
 ·rw[ho']at hb
  have hb':o'=some b:=by simpa using hb
  rcases Cb with e|e
  ·left;rw[ho,←e];exact hb
  ·right;rw[e]at hb';obtain rfl:=Option.some.inj hb';exact⟨Nat.le_refl _,hlt _ e⟩
section
variable {K:Act→World→Prop}
theorem WO.append{t E size bytes i m k c cap:Nat}{A:Option Addr}{xs news:List Value}{ad:Addr}{ty:TypeId}(hT:P.underlying t=some (.slice E))(hz: ∃i z,P.info? E=some i∧i.zero=some z∧i.size=size∧i.bytes=bytes∧z.cells.size=size∧0 < size)
  (hx:aD n e x (.slice A m cap))(hy:aD n e y (.slice (some ad) k c))(hi:L[i]? =some (eR A cap E size m xs))(hnl:news.length=k * size)(hnews: ∀w,St base w0 L w→∀j u,news[j]? =some u→w.cell? (ad.add j)=some u)(h1: ∀u∈news,u.oneCell'=true)
  (h63:m+k≤maxLen)(hby:(m+k) * bytes≤140737488355328)(hd:Nat.blt d n=true)
  (h: ∀A' cap',KK n base w0 ((d,.slice A' (m+k) cap')::e) (L.set i (eR A' cap' E size (m+k) (xs++news))) K):
  WO P ops n base w0 e L ⟨some d,.call {callee:= .builtin .append,args:= #[x,y],argTypes:= #[t,t]},ty,pos,af,none⟩ K Q:=by
 refine WO.of_run rfl fun a w ha hw=>?_
 obtain⟨inf,z,Lm,wh,hsz,Wf,hzs,hpos⟩:=hz
 obtain⟨hl,hs⟩:=hw.sat _ (List.mem_of_getElem? hi)
 have hown:w.ownsRow base E size (.slice A m cap) m xs:=by
  refine⟨hl,?_⟩
  rcases hs with⟨rfl,rfl,rfl⟩|⟨g,cur,rfl,hx,rJ,hcm,hcs,ij⟩
  ·exact .inl ⟨rfl,rfl⟩
  ·exact .inr ⟨g,cap,cur,rfl,(hw.ge g (xF (List.mem_of_getElem? hi) (List.mem_singleton.2 rfl))).1,hx,rJ,hcm,hcs,ij⟩
 obtain⟨v',w',hr,h2,h3,h4,h5⟩:=run_append_own_at (P:=P) w base t ty E inf z size bytes hT Lm wh hsz Wf hzs hpos (.slice A m cap) m xs hown ad k c news hnl (hnews w hw) h1 h63 hby hw.xE
 have SN:(Value.slice A m cap).ownBlock=A.map (·.block):=by cases A<;>rfl
 rw[SN]at h3 h5
 have FR: ∃A' cap',v'= .slice A' (m+k) cap'∧rowIs A' cap' E size (m+k) (xs++news) ((A'.map (·.block)).bind fun b=>w'.heap[b]?)∧∀b,A'.map (·.block)=some b→b < w'.heap.size:=by
  obtain⟨h6,h7⟩:=h2
  rcases h7 with⟨rfl,h8⟩|⟨g,cap',cur,rfl,hbg,hg,hnc,hcm,hcs,ij⟩
  ·exact⟨none,0,by rw[h8],⟨h6,.inl ⟨rfl,h8,rfl⟩⟩,fun b hb=>by cases hb⟩
  ·exact⟨some ⟨g,0,none⟩,cap',rfl,⟨h6,.inr ⟨g,cur,rfl,hg,hnc,hcm,hcs,ij⟩⟩,fun b hb=>by cases hb;exact(Array.getElem?_eq_some_iff.1 hg).1⟩
 obtain⟨A',cap',rfl,h6,h7⟩:=FR
 have ah9:(Value.slice A' (m+k) cap').ownBlock=A'.map (·.block):=by cases A'<;>rfl
 rw[ah9]at h5
 unfold Oper.wp execOp
 simp only[resolve,invoke,builtin,Sem.run_bind,Sem.run_pure,Result.andThen_ok,List.map_toArray,List.map_cons,List.map_nil,hx a ha,hy a ha,hr]
 exact h A' cap' _ _ (ha.put d _ hd) (hw.grow hi rfl rfl h3 h5 h7 h6)
theorem WO.OK{T j i cap E size m:Nat}{A:Option Addr}{xs:List Value}(hc:P.cellsOf T=1)(hx:aD n e x (.pointer (some (dr A j))))(hy:aD n e y v)(hv:v.oneCell'=true)
  (hi:L[i]? =some (eR A cap E size m xs))(hj:j < xs.length)(h:KK n base w0 e (L.set i (eR A cap E size m (xs.set j v))) K):
  WO P ops n base w0 e L ⟨none,.store T x y,t,pos,af,none⟩ K Q:=by
 refine WO.of_run rfl fun a w ha hw=>?_
 obtain⟨hl,hs⟩:=hw.sat _ (List.mem_of_getElem? hi)
 rcases hs with⟨rfl,rfl,rfl⟩|⟨g,cur,rfl,AP,rJ,hcm,hcs,ij⟩
 ·rw[Nat.zero_mul]at hl;omega
 ·have hg:w.heap[g]? =some (.cells cur E (0,0)):=AP
  have hle:m * size≤cap * size:=Nat.mul_le_mul_right _ rJ
  have hjc:j < cur.size:=by omega
  have Yw:v.cells= #[v]:=by cases v<;>simp_all[Value.cells,Value.oneCell']
  have hu:w.cell? ⟨g,j,none⟩=some cur[j]:=g_ hg (Array.getElem?_eq_getElem hjc)
  have hf:w.frozen? ⟨g,j,none⟩=false:=by simp[World.frozen?,hg]
  have e1:dr (some ⟨g,0,none⟩) j=⟨g,j,none⟩:=by simp[dr]
  have hr:(execOp a.eval ⟨none,.store T x y,t,pos,af,none⟩).run P w= .ok .skip (w.setCell ⟨g,j,none⟩ v):=by
   simp[execOp,hx a ha,hy a ha,Instr.storeAt,Instr.sureAddr,storeVar,Yw,kw hc,storeCells,eX,run_store _ _ _ _ _ hv,hu,hf,e1]
  unfold Oper.wp
  rw[hr]
  refine h _ _ (ha.Lj undef) (hw.SI hi rfl rfl rfl rfl rfl (by simp) (fun k hk=>Below.heap_setCell _ _ _ _ (by simpa using hk)) ?_)
  refine⟨by simpa using hl,.inr ⟨g,cur.setIfInBounds j v,rfl,?_,rJ,hcm,by simpa using hcs,?_⟩⟩
  ·simp[eR,World.setCell,Array.getElem?_modify,hg]
  ·rw[←ij,Array.toList_setIfInBounds,List.take_set]
theorem JI{g i:Nat}{cur:Array Value}{E:TypeId}{o:Nat}{cs:List Value}(h:St base w0 L w){c c':Chunk}{p:Option Obj→Prop}(hi:L[i]? =some c)(hc:c.own= [g])(Cb:c'= .one (some g) p)(hg:w.heap[g]? =some (.cells cur E (0,0)))
  (hs:p (some (.cells (cur.toList.take o++cs++cur.toList.drop (o+cs.length)).toArray E (0,0)))):St base w0 (L.set i c') (w.setRow g (cur.toList.take o++cs++cur.toList.drop (o+cs.length)).toArray):=by
 subst Cb
 refine h.SI hi hc rfl rfl rfl rfl (by simp[World.setRow]) (fun k hk=>setRow_other w g k _ hk) ?_
 show p ((some g).bind fun b=>_)
 rw[Option.bind_some,setRow_heap w g cur _ E _ hg]
 exact hs
theorem WO.adY{T k b o i:Nat}{arr:Array Value}{E:TypeId}{cs:List Value}(hc:P.cellsOf T=k+1)(hx:aD n e x (.pointer (some ⟨b,o,none⟩)))(hy:aD n e y (.agg cs.toArray))(hl:cs.length=k+1)(h1: ∀v∈cs,v.oneCell'=true)
  (hi:L[i]? =some (mx b (.cells arr E (0,0))))(hk:o+cs.length≤arr.size)(h:KK n base w0 e (L.set i (mx b (.cells (putAt arr.toList o cs).toArray E (0,0)))) K):
  WO P ops n base w0 e L ⟨none,.store T x y,t,pos,af,none⟩ K Q:=by
 refine WO.of_run rfl fun a w ha hw=>?_
 have hg:=hw.obj hi
 have hst:=run_storeCells_at (P:=P) b o E cs 0 arr w hg (by simpa using hk) h1
 simp only[Nat.add_zero]at hst
 have hr:(execOp a.eval ⟨none,.store T x y,t,pos,af,none⟩).run P w= .ok .skip (w.setRow b (arr.toList.take o++cs++arr.toList.drop (o+cs.length)).toArray):=by
  simp[execOp,hx a ha,hy a ha,Instr.storeAt,Instr.sureAddr,storeVar,Value.cells,hl,kw hc,hst]
 unfold Oper.wp
 rw[hr]
 exact h _ _ (ha.Lj undef) (JI hw hi rfl rfl hg rfl)
theorem WO.Ln{T k j i cap E size m:Nat}{A:Option Addr}{xs cs:List Value}(hc:P.cellsOf T=k+1)(hx:aD n e x (.pointer (some (dr A j))))(hy:aD n e y (.agg cs.toArray))(hl:cs.length=k+1)(h1: ∀v∈cs,v.oneCell'=true)
  (hi:L[i]? =some (eR A cap E size m xs))(hj:j+cs.length≤xs.length)(h:KK n base w0 e (L.set i (eR A cap E size m (putAt xs j cs))) K):
  WO P ops n base w0 e L ⟨none,.store T x y,t,pos,af,none⟩ K Q:=by
 refine WO.of_run rfl fun a w ha hw=>?_
 obtain⟨hxl,hs⟩:=hw.sat _ (List.mem_of_getElem? hi)
 rcases hs with⟨rfl,rfl,rfl⟩|⟨g,cur,rfl,AP,rJ,hcm,hcs,ij⟩
 ·rw[Nat.zero_mul]at hxl;omega
 ·have hg:w.heap[g]? =some (.cells cur E (0,0)):=AP
  have hle:m * size≤cap * size:=Nat.mul_le_mul_right _ rJ
  have hst:=run_storeCells_at (P:=P) g j E cs 0 cur w hg (by omega) h1
  simp only[Nat.add_zero]at hst
  have e1:dr (some ⟨g,0,none⟩) j=⟨g,j,none⟩:=by simp[dr]
  have hr:(execOp a.eval ⟨none,.store T x y,t,pos,af,none⟩).run P w= .ok .skip (w.setRow g (cur.toList.take j++cs++cur.toList.drop (j+cs.length)).toArray):=by
   simp[execOp,hx a ha,hy a ha,Instr.storeAt,Instr.sureAddr,storeVar,Value.cells,hl,kw hc,hst,e1]
  unfold Oper.wp
  rw[hr]
  refine h _ _ (ha.Lj undef) (JI hw hi rfl rfl hg ?_)
  refine⟨by rw[Wb hj,hxl],.inr ⟨g,_,rfl,rfl,rJ,hcm,?_,?_⟩⟩
  ·simp;omega
  ·subst ij
   unfold putAt
   have hjm:j+cs.length≤m * size:=by rw[←hxl];exact hj
   apply List.ext_getElem?
   intro q
   simp only[List.getElem?_take,List.getElem?_append,List.length_append,List.length_take,Array.length_toList,List.getElem?_drop]
   repeat' split
   all_goals first|rfl|(exfalso;omega)|(congr 1;omega)|skip
theorem WO.agZ{T E size V_:Nat}{kd:IntKind}{k:Nat}{zs:List Value}(hT:P.underlying T=some (.slice E))(hz: ∃i z,P.info? E=some i∧i.zero=some z∧i.size=size∧i.bytes=V_∧z.cells=zs.toArray∧zs.length=size∧0 < size)(hx:aD n e x (.int kd (k:Int)))(hk:V_ * k≤140737488355328∧k≤9223372036854775807)(hd:Nat.blt d n=true)
  (h: ∀b,KK n base w0 ((d,.slice (some ⟨b,0,none⟩) k k)::e) (mx b (.cells (List.replicate k zs).flatten.toArray E (0,0))::L) K):WO P ops n base w0 e L ⟨some d,.makeSlice T x x,t,pos,af,none⟩ K Q:=by
 refine WO.of_run rfl fun a w ha hw=>?_
 obtain⟨i,z,hi,hz,hs,hby,hzc,hzl,hpos⟩:=hz
 subst hby
 have hm:madeCells z.cells ((k:Int).toNat * i.size)=(List.replicate k zs).flatten.toArray:=by
  rw[hzc,hs]
  apply Array.toList_inj.1
  apply List.ext_getElem?
  intro j
  simp only[Int.toNat_natCast]
  have hfl: ∀k' j,(List.replicate k' zs).flatten[j]? =if j < k' * size then zs[j % size]? else none:=by
   intro k'
   induction k' with
   |zero=>intro j;simp
   |succ k' ih=>
    intro j
    rw[List.replicate_succ,List.flatten_cons,List.getElem?_append,ih,hzl]
    by_cases hj:j < size
    ·rw[if_pos hj,if_pos (by rw[Nat.add_mul];omega),Nat.mod_eq_of_lt hj]
    ·rw[if_neg hj]
     have:j % size=(j - size) % size:=Nat.mod_eq_sub_mod (by omega)
     rw[this]
     by_cases h2:j - size < k' * size
     ·rw[if_pos h2,if_pos (by rw[Nat.add_mul];omega)]
     ·rw[if_neg h2,if_neg (by rw[Nat.add_mul];omega)]
  rw[hfl]
  by_cases hj:j < k * size
  ·have hjm:j % size < zs.length:=by rw[hzl];exact Nat.mod_lt _ hpos
   rw[if_pos hj]
   simp[madeCells,hj,hzl,hjm]
   rw[List.getElem?_eq_getElem hjm];rfl
  ·rw[if_neg hj];simp[madeCells,hj]
 have hr:(execOp a.eval ⟨some d,.makeSlice T x x,t,pos,af,none⟩).run P w= .ok (.value (.slice (some ⟨w.heap.size,0,none⟩) k k)) (w.alloc (.cells (List.replicate k zs).flatten.toArray E)):=by
  have:=run_make (P:=P) w T E i z hT hi hz kd kd k k (by omega) (by omega) (by rw[←Int.natCast_mul];omega) (by omega)
  rw[hm]at this
  simp only[Int.toNat_natCast]at this
  simp only[execOp,hx a ha,Sem.run_bind,this,Result.andThen_ok,Sem.run_pure]
 unfold Oper.wp
 rw[hr]
 exact h w.heap.size _ _ (ha.put d _ hd) (hw.alloc _)
end
end Go.Proofs.YtjdkkabcenohcaaGreatDoor
