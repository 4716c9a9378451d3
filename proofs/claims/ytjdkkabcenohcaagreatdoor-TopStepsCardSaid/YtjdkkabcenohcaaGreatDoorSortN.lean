import Derived.Test.YtjdkkabcenohcaaGreatDoorShelf
import Derived.Shelf.SlSortCmp.WholeK
set_option linter.unusedVariables false
set_option linter.unusedSimpArgs false
set_option linter.unusedSectionVars false
namespace Go.Proofs.YtjdkkabcenohcaaGreatDoor
open Go.RowKit Go.Sort Go.Shelf
abbrev iu{T:Type}(S:T→Bool):Type:={x:T // S x=true}
def toSub{T:Type}(S:T→Bool):List T→List (iu S)
 | []=>[]
 |x::r=>if h:S x=true then⟨x,h⟩::toSub S r else toSub S r
theorem Cu{T:Type}{S:T→Bool}: ∀{xs:List T},xs.all S=true→(toSub S xs).map (·.1)=xs
 | [],_=>rfl
 |x::r,h=>by
  rw[List.all_cons,Bool.and_eq_true]at h
  unfold toSub
  rw[dif_pos h.1,List.map_cons,Cu h.2]
def mf{T:Type}(S:T→Bool)[Inhabited (iu S)](cf:T→T→Int)(xs:List T):List T:=
 (pdq (ltOf fun a b:iu S=>cf a.1 b.1) (toSub S xs).toArray 0 (toSub S xs).toArray.size (Lib.bitLen (toSub S xs).toArray.size) true true).toList.map (·.1)
def Cv{T:Type}(S:T→Bool)[Inhabited (iu S)](cf:T→T→Int)(xs:List T):Option (List T):=
 if xs.all S=true∧xs.length < 4611686018427387904 then some (mf S cf xs)else none
section
variable {T:Type} {S:T→Bool} [Inhabited (iu S)] {cf:T→T→Int}
theorem uA(hO:SWO (ltOf fun a b:iu S=>cf a.1 b.1)){xs:List T}(h:xs.all S=true):
  (mf S cf xs).Perm xs∧(mf S cf xs).Pairwise (fun a b=>¬cf b a < 0):=by
 have hp:=pdq_sorts (ltOf fun a b:iu S=>cf a.1 b.1) hO (toSub S xs).toArray 0 (toSub S xs).toArray.size (Lib.bitLen (toSub S xs).toArray.size) true true (Nat.zero_le _) (Nat.le_refl _) (Or.inl rfl)
 unfold mf
 obtain⟨⟨h1,h2,h3⟩,h4⟩:=hp
 generalize pdq (ltOf fun a b:iu S=>cf a.1 b.1) (toSub S xs).toArray 0 (toSub S xs).toArray.size (Lib.bitLen (toSub S xs).toArray.size) true true=d at h1 h2 h3 h4⊢
 refine⟨?_,?_⟩
 ·have e1:d.extract 0 (toSub S xs).toArray.size=d:=by rw[←h1];simp
  have e2:(toSub S xs).toArray.extract 0 (toSub S xs).toArray.size=(toSub S xs).toArray:=by simp
  rw[e1,e2]at h3
  have:=h3.map (·.1)
  rw[List.toList_toArray,Cu h]at this
  exact this
 ·rw[List.pairwise_map]
  refine List.pairwise_iff_getElem.2 fun i j hi hj hij=>?_
  have hj':j < d.size:=by simpa using hj
  have:=h4 i j (Nat.zero_le _) hij (by rw[←h1];exact hj')
  rw[getElem!_pos d j hj',getElem!_pos d i (by omega)]at this
  unfold ltOf at this
  simpa using this
theorem Nl(hO:SWO (ltOf fun a b:iu S=>cf a.1 b.1)){xs:List T}(h:xs.all S=true):(mf S cf xs).length=xs.length:=(uA hO h).1.length_eq
end
theorem Kt{α:Type}[Inhabited α]{enc:α→List Value}{k:Nat}(hk: ∀x,(enc x).length=k)(d:Array α):(flatK enc k d).toList=d.toList.flatMap enc:=by
 have hl: ∀l:List α,(l.flatMap enc).length=l.length * k:=by
  intro l
  induction l with
  |nil=>simp
  |cons x l ih=>rw[List.flatMap_cons,List.length_append,hk,ih,List.length_cons,Nat.succ_mul];omega
 have hg: ∀(l:List α) (t:Nat),t < l.length * k→(l.flatMap enc)[t]? =(enc (l.getD (t / k) default))[t % k]? :=by
  intro l
  induction l with
  |nil=>intro t ht;simp at ht
  |cons x l ih=>
   intro t ht
   rw[List.length_cons,Nat.succ_mul]at ht
   rw[List.flatMap_cons,List.getElem?_append,hk]
   by_cases h:t < k
   ·rw[if_pos h,Nat.div_eq_of_lt h,Nat.mod_eq_of_lt h];rfl
   ·have hk0:0 < k:=by
     rcases Nat.eq_zero_or_pos k with h0|h0
     ·rw[h0]at ht;simp at ht
     ·exact h0
    rw[if_neg h,ih (t - k) (by omega)]
    obtain⟨u,rfl⟩: ∃u,t=u+k:=⟨t - k,by omega⟩
    rw[Nat.add_sub_cancel,Nat.add_div_right _ hk0,Nat.add_mod_right]
    rfl
 apply List.ext_getElem?
 intro t
 by_cases ht:t < d.size * k
 ·rw[hg _ _ (by simpa using ht)]
  have h1:(flatK enc k d).toList[t]? =some (flatK enc k d)[t]! :=by
   rw[Array.getElem?_toList,Array.getElem?_eq_getElem (by rw[size_flatK];exact ht),getElem!_pos _ t (by rw[size_flatK];exact ht)]
  have hk0:0 < k:=by
   rcases Nat.eq_zero_or_pos k with h0|h0
   ·rw[h0]at ht;simp at ht
   ·exact h0
  have hq:t / k < d.size:=Nat.div_lt_of_lt_mul (by rw[Nat.mul_comm];exact ht)
  have e:d.toList.getD (t / k) default=d[t / k]! :=by
   rw[getElem!_pos d (t / k) hq,List.getD_eq_getElem?_getD,Array.getElem?_toList,Array.getElem?_eq_getElem hq];rfl
  have hm:t % k < (enc d[t / k]!).length:=by rw[hk];exact Nat.mod_lt _ hk0
  rw[h1,get_flatK _ _ _ t ht,e,List.getElem?_eq_getElem hm,getElem!_pos (enc d[t / k]!) (t % k) hm]
 ·rw[List.getElem?_eq_none (by rw[Array.length_toList,size_flatK];omega),List.getElem?_eq_none (by rw[hl,Array.length_toList];omega)]
section
variable {base:Nat} {w0 w:World} {L:List Chunk} {P:Program} {ρ:Go.Shelf.Ren}
theorem St.sorted{T α:Type}[Inhabited α]{i g cap E k:Nat}{enc:T→List Value}{pc:α→List Value}{xs ys:List T}{d:Array α}(h:St base w0 L w)(hi:L[i]? =some (cR enc k (some ⟨g,0,none⟩) cap E xs))(hk: ∀x,(enc x).length=k)(hk2: ∀x,(pc x).length=k)
  (hl:ys.length=xs.length)(hd:d.size=xs.length)(hf:d.toList.flatMap pc=ys.flatMap enc)(n:Nat)(os:Array Obj):St base w0 (L.set i (cR enc k (some ⟨g,0,none⟩) cap E ys)) (sortWorldK pc k w g 0 n d os):=by
 have hfl: ∀zs:List T,(zs.flatMap enc).length=zs.length * k:=by
  intro l
  induction l with
  |nil=>simp
  |cons x l ih=>rw[List.flatMap_cons,List.length_append,hk,ih,List.length_cons,Nat.succ_mul];omega
 obtain⟨h1,hs⟩:=h.sat _ (List.mem_of_getElem? hi)
 rcases hs with⟨h2,_⟩|⟨g2,cur,hg,hx,rJ,hcm,hcs,ij⟩
 ·cases h2
 obtain rfl:g=g2:=by cases hg;rfl
 have hx:w.heap[g]? =some (.cells cur E (0,0)):=hx
 have Gz:g < w.heap.size:=(Array.getElem?_eq_some_iff.1 hx).1
 have hmb:(putRowK pc k (Go.Sort.ahead w n) g 0 d).heap.size=w.heap.size:=by simp[putRowK]
 have hat:(sortWorldK pc k w g 0 n d os).heap[g]? =some (.cells (putCells id 0 (flatK pc k d) cur) E (0,0)):=by
  show((putRowK pc k (Go.Sort.ahead w n) g 0 d).heap++os)[g]? =_
  rw[Array.getElem?_append_left (by rw[hmb];exact Gz)]
  exact CR (w:=Go.Sort.ahead w n) hx
 have ae5: ∀b,b < w.heap.size→b≠g→(sortWorldK pc k w g 0 n d os).heap[b]? =w.heap[b]? :=by
  intro b hb hne
  show((putRowK pc k (Go.Sort.ahead w n) g 0 d).heap++os)[b]? =_
  rw[Array.getElem?_append_left (by rw[hmb];exact hb)]
  exact xR (w:=Go.Sort.ahead w n) (Ne.symm hne)
 have hsz:w.heap.size≤(sortWorldK pc k w g 0 n d os).heap.size:=by
  show _≤((putRowK pc k (Go.Sort.ahead w n) g 0 d).heap++os).size
  rw[Array.size_append,hmb];omega
 refine h.grow (o:=some g) (o':=some g) hi rfl rfl ⟨rfl,rfl,rfl,hsz,fun b hb hne=>ae5 b hb (fun e=>hne (by rw[e]))⟩ (.inl rfl) (fun b hb=>?_) ?_
 ·obtain rfl:=Option.some.inj hb
  omega
 ·refine⟨hfl ys,.inr ⟨g,_,rfl,hat,by rw[hl];exact rJ,hcm,by rw[←hcs];simp[putCells],?_⟩⟩
  have hfs:(flatK pc k d).size=ys.length * k:=by rw[size_flatK,hd,hl]
  have hfe:(flatK pc k d).toList=ys.flatMap enc:=by rw[Kt hk2,hf]
  apply List.ext_getElem?
  intro t
  rw[List.getElem?_take]
  split
  ·rename_i ht
   have htc:t < cur.size:=by rw[hcs];exact Nat.lt_of_lt_of_le ht (Nat.mul_le_mul_right k (by rw[hl];exact rJ))
   rw[←hfe,Array.getElem?_toList,Array.getElem?_toList]
   unfold putCells
   rw[Array.getElem?_mapIdx,Array.getElem?_eq_getElem htc,Option.map_some,if_pos ⟨Nat.zero_le _,by rw[hfs,Nat.zero_add];exact ht⟩,Nat.sub_zero,id,Array.getElem?_eq_getElem (by rw[hfs];exact ht),getElem!_pos _ t (by rw[hfs];exact ht)]
  ·rename_i ht
   exact(List.getElem?_eq_none (by rw[hfl];omega)).symm
theorem Fy{T:Type}{S:T→Bool}[Inhabited (iu S)]{cf:T→T→Int}(Ly:SlLaysF0.n6 P ρ){k:Nat}(aE: ∀w,(isAgg (ρ.t 24)).run P w= .ok true w)(zE: ∀w,(Go.sizeOf (ρ.t 24)).run P w= .ok k w){enc:T→List Value}(hk: ∀x,(enc x).length=k)(h1: ∀x,∀v∈enc x,v.oneCell'=true)
  (hO:SWO (ltOf fun a b:iu S=>cf a.1 b.1)){c:Nat}(eg: ∀args w,(callFunc c args).run P w= .ok (.enter c args) w)
  (hcmp: ∀x y:T,S x=true→S y=true→∀W,Calls P c #[.agg (enc x).toArray,.agg (enc y).toArray] W fun e w'=>e= .returned (.int .i64 (cf x y))∧∃q os',w'=grow (W.drewN q) os')
  {xs res:List T}(hx0:xs≠ [])(hF:Cv S cf xs=some res){A:Option Addr}{cap:Nat}{w0 w:World}{R:List Chunk}(hw:St w0.heap.size w0 ([cR enc k A cap (ρ.t 24) xs]++R) w):
  Calls P (ρ.f 6) (List.toArray [.slice A xs.length cap,.func (.func c) #[] #[]]) w (fun e w'=>∃g:Unit,(res.length=xs.length)∧e= .returned (.tuple #[])∧St w0.heap.size w0 ([cR enc k A cap (ρ.t 24) res]++R) w'):=by
 unfold Cv at hF
 by_cases hc:xs.all S=true∧xs.length < 4611686018427387904
 case neg=>rw[if_neg hc]at hF;cases hF
 rw[if_pos hc]at hF
 obtain⟨hS,h62⟩:=hc
 obtain rfl:=Option.some.inj hF
 have hlen:=Nl hO hS
 obtain⟨h2,hs⟩:=hw.sat _ (List.mem_of_getElem? (i:=0) rfl)
 rcases hs with⟨_,h3,_⟩|⟨g,cur,rfl,hx,rJ,hcm,hcs,ij⟩
 ·exact absurd (List.length_eq_zero_iff.1 h3) hx0
 have hx:w.heap[g]? =some (.cells cur (ρ.t 24) (0,0)):=hx
 have Gz:g < w.heap.size:=(Array.getElem?_eq_some_iff.1 hx).1
 have vN:(toSub S xs).toArray.size=xs.length:=by
  have:=congrArg List.length (Cu hS)
  rw[List.length_map]at this
  rw[List.size_toArray];exact this
 have hsz:(toSub S xs).toArray.size < 4611686018427387904:=by
  rw[vN];exact h62
 have hfm:(toSub S xs).flatMap (fun a:iu S=>enc a.1)=xs.flatMap enc:=by
  conv=>rhs;rw[←Cu hS]
  rw[List.flatMap_map]
 have hH:HoldsK (fun a:iu S=>enc a.1) k w g 0 (toSub S xs).toArray:=by
  intro j hj
  rw[size_flatK,vN]at hj
  have e:(flatK (fun a:iu S=>enc a.1) k (toSub S xs).toArray).toList=xs.flatMap enc:=by rw[Kt (enc:=fun a:iu S=>enc a.1) (fun x=>hk x.1),List.toList_toArray,hfm]
  have hc:cur[j]? =(flatK (fun a:iu S=>enc a.1) k (toSub S xs).toArray)[j]? :=by
   rw[←Array.getElem?_toList,←Array.getElem?_toList,e,←ij,List.getElem?_take,if_pos hj]
  have hj2:j < (flatK (fun a:iu S=>enc a.1) k (toSub S xs).toArray).size:=by rw[size_flatK,vN];exact hj
  rw[Array.getElem?_eq_getElem hj2]at hc
  rw[getElem!_pos _ j hj2]
  refine⟨?_,?_⟩
  ·simp[World.cell?,hx,hc]
  ·simp[World.frozen?,hx]
 have Aw:=AnyQ.slices_SortFunc_eq (α:=iu S) Ly k aE zE (fun a=>enc a.1) (fun x=>hk x.1) (fun x=>h1 x.1) (fun a b=>cf a.1 b.1) hO c #[] g 0 cap (toSub S xs).toArray w eg (fun m os dk _ x y=>by
  have:=hcmp x.1 y.1 x.2 y.2 (sortWorldK (fun a:iu S=>enc a.1) k w g 0 m dk os)
  simpa using this) hH Gz hsz
 have FR:mf S cf xs=(pdq (ltOf fun a b:iu S=>cf a.1 b.1) (toSub S xs).toArray 0 (toSub S xs).toArray.size (Lib.bitLen (toSub S xs).toArray.size) true true).toList.map (·.1):=by unfold mf;rfl
 generalize pdq (ltOf fun a b:iu S=>cf a.1 b.1) (toSub S xs).toArray 0 (toSub S xs).toArray.size (Lib.bitLen (toSub S xs).toArray.size) true true=d at Aw FR
 have hd:d.size=xs.length:=by rw[←hlen,FR,List.length_map,Array.length_toList]
 have hfd:d.toList.flatMap (fun a:iu S=>enc a.1)=(mf S cf xs).flatMap enc:=by rw[FR,List.flatMap_map]
 generalize mf S cf xs=res at hfd hlen
 clear FR hH
 rw[vN]at Aw
 have hst:=fun(n:Nat) (os:Array Obj)=>hw.sorted (i:=0) rfl hk (fun x:iu S=>hk x.1) hlen hd hfd n os
 refine Aw.mono fun e w' h=>?_
 obtain⟨he,n,os,hw'⟩:=h
 rw[hw']
 exact⟨(),hlen,he,hst n os⟩
theorem Vf{T:Type}{S:T→Bool}[Inhabited (iu S)]{cf:T→T→Int}(Ly:SlLaysF0.n6 P ρ){k:Nat}(aE: ∀w,(isAgg (ρ.t 24)).run P w= .ok true w)(zE: ∀w,(Go.sizeOf (ρ.t 24)).run P w= .ok k w){enc:T→List Value}(hk: ∀x,(enc x).length=k)(h1: ∀x,∀v∈enc x,v.oneCell'=true)
  (hO:SWO (ltOf fun a b:iu S=>cf a.1 b.1)){c:Nat}(eg: ∀args w,(callFunc c args).run P w= .ok (.enter c args) w)
  (hcmp: ∀x y:T,S x=true→S y=true→∀W,Calls P c #[.agg (enc x).toArray,.agg (enc y).toArray] W fun e w'=>e= .returned (.int .i64 (cf x y))∧∃q os',w'=grow (W.drewN q) os')
  (hnil: ∀(cap:Nat) (A:Option Addr) {w0 w:World} {R:List Chunk},St w0.heap.size w0 ([cR enc k A cap (ρ.t 24) ([]:List T)]++R) w→Calls P (ρ.f 6) (List.toArray [.slice A 0 cap,.func (.func c) #[] #[]]) w (fun e w'=>e= .returned (.tuple #[])∧St w0.heap.size w0 ([cR enc k A cap (ρ.t 24) ([]:List T)]++R) w'))
  {xs res:List T}(hF:Cv S cf xs=some res){A:Option Addr}{cap:Nat}{w0 w:World}{R:List Chunk}(hw:St w0.heap.size w0 ([cR enc k A cap (ρ.t 24) xs]++R) w):
  Calls P (ρ.f 6) (List.toArray [.slice A xs.length cap,.func (.func c) #[] #[]]) w (fun e w'=>∃g:Unit,(res.length=xs.length)∧e= .returned (.tuple #[])∧St w0.heap.size w0 ([cR enc k A cap (ρ.t 24) res]++R) w'):=by
 by_cases hx0:xs= []
 ·subst hx0
  unfold Cv at hF
  by_cases hc:([]:List T).all S=true∧([]:List T).length < 4611686018427387904
  case neg=>rw[if_neg hc]at hF;cases hF
  rw[if_pos hc]at hF
  obtain rfl:=Option.some.inj hF
  have hlen:=Nl hO hc.1
  refine(hnil cap A hw).mono fun e w' h=>⟨(),hlen,h.1,?_⟩
  have:mf S cf ([]:List T)= []:=List.eq_nil_of_length_eq_zero hlen
  rw[this];exact h.2
 ·exact Fy Ly aE zE hk h1 hO eg hcmp hx0 hF hw
end
end Go.Proofs.YtjdkkabcenohcaaGreatDoor
set_option linter.unusedVariables false
set_option linter.unusedSimpArgs false
set_option linter.unusedSectionVars false
namespace Go.Proofs.YtjdkkabcenohcaaGreatDoor
open Go.RowKit Go.Sort Go.Shelf
def HL{T:Type}[DecidableEq T](cf:T→T→Int)(xs:List T):Bool:=xs.all fun a=>xs.all fun b=>decide (cf a b < 0)||decide (cf b a < 0)||decide (a=b)
def Ku{T:Type}[DecidableEq T](S:T→Bool)[Inhabited (iu S)](cf:T→T→Int)(xs:List T):Option (List T):=
 if xs≠ []∧xs.all S=true∧HL cf xs=true∧xs.length < 4611686018427387904 then some (mf S cf xs)else none
abbrev S2{T:Type}(η:Type)(S:T→Bool):η×T→Bool:=fun p=>S p.2
instance akC{T:Type}{S:T→Bool}{η:Type}[h:Inhabited (iu S)][h2:Inhabited η]:Inhabited (iu (S2 η S)):=⟨⟨(h2.default,h.default.1),h.default.2⟩⟩
section
variable {T η:Type} [DecidableEq T] {S:T→Bool} [Inhabited (iu S)] [Inhabited η] {cf:T→T→Int}
theorem Qm(h:SWO (ltOf fun a b:iu S=>cf a.1 b.1)):SWO (ltOf fun a b:iu (S2 η S)=>cf a.1.2 b.1.2):=by
 obtain⟨h1,h2,h3⟩:=h
 exact⟨fun x=>h1 ⟨x.1.2,x.2⟩,fun x y z a b=>h2 ⟨x.1.2,x.2⟩ ⟨y.1.2,y.2⟩ ⟨z.1.2,z.2⟩ a b,fun x y z a b=>h3 ⟨x.1.2,x.2⟩ ⟨y.1.2,y.2⟩ ⟨z.1.2,z.2⟩ a b⟩
theorem I4: ∀ps:List (η×T),List.zip (ps.map (·.1)) (ps.map (·.2))=ps
 | []=>rfl
 |p::ps=>by rw[List.map_cons,List.map_cons,List.zip_cons_cons,I4 ps]
theorem HM: ∀{hs:List η} {xs:List T},hs.length=xs.length→(List.zip hs xs).map (·.2)=xs
 | [],[],_=>rfl
 |h::hs,x::xs,e=>by rw[List.zip_cons_cons,List.map_cons,HM (by simpa using e)]
 | [],_::_,e=>by simp at e
 |_::_,[],e=>by simp at e
theorem Xh(hO:SWO (ltOf fun a b:iu S=>cf a.1 b.1)){hs:List η}{xs:List T}(hl:hs.length=xs.length)(hS:xs.all S=true)(hu:HL cf xs=true):
  (mf (S2 η S) (fun a b=>cf a.2 b.2) (List.zip hs xs)).map (·.2)=mf S cf xs∧(mf (S2 η S) (fun a b=>cf a.2 b.2) (List.zip hs xs)).Perm (List.zip hs xs):=by
 have hz:(List.zip hs xs).all (S2 η S)=true:=by
  rw[List.all_eq_true]at hS⊢
  intro p hp
  have:p.2∈(List.zip hs xs).map (·.2):=List.mem_map_of_mem hp
  rw[HM hl]at this
  exact hS _ this
 obtain⟨p1,q1⟩:=uA (cf:=fun a b:η×T=>cf a.2 b.2) (Qm (η:=η) hO) hz
 obtain⟨p2,q2⟩:=uA hO hS
 refine⟨?_,p1⟩
 have p3:((mf (S2 η S) (fun a b=>cf a.2 b.2) (List.zip hs xs)).map (·.2)).Perm (mf S cf xs):=by
  have:=p1.map (·.2)
  rw[HM hl]at this
  exact this.trans p2.symm
 refine List.Perm.eq_of_pairwise (le:=fun a b=>¬cf b a < 0) (fun a b ha hb h1 h2=>?_) ?_ q2 p3
 ·have ha:a∈xs:=by
   have:=p3.mem_iff.1 ha
   exact p2.mem_iff.1 this
  have hb:b∈xs:=p2.mem_iff.1 hb
  unfold HL at hu
  rw[List.all_eq_true]at hu
  have:=hu a ha
  rw[List.all_eq_true]at this
  have:=this b hb
  simp only[Bool.or_eq_true,decide_eq_true_eq]at this
  rcases this with(h|h)|h
  ·exact(h2 h).elim
  ·exact(h1 h).elim
  ·exact h
 ·rw[List.pairwise_map];exact q1
end
section
variable {P:Program} {ρ:Go.Shelf.Ren}
theorem Sz{T η:Type}[DecidableEq T]{S:T→Bool}[Inhabited (iu S)][Inhabited η]{cf:T→T→Int}(Ly:SlLaysF0.n6 P ρ){k:Nat}(aE: ∀w,(isAgg (ρ.t 24)).run P w= .ok true w)(zE: ∀w,(Go.sizeOf (ρ.t 24)).run P w= .ok k w){enc:η→T→List Value}{bN:η→T→List Chunk}(hk: ∀h x,(enc h x).length=k)(h1: ∀h x,∀v∈enc h x,v.oneCell'=true)
  (hO:SWO (ltOf fun a b:iu S=>cf a.1 b.1)){c:Nat}(eg: ∀args w,(callFunc c args).run P w= .ok (.enter c args) w)
  (hcmp: ∀(h h':η) (x y:T),S x=true→S y=true→∀W,Calls P c #[.agg (enc h x).toArray,.agg (enc h' y).toArray] W fun e w'=>e= .returned (.int .i64 (cf x y))∧∃q os',w'=grow (W.drewN q) os')
  {xs res:List T}{hs:List η}(hF:Ku S cf xs=some res){A:Option Addr}{cap:Nat}{w0 w:World}{R:List Chunk}(hw:St w0.heap.size w0 ([cN enc bN k A cap (ρ.t 24) hs xs]++R) w):
  Calls P (ρ.f 6) (List.toArray [.slice A xs.length cap,.func (.func c) #[] #[]]) w (fun e w'=>∃hs':List η,(res.length=xs.length)∧e= .returned (.tuple #[])∧St w0.heap.size w0 ([cN enc bN k A cap (ρ.t 24) hs' res]++R) w'):=by
 unfold Ku at hF
 by_cases hc:xs≠ []∧xs.all S=true∧HL cf xs=true∧xs.length < 4611686018427387904
 case neg=>rw[if_neg hc]at hF;cases hF
 rw[if_pos hc]at hF
 obtain⟨hne,hS,hu,h62⟩:=hc
 obtain rfl:=Option.some.inj hF
 have hl:hs.length=xs.length:=Al (i:=0) hw rfl
 obtain⟨e1,e2⟩:=Xh (η:=η) hO hl hS hu
 have hzl:(List.zip hs xs).length=xs.length:=by rw[List.length_zip,hl,Nat.min_self]
 have Fz:St w0.heap.size w0 ([cR (fun p:η×T=>enc p.1 p.2) k A cap (ρ.t 24) (List.zip hs xs)]++(lu bN hs xs++R)) w:=by
  have:=(cp.Hq (L:=R)).at _ _ _ hw
  have e:cR (fun p:η×T=>enc p.1 p.2) k A cap (ρ.t 24) (List.zip hs xs)=eR A cap (ρ.t 24) k xs.length (ga enc hs xs):=by unfold cR ga;rw[hzl]
  rw[List.singleton_append,e];exact this
 have hz:(List.zip hs xs).all (S2 η S)=true:=by
  rw[List.all_eq_true]at hS⊢
  intro p hp
  have:p.2∈(List.zip hs xs).map (·.2):=List.mem_map_of_mem hp
  rw[HM hl]at this
  exact hS _ this
 have eK:Cv (S2 η S) (fun a b=>cf a.2 b.2) (List.zip hs xs)=some (mf (S2 η S) (fun a b=>cf a.2 b.2) (List.zip hs xs)):=by
  unfold Cv;rw[if_pos ⟨hz,by omega⟩]
 have Aw:=Fy (S:=S2 η S) (cf:=fun a b=>cf a.2 b.2) Ly aE zE (enc:=fun p:η×T=>enc p.1 p.2) (fun p=>hk _ _) (fun p=>h1 _ _) (Qm (η:=η) hO) eg (fun x y hx hy W=>hcmp x.1 y.1 x.2 y.2 hx hy W) (xs:=List.zip hs xs) (fun e=>hne (by have:=congrArg List.length e;rw[hzl]at this;exact List.eq_nil_of_length_eq_zero this)) eK Fz
 rw[hzl]at Aw
 generalize mf (S2 η S) (fun a b=>cf a.2 b.2) (List.zip hs xs)=ps at e1 e2 Aw
 refine Aw.mono fun e w' h=>?_
 obtain⟨_,hlen,he,hst⟩:=h
 refine⟨ps.map (·.1),by rw[←e1,List.length_map,hlen],he,?_⟩
 rw[←e1]
 have hps:cR (fun p:η×T=>enc p.1 p.2) k A cap (ρ.t 24) ps=eR A cap (ρ.t 24) k (ps.map (·.2)).length (ga enc (ps.map (·.1)) (ps.map (·.2))):=by
  unfold cR ga;rw[I4,List.length_map]
 have hpi:(lu bN hs xs++R).Perm (lu bN (ps.map (·.1)) (ps.map (·.2))++R):=by
  refine List.Perm.append_right R ?_
  unfold lu
  rw[I4]
  exact(List.Perm.flatMap_right _ e2.symm)
 have h3:=(cp.trans (.cons (.perm hpi)) (cp.AY (enc:=enc) (bN:=bN) (sz:=k) (A:=A) (cap:=cap) (E:=ρ.t 24) (hs:=ps.map (·.1)) (xs:=ps.map (·.2)) (L:=R) (by simp))).at w0.heap.size w0 w' (by rw[←hps];exact hst)
 exact h3
end
end Go.Proofs.YtjdkkabcenohcaaGreatDoor
