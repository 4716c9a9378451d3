/- slices.SortFunc of structs, on a row of the call's own, at whatever length: out of the kit's contract. It speaks of every program. -/
import Derived.Test.YtjdkkabcenohcaaGreatDoorShelf
import Derived.Shelf.SlSortCmp.WholeK
set_option linter.unusedVariables false
set_option linter.unusedSimpArgs false
set_option linter.unusedSectionVars false
namespace Go.Proofs.YtjdkkabcenohcaaGreatDoor
open Go.RowKit Go.Sort Go.Shelf
abbrev dK{T:Type}(S:T→Bool):Type:={x:T // S x=true}
def toSub{T:Type}(S:T→Bool):List T→List (dK S)
 | []=>[]
 |x::r=>if h:S x=true then⟨x,h⟩::toSub S r else toSub S r
theorem sM{T:Type}{S:T→Bool}: ∀{xs:List T},xs.all S=true→(toSub S xs).map (·.1)=xs
 | [],_=>rfl
 |x::r,h=>by
  rw[List.all_cons,Bool.and_eq_true]at h
  unfold toSub
  rw[dif_pos h.1,List.map_cons,sM h.2]
def gI{T:Type}(S:T→Bool)[Inhabited (dK S)](cf:T→T→Int)(xs:List T):List T:=
 (pdq (ltOf fun a b:dK S=>cf a.1 b.1) (toSub S xs).toArray 0 (toSub S xs).toArray.size (Lib.bitLen (toSub S xs).toArray.size) true true).toList.map (·.1)
def sN{T:Type}(S:T→Bool)[Inhabited (dK S)](cf:T→T→Int)(xs:List T):Option (List T):=
 if xs.all S=true∧xs.length < 4611686018427387904 then some (gI S cf xs)else none
section
variable {T:Type} {S:T→Bool} [Inhabited (dK S)] {cf:T→T→Int}
theorem mN(hO:SWO (ltOf fun a b:dK S=>cf a.1 b.1)){xs:List T}(h:xs.all S=true):
  (gI S cf xs).Perm xs∧(gI S cf xs).Pairwise (fun a b=>¬cf b a < 0):=by
 have hp:=pdq_sorts (ltOf fun a b:dK S=>cf a.1 b.1) hO (toSub S xs).toArray 0 (toSub S xs).toArray.size (Lib.bitLen (toSub S xs).toArray.size) true true (Nat.zero_le _) (Nat.le_refl _) (Or.inl rfl)
 unfold gI
 obtain⟨⟨h1,h2,h3⟩,h4⟩:=hp
 generalize pdq (ltOf fun a b:dK S=>cf a.1 b.1) (toSub S xs).toArray 0 (toSub S xs).toArray.size (Lib.bitLen (toSub S xs).toArray.size) true true=d at h1 h2 h3 h4⊢
 refine⟨?_,?_⟩
 ·have e1:d.extract 0 (toSub S xs).toArray.size=d:=by rw[←h1];simp
  have e2:(toSub S xs).toArray.extract 0 (toSub S xs).toArray.size=(toSub S xs).toArray:=by simp
  rw[e1,e2]at h3
  have:=h3.map (·.1)
  rw[List.toList_toArray,sM h]at this
  exact this
 ·rw[List.pairwise_map]
  refine List.pairwise_iff_getElem.2 fun i j hi hj hij=>?_
  have hj':j < d.size:=by simpa using hj
  have:=h4 i j (Nat.zero_le _) hij (by rw[←h1];exact hj')
  rw[getElem!_pos d j hj',getElem!_pos d i (by omega)]at this
  unfold ltOf at this
  simpa using this
theorem DB(hO:SWO (ltOf fun a b:dK S=>cf a.1 b.1)){xs:List T}(h:xs.all S=true):(gI S cf xs).length=xs.length:=(mN hO h).1.length_eq
end
theorem BL{α:Type}[Inhabited α]{enc:α→List Value}{k:Nat}(hk: ∀x,(enc x).length=k)(d:Array α):(flatK enc k d).toList=d.toList.flatMap enc:=by
 have hl: ∀l:List α,(l.flatMap enc).length=l.length * k:=by
  intro l
  induction l with
  |nil=>simp
  |cons x l ih=>rw[List.flatMap_cons,List.length_append,hk,ih,List.length_cons,Nat.succ_mul];omega
 have hg: ∀(l:List α) (t:Nat),t < l.length * k→(l.flatMap enc)[t]? =(enc (l.getD (t / k) default))[t % k]? :=by
  intro l
  induction l with
  |nil=>intro t ht;simp at ht
  |cons x l ih=>
   intro t ht
   rw[List.length_cons,Nat.succ_mul]at ht
   rw[List.flatMap_cons,List.getElem?_append,hk]
   by_cases h:t < k
   ·rw[if_pos h,Nat.div_eq_of_lt h,Nat.mod_eq_of_lt h];rfl
   ·have hk0:0 < k:=by
     rcases Nat.eq_zero_or_pos k with h0|h0
     ·rw[h0]at ht;simp at ht
     ·exact h0
    rw[if_neg h,ih (t - k) (by omega)]
    obtain⟨u,rfl⟩: ∃u,t=u+k:=⟨t - k,by omega⟩
    rw[Nat.add_sub_cancel,Nat.add_div_right _ hk0,Nat.add_mod_right]
    rfl
 apply List.ext_getElem?
 intro t
 by_cases ht:t < d.size * k
 ·rw[hg _ _ (by simpa using ht)]
  have h1:(flatK enc k d).toList[t]? =some (flatK enc k d)[t]! :=by
   rw[Array.getElem?_toList,Array.getElem?_eq_getElem (by rw[size_flatK];exact ht),getElem!_pos _ t (by rw[size_flatK];exact ht)]
  have hk0:0 < k:=by
   rcases Nat.eq_zero_or_pos k with h0|h0
   ·rw[h0]at ht;simp at ht
   ·exact h0
  have hq:t / k < d.size:=Nat.div_lt_of_lt_mul (by rw[Nat.mul_comm];exact ht)
  have e:d.toList.getD (t / k) default=d[t / k]! :=by
   rw[getElem!_pos d (t / k) hq,List.getD_eq_getElem?_getD,Array.getElem?_toList,Array.getElem?_eq_getElem hq];rfl
  have hm:t % k < (enc d[t / k]!).length:=by rw[hk];exact Nat.mod_lt _ hk0
  rw[h1,get_flatK _ _ _ t ht,e,List.getElem?_eq_getElem hm,getElem!_pos (enc d[t / k]!) (t % k) hm]
 ·rw[List.getElem?_eq_none (by rw[Array.length_toList,size_flatK];omega),List.getElem?_eq_none (by rw[hl,Array.length_toList];omega)]
section
variable {base:Nat} {w0 w:World} {L:List Chunk} {P:Program} {ρ:Go.Shelf.Ren}
theorem St.sorted{T α:Type}[Inhabited α]{i g cap E k:Nat}{enc:T→List Value}{jS:α→List Value}{xs ys:List T}{d:Array α}(h:St base w0 L w)(hi:L[i]? =some (cR enc k (some ⟨g,0,none⟩) cap E xs))(hk: ∀x,(enc x).length=k)(hk2: ∀x,(jS x).length=k)
  (hl:ys.length=xs.length)(hd:d.size=xs.length)(hf:d.toList.flatMap jS=ys.flatMap enc)(n:Nat)(os:Array Obj):St base w0 (L.set i (cR enc k (some ⟨g,0,none⟩) cap E ys)) (sortWorldK jS k w g 0 n d os):=by
 have hfl: ∀zs:List T,(zs.flatMap enc).length=zs.length * k:=by
  intro l
  induction l with
  |nil=>simp
  |cons x l ih=>rw[List.flatMap_cons,List.length_append,hk,ih,List.length_cons,Nat.succ_mul];omega
 obtain⟨h1,hs⟩:=h.sat _ (List.mem_of_getElem? hi)
 rcases hs with⟨h2,_⟩|⟨g2,cur,hg,hx,lp,hcm,hcs,dA⟩
 ·cases h2
 obtain rfl:g=g2:=by cases hg;rfl
 have hx:w.heap[g]? =some (.cells cur E (0,0)):=hx
 have F_:g < w.heap.size:=(Array.getElem?_eq_some_iff.1 hx).1
 have hmb:(putRowK jS k (Go.Sort.ahead w n) g 0 d).heap.size=w.heap.size:=by simp[putRowK]
 have hat:(sortWorldK jS k w g 0 n d os).heap[g]? =some (.cells (putCells id 0 (flatK jS k d) cur) E (0,0)):=by
  show((putRowK jS k (Go.Sort.ahead w n) g 0 d).heap++os)[g]? =_
  rw[Array.getElem?_append_left (by rw[hmb];exact F_)]
  exact ta (w:=Go.Sort.ahead w n) hx
 have UC: ∀b,b < w.heap.size→b≠g→(sortWorldK jS k w g 0 n d os).heap[b]? =w.heap[b]? :=by
  intro b hb hne
  show((putRowK jS k (Go.Sort.ahead w n) g 0 d).heap++os)[b]? =_
  rw[Array.getElem?_append_left (by rw[hmb];exact hb)]
  exact o6 (w:=Go.Sort.ahead w n) (Ne.symm hne)
 have hsz:w.heap.size≤(sortWorldK jS k w g 0 n d os).heap.size:=by
  show _≤((putRowK jS k (Go.Sort.ahead w n) g 0 d).heap++os).size
  rw[Array.size_append,hmb];omega
 refine h.grow (o:=some g) (o':=some g) hi rfl rfl ⟨rfl,rfl,rfl,hsz,fun b hb hne=>UC b hb (fun e=>hne (by rw[e]))⟩ (.inl rfl) (fun b hb=>?_) ?_
 ·obtain rfl:=Option.some.inj hb
  omega
 ·refine⟨hfl ys,.inr ⟨g,_,rfl,hat,by rw[hl];exact lp,hcm,by rw[←hcs];simp[putCells],?_⟩⟩
  have hfs:(flatK jS k d).size=ys.length * k:=by rw[size_flatK,hd,hl]
  have hfe:(flatK jS k d).toList=ys.flatMap enc:=by rw[BL hk2,hf]
  apply List.ext_getElem?
  intro t
  rw[List.getElem?_take]
  split
  ·rename_i ht
   have htc:t < cur.size:=by rw[hcs];exact Nat.lt_of_lt_of_le ht (Nat.mul_le_mul_right k (by rw[hl];exact lp))
   rw[←hfe,Array.getElem?_toList,Array.getElem?_toList]
   unfold putCells
   rw[Array.getElem?_mapIdx,Array.getElem?_eq_getElem htc,Option.map_some,if_pos ⟨Nat.zero_le _,by rw[hfs,Nat.zero_add];exact ht⟩,Nat.sub_zero,id,Array.getElem?_eq_getElem (by rw[hfs];exact ht),getElem!_pos _ t (by rw[hfs];exact ht)]
  ·rename_i ht
   exact(List.getElem?_eq_none (by rw[hfl];omega)).symm
theorem ws{T:Type}{S:T→Bool}[Inhabited (dK S)]{cf:T→T→Int}(Ly:SlLaysF0.n6 P ρ){k:Nat}(aE: ∀w,(isAgg (ρ.t 24)).run P w= .ok true w)(zE: ∀w,(Go.sizeOf (ρ.t 24)).run P w= .ok k w){enc:T→List Value}(hk: ∀x,(enc x).length=k)(h1: ∀x,∀v∈enc x,v.oneCell'=true)
  (hO:SWO (ltOf fun a b:dK S=>cf a.1 b.1)){c:Nat}(eg: ∀args w,(callFunc c args).run P w= .ok (.enter c args) w)
  (hcmp: ∀x y:T,S x=true→S y=true→∀W,Calls P c #[.agg (enc x).toArray,.agg (enc y).toArray] W fun e w'=>e= .returned (.int .i64 (cf x y))∧∃q os',w'=grow (W.drewN q) os')
  {xs res:List T}(hx0:xs≠ [])(hF:sN S cf xs=some res){A:Option Addr}{cap:Nat}{w0 w:World}{R:List Chunk}(hw:St w0.heap.size w0 ([cR enc k A cap (ρ.t 24) xs]++R) w):
  Calls P (ρ.f 6) (List.toArray [.slice A xs.length cap,.func (.func c) #[] #[]]) w (fun e w'=>∃g:Unit,(res.length=xs.length)∧e= .returned (.tuple #[])∧St w0.heap.size w0 ([cR enc k A cap (ρ.t 24) res]++R) w'):=by
 unfold sN at hF
 by_cases hc:xs.all S=true∧xs.length < 4611686018427387904
 case neg=>rw[if_neg hc]at hF;cases hF
 rw[if_pos hc]at hF
 obtain⟨hS,XO⟩:=hc
 obtain rfl:=Option.some.inj hF
 have hlen:=DB hO hS
 obtain⟨h2,hs⟩:=hw.sat _ (List.mem_of_getElem? (i:=0) rfl)
 rcases hs with⟨_,h3,_⟩|⟨g,cur,rfl,hx,lp,hcm,hcs,dA⟩
 ·exact absurd (List.length_eq_zero_iff.1 h3) hx0
 have hx:w.heap[g]? =some (.cells cur (ρ.t 24) (0,0)):=hx
 have F_:g < w.heap.size:=(Array.getElem?_eq_some_iff.1 hx).1
 have O_:(toSub S xs).toArray.size=xs.length:=by
  have:=congrArg List.length (sM hS)
  rw[List.length_map]at this
  rw[List.size_toArray];exact this
 have hsz:(toSub S xs).toArray.size < 4611686018427387904:=by
  rw[O_];exact XO
 have hfm:(toSub S xs).flatMap (fun a:dK S=>enc a.1)=xs.flatMap enc:=by
  conv=>rhs;rw[←sM hS]
  rw[List.flatMap_map]
 have hH:HoldsK (fun a:dK S=>enc a.1) k w g 0 (toSub S xs).toArray:=by
  intro j hj
  rw[size_flatK,O_]at hj
  have e:(flatK (fun a:dK S=>enc a.1) k (toSub S xs).toArray).toList=xs.flatMap enc:=by rw[BL (enc:=fun a:dK S=>enc a.1) (fun x=>hk x.1),List.toList_toArray,hfm]
  have hc:cur[j]? =(flatK (fun a:dK S=>enc a.1) k (toSub S xs).toArray)[j]? :=by
   rw[←Array.getElem?_toList,←Array.getElem?_toList,e,←dA,List.getElem?_take,if_pos hj]
  have hj2:j < (flatK (fun a:dK S=>enc a.1) k (toSub S xs).toArray).size:=by rw[size_flatK,O_];exact hj
  rw[Array.getElem?_eq_getElem hj2]at hc
  rw[getElem!_pos _ j hj2]
  refine⟨?_,?_⟩
  ·simp[World.cell?,hx,hc]
  ·simp[World.frozen?,hx]
 have vM:=AnyQ.slices_SortFunc_eq (α:=dK S) Ly k aE zE (fun a=>enc a.1) (fun x=>hk x.1) (fun x=>h1 x.1) (fun a b=>cf a.1 b.1) hO c #[] g 0 cap (toSub S xs).toArray w eg (fun m os dk _ x y=>by
  have:=hcmp x.1 y.1 x.2 y.2 (sortWorldK (fun a:dK S=>enc a.1) k w g 0 m dk os)
  simpa using this) hH F_ hsz
 have qZ:gI S cf xs=(pdq (ltOf fun a b:dK S=>cf a.1 b.1) (toSub S xs).toArray 0 (toSub S xs).toArray.size (Lib.bitLen (toSub S xs).toArray.size) true true).toList.map (·.1):=by unfold gI;rfl
 generalize pdq (ltOf fun a b:dK S=>cf a.1 b.1) (toSub S xs).toArray 0 (toSub S xs).toArray.size (Lib.bitLen (toSub S xs).toArray.size) true true=d at vM qZ
 have hd:d.size=xs.length:=by rw[←hlen,qZ,List.length_map,Array.length_toList]
 have XP:d.toList.flatMap (fun a:dK S=>enc a.1)=(gI S cf xs).flatMap enc:=by rw[qZ,List.flatMap_map]
 generalize gI S cf xs=res at XP hlen
 clear qZ hH
 rw[O_]at vM
 have hst:=fun(n:Nat) (os:Array Obj)=>hw.sorted (i:=0) rfl hk (fun x:dK S=>hk x.1) hlen hd XP n os
 refine vM.mono fun e w' h=>?_
 obtain⟨he,n,os,hw'⟩:=h
 rw[hw']
 exact⟨(),hlen,he,hst n os⟩
theorem Jq{T:Type}{S:T→Bool}[Inhabited (dK S)]{cf:T→T→Int}(Ly:SlLaysF0.n6 P ρ){k:Nat}(aE: ∀w,(isAgg (ρ.t 24)).run P w= .ok true w)(zE: ∀w,(Go.sizeOf (ρ.t 24)).run P w= .ok k w){enc:T→List Value}(hk: ∀x,(enc x).length=k)(h1: ∀x,∀v∈enc x,v.oneCell'=true)
  (hO:SWO (ltOf fun a b:dK S=>cf a.1 b.1)){c:Nat}(eg: ∀args w,(callFunc c args).run P w= .ok (.enter c args) w)
  (hcmp: ∀x y:T,S x=true→S y=true→∀W,Calls P c #[.agg (enc x).toArray,.agg (enc y).toArray] W fun e w'=>e= .returned (.int .i64 (cf x y))∧∃q os',w'=grow (W.drewN q) os')
  (hnil: ∀(cap:Nat) (A:Option Addr) {w0 w:World} {R:List Chunk},St w0.heap.size w0 ([cR enc k A cap (ρ.t 24) ([]:List T)]++R) w→Calls P (ρ.f 6) (List.toArray [.slice A 0 cap,.func (.func c) #[] #[]]) w (fun e w'=>e= .returned (.tuple #[])∧St w0.heap.size w0 ([cR enc k A cap (ρ.t 24) ([]:List T)]++R) w'))
  {xs res:List T}(hF:sN S cf xs=some res){A:Option Addr}{cap:Nat}{w0 w:World}{R:List Chunk}(hw:St w0.heap.size w0 ([cR enc k A cap (ρ.t 24) xs]++R) w):
  Calls P (ρ.f 6) (List.toArray [.slice A xs.length cap,.func (.func c) #[] #[]]) w (fun e w'=>∃g:Unit,(res.length=xs.length)∧e= .returned (.tuple #[])∧St w0.heap.size w0 ([cR enc k A cap (ρ.t 24) res]++R) w'):=by
 by_cases hx0:xs= []
 ·subst hx0
  unfold sN at hF
  by_cases hc:([]:List T).all S=true∧([]:List T).length < 4611686018427387904
  case neg=>rw[if_neg hc]at hF;cases hF
  rw[if_pos hc]at hF
  obtain rfl:=Option.some.inj hF
  have hlen:=DB hO hc.1
  refine(hnil cap A hw).mono fun e w' h=>⟨(),hlen,h.1,?_⟩
  have:gI S cf ([]:List T)= []:=List.eq_nil_of_length_eq_zero hlen
  rw[this];exact h.2
 ·exact ws Ly aE zE hk h1 hO eg hcmp hx0 hF hw
end
end Go.Proofs.YtjdkkabcenohcaaGreatDoor
