import Derived.Test.YtjdkkabcenohcaaGreatDoorIface
import Derived.Shelf.Spec.SlicesInsertGrow
import Derived.Shelf.Slices.Delete
set_option linter.unusedVariables false
set_option linter.unusedSimpArgs false
set_option linter.unusedSectionVars false
namespace Go.Proofs.YtjdkkabcenohcaaGreatDoor
open Go.RowKit Go.Sort
abbrev IV:Int→Value:=Value.int .i64
theorem Ht(xs:List Int):xs.flatMap (eI .i64)=xs.map IV:=by
 induction xs with
 |nil=>rfl
 |cons x xs ih=>rw[List.flatMap_cons,ih];rfl
def F5(o:Nat):List Value→Array Value→Array Value
 | [],c=>c
 |v::r,c=>F5 (o+1) r (c.setIfInBounds o v)
theorem Bb(vs:List Value): ∀(o:Nat) (c:Array Value) (k:Nat),(F5 o vs c)[k]? =if o≤k∧k < o+vs.length∧k < c.size then vs[k - o]? else c[k]? :=by
 induction vs with
 |nil=>intro o c k;rw[if_neg (by simp;omega)];rfl
 |cons v r ih=>
  intro o c k
  simp only[F5]
  rw[ih,Array.size_setIfInBounds,Array.getElem?_setIfInBounds]
  by_cases h1:o+1≤k∧k < o+1+r.length∧k < c.size
  ·rw[if_pos h1,if_pos (by simp;omega),show k - o=k - (o+1)+1 by omega,List.getElem?_cons_succ]
  ·rw[if_neg h1]
   by_cases h2:o=k
   ·subst h2
    by_cases h3:o < c.size
    ·rw[if_pos rfl,if_pos h3,if_pos (by simp;omega)];simp
    ·rw[if_pos rfl,if_neg h3,if_neg (by omega),Array.getElem?_eq_none (by omega)]
   ·rw[if_neg h2,if_neg (by simp;omega)]
theorem sh(vs:List Value): ∀(o:Nat) (c:Array Value),(F5 o vs c).size=c.size:=by
 induction vs with
 |nil=>intro o c;rfl
 |cons v r ih=>intro o c;simp only[F5];rw[ih,Array.size_setIfInBounds]
theorem sk(b:Nat)(vs:List Value): ∀(o:Nat) (w:World),w.setCells b o vs=mapBlock w b (F5 o vs):=by
 induction vs with
 |nil=>intro o w;exact(mapBlock_id w b _ (fun _ _ _ _=>rfl)).symm
 |cons v r ih=>intro o w;rw[World.setCells,ih,setCell_eq,mapBlock_mapBlock];rfl
theorem CR{w:World}{b:Nat}{f:Array Value→Array Value}{c:Array Value}{E:TypeId}{fr:Nat×Nat}(h:w.heap[b]? =some (.cells c E fr)):(mapBlock w b f).heap[b]? =some (.cells (f c) E fr):=by
 simp[mapBlock,Array.getElem?_modify,h,onCells]
theorem xR{w:World}{b k:Nat}{f:Array Value→Array Value}(h:b≠k):(mapBlock w b f).heap[k]? =w.heap[k]? :=by
 simp[mapBlock,Array.getElem?_modify,h]
theorem zw(w:World)(b:Nat)(f:Array Value→Array Value):(mapBlock w b f).heap.size=w.heap.size:=by simp[mapBlock]
section
variable {base:Nat} {w0 w w':World} {L:List Chunk}
theorem St.UW{i g cap E:Nat}{xs ys:List Int}{cur cur':Array Value}(h:St base w0 L w)(hi:L[i]? =some (cR (eI .i64) 1 (some ⟨g,0,none⟩) cap E xs))
  (hw: ∃v f,w'=mapBlock v g f∧v.heap=w.heap∧v.os=w.os∧v.tape=w.tape∧v.output=w.output∧f cur=cur')(hx:w.heap[g]? =some (.cells cur E (0,0)))
  (hc:ys.length≤cap∧cap≤maxLen∧cur'.size=cap)(ht: ∀k,k < ys.length→cur'[k]? =(ys.map IV)[k]?):St base w0 (L.set i (cR (eI .i64) 1 (some ⟨g,0,none⟩) cap E ys)) w':=by
 obtain⟨v,f,rfl,hv,h1,h2,h3,rfl⟩:=hw
 refine h.grow (o:=some g) (o':=some g) hi rfl rfl ⟨h1,h2,h3,by rw[zw,hv];exact Nat.le_refl _,fun k hk hne=>by rw[xR (fun e=>hne (by rw[e])),hv]⟩ (.inl rfl) (fun b hb=>?_) ?_
 ·obtain rfl:=Option.some.inj hb
  rw[zw,hv]
  have:=(Array.getElem?_eq_some_iff.1 hx).1
  exact this
 ·refine⟨by rw[Ht];simp,.inr ⟨g,f cur,rfl,CR (by rw[hv];exact hx),hc.1,hc.2.1,by rw[hc.2.2,Nat.mul_one],?_⟩⟩
  rw[Ht,Nat.mul_one]
  apply List.ext_getElem?
  intro k
  rw[List.getElem?_take]
  split
  ·rename_i hk
   rw[Array.getElem?_toList]
   exact ht k hk
  ·rename_i hk
   exact(List.getElem?_eq_none (by simp;omega)).symm
theorem St.Pa{i ait cap E:Nat}{A:Option Addr}{xs ys:List Int}{cur:Array Value}(h:St base w0 L w)(hi:L[i]? =some (cR (eI .i64) 1 A ait E xs))
  (hg:w.grownBy w' none)(hx:w'.heap[w.heap.size]? =some (.cells cur E (0,0)))
  (hc:ys.length≤cap∧cap≤maxLen∧cur.size=cap)(ht: ∀k,k < ys.length→cur[k]? =(ys.map IV)[k]?):St base w0 (L.set i (cR (eI .i64) 1 (some ⟨w.heap.size,0,none⟩) cap E ys)) w':=by
 refine h.grow (o:=A.map (·.block)) (o':=some w.heap.size) hi rfl rfl ⟨hg.os,hg.tape,hg.output,hg.size,fun k hk hne=>hg.block k hk (by simp)⟩ (.inr rfl) (fun b hb=>?_) ?_
 ·obtain rfl:=Option.some.inj hb
  exact(Array.getElem?_eq_some_iff.1 hx).1
 ·refine⟨by rw[Ht];simp,.inr ⟨w.heap.size,cur,rfl,hx,hc.1,hc.2.1,by rw[hc.2.2,Nat.mul_one],?_⟩⟩
  rw[Ht,Nat.mul_one]
  apply List.ext_getElem?
  intro k
  rw[List.getElem?_take]
  split
  ·rename_i hk
   rw[Array.getElem?_toList]
   exact ht k hk
  ·rename_i hk
   exact(List.getElem?_eq_none (by simp;omega)).symm
theorem St.rowIs{i cap E:Nat}{A:Option Addr}{xs:List Int}(h:St base w0 L w)(hi:L[i]? =some (cR (eI .i64) 1 A cap E xs)):
  (A=none∧xs= []∧cap=0)∨∃g cur,A=some ⟨g,0,none⟩∧w.heap[g]? =some (.cells cur E (0,0))∧xs.length≤cap∧cap≤maxLen∧cur.size=cap∧∀k,k < xs.length→cur[k]? =(xs.map IV)[k]? :=by
 obtain⟨hl,hs⟩:=h.sat _ (List.mem_of_getElem? hi)
 rcases hs with⟨h1,h2,h3⟩|⟨g,cur,rfl,hx,rJ,hcm,hcs,ij⟩
 ·exact .inl ⟨h1,List.length_eq_zero_iff.1 h2,h3⟩
 ·refine .inr ⟨g,cur,rfl,hx,rJ,hcm,by rw[hcs,Nat.mul_one],fun k hk=>?_⟩
  rw[Ht,Nat.mul_one]at ij
  rw[←ij,List.getElem?_take,if_pos hk,Array.getElem?_toList]
end
def kL(N:Nat)(xs:List Int)(i:Int)(ys:List Int):Option (List Int):=
 if 0≤i∧i≤xs.length∧0 < ys.length∧(xs.length+ys.length) * 8≤140737488355328 then some (xs.take i.toNat++ys++xs.drop i.toNat)else none
def slices_Delete_int(N:Nat)(xs:List Int)(i j:Int):Option (List Int):=
 if 0≤i∧i≤j∧j≤xs.length∧0 < xs.length then some (xs.take i.toNat++xs.drop j.toNat)else none
section
variable {P:Program} {ρ:Go.Shelf.Ren}
theorem Hu{xs ys:List Int}{i:Nat}(hi:i≤xs.length)(k:Nat):((xs.take i++ys++xs.drop i).map IV)[k]? =if k < i then(xs.map IV)[k]? else if k < i+ys.length then(ys.map IV)[k - i]? else(xs.map IV)[k - ys.length]? :=by
 simp only[List.map_append,List.getElem?_append,List.length_append,List.length_map,List.length_take,Nat.min_eq_left hi,List.getElem?_map,List.getElem?_take,List.getElem?_drop]
 by_cases h1:k < i
 ·simp only[if_pos h1,if_pos (show k < i+ys.length by omega)]
 ·by_cases h2:k < i+ys.length
  ·simp only[if_neg h1,if_pos h2]
  ·simp only[if_neg h1,if_neg h2,show i+(k - (i+ys.length))=k - ys.length by omega]
theorem Bc(xs:List Int): ∀v∈xs.map IV,v.oneCell'=true:=by
 intro v hv
 obtain⟨z,_,rfl⟩:=List.mem_map.1 hv
 rfl
theorem IK(w:World)(o:Obj):(w.alloc o).heap[w.heap.size]? =some o:=by
 show(w.heap.push o)[w.heap.size]? =some o
 simp
theorem alloc_old{w:World}{o:Obj}{k:Nat}(hk:k < w.heap.size):(w.alloc o).heap[k]? =w.heap[k]? :=by
 show(w.heap.push o)[k]? =_
 rw[Array.getElem?_push,if_neg (by omega)]
theorem Es(w:World)(o:Obj):w.heap.size≤(w.alloc o).heap.size:=by
 show _≤(w.heap.push o).size
 simp
theorem Pb(n:Nat):(Builtin.zeroCells (Value.int .i64 0).cells n).size=n:=by simp[Builtin.zeroCells,Value.cells]
theorem Pe(Ly:Lays2.n21 P ρ){N:Nat}{xs:List Int}{i:Int}{ys:List Int}{A1 A2:Option Addr}{c1 c2:Nat}{res:List Int}(hF:kL N xs i ys=some res){w0 w:World}{T:List Chunk}(hw:St w0.heap.size w0 ([cR (eI .i64) 1 A1 c1 (ρ.t 3) xs,cR (eI .i64) 1 A2 c2 (ρ.t 3) ys]++T) w):
  Calls P (ρ.f 21) (List.toArray [.slice A1 xs.length c1,.int .i64 i,.slice A2 ys.length c2]) w (fun e w'=>∃g:Option Addr×Nat,True∧e= .returned (.slice g.1 res.length g.2)∧St w0.heap.size w0 ([cR (eI .i64) 1 g.1 g.2 (ρ.t 3) res]++T) w'):=by
 unfold kL at hF
 have hc:0≤i∧i≤xs.length∧0 < ys.length∧(xs.length+ys.length) * 8≤140737488355328:=Classical.byContradiction fun hc=>by rw[if_neg hc]at hF;cases hF
 rw[if_pos hc]at hF
 obtain rfl:=Option.some.inj hF
 obtain⟨h0,h1,h2,h3⟩:=hc
 obtain⟨i,rfl⟩: ∃n:Nat,i=n:=⟨i.toNat,by omega⟩
 have hi:i≤xs.length:=by omega
 have hrl:(xs.take i++ys++xs.drop i).length=xs.length+ys.length:=by simp;omega
 have hml:xs.length+ys.length≤maxLen:=by unfold maxLen;omega
 rw[Int.toNat_natCast]
 have fin: ∀(e:Ending) (w':World) (A:Option Addr) (c:Nat),e= .returned (.slice A (xs.length+ys.length) c)→St w0.heap.size w0 (([cR (eI .i64) 1 A1 c1 (ρ.t 3) xs,cR (eI .i64) 1 A2 c2 (ρ.t 3) ys]++T).set 0 (cR (eI .i64) 1 A c (ρ.t 3) (xs.take i++ys++xs.drop i))) w'→
   ∃g:Option Addr×Nat,True∧e= .returned (.slice g.1 (xs.take i++ys++xs.drop i).length g.2)∧St w0.heap.size w0 ([cR (eI .i64) 1 g.1 g.2 (ρ.t 3) (xs.take i++ys++xs.drop i)]++T) w':=
  fun e w' A c he hs=>⟨(A,c),trivial,by rw[hrl];exact he,hs.cY 2 [0] rfl⟩
 obtain⟨vb,cv,rfl,hvx,hvc,hvm,hvs,hvg⟩: ∃g cur,A2=some ⟨g,0,none⟩∧w.heap[g]? =some (.cells cur (ρ.t 3) (0,0))∧ys.length≤c2∧c2≤maxLen∧cur.size=c2∧∀k,k < ys.length→cur[k]? =(ys.map IV)[k]? :=by
  rcases hw.rowIs (i:=1) rfl with⟨_,hy,_⟩|h
  ·subst hy;simp at h2
  ·exact h
 have JW: ∀j v,(ys.map IV)[j]? =some v→w.cell? ⟨vb,0+j,none⟩=some v:=fun j v hj=>by
  have hlt:j < ys.length:=by have:=(List.getElem?_eq_some_iff.1 hj).1;simpa using this
  rw[Nat.zero_add]
  exact g_ hvx (by rw[hvg j hlt];exact hj)
 rcases hw.rowIs (i:=0) rfl with⟨rfl,rfl,rfl⟩|⟨g,cur,rfl,hx,Pf,Fu,hxs,Wz⟩
 ·obtain rfl:i=0:=by simpa using hi
  refine(Any2.slices_Insert_int_end_grow Ly none 0 0 vb 0 ys.length c2 [] (ys.map IV) w h2 (Nat.le_refl _) (by omega) (by simpa using h3) rfl (by simp) (fun _=>rfl) (fun a h=>by cases h) JW (Bc ys)).mono ?_
  rintro e w' ⟨rfl,rfl⟩
  have hcap:=grownCap_ge w (0+ys.length) 0 (ρ.t 3)
  refine fin _ _ (some ⟨w.heap.size,0,none⟩) (grownCap w (0+ys.length) 0 (ρ.t 3)) rfl (hw.Pa (i:=0) rfl ⟨rfl,rfl,rfl,Es w.drew _,fun k hk _=>alloc_old (w:=w.drew) hk⟩ (cur:=([]++ys.map IV).toArray++Builtin.zeroCells (Value.int .i64 0).cells (grownCap w (0+ys.length) 0 (ρ.t 3) - (0+ys.length))) (IK w.drew _) ⟨by rw[hrl];exact hcap,grownCap_le_maxLen w _ _ _ hml,by rw[Array.size_append,Pb];simp only[List.nil_append,List.size_toArray,List.length_map,List.length_append];omega⟩ fun k hk=>?_)
  have hk':k < ys.length:=by simpa using hk
  rw[Hu (xs:=[]) (i:=0) (Nat.le_refl _),if_neg (by omega),if_pos (by omega),Array.getElem?_append_left (by simpa using hk')]
  simp
 ·have gI: ∀j v,(xs.map IV)[j]? =some v→w.cell? ⟨g,0+j,none⟩=some v:=fun j v hj=>by
   have hlt:j < xs.length:=by have:=(List.getElem?_eq_some_iff.1 hj).1;simpa using this
   rw[Nat.zero_add]
   exact g_ hx (by rw[Wz j hlt];exact hj)
  have hsome: ∀j,j < c1→(w.cell? ⟨g,0+j,none⟩).isSome=true:=fun j hj=>by
   rw[Nat.zero_add,g_ (v:=cur[j]'(by omega)) hx (by simp)];rfl
  have hfz: ∀j,w.frozen? ⟨g,0+j,none⟩=false:=fun j=>frozen_of_row w g _ cur (ρ.t 3) hx
  have hc63:c1≤9223372036854775807:=by unfold maxLen at Fu;omega
  by_cases hin:i=xs.length
  ·subst hin
   by_cases hroom:xs.length+ys.length≤c1
   ·refine(Any2.slices_Insert_int_end_room Ly g 0 xs.length c1 vb 0 ys.length c2 (ys.map IV) w h2 hroom hc63 (by simp) (fun j hj=>by have:=hsome (xs.length+j) (by omega);rwa[←Nat.add_assoc]at this) (fun j hj=>by have:=hfz (xs.length+j);rwa[←Nat.add_assoc]at this) JW (Bc ys)).mono ?_
    rintro e w' ⟨rfl,rfl⟩
    rw[sk]
    refine fin _ _ _ _ rfl (hw.UW (i:=0) rfl ⟨w,_,rfl,rfl,rfl,rfl,rfl,rfl⟩ hx ⟨by rw[hrl];exact hroom,Fu,by rw[sh,hxs]⟩ fun k hk=>?_)
    rw[hrl]at hk
    rw[Hu (Nat.le_refl _),Bb,List.length_map,hxs]
    by_cases hk2:k < xs.length
    ·rw[if_neg (by omega),if_pos hk2,Wz k hk2]
    ·rw[if_pos (by omega),if_neg hk2,if_pos (by omega),Nat.zero_add]
   ·refine(Any2.slices_Insert_int_end_grow Ly (some ⟨g,0,none⟩) xs.length c1 vb 0 ys.length c2 (xs.map IV) (ys.map IV) w h2 Pf (by omega) h3 (by simp) (by simp) (fun h=>by cases h) (fun a ha j v hj=>by obtain rfl:=Option.some.inj ha;have:=gI j v hj;rw[eX];exact this) JW (Bc ys)).mono ?_
    rintro e w' ⟨rfl,rfl⟩
    have hcap:=grownCap_ge w (xs.length+ys.length) c1 (ρ.t 3)
    refine fin _ _ (some ⟨w.heap.size,0,none⟩) _ rfl (hw.Pa (i:=0) rfl ⟨rfl,rfl,rfl,Es w.drew _,fun k hk _=>alloc_old (w:=w.drew) hk⟩ (cur:=(xs.map IV++ys.map IV).toArray++Builtin.zeroCells (Value.int .i64 0).cells (grownCap w (xs.length+ys.length) c1 (ρ.t 3) - (xs.length+ys.length))) (IK w.drew _) ⟨by rw[hrl];exact hcap,grownCap_le_maxLen w _ _ _ hml,by rw[Array.size_append,Pb];simp only[List.nil_append,List.size_toArray,List.length_map,List.length_append];omega⟩ fun k hk=>?_)
    rw[hrl]at hk
    rw[Array.getElem?_append_left (by simpa using hk)]
    simp
  ·have hlt:i < xs.length:=by omega
   by_cases hroom:xs.length+ys.length≤c1
   ·have hvb:vb≠g:=by
     intro e
     have:=hw.nodup
     rw[jf,m9,m9]at this
     have h5:(cR (eI .i64) 1 (some ⟨g,0,none⟩) c1 (ρ.t 3) xs).own= [g]:=rfl
     have h6:(cR (eI .i64) 1 (some ⟨vb,0,none⟩) c2 (ρ.t 3) ys).own= [vb]:=rfl
     rw[h5,h6,e]at this
     simp at this
    refine(Any2.slices_Insert_int_shift Ly g 0 xs.length c1 i vb 0 ys.length c2 (xs.map IV) (ys.map IV) w hlt h2 hroom hc63 hvb (by simp) (by simp) gI (fun j hj=>hsome j (by omega)) (fun j hj=>hfz j) JW (Bc xs) (Bc ys) (ρ.t 3) (ρ.t 3) cv.size cur.size (by simp[World.shape?,hvx]) (by simp[World.shape?,hx]) (by omega) (frozen_of_row w vb _ cv (ρ.t 3) hvx) (frozen_of_row w vb _ cv (ρ.t 3) hvx)).mono ?_
    rintro e w' ⟨rfl,rfl⟩
    rw[sk,sk,mapBlock_mapBlock]
    refine fin _ _ _ _ rfl (hw.UW (i:=0) rfl ⟨w.drew,_,rfl,rfl,rfl,rfl,rfl,rfl⟩ hx ⟨by rw[hrl];exact hroom,Fu,by rw[sh,sh,hxs]⟩ fun k hk=>?_)
    rw[hrl]at hk
    rw[Hu hi,Bb,sh,Bb,List.length_map,List.length_drop,List.length_map,hxs]
    simp only[Nat.zero_add]
    by_cases iU:k < i
    ·rw[if_neg (by omega),if_neg (by omega),if_pos iU,Wz k (by omega)]
    ·by_cases hk2:k < i+ys.length
     ·rw[if_pos (by omega),if_neg iU,if_pos hk2]
     ·rw[if_neg (by omega),if_pos (by omega),if_neg iU,if_neg hk2,List.getElem?_drop,show i+(k - (i+ys.length))=k - ys.length by omega]
   ·refine(Any2.slices_Insert_int_grow Ly g 0 xs.length c1 i vb 0 ys.length c2 (xs.map IV) (ys.map IV) w hlt h2 Pf (by omega) h3 (by simp) (by simp) gI JW (Bc xs) (Bc ys)).mono ?_
    rintro e w' ⟨rfl,rfl⟩
    have hcap:=grownCap_ge w (xs.length+ys.length) c1 (ρ.t 3)
    obtain⟨C,hC⟩: ∃C,C=((xs.map IV).take i).toArray++Builtin.zeroCells (Value.int .i64 0).cells (xs.length+ys.length - i)++Builtin.zeroCells (Value.int .i64 0).cells (grownCap w (xs.length+ys.length) c1 (ρ.t 3) - (xs.length+ys.length)):=⟨_,rfl⟩
    have hCs:C.size=grownCap w (xs.length+ys.length) c1 (ρ.t 3):=by rw[hC];simp only[Array.size_append,Pb,List.size_toArray,List.length_map,List.length_take];omega
    have hCg: ∀k,k < i→C[k]? =(xs.map IV)[k]? :=fun k hk=>by
     rw[hC,Array.append_assoc,Array.getElem?_append_left (by simp;omega)]
     simp[List.getElem?_take,hk]
    rw[←hC,sk,sk]
    have e1:(mapBlock (w.alloc (.cells C (ρ.t 3))).drew w.heap.size (F5 i (ys.map IV))).drew=mapBlock (w.alloc (.cells C (ρ.t 3))).drew.drew w.heap.size (F5 i (ys.map IV)):=rfl
    rw[e1,mapBlock_mapBlock]
    have hat:(w.alloc (.cells C (ρ.t 3))).drew.drew.heap[w.heap.size]? =some (.cells C (ρ.t 3) (0,0)):=IK w _
    refine fin _ _ (some ⟨w.heap.size,0,none⟩) _ rfl (hw.Pa (i:=0) rfl ⟨rfl,rfl,rfl,by rw[zw];exact Es w _,fun k hk _=>by rw[xR (by omega)];exact alloc_old hk⟩ (CR hat) ⟨by rw[hrl];exact hcap,grownCap_le_maxLen w _ _ _ hml,by rw[sh,sh,hCs]⟩ fun k hk=>?_)
    rw[hrl]at hk
    rw[Hu hi,Bb,sh,Bb,List.length_map,List.length_drop,List.length_map,hCs]
    by_cases iU:k < i
    ·rw[if_neg (by omega),if_neg (by omega),if_pos iU,hCg k iU]
    ·by_cases hk2:k < i+ys.length
     ·rw[if_neg (by omega),if_pos (by omega),if_neg iU,if_pos hk2]
     ·rw[if_pos (by omega),if_neg iU,if_neg hk2,List.getElem?_drop,show i+(k - (i+ys.length))=k - ys.length by omega]
theorem Pg(Ly:Lays2.n23 P ρ){N:Nat}{xs:List Int}{i j:Int}{A1:Option Addr}{c1:Nat}{res:List Int}(hF:slices_Delete_int N xs i j=some res){w0 w:World}{T:List Chunk}(hw:St w0.heap.size w0 ([cR (eI .i64) 1 A1 c1 (ρ.t 3) xs]++T) w):
  Calls P (ρ.f 23) (List.toArray [.slice A1 xs.length c1,.int .i64 i,.int .i64 j]) w (fun e w'=>∃g:Option Addr×Nat,True∧e= .returned (.slice g.1 res.length g.2)∧St w0.heap.size w0 ([cR (eI .i64) 1 g.1 g.2 (ρ.t 3) res]++T) w'):=by
 unfold slices_Delete_int at hF
 have hc:0≤i∧i≤j∧j≤xs.length∧0 < xs.length:=Classical.byContradiction fun hc=>by rw[if_neg hc]at hF;cases hF
 rw[if_pos hc]at hF
 obtain rfl:=Option.some.inj hF
 obtain⟨h0,h1,h2,hne⟩:=hc
 obtain⟨i,rfl⟩: ∃n:Nat,i=n:=⟨i.toNat,by omega⟩
 obtain⟨j,rfl⟩: ∃n:Nat,j=n:=⟨j.toNat,by omega⟩
 rw[Int.toNat_natCast,Int.toNat_natCast]
 have hrl:(xs.take i++xs.drop j).length=xs.length - (j - i):=by simp;omega
 rcases hw.rowIs (i:=0) rfl with⟨_,rfl,_⟩|⟨g,cur,rfl,hx,Pf,Fu,hxs,Wz⟩
 ·simp at hne
 ·have hc63:c1≤9223372036854775807:=by unfold maxLen at Fu;omega
  refine(Any.slices_Delete_int Ly g 0 c1 i j xs w (fun k hk=>⟨?_,frozen_of_row w g _ cur (ρ.t 3) hx⟩) Pf hc63 (by omega) (by omega)).mono ?_
  ·have hk':k < xs.length:=by simpa using hk
   rw[Nat.zero_add]
   refine g_ hx ?_
   rw[Wz k hk',List.getElem?_map,List.getElem?_eq_getElem hk',getElem!_pos xs.toArray k hk]
   rfl
  ·rintro e w' ⟨rfl,q,rfl⟩
   refine⟨(some ⟨g,0,none⟩,c1),trivial,by rw[hrl],?_⟩
   have hs:=hw.UW (i:=0) (ys:=xs.take i++xs.drop j) (cur':=putCells IV 0 (xs.take i++xs.drop j++List.replicate (j - i) 0).toArray cur) rfl ⟨Sort.ahead w q,_,rfl,rfl,rfl,rfl,rfl,rfl⟩ hx ⟨by rw[hrl];omega,Fu,by simp[putCells,hxs]⟩ (fun k hk=>?_)
   ·exact hs
   ·rw[hrl]at hk
    have hd:(xs.take i++xs.drop j++List.replicate (j - i) 0).toArray.size=xs.length:=by simp;omega
    have hkc:k < cur.size:=by omega
    rw[putCells,Array.getElem?_mapIdx,Array.getElem?_eq_getElem hkc,Option.map_some,if_pos (by rw[hd];omega),Nat.sub_zero,getElem!_pos _ k (by rw[hd];omega),List.getElem?_map,List.getElem?_eq_getElem (by rw[hrl];exact hk)]
    simp only[Option.map_some,Option.some.injEq,List.getElem_toArray]
    rw[List.getElem_append_left (by rw[hrl];exact hk)]
end
end Go.Proofs.YtjdkkabcenohcaaGreatDoor
