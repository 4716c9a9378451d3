/- slices.Sorted of the keys of a map from numbers to numbers, on memory of the call's own: out of the kit's contracts. It speaks of every program. -/
import Derived.Test.YtjdkkabcenohcaaGreatDoorShelf
import Derived.Shelf.SlIterI.Sorted
import Derived.Shelf.SortM.Plain
import Derived.Shelf.SortM.SortNone
set_option linter.unusedVariables false
set_option linter.unusedSimpArgs false
set_option linter.unusedSectionVars false
namespace Go.Proofs.YtjdkkabcenohcaaGreatDoor
open Go.RowKit Go.Maps Go.Sort Go.Shelf
open Go.WideElems (rg rg_of)
open Go.WideShapes (sorted_perm)
def zA(z:Int):Bool:=(Lit.int .i64 z).wf
def Ej(m:List (Int×Int)):Option (List Int):=
 if(m.all fun p=>zA p.1&&zA p.2)=true∧m.length≤1000000 then some ((m.map (·.1)).mergeSort fun x y=>decide (x≤y))else none
def xG:Value→Int
 | .int _ a=>a
 |_=>0
section
variable {base:Nat} {w0 w:World} {L:List Chunk} {P:Program}
theorem Rt{H:Type}{k E:TypeId}(hk:P.underlying k=some (.int .i64))(hE:P.underlying E=some (.int .i64)){b i:Nat}{m:List (Int×Int)}(hw:St base w0 L w)(hi:L[i]? =some (cM (Value.int .i64) (some b) m))(hok:(m.all fun p=>zA p.1&&zA p.2)=true)(hl:m.length≤maxLen):
  ∃D:List (Lit×DataW H),w.ownsMap P k (plainElem P E) b m.length (.map D)∧(D.map fun p=>Go.intOf p.1).Perm (m.map (·.1))∧D.length=m.length:=by
 obtain⟨es,clock,hb,hm,hst⟩:=hw.sat _ (List.mem_of_getElem? hi)
 have hb:w.heap[b]? =some (.map es clock):=hb
 unfold pD at hm
 have hlen:es.size=m.length:=by
  have:=congrArg List.length hm
  simpa[q8]using this
 have hx: ∀x∈es.toList,∃p∈m,x.key= .int .i64 p.1∧x.val= .int .i64 p.2:=by
  intro x hx
  have:(x.key,x.val)∈(q8 (Value.int .i64) m).map fun p=>(Value.int .i64 p.1,p.2):=hm▸List.mem_map.2 ⟨x,hx,rfl⟩
  obtain⟨q,hq,e⟩:=List.mem_map.1 this
  unfold q8 at hq
  obtain⟨p,hp,rfl⟩:=List.mem_map.1 hq
  obtain⟨e1,e2⟩:=Prod.mk.inj e
  exact⟨p,hp,e1.symm,e2.symm⟩
 have hrd: ∀x∈es.toList,∃d,Go.WideElems.rd (H:=H) P k (plainElem P E) x=some (Lit.int .i64 (xG x.key),d):=by
  intro x hx'
  obtain⟨p,hp,e1,e2⟩:=hx x hx'
  have hwf:=List.all_eq_true.1 hok p hp
  rw[Bool.and_eq_true]at hwf
  have hkey:keyOf P k x.key=some (.int .i64 p.1):=by
   rw[e1];simp[keyOf,hk,mapKey];exact hwf.1
  have hval:plainElem (H:=H) P E x.val=some (.lit (.int .i64 p.2),[]):=by rw[e2];exact plainElem_int hE hwf.2
  refine⟨.lit (.int .i64 p.2),?_⟩
  have:xG x.key=p.1:=by rw[e1];rfl
  rw[this]
  unfold Go.WideElems.rd
  rw[hkey,hval];rfl
 refine⟨(es.toList.map (rg P k (plainElem P E))).foldr DataW.insert [],⟨es,clock,hb,⟨by rw[hlen];exact hl,hst,fun x hx'=>?_⟩,by omega,rfl⟩,?_,?_⟩
 ·obtain⟨d,hd⟩:=hrd x hx'
  exact⟨_,hd⟩
 ·refine((sorted_perm _).map _).trans ?_
  have e:(es.toList.map (rg (H:=H) P k (plainElem P E))).map (fun p=>Go.intOf p.1)=m.map (·.1):=by
   have h1:(es.toList.map (rg (H:=H) P k (plainElem P E))).map (fun p=>Go.intOf p.1)=es.toList.map fun x=>xG x.key:=by
    rw[List.map_map]
    refine List.map_congr_left fun x hx'=>?_
    obtain⟨d,hd⟩:=hrd x hx'
    show Go.intOf (rg P k (plainElem P E) x).1=_
    rw[rg_of hd];rfl
   rw[h1]
   have h2:=congrArg (List.map fun q:Value×Value=>xG q.1) hm
   rw[List.map_map,List.map_map]at h2
   have h3:(q8 (Value.int .i64) m).map ((fun q:Value×Value=>xG q.1)∘fun p=>(Value.int .i64 p.1,p.2))=m.map (·.1):=by
    unfold q8
    rw[List.map_map];rfl
   rw[h3]at h2
   exact h2
  rw[e]
 ·have:=(sorted_perm (es.toList.map (rg (H:=H) P k (plainElem P E)))).length_eq
  rw[this,List.length_map,Array.length_toList,hlen]
theorem Gt{ρ ρk:Go.Shelf.Ren}(Ls:SlLaysZI.n6 P ρ)(Lk:SlLaysZI.n10 P ρk)(hsort: ∀m,AnyZI.SortsIn P ρ Fence.wide m)(e9: ∀args w,(callFunc (ρ.f 9) args).run P w= .ok (.enter (ρ.f 9) args) w)(eg: ∀args w,(callFunc (ρk.f 10) args).run P w= .ok (.enter (ρk.f 10) args) w)
  {E:TypeId}(hk:P.underlying (ρk.t 26)=some (.int .i64))(hE:P.underlying E=some (.int .i64)){m:List (Int×Int)}{res:List Int}(hF:Ej m=some res){b2 bm T2:Nat}{w0 w:World}{R:List Chunk}(hw:St w0.heap.size w0 ([al b2 T2 [.map (some bm)],cM (Value.int .i64) (some bm) m]++R) w):
  Calls P (ρ.f 6) (List.toArray [.func (.func (ρk.f 10)) #[] #[.pointer (some ⟨b2,0,none⟩)]]) w (fun e w'=>∃g:Option Addr×Nat,True∧e= .returned (.slice g.1 res.length g.2)∧St w0.heap.size w0 ([cR (eI .i64) 1 g.1 g.2 (ρ.t 26) res,al b2 T2 [.map (some bm)],cM (Value.int .i64) (some bm) m]++R) w'):=by
 unfold Ej at hF
 by_cases hc:(m.all fun p=>zA p.1&&zA p.2)=true∧m.length≤1000000
 case neg=>rw[if_neg hc]at hF;cases hF
 rw[if_pos hc]at hF
 obtain rfl:=Option.some.inj hF
 obtain⟨hok,hle⟩:=hc
 obtain⟨D,hown,sV,hDl⟩:=Rt (H:=Unit) hk hE hw (i:=1) rfl hok (by unfold maxLen;omega)
 have Ho:=hw.obj (i:=0) rfl
 have hlt:b2 < w.heap.size:=(Array.getElem?_eq_some_iff.1 Ho).1
 have hcell:w.cell? ⟨b2,0,none⟩=some (.map (some bm)):=by simp[World.cell?,Ho]
 have hsz:Maps.size (.map D:DataW Unit)=m.length:=hDl
 have hseq:=AnyZI.keys_gives Lk Fence.wide 2 trivial rfl (by omega) b2 bm m.length (.map D) w hlt hcell hown
 have cS:=AnyZI.sorted_in Ls Fence.wide 5 trivial trivial trivial trivial rfl (by omega) (hsort _) e9 (ρk.f 10) #[.pointer (some ⟨b2,0,none⟩)] trivial eg _ (Maps.size (.map D:DataW Unit)) (by rw[hsz];unfold maxLen;omega) (by rw[hsz];omega) w hseq
 refine((callsIn_wide (n:=5)).1 cS).mono ?_
 rintro e w' ⟨v,ss,rfl,hS,hrow,hnil,hb⟩
 have X2:ss.mergeSort (fun x y=>decide (x≤y))=(m.map (·.1)).mergeSort (fun x y=>decide (x≤y)):=mergeSort_of_perm_i (hS.trans sV)
 rw[X2]at hrow
 have hl:ss.length=((m.map (·.1)).mergeSort fun x y=>decide (x≤y)).length:=by rw[←X2,List.length_mergeSort]
 rw[hl]at hrow
 generalize ((m.map (·.1)).mergeSort fun x y=>decide (x≤y))=res at hrow
 have hfl:res.flatMap (eI .i64)=res.map encZ:=yz res
 obtain⟨h1,h2⟩:=hrow
 rcases h2 with⟨rfl,h3⟩|⟨g,cap,cur,rfl,hbase,hx,r1,r2,r3,r4⟩
 ·refine⟨(none,0),trivial,by rw[h3],?_⟩
  have k:St w.heap.size w [cR (eI .i64) 1 none 0 (ρ.t 26) res] w':=by
   refine⟨hb,Nat.le_refl _,fun c hc=>?_,by simp[owns,cc,Chunk.one],fun b hb=>by simp[owns,cc,Chunk.one]at hb⟩
   rw[List.mem_singleton.1 hc]
   exact⟨by rw[hfl];exact h1,.inl ⟨rfl,h3,rfl⟩⟩
  exact hw.merge k
 ·refine⟨(some ⟨g,0,none⟩,cap),trivial,rfl,?_⟩
  have F_:g < w'.heap.size:=(Array.getElem?_eq_some_iff.1 hx).1
  have k:St w.heap.size w [cR (eI .i64) 1 (some ⟨g,0,none⟩) cap (ρ.t 26) res] w':=by
   refine⟨hb,Nat.le_refl _,fun c hc=>?_,by simp[owns,cc,Chunk.one],fun b hb=>?_⟩
   ·rw[List.mem_singleton.1 hc]
    exact⟨by rw[hfl];exact h1,.inr ⟨g,cur,rfl,hx,r1,r2,r3,by rw[hfl];exact r4⟩⟩
   ·have hb:b=g:=by simpa[owns,cc,Chunk.one]using hb
    subst hb
    exact⟨hbase,F_⟩
  exact hw.merge k
end
end Go.Proofs.YtjdkkabcenohcaaGreatDoor
