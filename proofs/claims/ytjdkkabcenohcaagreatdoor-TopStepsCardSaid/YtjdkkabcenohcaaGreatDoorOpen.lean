import Derived.ProofKit
import Derived.OpenShut
import Derived.Deep.Slices
import Derived.Deep.CondSized
import Derived.Test.YtjdkkabcenohcaaGreatDoorEng
import Derived.Test.YtjdkkabcenohcaaGreatDoorRow
set_option linter.unusedVariables false
set_option linter.unusedSimpArgs false
namespace Go.Proofs.YtjdkkabcenohcaaGreatDoor
open Go.ChangeShapes Go.WideShapes Go.ChangeAt Go.RowKit
section
variable {H:Type} {enc:TypeId×Value→H} {P:Program}
theorem MQ(hl:laidOutB P=true){W W':World}(hb:Below W.heap.size W W'): ∀(ts:List TypeId) (vs:List Value) (ds:List (DataW H)) (ps:List MemPlace),(∀t∈ts,P.readableRec t=true∧t < P.types.size)→
  DataW.TrodAll enc P W 0 (fun _=>true) true ts vs ds ps→(∀p∈ps,p.block < W.heap.size)→DataW.TrodAll enc P W' 0 (fun b=>decide (b < W.heap.size)) true ts vs ds ps
 | [],[],[],_,_,h,_=>h
 | [],[],_::_,_,_,h,_=>h.elim
 | [],_::_,_,_,_,h,_=>h.elim
 |_::_,[],_,_,_,h,_=>h.elim
 |_::_,_::_,[],_,_,h,_=>h.elim
 |t::ts,v::vs,d::ds,ps,hr,h,hlt=>by
  obtain⟨p,q,h1,h2,rfl⟩:=h
  exact⟨p,q,Below.trod hl (hr t (by simp)).1 (hr t (by simp)).2 h1 hb (fun x hx=>hlt x (by simp[hx])),MQ hl hb ts vs ds q (fun u hu=>hr u (by simp[hu])) h2 (fun x hx=>hlt x (by simp[hx])),rfl⟩
theorem law_post{f:Func}{s:ChangeSpec}{W W':World}{args:Array Value}{ds gs:List (DataW H)}{before:List MemPlace}{tb:TypeId}(hl:laidOutB P=true)
  (hrB:(f.params.toList.all fun t=>P.readableRec t&&decide (t < P.types.size))=true)(hvars:s.vars= [])(hres:f.resultTypes= #[tb])(htb:P.underlying tb=some .bool)
  (hW:DataW.Whole enc P f.params.toList s.vars false W args.toList ds gs before)(hfn:s.fn H (ds++gs)={results:=[.lit (.bool true)],args:=ds})
  (h:St W.heap.size W [] W'):s.post enc P f false true false false W args (.bool true) W':=by
 have hr: ∀t∈f.params.toList,P.readableRec t=true∧t < P.types.size:=fun t ht=>by
  have:=List.all_eq_true.1 hrB t ht
  simpa using this
 have hlt: ∀p∈before,p.block < W.heap.size:=fun p hp=>hW.lt p hp
 have hW':=hW
 obtain⟨p,q,hA,hV,hps,hz,hn⟩:=hW
 rw[hvars]at hV
 have hgq:gs= []∧q= []:=by
  cases gs with
  |nil=>exact⟨rfl,hV⟩
  |cons g gs=>exact hV.elim
 obtain⟨rfl,rfl⟩:=hgq
 have OL:=MQ hl h.below _ _ _ _ hr hA (fun x hx=>hlt x (by rw[hps];simp[hx]))
 refine⟨ds,[],before,[],p,[],hW',?_,?_,?_,World.keptBut_mono (fun x hx=>⟨hx,?_⟩) (h.below.frame (· ∈before)),fun h=>by cases h⟩
 ·rw[hfn,hres]
  exact trodAll_cons_mk (shut_bool htb _) trodAll_mk0
 ·rw[hfn];exact OL
 ·rw[hfn,hvars];rfl
 ·rw[hps,List.append_nil]at hx
  exact .inr (.inl hx)
theorem CO{W:World}{base b0:Nat}{sp:Nat→Bool}{held:Bool}{r:Reach}{t e:TypeId}{v:Value}{d:DataW H}{ps:List MemPlace}(ht:P.underlying t=some (.slice e))(he:P.underlying e=some (.int .i64))(hc:P.cellsOf e=0+1)
  (hv:Value.okWide P W r b0 t v)(h:DataW.Trod enc P W base sp held t v d ps): ∃xs:List Int,sa W v xs∧xs.length≤maxLen∧∀x∈xs,-9223372036854775808≤x∧x≤9223372036854775807:=by
 obtain⟨a,len,cap,rfl⟩:=okWide_slice ht hv
 obtain⟨fuel,hf⟩:=h
 rcases open_ints ht he hc hf with⟨hcs,hx⟩|⟨a1,FS,FU,zs,hcs,hb,hlc,hm,hz,hx,hcell,hwf⟩
 ·simp[Value.cells]at hcs
  obtain⟨rfl,rfl,rfl⟩:=hcs
  exact⟨[],⟨none,0,rfl,by simp,fun i hi=>by cases hi⟩,by simp,by simp⟩
 ·simp[Value.cells]at hcs
  obtain⟨rfl,rfl,rfl⟩:=hcs
  have hzl:len≤zs.length:=by rw[hz];split<;>omega
  have hlen:(zs.take len).length=len:=by simp;omega
  refine⟨zs.take len,⟨some a1,cap,by rw[hlen],by omega,fun i hi=>?_⟩,by omega,fun x hx=>?_⟩
  ·have hi':i < zs.length:=by omega
   have h1:=hcell i hi'
   have hsp:a1.spot=none:=by
    have h0:=hcell 0 (by omega)
    unfold World.cell? at h0
    have e0:a1.add 0=a1:=rfl
    rw[e0]at h0
    split at h0
    ·cases hs:a1.spot with
     |none=>rfl
     |some k=>rw[hs]at h0;simp at h0
    ·cases h0
   refine⟨⟨rfl,fun p hp=>by cases hp;exact hsp⟩,?_⟩
   obtain⟨b,o,s⟩:=a1
   simp only at hsp
   subst hsp
   rw[eX]at h1
   simp only[dr,h1,List.getElem_take]
   simp[hi']
  ·exact bounds_i64 (hwf x (List.mem_of_mem_take hx))
end
end Go.Proofs.YtjdkkabcenohcaaGreatDoor
set_option linter.unusedVariables false
set_option linter.unusedSimpArgs false
namespace Go.Proofs.YtjdkkabcenohcaaGreatDoor
open Go.ChangeShapes Go.WideShapes Go.ChangeAt Go.RowKit
section
variable {H:Type} {enc:TypeId×Value→H} {P:Program}
def numFields(P:Program):Nat→List Field→Bool
 |_,[]=>true
 |k,f::fs=>Nat.beq f.offset k&&Nat.beq (P.cellsOf f.type) 1&&(match P.underlying f.type with|some (.int .i64)=>true|_=>false)&&numFields P (k+1) fs
theorem zt: ∀{fs:List Field} {k j:Nat} {f:Field},numFields P k fs=true→fs[j]? =some f→f.offset=k+j∧P.cellsOf f.type=1∧P.underlying f.type=some (.int .i64)
 | [],_,_,_,_,h=>by simp at h
 |g::fs,k,0,f,h,hj=>by
  simp only[numFields,Bool.and_eq_true]at h
  obtain⟨⟨⟨h1,h2⟩,h3⟩,_⟩:=h
  obtain rfl:g=f:=by simpa using hj
  refine⟨Nat.eq_of_beq_eq_true h1,Nat.eq_of_beq_eq_true h2,?_⟩
  split at h3<;>simp_all
 |g::fs,k,j+1,f,h,hj=>by
  simp only[numFields,Bool.and_eq_true]at h
  have:=zt h.2 (by simpa using hj:fs[j]? =some f)
  exact⟨by omega,this.2⟩
def pP(w:World)(A:Option Addr)(k:Nat):Int:=match w.cell? (dr A k)with
 |some (.int _ z)=>z
 |_=>0
def uo(w:World)(A:Option Addr)(sz i:Nat):List Int:=(List.range sz).map fun j=>pP w A (i * sz+j)
theorem FV{w:World}{a:Addr}{v:Value}(h:w.cell? a=some v):a.spot=none:=by
 unfold World.cell? at h
 split at h
 ·cases hs:a.spot with
  |none=>rfl
  |some k=>rw[hs]at h;simp at h
 ·cases h
theorem Wg{α:Type}{gj:α→List Value}{sz:Nat}(dec:List Int→α)(OM: ∀r:List Int,r.length=sz→gj (dec r)=ints r){W:World}{base b0:Nat}{sp:Nat→Bool}{held:Bool}{r:Reach}{t e:TypeId}{fs:Array Field}{v:Value}{d:DataW H}{ps:List MemPlace}
  (ht:P.underlying t=some (.slice e))(he:P.underlying e=some (.struct fs))(hf:numFields P 0 fs.toList=true)(hn:fs.size=sz)(hc:P.cellsOf e=sz)(h0:0 < sz)
  (hv:Value.okWide P W r b0 t v)(h:DataW.Trod enc P W base sp held t v d ps):
  ∃xs:List α,bi gj sz W v xs∧xs.length≤maxLen∧∀x∈xs,∃r,x=dec r∧r.length=sz∧∀y∈r,-9223372036854775808≤y∧y≤9223372036854775807:=by
 obtain⟨a,len,cap,rfl⟩:=okWide_slice ht hv
 obtain⟨fuel,yP⟩:=h
 rcases Go.Deep.open_slice ht yP with⟨hcs,_⟩|⟨a1,FS,FU,m,nn,D,Pl,hcs,hb,hlc,hm,Dh,_,hx⟩
 ·simp[Value.cells]at hcs
  obtain⟨rfl,rfl,rfl⟩:=hcs
  exact⟨[],bi.nil,by simp,by simp⟩
 ·simp[Value.cells]at hcs
  obtain⟨rfl,rfl,rfl⟩:=hcs
  have hlm:len≤m:=by rw[Dh];split<;>omega
  have each: ∀i,i < len→∀j,j < sz→∃z,W.cell? ((a1.add (i * sz)).add j)=some (.int .i64 z)∧ -9223372036854775808≤z∧z≤9223372036854775807:=by
   intro i hi j hj
   obtain⟨cs,h1,h2⟩:=hx i (by omega)
   rw[hc]at h1
   obtain⟨_,hcl,hat⟩:=World.cells?_some h1
   obtain⟨ys,n',_,_,_,JJ,FW⟩:=DataW.trod_struct he h2
   have hjf:fs.toList[j]? =some fs[j]:=by simp[hn,hj]
   obtain⟨ho,hk,hT⟩:=zt hf hjf
   have h3:=FW j fs[j] (by simp[hn,hj])
   rw[ho,hk,Nat.zero_add,List.getElem?_eq_getElem (by omega)]at h3
   obtain⟨z,h4,_,h5⟩:=DataW.trod_int hT h3
   have hcj:cs[j]? =some (.int .i64 z):=by
    have:(cs.drop j).take 1= [cs[j]'(by omega)]:=by rw[List.drop_eq_getElem_cons (by omega)];rfl
    rw[this]at h4
    rw[List.getElem?_eq_getElem (by omega)]
    simpa using h4
   exact⟨z,by rw[hat j hj,hcj],bounds_i64 h5⟩
  have hrow: ∀i,i < len→xk (some a1)∧∀j,j < sz→W.cell? (dr (some a1) (i * sz+j))=some (.int .i64 (pP W (some a1) (i * sz+j)))∧ -9223372036854775808≤pP W (some a1) (i * sz+j)∧pP W (some a1) (i * sz+j)≤9223372036854775807:=by
   intro i hi
   have hsp:a1.spot=none:=by
    obtain⟨z,hz,_⟩:=each 0 (by omega) 0 h0
    have e0:(a1.add (0 * sz)).add 0=a1:=by rw[Nat.zero_mul];rfl
    rw[e0]at hz
    exact FV hz
   refine⟨⟨rfl,fun p hp=>by cases hp;exact hsp⟩,fun j hj=>?_⟩
   obtain⟨z,hz,SP⟩:=each i hi j hj
   obtain⟨b,o,s⟩:=a1
   simp only at hsp
   subst hsp
   rw[eX,eX,Nat.add_assoc]at hz
   have e1:pP W (some ⟨b,o,none⟩) (i * sz+j)=z:=by simp[pP,dr,hz]
   rw[e1]
   exact⟨by simpa[dr]using hz,SP⟩
  refine⟨(List.range len).map fun i=>dec (uo W (some a1) sz i),⟨some a1,cap,by simp,by simpa using hlc,fun i hi=>?_⟩,by simp;omega,fun x hx=>?_⟩
  ·have hi':i < len:=by simpa using hi
   refine⟨(hrow i hi').1,fun j u hu=>?_⟩
   simp only[List.getElem_map,List.getElem_range]at hu
   rw[OM _ (by simp[uo])]at hu
   have hj:j < sz:=by have:=(List.getElem?_eq_some_iff.1 hu).1;simpa[ints,uo]using this
   have:=((hrow i hi').2 j hj).1
   rw[this]
   simpa[ints,uo,hj]using hu
  ·obtain⟨i,hi,rfl⟩:=List.mem_map.1 hx
   have hi':i < len:=List.mem_range.1 hi
   refine⟨_,rfl,by simp[uo],fun y hy=>?_⟩
   obtain⟨j,hj,rfl⟩:=List.mem_map.1 hy
   exact((hrow i hi').2 j (List.mem_range.1 hj)).2
end
end Go.Proofs.YtjdkkabcenohcaaGreatDoor
