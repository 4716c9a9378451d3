/-
  From a law's walk to its statement: what every law's last step shares. It speaks of every program.
-/
import Derived.ProofKit
import Derived.OpenShut
import Derived.Deep.Slices
import Derived.Deep.CondSized
import Derived.Test.YtjdkkabcenohcaaGreatDoorEng
set_option linter.unusedVariables false
set_option linter.unusedSimpArgs false
namespace Go.Proofs.YtjdkkabcenohcaaGreatDoor
open Go.ChangeShapes Go.WideShapes Go.ChangeAt Go.RowKit
section
variable {H:Type} {enc:TypeId×Value→H} {P:Program}
theorem Da(hl:laidOutB P=true){W W':World}(hb:Below W.heap.size W W'): ∀(ts:List TypeId) (vs:List Value) (ds:List (DataW H)) (ps:List MemPlace),(∀t∈ts,P.readableRec t=true∧t < P.types.size)→
  DataW.TrodAll enc P W 0 (fun _=>true) true ts vs ds ps→(∀p∈ps,p.block < W.heap.size)→DataW.TrodAll enc P W' 0 (fun b=>decide (b < W.heap.size)) true ts vs ds ps
 | [],[],[],_,_,h,_=>h
 | [],[],_::_,_,_,h,_=>h.elim
 | [],_::_,_,_,_,h,_=>h.elim
 |_::_,[],_,_,_,h,_=>h.elim
 |_::_,_::_,[],_,_,h,_=>h.elim
 |t::ts,v::vs,d::ds,ps,hr,h,hlt=>by
  obtain⟨p,q,h1,h2,rfl⟩:=h
  exact⟨p,q,Below.trod hl (hr t (by simp)).1 (hr t (by simp)).2 h1 hb (fun x hx=>hlt x (by simp[hx])),Da hl hb ts vs ds q (fun u hu=>hr u (by simp[hu])) h2 (fun x hx=>hlt x (by simp[hx])),rfl⟩
theorem law_post{f:Func}{s:ChangeSpec}{W W':World}{args:Array Value}{ds gs:List (DataW H)}{before:List MemPlace}{tb:TypeId}(hl:laidOutB P=true)
  (hrB:(f.params.toList.all fun t=>P.readableRec t&&decide (t < P.types.size))=true)(hvars:s.vars= [])(hres:f.resultTypes= #[tb])(htb:P.underlying tb=some .bool)
  (hW:DataW.Whole enc P f.params.toList s.vars false W args.toList ds gs before)(hfn:s.fn H (ds++gs)={results:=[.lit (.bool true)],args:=ds})
  (h:St W.heap.size W [] W'):s.post enc P f false true false false W args (.bool true) W':=by
 have hr: ∀t∈f.params.toList,P.readableRec t=true∧t < P.types.size:=fun t ht=>by
  have:=List.all_eq_true.1 hrB t ht
  simpa using this
 have hlt: ∀p∈before,p.block < W.heap.size:=fun p hp=>hW.lt p hp
 have hW':=hW
 obtain⟨p,q,hA,hV,hps,hz,hn⟩:=hW
 rw[hvars]at hV
 have hgq:gs= []∧q= []:=by
  cases gs with
  |nil=>exact⟨rfl,hV⟩
  |cons g gs=>exact hV.elim
 obtain⟨rfl,rfl⟩:=hgq
 have EA:=Da hl h.below _ _ _ _ hr hA (fun x hx=>hlt x (by rw[hps];simp[hx]))
 refine⟨ds,[],before,[],p,[],hW',?_,?_,?_,World.keptBut_mono (fun x hx=>⟨hx,?_⟩) (h.below.frame (· ∈before)),fun h=>by cases h⟩
 ·rw[hfn,hres]
  exact trodAll_cons_mk (shut_bool htb _) trodAll_mk0
 ·rw[hfn];exact EA
 ·rw[hfn,hvars];rfl
 ·rw[hps,List.append_nil]at hx
  exact .inr (.inl hx)
end
end Go.Proofs.YtjdkkabcenohcaaGreatDoor
