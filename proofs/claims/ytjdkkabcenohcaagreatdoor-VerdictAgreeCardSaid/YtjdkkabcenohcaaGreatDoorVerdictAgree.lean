/- VerdictAgree: for every input the law returns true. -/
import Derived.Test.YtjdkkabcenohcaaGreatDoorRows
import Derived.Test.YtjdkkabcenohcaaGreatDoorLaw
import Derived.Test.YtjdkkabcenohcaaGreatDoorCards
import Derived.Test.YtjdkkabcenohcaaGreatDoorTie
import Derived.SevenTiedAt
import Derived.ChangeMaps5
import Derived.SizedLaws
import Derived.Test.YtjdkkabcenohcaaGreatDoorQ5
import Derived.Test.YtjdkkabcenohcaaGreatDoorC1
set_option linter.unusedVariables false
set_option linter.unusedSimpArgs false
namespace Go.Proofs.YtjdkkabcenohcaaGreatDoor.lawVerdictAgree
open Go.ChangeShapes Go.WideShapes Go.ChangeAt Go.RowKit
theorem own:ownKnob Tryz.prog.godebug=none:=by kernel_rfl
set_option maxRecDepth 100000 in
theorem reads(os:Os){H:Type}(enc:TypeId×Value→H): ∃places,DataW.whole enc Tryz.prog ((World.laidAll Tryz.prog os Rows.verdictAgreeRow.laid).forCall (fun _ _=>0) ⟨#[],#[.string ⟨#[]⟩],[]⟩).memory Tryz.f4.params.toList Rows.verdictAgreeSpec.vars false (#[.string ⟨#[]⟩]:Array Value).toList 8=some ([.lit (.string [])],[],places):=
 ⟨[],by kernel_rfl⟩
set_option maxRecDepth 100000 in
theorem lifted(os:Os)(started:os.Started)(H:Type)(enc:TypeId×Value→H)(F:Stop.Interp):
  ReturnsInHanded {} Tryz.checked os 4 .any ((OpenSpec.ofChange Rows.verdictAgreeSpec).preRow enc Tryz.prog Tryz.f4 Rows.verdictAgreeRow.domain false Rows.verdictAgreeRow.laid) (((OpenSpec.ofChange Rows.verdictAgreeSpec).at F).post enc Tryz.prog Tryz.f4 false true false false):=by
 obtain⟨places,hx⟩:=reads os enc
 have hok:Input.okWideB Tryz.checked.prog ((World.laidAll Tryz.prog os Rows.verdictAgreeRow.laid).forCall (fun _ _=>0) ⟨#[],#[.string ⟨#[]⟩],[]⟩) 4 ⟨#[],#[.string ⟨#[]⟩],[]⟩=true:=by kernel_rfl
 refine returnsInHanded_of_row (C:=Tryz.checked) (s:=(OpenSpec.ofChange Rows.verdictAgreeSpec)) own started (by kernel_rfl) Tryz.func4
  ⟨World.laidAll Tryz.prog os Rows.verdictAgreeRow.laid,fun _ _=>0,⟨#[],#[.string ⟨#[]⟩],[]⟩,World.laidAll_os _ _ _,World.shaped_of_ZipB (by kernel_rfl) (by kernel_rfl),(Input.okWide_of_okWideB (base:=0) hok).1,(Input.okWide_of_okWideB hok).2,
   OpenSpec.preRow_of_cond 8 hx (by kernel_rfl) (fun k hk=>by cases hk) (by kernel_rfl) (Sx os _),by
    simp only[Assume.holds]
    exact⟨by simp,by simp,fun _=>Modest.zero,by simp,by simp⟩⟩ ?_
 intro W base args ds gs before PU hW _ _ V9 hL hsh _
 have hG:li W:=gok hL hsh
 have hval: ∀(j:Nat) t v,Tryz.f4.params[j]? =some t→args[j]? =some v→Value.okWide Tryz.prog W .any base t v:=PU
 have hW2:=hW
 obtain⟨p,q,YJ,hV,hpq,hfz,hnd⟩:=hW2
 have hA:DataW.TrodAll enc Tryz.prog W 0 (fun _=>true) true Tryz.f4.params.toList args.toList ds p:=YJ
 rw[Tryz.params4]at hA hval
 obtain⟨v0,vs0,d0,ds0,p0,q0,hargs,rfl,rfl,h0,r0⟩:=trodAll_cons hA
 obtain⟨rfl,rfl,rfl⟩:=trodAll_nil r0
 obtain rfl:args= #[v0]:=by cases args;simp_all
 have F_:gs= []:=by
  cases gs with
  |nil=>rfl
  |cons g gs=>exact hV.elim
 subst F_
 obtain⟨s,rfl,rfl,rfl,hl0⟩:=Go.ChangeMaps.open_string Tryz.underlying9 (hval 0 9 v0 rfl rfl) h0
 have hz0:s.size≤140737488351232:=by
  have:=sized_string V9 (j:=0) (t:=9) (by kernel_rfl) rfl
  rw[←Lib.size_eq]at this
  exact this
 clear YJ PU
 refine(sa (N:=18446744073709551616) (Vd.Oi (by decide) Vd.W7 s) W hG).mono fun e W' ⟨he,hs⟩=>?_
 subst he
 exact⟨_,rfl,law_post (by kernel_rfl) (by kernel_rfl) rfl rfl Tryz.underlying4 hW rfl hs⟩
theorem said:Rows.verdictAgreeRow.holds Tryz.pinned (OpenSpec.ofChange Rows.verdictAgreeSpec):=
 OpenClaim.holds_of_cond 4 Tryz.f4 rfl rfl rfl rfl rfl rfl rfl ⟨rfl,rfl,rfl,rfl,rfl⟩ rfl rfl rfl rfl rfl (by kernel_rfl) Tryz.func4 (by kernel_rfl)
  (of_decide_eq_true (by kernel_rfl)) (by unfold Func.isWrapper;first|(rw[if_pos (by decide+kernel)];kernel_rfl)|(rw[if_neg (by decide+kernel)];exact⟨rfl,rfl⟩))
  (fun os started H enc _ F=>by rw[OpenClaim.pre_eq_preRow];exact lifted os started H enc F)
theorem plain(f:FuncId)(fn:Func)(hf:Tryz.pinned.checked.prog.funcNamed "alibi/alibkeep.VerdictAgree" =some f)(hfn:Tryz.pinned.checked.prog.funcs[f]? =some fn):
  true=Tryz.pinned.checked.prog.looks []∧∀(j:Nat) t,fn.params[j]? =some t→Tryz.pinned.checked.prog.wantsStandIn t=false:=by
 obtain rfl:f=4:=Option.some.inj ((show Tryz.prog.funcNamed "alibi/alibkeep.VerdictAgree" =some 4 by kernel_rfl).symm.trans hf) |>.symm
 obtain rfl:fn=Tryz.f4:=(Option.some.inj (Tryz.func4.symm.trans hfn)).symm
 refine⟨by kernel_rfl,fun j t ht=>?_⟩
 rw[Tryz.params4]at ht
 have hm:t∈ [9]:=by simpa using Array.mem_of_getElem? ht
 have hall:([9].all fun u=>!Tryz.prog.wantsStandIn u)=true:=by kernel_rfl
 exact(show Tryz.prog.wantsStandIn t=false by simpa using List.all_eq_true.1 hall t hm)
theorem proved:Rows.VerdictAgreeCardSaid:=
 Claim7.holds_tied_plain_at .later [] _ _ _ _ said (fun _ h=>by cases h) (by kernel_rfl) (fun _ h=>by cases h) verdictAgree_row_tie rfl ⟨rfl,rfl⟩ (by kernel_rfl) rfl plain (by kernel_rfl)
end Go.Proofs.YtjdkkabcenohcaaGreatDoor.lawVerdictAgree
