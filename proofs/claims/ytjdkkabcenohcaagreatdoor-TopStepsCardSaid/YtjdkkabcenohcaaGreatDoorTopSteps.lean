/- TopSteps: for every input the law returns true. -/
import Derived.Test.YtjdkkabcenohcaaGreatDoorRows
import Derived.Test.YtjdkkabcenohcaaGreatDoorOpen
import Derived.Test.YtjdkkabcenohcaaGreatDoorCards
import Derived.Test.YtjdkkabcenohcaaGreatDoorTie
import Derived.SevenTiedAt
import Derived.ChangeMaps5
import Derived.SizedLaws
import Derived.Test.YtjdkkabcenohcaaGreatDoorSP6
import Derived.Test.YtjdkkabcenohcaaGreatDoorCp
set_option linter.unusedVariables false
set_option linter.unusedSimpArgs false
namespace Go.Proofs.YtjdkkabcenohcaaGreatDoor.lawTopSteps
open Go.ChangeShapes Go.WideShapes Go.ChangeAt Go.RowKit
theorem own:ownKnob Tryz.prog.godebug=none:=by kernel_rfl
set_option maxRecDepth 100000 in
theorem reads(os:Os){H:Type}(enc:TypeId×Value→H): ∃places,DataW.whole enc Tryz.prog ((World.laidAll Tryz.prog os Rows.topStepsRow.laid).forCall (fun _ _=>0) ⟨#[],#[.int .i64 0,.slice none 0 0,.slice none 0 0],[]⟩).memory Tryz.f7.params.toList Rows.topStepsSpec.vars false (#[.int .i64 0,.slice none 0 0,.slice none 0 0]:Array Value).toList 8=some ([.lit (.int .i64 0),.nil,.nil],[],places):=
 ⟨[],by kernel_rfl⟩
set_option maxRecDepth 100000 in
theorem lifted(os:Os)(started:os.Started)(H:Type)(enc:TypeId×Value→H)(F:Stop.Interp):
  ReturnsInHanded {} Tryz.checked os 7 .any ((OpenSpec.ofChange Rows.topStepsSpec).preRow enc Tryz.prog Tryz.f7 Rows.topStepsRow.domain false Rows.topStepsRow.laid) (((OpenSpec.ofChange Rows.topStepsSpec).at F).post enc Tryz.prog Tryz.f7 false true false false):=by
 obtain⟨places,hx⟩:=reads os enc
 have hok:Input.okWideB Tryz.checked.prog ((World.laidAll Tryz.prog os Rows.topStepsRow.laid).forCall (fun _ _=>0) ⟨#[],#[.int .i64 0,.slice none 0 0,.slice none 0 0],[]⟩) 7 ⟨#[],#[.int .i64 0,.slice none 0 0,.slice none 0 0],[]⟩=true:=by kernel_rfl
 refine returnsInHanded_of_row (C:=Tryz.checked) (s:=(OpenSpec.ofChange Rows.topStepsSpec)) own started (by kernel_rfl) Tryz.func7
  ⟨World.laidAll Tryz.prog os Rows.topStepsRow.laid,fun _ _=>0,⟨#[],#[.int .i64 0,.slice none 0 0,.slice none 0 0],[]⟩,World.laidAll_os _ _ _,World.shaped_of_ZipB (by kernel_rfl) (by kernel_rfl),(Input.okWide_of_okWideB (base:=0) hok).1,(Input.okWide_of_okWideB hok).2,
   OpenSpec.preRow_of_cond 8 hx (by kernel_rfl) (fun k hk=>by cases hk) (by kernel_rfl) (D1 os _),by
    simp only[Assume.holds]
    exact⟨by simp,by simp,fun _=>Modest.zero,by simp,by simp⟩⟩ ?_
 intro W base args ds gs before CG hW _ _ K1 hL hsh _
 have hG:lO W:=XY hL hsh
 have hval: ∀(j:Nat) t v,Tryz.f7.params[j]? =some t→args[j]? =some v→Value.okWide Tryz.prog W .any base t v:=CG
 have XZ:=hW
 obtain⟨p,q,Nz,hV,hpq,hfz,hnd⟩:=XZ
 have hA:DataW.TrodAll enc Tryz.prog W 0 (fun _=>true) true Tryz.f7.params.toList args.toList ds p:=Nz
 rw[Tryz.params7]at hA hval
 obtain⟨v0,vs0,d0,ds0,p0,q0,hargs,rfl,rfl,h0,r0⟩:=trodAll_cons hA
 obtain⟨v1,vs1,d1,ds1,p1,q1,rfl,rfl,rfl,h1,r1⟩:=trodAll_cons r0
 obtain⟨v2,vs2,d2,ds2,p2,q2,rfl,rfl,rfl,h2,r2⟩:=trodAll_cons r1
 obtain⟨rfl,rfl,rfl⟩:=trodAll_nil r2
 obtain rfl:args= #[v0,v1,v2]:=by cases args;simp_all
 have Gz:gs= []:=by
  cases gs with
  |nil=>rfl
  |cons g gs=>exact hV.elim
 subst Gz
 obtain⟨a,rfl,rfl,rfl,wf0⟩:=open_int Tryz.underlying3 (hval 0 3 v0 rfl rfl) h0
 obtain⟨p,A1,c1,hd1,rfl,hi1,hl1,hb1⟩:=F3 (gj:=bA) (sz:=3) zh zi Tryz.underlying30 (by kernel_rfl) Tryz.underlying76 Tryz.underlying137 (by kernel_rfl) rfl (by kernel_rfl) (by decide) (hval 1 30 v1 rfl rfl) h1
 obtain⟨l,hi2,hl2,hb2⟩:=CO Tryz.underlying29 Tryz.underlying3 (by kernel_rfl) (hval 2 29 v2 rfl rfl) h2
 replace hi2:=sa.sl hi2
 clear Nz CG
 refine(FL (N:=18446744073709551616) (Sp.G7 (by decide) Sp.BZ a p l (fun q hq=>by have:=(hb1 q hq).1;unfold maxLen at this;omega)) W hi1 hi2 hG).mono fun e W' ⟨he,hs⟩=>?_
 subst he
 exact⟨_,rfl,law_post (by kernel_rfl) (by kernel_rfl) rfl rfl Tryz.underlying4 hW rfl hs⟩
theorem said:Rows.topStepsRow.holds Tryz.pinned (OpenSpec.ofChange Rows.topStepsSpec):=
 OpenClaim.holds_of_cond 7 Tryz.f7 rfl rfl rfl rfl rfl rfl rfl ⟨rfl,rfl,rfl,rfl,rfl⟩ rfl rfl rfl rfl rfl (by kernel_rfl) Tryz.func7 (by kernel_rfl)
  (of_decide_eq_true (by kernel_rfl)) (by unfold Func.isWrapper;first|(rw[if_pos (by decide+kernel)];kernel_rfl)|(rw[if_neg (by decide+kernel)];exact⟨rfl,rfl⟩))
  (fun os started H enc _ F=>by rw[OpenClaim.pre_eq_preRow];exact lifted os started H enc F)
theorem plain(f:FuncId)(fn:Func)(hf:Tryz.pinned.checked.prog.funcNamed "alibi/alibtop.TopSteps" =some f)(hfn:Tryz.pinned.checked.prog.funcs[f]? =some fn):
  true=Tryz.pinned.checked.prog.looks []∧∀(j:Nat) t,fn.params[j]? =some t→Tryz.pinned.checked.prog.wantsStandIn t=false:=by
 obtain rfl:f=7:=Option.some.inj ((show Tryz.prog.funcNamed "alibi/alibtop.TopSteps" =some 7 by kernel_rfl).symm.trans hf) |>.symm
 obtain rfl:fn=Tryz.f7:=(Option.some.inj (Tryz.func7.symm.trans hfn)).symm
 refine⟨by kernel_rfl,fun j t ht=>?_⟩
 rw[Tryz.params7]at ht
 have hm:t∈ [3,30,29]:=by simpa using Array.mem_of_getElem? ht
 have hall:([3,30,29].all fun u=>!Tryz.prog.wantsStandIn u)=true:=by kernel_rfl
 exact(show Tryz.prog.wantsStandIn t=false by simpa using List.all_eq_true.1 hall t hm)
theorem proved:Rows.TopStepsCardSaid:=
 Claim7.holds_tied_plain_at .later [] _ _ _ _ said (fun _ h=>by cases h) (by kernel_rfl) (fun _ h=>by cases h) topSteps_row_tie rfl ⟨rfl,rfl⟩ (by kernel_rfl) rfl plain (by kernel_rfl)
end Go.Proofs.YtjdkkabcenohcaaGreatDoor.lawTopSteps
