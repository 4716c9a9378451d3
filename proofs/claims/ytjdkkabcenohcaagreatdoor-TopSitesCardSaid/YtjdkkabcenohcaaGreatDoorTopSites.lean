/- TopSites: for every input the law returns true. -/
import Derived.Test.YtjdkkabcenohcaaGreatDoorRows
import Derived.Test.YtjdkkabcenohcaaGreatDoorOpen
import Derived.Test.YtjdkkabcenohcaaGreatDoorCards
import Derived.Test.YtjdkkabcenohcaaGreatDoorTie
import Derived.SevenTiedAt
import Derived.ChangeMaps5
import Derived.SizedLaws
import Derived.Test.YtjdkkabcenohcaaGreatDoorSI5
import Derived.Test.YtjdkkabcenohcaaGreatDoorCs
set_option linter.unusedVariables false
set_option linter.unusedSimpArgs false
namespace Go.Proofs.YtjdkkabcenohcaaGreatDoor.lawTopSites
open Go.ChangeShapes Go.WideShapes Go.ChangeAt Go.RowKit
theorem VX{H:Type}{enc:TypeId×Value→H}{P:Program}{W:World}{base:Nat}{sp:Nat→Bool}{held:Bool}{t e:TypeId}{v:Value}{d:DataW H}{ps:List MemPlace}{a:Option Addr}{len cap:Nat}(ht:P.underlying t=some (.slice e))(h:DataW.Trod enc P W base sp held t v d ps)(hv:v= .slice a len cap)(hw: ∀n∈d.weights P t,n≤reachBytes):len * P.bytesOf e≤reachBytes:=by
 subst hv
 obtain⟨fuel,yP⟩:=h
 rcases Go.Deep.open_slice ht yP with⟨hcs,_⟩|⟨a1,FS,FU,m,nn,D,Pl,hcs,hb,hlc,hm,Dh,AP,hx⟩
 ·simp[Value.cells]at hcs
  rw[hcs.2.1,Nat.zero_mul];exact Nat.zero_le _
 ·simp[Value.cells]at hcs
  obtain⟨rfl,rfl,rfl⟩:=hcs
  obtain⟨rfl,_⟩:=Prod.mk.inj AP
  have h9:=hw _ (by simp only[DataW.weights,ht];exact List.mem_cons_self)
  refine Nat.le_trans (Nat.mul_le_mul_right _ ?_) h9
  rw[List.length_map,List.length_range]
  exact Nat.le_add_right _ _
theorem Db{H:Type}{enc:TypeId×Value→H}{P:Program}{W:World}{base fuel:Nat}{sp:Nat→Bool}{held:Bool}{t e:TypeId}{d:DataW H×List MemPlace}{a:Option Addr}{len cap:Nat}(ht:P.underlying t=some (.slice e))(yP:DataW.trod enc P W base sp held fuel t [.slice a len cap]=some d)(hw: ∀n∈d.1.weights P t,n≤reachBytes):len * P.bytesOf e≤reachBytes:=by
 rcases Go.Deep.open_slice ht yP with⟨hcs,_⟩|⟨a1,FS,FU,m,nn,D,Pl,hcs,hb,hlc,hm,Dh,rfl,hx⟩
 ·simp at hcs
  rw[hcs.2.1,Nat.zero_mul];exact Nat.zero_le _
 ·simp at hcs
  obtain⟨rfl,rfl,rfl⟩:=hcs
  have h9:=hw _ (by simp only[DataW.weights,ht];exact List.mem_cons_self)
  refine Nat.le_trans (Nat.mul_le_mul_right _ ?_) h9
  rw[List.length_map,List.length_range]
  exact Nat.le_add_right _ _
theorem p_{H:Type}{P:Program}{e:TypeId}{d:DataW H}{n:Nat}: ∀{l:List (DataW H)},d∈l→n∈d.weights P e→n∈DataW.weightsAll P e l
 |x::l,hd,hn=>by
  simp only[DataW.weightsAll,List.mem_append]
  rcases List.mem_cons.1 hd with rfl|hd
  ·exact .inl hn
  ·exact .inr (p_ hd hn)
theorem Dc{H α:Type}{enc:TypeId×Value→H}{gj:α→List Value}{sz:Nat}{P:Program}{W:World}{base:Nat}{sp:Nat→Bool}{held:Bool}{t t2 e:TypeId}{d:DataW H}{ps:List MemPlace}{A:Option Addr}{cap:Nat}{hs:List Hd}{xs:List (List α)}(ht:P.underlying t=some (.slice t2))(hc:P.cellsOf t2=1)(ht2:P.underlying t2=some (.slice e))(hS:nC gj sz W A cap hs xs)(h:DataW.Trod enc P W base sp held t (.slice A xs.length cap) d ps)(hw: ∀n∈d.weights P t,n≤reachBytes): ∀q∈xs,q.length * P.bytesOf e≤reachBytes:=by
 obtain⟨fuel,yP⟩:=h
 rcases Go.Deep.open_slice ht yP with⟨hcs,_⟩|⟨a1,FS,FU,m,nn,D,Pl,hcs,hb,hlc,hm,Dh,AP,hx⟩
 ·simp[Value.cells]at hcs
  have:xs= []:=hcs.2.1
  subst this
  intro q hq;cases hq
 ·simp[Value.cells]at hcs
  obtain⟨rfl,rfl,rfl⟩:=hcs
  obtain⟨rfl,_⟩:=Prod.mk.inj AP
  have hlm:xs.length≤m:=by rw[Dh];split<;>omega
  intro q hq
  obtain⟨i,hi,rfl⟩:=List.getElem_of_mem hq
  obtain⟨cs,h1,h2⟩:=hx i (by omega)
  rw[hc,Nat.mul_one]at h1
  obtain⟨_,hcl,hat⟩:=World.cells?_some h1
  obtain⟨hok,hcell⟩:=hS.out i xs[i] (List.getElem?_eq_getElem hi)
  have h6:=hat 0 (by omega)
  have e0:(a1.add i).add 0=a1.add i:=rfl
  rw[e0]at h6
  have hsp:=hok.2 a1 rfl
  obtain⟨b,o,s⟩:=a1
  simp only at hsp
  subst hsp
  rw[eX]at h6
  have h7:W.cell? (dr (some ⟨b,o,none⟩) i)=cs[0]? :=h6
  rw[hcell]at h7
  match cs,hcl,h7 with
  | [v],_,h7=>
   simp at h7
   subst h7
   refine Db ht2 h2 fun n hn=>hw n ?_
   simp only[DataW.weights,ht]
   refine List.mem_cons_of_mem _ (List.mem_append_left _ (p_ (d:=D i) ?_ hn))
   exact List.mem_map.2 ⟨i,List.mem_range.2 hi,rfl⟩
theorem own:ownKnob Tryz.prog.godebug=none:=by kernel_rfl
set_option maxRecDepth 100000 in
theorem reads(os:Os){H:Type}(enc:TypeId×Value→H): ∃places,DataW.whole enc Tryz.prog ((World.laidAll Tryz.prog os Rows.topSitesRow.laid).forCall (fun _ _=>0) ⟨#[],#[.int .i64 0,.slice none 0 0,.slice none 0 0],[]⟩).memory Tryz.f8.params.toList Rows.topSitesSpec.vars false (#[.int .i64 0,.slice none 0 0,.slice none 0 0]:Array Value).toList 8=some ([.lit (.int .i64 0),.nil,.nil],[],places):=
 ⟨[],by kernel_rfl⟩
set_option maxRecDepth 100000 in
theorem lifted(os:Os)(started:os.Started)(H:Type)(enc:TypeId×Value→H)(F:Stop.Interp):
  ReturnsInHanded {} Tryz.checked os 8 .any ((OpenSpec.ofChange Rows.topSitesSpec).preRow enc Tryz.prog Tryz.f8 Rows.topSitesRow.domain false Rows.topSitesRow.laid) (((OpenSpec.ofChange Rows.topSitesSpec).at F).post enc Tryz.prog Tryz.f8 false true false false):=by
 obtain⟨places,hx⟩:=reads os enc
 have hok:Input.okWideB Tryz.checked.prog ((World.laidAll Tryz.prog os Rows.topSitesRow.laid).forCall (fun _ _=>0) ⟨#[],#[.int .i64 0,.slice none 0 0,.slice none 0 0],[]⟩) 8 ⟨#[],#[.int .i64 0,.slice none 0 0,.slice none 0 0],[]⟩=true:=by kernel_rfl
 refine returnsInHanded_of_row (C:=Tryz.checked) (s:=(OpenSpec.ofChange Rows.topSitesSpec)) own started (by kernel_rfl) Tryz.func8
  ⟨World.laidAll Tryz.prog os Rows.topSitesRow.laid,fun _ _=>0,⟨#[],#[.int .i64 0,.slice none 0 0,.slice none 0 0],[]⟩,World.laidAll_os _ _ _,World.shaped_of_ZipB (by kernel_rfl) (by kernel_rfl),(Input.okWide_of_okWideB (base:=0) hok).1,(Input.okWide_of_okWideB hok).2,
   OpenSpec.preRow_of_cond 8 hx (by kernel_rfl) (fun k hk=>by cases hk) (by kernel_rfl) (D1 os _),by
    simp only[Assume.holds]
    exact⟨by simp,by simp,fun _=>Modest.zero,by simp,by simp⟩⟩ ?_
 intro W base args ds gs before CG hW _ _ K1 hL hsh _
 have hG:lO W:=XY hL hsh
 have hval: ∀(j:Nat) t v,Tryz.f8.params[j]? =some t→args[j]? =some v→Value.okWide Tryz.prog W .any base t v:=CG
 have XZ:=hW
 obtain⟨p,q,Nz,hV,hpq,hfz,hnd⟩:=XZ
 have hA:DataW.TrodAll enc Tryz.prog W 0 (fun _=>true) true Tryz.f8.params.toList args.toList ds p:=Nz
 rw[Tryz.params8]at hA hval
 obtain⟨v0,vs0,d0,ds0,p0,q0,hargs,rfl,rfl,h0,r0⟩:=trodAll_cons hA
 obtain⟨v1,vs1,d1,ds1,p1,q1,rfl,rfl,rfl,h1,r1⟩:=trodAll_cons r0
 obtain⟨v2,vs2,d2,ds2,p2,q2,rfl,rfl,rfl,h2,r2⟩:=trodAll_cons r1
 obtain⟨rfl,rfl,rfl⟩:=trodAll_nil r2
 obtain rfl:args= #[v0,v1,v2]:=by cases args;simp_all
 have Gz:gs= []:=by
  cases gs with
  |nil=>rfl
  |cons g gs=>exact hV.elim
 subst Gz
 obtain⟨n,rfl,rfl,rfl,wf0⟩:=open_int Tryz.underlying3 (hval 0 3 v0 rfl rfl) h0
 obtain⟨p,A1,c1,hd1,rfl,hi1,hl1,hb1⟩:=F3 (gj:=bA) (sz:=3) zh zi Tryz.underlying30 (by kernel_rfl) Tryz.underlying76 Tryz.underlying137 (by kernel_rfl) rfl (by kernel_rfl) (by decide) (hval 1 30 v1 rfl rfl) h1
 obtain⟨l,hi2,hl2,hb2⟩:=Wg (gj:=xf) (sz:=2) Yq Yr Tryz.underlying42 Tryz.underlying102 (by kernel_rfl) rfl (by kernel_rfl) (by decide) (hval 2 42 v2 rfl rfl) h2
 have hn1: ∀q∈p,q.length * 24≤140737488351232:=by
  have h9:=Dc Tryz.underlying30 (by kernel_rfl) Tryz.underlying76 hi1 h1 (fun n hn=>by simpa using List.all_eq_true.1 K1 n (DataW.weights_mem_each (j:=1) (t:=30) (by kernel_rfl) rfl n hn))
  have XB:Tryz.prog.bytesOf 137=24:=by kernel_rfl
  rw[XB]at h9
  exact h9
 clear Nz CG
 refine(FM (N:=18446744073709551616) (Si.G7 (by decide) Si.BZ n p l (fun q hq=>by have:=(hb1 q hq).1;unfold maxLen at this;omega) (by unfold maxLen at hl2;omega) (fun q hq=>by have:=hn1 q hq;omega)) W hi1 hi2 hG).mono fun e W' ⟨he,hs⟩=>?_
 subst he
 exact⟨_,rfl,law_post (by kernel_rfl) (by kernel_rfl) rfl rfl Tryz.underlying4 hW rfl hs⟩
theorem said:Rows.topSitesRow.holds Tryz.pinned (OpenSpec.ofChange Rows.topSitesSpec):=
 OpenClaim.holds_of_cond 8 Tryz.f8 rfl rfl rfl rfl rfl rfl rfl ⟨rfl,rfl,rfl,rfl,rfl⟩ rfl rfl rfl rfl rfl (by kernel_rfl) Tryz.func8 (by kernel_rfl)
  (of_decide_eq_true (by kernel_rfl)) (by unfold Func.isWrapper;first|(rw[if_pos (by decide+kernel)];kernel_rfl)|(rw[if_neg (by decide+kernel)];exact⟨rfl,rfl⟩))
  (fun os started H enc _ F=>by rw[OpenClaim.pre_eq_preRow];exact lifted os started H enc F)
theorem plain(f:FuncId)(fn:Func)(hf:Tryz.pinned.checked.prog.funcNamed "alibi/alibtop.TopSites" =some f)(hfn:Tryz.pinned.checked.prog.funcs[f]? =some fn):
  true=Tryz.pinned.checked.prog.looks []∧∀(j:Nat) t,fn.params[j]? =some t→Tryz.pinned.checked.prog.wantsStandIn t=false:=by
 obtain rfl:f=8:=Option.some.inj ((show Tryz.prog.funcNamed "alibi/alibtop.TopSites" =some 8 by kernel_rfl).symm.trans hf) |>.symm
 obtain rfl:fn=Tryz.f8:=(Option.some.inj (Tryz.func8.symm.trans hfn)).symm
 refine⟨by kernel_rfl,fun j t ht=>?_⟩
 rw[Tryz.params8]at ht
 have hm:t∈ [3,30,42]:=by simpa using Array.mem_of_getElem? ht
 have hall:([3,30,42].all fun u=>!Tryz.prog.wantsStandIn u)=true:=by kernel_rfl
 exact(show Tryz.prog.wantsStandIn t=false by simpa using List.all_eq_true.1 hall t hm)
theorem proved:Rows.TopSitesCardSaid:=
 Claim7.holds_tied_plain_at .later [] _ _ _ _ said (fun _ h=>by cases h) (by kernel_rfl) (fun _ h=>by cases h) topSites_row_tie rfl ⟨rfl,rfl⟩ (by kernel_rfl) rfl plain (by kernel_rfl)
end Go.Proofs.YtjdkkabcenohcaaGreatDoor.lawTopSites
