/- Zones: what Check computes, and the walks. -/
import Derived.Test.YtjdkkabcenohcaaGreatDoorAuto
import Derived.Test.YtjdkkabcenohcaaGreatDoorV3
import Derived.Test.YtjdkkabcenohcaaGreatDoorSortN
set_option linter.unusedVariables false
set_option linter.defProp false
set_option linter.unusedSimpArgs false
set_option linter.unusedSectionVars false
set_option maxRecDepth 100000
namespace Go.Proofs.YtjdkkabcenohcaaGreatDoor
open Go.RowKit
attribute [local irreducible] Yd ap eu
structure bq where
 kind:Int
 a:Int
 b:Int
deriving DecidableEq
def bq.z:bq:=⟨0,0,0⟩
def aH(x:bq):List Value:=(Value.int .i64 x.kind::(Value.int .i64 x.a::(Value.int .i64 x.b::[])))
theorem UD: ∀x,∀v∈aH x,v.oneCell'=true:=fun x=>(bt rfl (bt rfl (bt rfl jQ)))
structure aC where
 value:Int
 first:Int
 last:Int
 forward:Bool
deriving DecidableEq
def aC.z:aC:=⟨0,0,0,false⟩
def bB(x:aC):List Value:=(Value.int .i64 x.value::(Value.int .i64 x.first::(Value.int .i64 x.last::(Value.bool x.forward::[]))))
theorem CC(x:aC):(bB x).length=4:=rfl
theorem qX: ∀x,∀v∈bB x,v.oneCell'=true:=fun x=>(bt rfl (bt rfl (bt rfl (bt rfl jQ))))
structure aa where
 value:Int
 write:Int
 from_:Int
 reads:List Int
 aq:aC
 counts:Bool
deriving DecidableEq
def aa.z:aa:=⟨0,0,0,[],aC.z,false⟩
def az(h:Hd)(x:aa):List Value:=(Value.int .i64 x.value::(Value.int .i64 x.write::(Value.int .i64 x.from_::(Value.slice h.1 x.reads.length h.2::(bB x.aq++(Value.bool x.counts::[]))))))
def aI(h:Hd)(x:aa):List Chunk:=[cR (eI .i64) 1 h.1 h.2 3 x.reads]
theorem ba(h:Hd)(x:aa):(az h x).length=9:=rfl
theorem ny(h:Hd)(x:aa): ∀v∈az h x,v.oneCell'=true:=(bt rfl (bt rfl (bt rfl (bt rfl (yb (qX _) (bt rfl jQ))))))
theorem rJ:Tryz.prog.cellsOf 4=0+1:=by kernel_rfl
theorem vN:Tryz.prog.cellsOf 131=2+1:=by kernel_rfl
theorem eZ:Tryz.prog.cellsOf 221=3+1:=by kernel_rfl
theorem jz:Tryz.prog.cellsOf 223=8+1:=by kernel_rfl
def UE:=gg Tryz.func86
def UF:=gg Tryz.func87
def UG:=gg Tryz.func88
def UH:=gg Tryz.func89
def UI:=gg Tryz.func90
def QP:=gg Tryz.func122
def QQ:=gg Tryz.func124
def QR:=gg Tryz.func125
def Ib:=gg Tryz.func126
theorem QS: ∃i,Tryz.prog.info? 131=some i∧i.zero=some (Value.agg #[(Value.int .i64 0),(Value.int .i64 0),(Value.int .i64 0)]):=⟨_,rfl,by kernel_rfl⟩
theorem QT: ∃i,Tryz.prog.info? 221=some i∧i.zero=some (Value.agg #[(Value.int .i64 0),(Value.int .i64 0),(Value.int .i64 0),(Value.bool false)]):=⟨_,rfl,by kernel_rfl⟩
theorem QU: ∃i,Tryz.prog.info? 223=some i∧i.zero=some (Value.agg #[(Value.int .i64 0),(Value.int .i64 0),(Value.int .i64 0),(Value.slice none 0 0),(Value.int .i64 0),(Value.int .i64 0),(Value.int .i64 0),(Value.bool false),(Value.bool false)]):=⟨_,rfl,by kernel_rfl⟩
@[reducible,instance] def abd:=CT.mk eZ
instance:FT Tryz.prog 223 4 4 221:=⟨_,Tryz.underlying223,rfl⟩
@[reducible,instance] def abe:=ZI.mk QU
@[reducible,instance] def abf:=UT.mk Tryz.underlying223
@[reducible,instance] def abg:=CT.mk jz
@[reducible,instance] def abh:=UT.mk Tryz.underlying178
instance:FT Tryz.prog 223 0 0 3:=⟨_,Tryz.underlying223,rfl⟩
@[reducible,instance] def c131:=CT.mk vN
instance:ON aH:=⟨UD⟩
@[reducible,instance] def z131:=ZI.mk QS
instance:FT Tryz.prog 131 0 0 3:=⟨_,Tryz.underlying131,rfl⟩
@[reducible,instance] def abi:=UT.mk Tryz.underlying131
@[reducible,instance] def c4:=CT.mk rJ
instance:FT Tryz.prog 223 5 8 4:=⟨_,Tryz.underlying223,rfl⟩
@[reducible,instance] def u4:=UT.mk Tryz.underlying4
instance:FT Tryz.prog 221 1 1 3:=⟨_,Tryz.underlying221,rfl⟩
instance:FT Tryz.prog 221 2 2 3:=⟨_,Tryz.underlying221,rfl⟩
@[reducible,instance] def abj:=UT.mk Tryz.underlying182
@[reducible,instance] def abk:=UT.mk Tryz.underlying221
instance:EN bB 4:=⟨CC⟩
instance:ON bB:=⟨qX⟩
@[reducible,instance] def abl:=ZI.mk QT
instance:FT Tryz.prog 221 3 3 4:=⟨_,Tryz.underlying221,rfl⟩
instance:FT Tryz.prog 221 0 0 3:=⟨_,Tryz.underlying221,rfl⟩
theorem WG: ∃i,Tryz.prog.info? 221=some i∧i.zero=some (Value.agg #[(Value.int .i64 0),(Value.int .i64 0),(Value.int .i64 0),(Value.bool false)])∧i.size=4:=⟨_,rfl,by kernel_rfl,by kernel_rfl⟩
theorem Jr: ∃i,Tryz.prog.info? 223=some i∧i.zero=some (Value.agg #[(Value.int .i64 0),(Value.int .i64 0),(Value.int .i64 0),(Value.slice none 0 0),(Value.int .i64 0),(Value.int .i64 0),(Value.int .i64 0),(Value.bool false),(Value.bool false)])∧i.size=9:=⟨_,rfl,by kernel_rfl,by kernel_rfl⟩
theorem WH: ∃i z,Tryz.prog.info? 221=some i∧i.zero=some z∧i.size=4∧i.bytes=32∧z.cells.size=4∧0 < 4:=⟨_,(Value.agg #[(Value.int .i64 0),(Value.int .i64 0),(Value.int .i64 0),(Value.bool false)]),rfl,by kernel_rfl,by kernel_rfl,by kernel_rfl,by kernel_rfl,by decide⟩
theorem O': ∃i z,Tryz.prog.info? 223=some i∧i.zero=some z∧i.size=9∧i.bytes=88∧z.cells.size=9∧0 < 9:=⟨_,(Value.agg #[(Value.int .i64 0),(Value.int .i64 0),(Value.int .i64 0),(Value.slice none 0 0),(Value.int .i64 0),(Value.int .i64 0),(Value.int .i64 0),(Value.bool false),(Value.bool false)]),rfl,by kernel_rfl,by kernel_rfl,by kernel_rfl,by kernel_rfl,by decide⟩
theorem bV:Shape Tryz.prog 131 [(0,1),(1,1),(2,1)] #[(Value.int .i64 0),(Value.int .i64 0),(Value.int .i64 0)]:=⟨_,_,Value.agg #[(Value.int .i64 0),(Value.int .i64 0),(Value.int .i64 0)],Tryz.underlying131,rfl,by kernel_rfl,rfl,by kernel_rfl,by decide⟩
theorem Ga:Shape Tryz.prog 221 [(0,1),(1,1),(2,1),(3,1)] #[(Value.int .i64 0),(Value.int .i64 0),(Value.int .i64 0),(Value.bool false)]:=⟨_,_,Value.agg #[(Value.int .i64 0),(Value.int .i64 0),(Value.int .i64 0),(Value.bool false)],Tryz.underlying221,rfl,by kernel_rfl,rfl,by kernel_rfl,by decide⟩
theorem Gb:Shape Tryz.prog 223 [(0,1),(1,1),(2,1),(3,1),(4,4),(8,1)] #[(Value.int .i64 0),(Value.int .i64 0),(Value.int .i64 0),(Value.slice none 0 0),(Value.int .i64 0),(Value.int .i64 0),(Value.int .i64 0),(Value.bool false),(Value.bool false)]:=⟨_,_,Value.agg #[(Value.int .i64 0),(Value.int .i64 0),(Value.int .i64 0),(Value.slice none 0 0),(Value.int .i64 0),(Value.int .i64 0),(Value.int .i64 0),(Value.bool false),(Value.bool false)],Tryz.underlying223,rfl,by kernel_rfl,rfl,by kernel_rfl,by decide⟩
def mf(N:Nat)(r7:((List Call)×Int×Int)):((List (Int×Bool))×Int)→Option (((List (Int×Bool))×Int) ⊕(Unit ⊕((List Call)×Int)))|(BO,v12)=>cond (decide (v12 < ((r7.1).length:Int))) (bd (ix r7.1 v12) fun de=>cond (decide (de.kind=1)) (cond ((cY BO de.arg).getD false) (some (.inr (.inr ([],6)))) (ck (aQ (v12+1)) <| some (.inl ((fM BO de.arg true),(v12+1))))) (ck (aQ (v12+1)) <| some (.inl (BO,(v12+1))))) (some (.inr (.inl ())))
def lf(N:Nat)(l1:(List Event)):Option ((List Call)×Int):=bd (bk N ([1]:List Int) l1) fun r7=>cond (!(decide (r7.2.2=0))) (some ([],r7.2.2)) (bd (α:=(Unit ⊕((List Call)×Int))) (iter (mf N r7) N (([]:List (Int×Bool)),0)) <| Sum.elim (fun _=>some (r7.1,0)) (fun p=>some p))
theorem CD{N l1 res}(hF:lf N l1=some res)(w:World){v5}(hs4:aP aR 4 w v5 l1):Made Tryz.prog 86 [v5] w (fun g:(Option Addr×Nat)=>.tuple #[.slice g.1 (res.1).length g.2,.int .i64 res.2]) (fun g=>[cR ak 7 g.1 g.2 162 res.1]) (fun g=>True):=by
 obtain⟨A2,c3,rfl,g9,hs4⟩:=hs4.form;refine We 39 Tryz.func86 (St.start w) fun R hR=>?_;refine a_ ?_;refine WL.step (WO.bA (enc:=(eI .i64)) (ys:=([1]:List Int)) Tryz.underlying29 qv (.cons (.pl rfl) (.nil)) rfl (fun _=>rfl) rfl rfl (by decide) (by decide) rfl fun b6=>?_);obtain⟨r7,pN,hF⟩:=aj hF;refine a_ ?_;refine kM rh (v2 rfl rfl) (fun wz hw=>eY pN wz (so hw) (hs4.mono hw)) ?_;rintro⟨A8,c9⟩ -;refine a_ ?_;refine Wc hF (fun dG hF=>?_) (fun dG hF=>?_)
 ·obtain rfl:=oi hF;refine a_ ?_;exact rG (none,0)
 ·refine a_ ?_;refine WL.step (WO.I2 Value.bool rfl fun mH=>?_);obtain⟨o8,kZ,hF⟩:=aj hF;refine b_ ?_;refine W.dR [] [cR ak 7 A8 c9 162 r7.1] ((.inl ())=o8) (lr 4) (fun K9 ut=>?_) ?_
  ·refine a_ ?_;refine ve kZ (fun a b=>[(23,.int .i64 b)]) (fun a b=>[cR ak 7 A8 c9 162 r7.1,cM Value.bool (some mH) a]) (lI 4 7 21 22) fun BO v12 Tl t11 aA lj rk di=>?_;refine a_ ?_;refine Wc aA (fun m7 aA=>?_) (fun m7 aA=>?_)
   ·obtain⟨de,pi,aA⟩:=aj aA;refine a_ ?_;refine mA fun gr=>?_;refine a_ ?_;refine Wc aA (fun pg aA=>?_) (fun pg aA=>?_)
    ·refine a_ ?_;refine WL.q (Y.cY (f:=Value.bool) (dv:=false) Tryz.underlying219 Tryz.underlying3 Ji (.pl rfl) (.pl rfl) (i:=2) rfl) rfl ?_;refine a_ ?_;refine Wc aA (fun vi aA=>?_) (fun vi aA=>?_)
     ·obtain rfl:=oi aA;obtain rfl:=dC lj;obtain rfl:=oi hF;refine a_ ?_;exact rG (none,0)
     ·refine a_ ?_;refine WL.step (WO.Mf (f:=Value.bool) (a:=true) Tryz.underlying219 Tryz.underlying3 (.pl rfl) (.pl rfl) (.pl rfl) (i:=2) rfl ?_);obtain⟨Gc,aA⟩:=aW aA;refine a_ ?_;exact g2 di (oj aA lj)
    ·obtain⟨Ge,aA⟩:=aW aA;refine a_ ?_;exact g2 di (oj aA lj)
   ·refine a_ ?_;exact h0 ut (oj aA lj)
  ·rintro rfl;obtain rfl:=oi hF;refine a_ ?_;exact rG (A8,c9)
def UJ:Go.Shelf.Ren:=⟨fun x=>match x with|6=>122|14=>158|15=>159|20=>180|21=>181|22=>182|23=>183|24=>184|25=>185|26=>186|27=>187|28=>188|29=>176|46=>205|47=>206|48=>207|49=>208|50=>209|57=>224|n=>n,fun x=>match x with|0=>0|3=>3|4=>4|5=>5|9=>9|22=>178|24=>223|25=>226|39=>176|45=>288|46=>289|50=>158|53=>255|55=>263|66=>312|70=>316|76=>331|77=>332|n=>n,fun x=>x⟩
theorem QV:SlLaysF0.n6 Tryz.prog UJ where
 mixed:=by kernel_rfl
 f6:=⟨Tryz.f122.name,by kernel_rfl,Tryz.func122.trans (congrArg some (by kernel_rfl))⟩
 f14:=⟨Tryz.f158.name,by kernel_rfl,Tryz.func158.trans (congrArg some (by kernel_rfl))⟩
 f15:=Tryz.func159.trans (congrArg some (by kernel_rfl))
 f20:=⟨Tryz.f180.name,by kernel_rfl,Tryz.func180.trans (congrArg some (by kernel_rfl))⟩
 f21:=⟨Tryz.f181.name,by kernel_rfl,Tryz.func181.trans (congrArg some (by kernel_rfl))⟩
 f22:=⟨Tryz.f182.name,by kernel_rfl,Tryz.func182.trans (congrArg some (by kernel_rfl))⟩
 f23:=⟨Tryz.f183.name,by kernel_rfl,Tryz.func183.trans (congrArg some (by kernel_rfl))⟩
 f24:=⟨Tryz.f184.name,by kernel_rfl,Tryz.func184.trans (congrArg some (by kernel_rfl))⟩
 f25:=⟨Tryz.f185.name,by kernel_rfl,Tryz.func185.trans (congrArg some (by kernel_rfl))⟩
 f26:=⟨Tryz.f186.name,by kernel_rfl,Tryz.func186.trans (congrArg some (by kernel_rfl))⟩
 f27:=⟨Tryz.f187.name,by kernel_rfl,Tryz.func187.trans (congrArg some (by kernel_rfl))⟩
 f28:=Tryz.func188.trans (congrArg some (by kernel_rfl))
 f29:=Tryz.func176.trans (congrArg some (by kernel_rfl))
 f46:=⟨Tryz.f205.name,by kernel_rfl,Tryz.func205.trans (congrArg some (by kernel_rfl))⟩
 f47:=Tryz.func206.trans (congrArg some (by kernel_rfl))
 f48:=Tryz.func207.trans (congrArg some (by kernel_rfl))
 f49:=⟨Tryz.f208.name,by kernel_rfl,Tryz.func208.trans (congrArg some (by kernel_rfl))⟩
 f50:=⟨Tryz.f209.name,by kernel_rfl,Tryz.func209.trans (congrArg some (by kernel_rfl))⟩
 f57:=⟨Tryz.f224.name,by kernel_rfl,Tryz.func224.trans (congrArg some (by kernel_rfl))⟩
 t0:=Tryz.underlying0
 a0:=Tryz.isAgg0
 z0:=Tryz.sizeOf0
 v0:=Tryz.zeroValue0
 t3:=Tryz.underlying3
 a3:=Tryz.isAgg3
 z3:=Tryz.sizeOf3
 v3:=Tryz.zeroValue3
 t4:=Tryz.underlying4
 a4:=Tryz.isAgg4
 z4:=Tryz.sizeOf4
 v4:=Tryz.zeroValue4
 t5:=Tryz.underlying5
 a5:=Tryz.isAgg5
 z5:=Tryz.sizeOf5
 v5:=Tryz.zeroValue5
 t9:=Tryz.underlying9
 a9:=Tryz.isAgg9
 z9:=Tryz.sizeOf9
 v9:=Tryz.zeroValue9
 t22:=Tryz.underlying178
 a22:=Tryz.isAgg178
 z22:=Tryz.sizeOf178
 v22:=Tryz.zeroValue178
 t25:=Tryz.underlying226
 a25:=Tryz.isAgg226
 z25:=Tryz.sizeOf226
 v25:=Tryz.zeroValue226
 t39:=Tryz.underlying176
 a39:=Tryz.isAgg176
 z39:=Tryz.sizeOf176
 v39:=Tryz.zeroValue176
 t45:=Tryz.underlying288
 a45:=Tryz.isAgg288
 z45:=Tryz.sizeOf288
 v45:=Tryz.zeroValue288
 t46:=Tryz.underlying289
 a46:=Tryz.isAgg289
 z46:=Tryz.sizeOf289
 v46:=Tryz.zeroValue289
 t50:=Tryz.underlying158
 a50:=Tryz.isAgg158
 z50:=Tryz.sizeOf158
 v50:=Tryz.zeroValue158
 t53:=Tryz.underlying255
 a53:=Tryz.isAgg255
 z53:=Tryz.sizeOf255
 v53:=Tryz.zeroValue255
 t55:=Tryz.underlying263
 a55:=Tryz.isAgg263
 z55:=Tryz.sizeOf263
 v55:=Tryz.zeroValue263
 t66:=Tryz.underlying312
 a66:=Tryz.isAgg312
 z66:=Tryz.sizeOf312
 v66:=Tryz.zeroValue312
 t70:=Tryz.underlying316
 a70:=Tryz.isAgg316
 z70:=Tryz.sizeOf316
 v70:=Tryz.zeroValue316
 t76:=Tryz.underlying331
 a76:=Tryz.isAgg331
 z76:=Tryz.sizeOf331
 v76:=Tryz.zeroValue331
 t77:=Tryz.underlying332
 a77:=Tryz.isAgg332
 z77:=Tryz.sizeOf332
 v77:=Tryz.zeroValue332
theorem UK(x:Int)(w:World):Calls Tryz.prog 148 #[.int .i64 x] w fun e w'=>e= .returned (.bool false)∧w'=w:=by
 go_enter Tryz.func148,Tryz.ntmps148
 go_wp2
 go_ret
 exact⟨by simp,rfl⟩
theorem UL(x y:Int)(w:World):Calls Tryz.prog 114 #[.int .i64 x,.int .i64 y] w fun e w'=>e= .returned (.int .i64 (Go.Lib.compareInt x y))∧w'=w:=by
 go_enter Tryz.func114,Tryz.ntmps114
 go_wp2_with (go_at_call 148;refine(UK _ _).mono ?_;rintro e w' ⟨rfl,hw⟩;rw[hw])
 all_goals (go_ret;refine⟨?_,rfl⟩;unfold Go.Lib.compareInt;(repeat' split)<;>first|rfl|(exfalso;omega))
theorem ou(x y:Int):Go.Lib.compareInt x y < 0↔x < y:=by
 unfold Go.Lib.compareInt
 split
 ·omega
 ·split<;>omega
def nz:aa→Bool:=fun x=>true
instance:Inhabited (dK nz):=⟨⟨aa.z,rfl⟩⟩
abbrev pu:aa→aa→Int:=fun a b=>Go.Lib.compareInt a.value b.value
theorem zw:Go.Sort.SWO (ltOf fun a b:dK nz=>pu a.1 b.1):=by
 refine⟨fun x=>?_,fun x y z h1 h2=>?_,fun x y z h1 h2=>?_⟩
 ·exact decide_eq_false (by rw[ou];omega)
 ·have h1:x.1.value < y.1.value:=(ou _ _).1 (of_decide_eq_true h1)
  have h2:y.1.value < z.1.value:=(ou _ _).1 (of_decide_eq_true h2)
  exact decide_eq_true ((ou x.1.value z.1.value).2 (by omega))
 ·have h1: ¬x.1.value < y.1.value:=fun h=>(of_decide_eq_false h1) ((ou _ _).2 h)
  have h2: ¬y.1.value < z.1.value:=fun h=>(of_decide_eq_false h2) ((ou _ _).2 h)
  exact decide_eq_false (fun h=>by have h:x.1.value < z.1.value:=(ou _ _).1 h;omega)
theorem G_(h h':Hd)(x y:aa)(hx:nz x=true)(hy:nz y=true)(W:World):Calls Tryz.prog 123 #[.agg (az h x).toArray,.agg (az h' y).toArray] W fun e w'=>e= .returned (.int .i64 (pu x y))∧∃q os',w'=Go.Sort.grow (W.drewN q) os':=by
 obtain⟨a1,a2,a3,a4,⟨a5,a6,a7,a8⟩,a9⟩:=x
 obtain⟨b1,b2,b3,b4,⟨b5,b6,b7,b8⟩,b9⟩:=y
 have UM:=fun W'=>UL a1 b1 W'
 show Calls Tryz.prog 123 #[.agg #[.int .i64 a1,.int .i64 a2,.int .i64 a3,.slice h.1 a4.length h.2,.int .i64 a5,.int .i64 a6,.int .i64 a7,.bool a8,.bool a9],.agg #[.int .i64 b1,.int .i64 b2,.int .i64 b3,.slice h'.1 b4.length h'.2,.int .i64 b5,.int .i64 b6,.int .i64 b7,.bool b8,.bool b9]] W fun e w'=>e= .returned (.int .i64 (Go.Lib.compareInt a1 b1))∧∃q os',w'=Go.Sort.grow (W.drewN q) os'
 generalize Go.Lib.compareInt a1 b1=r at UM⊢
 go_enter Tryz.func123,Tryz.ntmps123
 go_wp2_with (go_at_call 114;refine(UM _).mono ?_;rintro e w' ⟨rfl,rfl⟩)
 go_ret
 exact⟨rfl,0,_,by rw[Go.Sort.alloc_eq_grow,Go.Sort.alloc_eq_grow,Go.Sort.grow_grow];rfl⟩
def uI(N:Nat)(xs:List aa):Option (List aa):=BM nz pu xs
theorem Js{N:Nat}{h_:(List aa)}{k8:Option Addr}{jV:Nat}{hI6:List Hd}{res:(List aa)}(hF:uI N h_=some res){w0 w:World}{T:List Chunk}(hw:St w0.heap.size w0 (cN az aI 9 k8 jV 223 hI6 h_::T) w):
  Calls Tryz.prog 122 (List.toArray [.slice k8 (h_).length jV,.func (.func 123) #[] #[]]) w (fun e w'=>∃g:List Hd,((res).length=(h_).length)∧e= .returned (.tuple #[])∧St w0.heap.size w0 (cN az aI 9 k8 jV 223 g res::T) w'):=
 G9 QV Tryz.isAgg223 Tryz.sizeOf223 ba ny zw (enters_of Tryz.func123 (by kernel_rfl) rfl) G_ hF hw
def gt(N:Nat)(c1:(List Call)):((List aa)×Int)→Option (((List aa)×Int) ⊕(List aa))|(gi,cW)=>cond (decide (cW < ((c1).length:Int))) (bd (ix c1 cW) fun bC=>cond (!(decide (bC.kind=1))) (ck (aQ (cW+1)) <| some (.inl (gi,(cW+1)))) (cond (decide (bC.au=(-1))) (ck (dh 88 ((gi).length+(([(aa.mk bC.arg cW bC.from_ [] (aC.mk bC.arg 200 bC.from_ false) (!(decide (bC.au=(-1)))))]:List aa)).length)) <| ck (aQ (cW+1)) <| some (.inl ((gi++([(aa.mk bC.arg cW bC.from_ [] (aC.mk bC.arg 200 bC.from_ false) (!(decide (bC.au=(-1)))))]:List aa)),(cW+1)))) (ck (dh 88 ((gi).length+(([(aa.mk bC.arg cW bC.from_ [] (aC.mk bC.arg bC.au bC.from_ false) (!(decide (bC.au=(-1)))))]:List aa)).length)) <| ck (aQ (cW+1)) <| some (.inl ((gi++([(aa.mk bC.arg cW bC.from_ [] (aC.mk bC.arg bC.au bC.from_ false) (!(decide (bC.au=(-1)))))]:List aa)),(cW+1)))))) (some (.inr gi))
def jm(N:Nat)(c1:(List Call))(bJ:Int):((List aa)×Int)→Option (((List aa)×Int) ⊕(List aa))|(ff,bT)=>cond (decide (bT < ((c1).length:Int))) (bd (ix c1 bT) fun gJ=>bd ((cond (((decide (gJ.kind=2))&&(!(decide (gJ.au=(-1)))))==true) (ix ff bJ) (some aa.z))) fun BP=>cond (((decide (gJ.kind=2))&&(!(decide (gJ.au=(-1)))))&&(decide (gJ.res=BP.value))) (bd (ix ff bJ) fun bU=>ck (dh 8 ((bU.reads).length+(([bT]:List Int)).length)) <| bd (ix ff bJ) fun ao=>bd (ix (ff.set bJ.toNat (aa.mk ao.value ao.write ao.from_ (bU.reads++([bT]:List Int)) ao.aq ao.counts)) bJ) fun x52=>bd (ix ((ff.set bJ.toNat (aa.mk ao.value ao.write ao.from_ (bU.reads++([bT]:List Int)) ao.aq ao.counts)).set bJ.toNat (aa.mk ao.value ao.write ao.from_ (bU.reads++([bT]:List Int)) ao.aq true)) bJ) fun x53=>bd (ix ((ff.set bJ.toNat (aa.mk ao.value ao.write ao.from_ (bU.reads++([bT]:List Int)) ao.aq ao.counts)).set bJ.toNat (aa.mk ao.value ao.write ao.from_ (bU.reads++([bT]:List Int)) ao.aq true)) bJ) fun x54=>bd (ix ((ff.set bJ.toNat (aa.mk ao.value ao.write ao.from_ (bU.reads++([bT]:List Int)) ao.aq ao.counts)).set bJ.toNat (aa.mk ao.value ao.write ao.from_ (bU.reads++([bT]:List Int)) ao.aq true)) bJ) fun x55=>bd (ix (((ff.set bJ.toNat (aa.mk ao.value ao.write ao.from_ (bU.reads++([bT]:List Int)) ao.aq ao.counts)).set bJ.toNat (aa.mk ao.value ao.write ao.from_ (bU.reads++([bT]:List Int)) ao.aq true)).set bJ.toNat (aa.mk ao.value ao.write ao.from_ (bU.reads++([bT]:List Int)) (aC.mk ao.aq.value (min ao.aq.first gJ.au) ao.aq.last ao.aq.forward) true)) bJ) fun x56=>ck (aQ (bT+1)) <| some (.inl (((((ff.set bJ.toNat (aa.mk ao.value ao.write ao.from_ (bU.reads++([bT]:List Int)) ao.aq ao.counts)).set bJ.toNat (aa.mk ao.value ao.write ao.from_ (bU.reads++([bT]:List Int)) ao.aq true)).set bJ.toNat (aa.mk ao.value ao.write ao.from_ (bU.reads++([bT]:List Int)) (aC.mk ao.aq.value (min ao.aq.first gJ.au) ao.aq.last ao.aq.forward) true)).set bJ.toNat (aa.mk ao.value ao.write ao.from_ (bU.reads++([bT]:List Int)) (aC.mk ao.aq.value (min ao.aq.first gJ.au) (max ao.aq.last gJ.from_) ao.aq.forward) true)),(bT+1)))) (ck (aQ (bT+1)) <| some (.inl (ff,(bT+1))))) (some (.inr ff))
def jo(N:Nat)(Gf:(List aa))(c1:(List Call)):((List aa)×Int)→Option (((List aa)×Int) ⊕(List aa))|(Eh,bJ)=>cond (decide (bJ < ((Gf).length:Int))) (bd (α:=(List aa)) (bd (ix Eh bJ) fun rK=>bd (α:=(List aa)) (iter (jm N c1 bJ) N (Eh,0)) <| fun yR=>bd (ix yR bJ) fun xn=>bd (ix yR bJ) fun xo=>bd (ix yR bJ) fun iO=>some (yR.set bJ.toNat (aa.mk iO.value iO.write iO.from_ iO.reads (aC.mk iO.aq.value iO.aq.first iO.aq.last (decide (xn.aq.first < xo.aq.last))) iO.counts))) <| fun yK=>ck (aQ (bJ+1)) <| some (.inl (yK,(bJ+1)))) (some (.inr Eh))
def fY(N:Nat)(c1:(List Call)):Option (List aa):=bd (α:=(List aa)) (iter (gt N c1) N (([(aa.mk 0 (-1) (-1) [] (aC.mk 0 (-1) (-1) false) false)]:List aa),0)) <| fun Gf=>bd (α:=(List aa)) (iter (jo N Gf c1) N (Gf,0)) <| fun Jt=>bd (uI N Jt) fun r64=>some r64
theorem zb{N c1 res}(hF:fY N c1=some res)(w:World){v5}(hs4:aP ak 7 w v5 c1):Made Tryz.prog 87 [v5] w (fun g:(Option Addr×Nat×List Hd)=>.slice g.1 (res).length g.2.1) (fun g=>[cN az aI 9 g.1 g.2.1 223 g.2.2 res]) (fun g=>True):=by
 obtain⟨A2,c3,rfl,g9,hs4⟩:=hs4.form;refine We 140 Tryz.func87 (St.start w) fun R hR=>?_;refine a_ ?_;refine WL.q (Y.build (cs:=(bB (aC.mk 0 (-1) (-1) false)).toArray) Ga (.cons (.pl rfl) (.cons (.pl rfl) (.nil))) (aX ⟨rfl,⟨rfl,trivial⟩⟩) rfl) rfl ?_;refine WL.q (Y.Kl (cs:=(Value.int .i64 0::(Value.int .i64 (-1)::(Value.int .i64 (-1)::(Value.slice none 0 0::((bB (aC.mk 0 (-1) (-1) false))++(Value.bool false::[])))))).toArray) Gb (.cons (.pl rfl) (.cons (.pl rfl) (.cons (.pl rfl) (.nil)))) (by kernel_rfl)) rfl ?_;refine WL.step (WO.yr (enc:=az) (bb:=aI) (hs:=([((none,0):Hd)]:List Hd)) (xs:=([(aa.mk 0 (-1) (-1) [] (aC.mk 0 (-1) (-1) false) false)]:List aa)) Tryz.underlying178 Jr (.cons (.pl rfl) (.nil)) rfl rfl rfl rfl rfl ba (by decide) (by decide) (.trans (.kw (eI .i64) 1 3) (.pick [0] rfl)) rfl fun b6=>?_);obtain⟨o3,ey,hF⟩:=aj hF;refine b_ ?_;refine W.u' (fun a b c d=>[(3,.slice b (a).length c)]) (fun a b c d=>[cN az aI 9 b c 223 d a]) (fun a b c d=>a=o3) (lr 0) (fun K4 ko=>?_) ?_
 ·refine a_ ?_;refine Mm ey (fun a b c d f=>[(3,.slice c (a).length d),(16,.int .i64 b)]) (fun a b c d f=>[cN az aI 9 c d 223 f a]) (gx 0 14 15) fun gi cW bH c12 cr k6 t6 aJ ec K7 jb=>?_;refine a_ ?_;refine Wc aJ (fun iI aJ=>?_) (fun iI aJ=>?_)
  ·obtain⟨bC,xh,aJ⟩:=aj aJ;refine a_ ?_;refine mA fun Bn=>?_;refine a_ ?_;refine Wc aJ (fun m7 aJ=>?_) (fun m7 aJ=>?_)
   ·obtain⟨Ai,aJ⟩:=aW aJ;refine a_ ?_;exact g5 jb (oj aJ ec)
   ·refine a_ ?_;refine WL.q (Y.build (cs:=(Value.int .i64 bC.arg::(Value.int .i64 cW::(Value.int .i64 bC.from_::(Value.slice none 0 0::((bB (aC.mk 0 0 0 false))++(Value.bool (!(decide (bC.au=(-1))))::[])))))).toArray) Gb (.cons (.pl rfl) (.cons (.pl rfl) (.cons (.pl rfl) (.cons (.pl rfl) (.nil))))) (aX ⟨rfl,⟨rfl,⟨rfl,⟨rfl,trivial⟩⟩⟩⟩) rfl) rfl ?_;refine mA fun bZ=>?_;refine WL.step (WO.mc (ds:=(Value.int .i64 bC.arg::(Value.int .i64 cW::(Value.int .i64 bC.from_::(Value.slice none 0 0::((bB (aC.mk 0 0 0 false))++(Value.bool (!(decide (bC.au=(-1))))::[]))))))) (cs':=(Value.int .i64 bC.arg::(Value.int .i64 cW::(Value.int .i64 bC.from_::(Value.slice none 0 0::((bB (aC.mk 0 0 0 false))++(Value.bool (!(decide (bC.au=(-1))))::[]))))))) jz (.pl rfl) (.pl rfl) rfl (bt rfl (bt rfl (bt rfl (bt rfl (yb (qX _) (bt rfl jQ)))))) (i:=0) rfl (Dc (o:=0) (l:=9) (m:=9) (by decide) rfl rfl) (wS rfl) ?_);refine a_ ?_;refine WL.q (Y.build (cs:=(bB (aC.mk bC.arg bC.au bC.from_ false)).toArray) Ga (.cons (.pl rfl) (.cons (.pl rfl) (.cons (.pl rfl) (.nil)))) (aX ⟨rfl,⟨rfl,⟨rfl,trivial⟩⟩⟩) rfl) rfl ?_;refine a_ ?_;refine WL.step (WO.mc (ds:=(bB (aC.mk bC.arg bC.au bC.from_ false))) (cs':=(Value.int .i64 bC.arg::(Value.int .i64 cW::(Value.int .i64 bC.from_::(Value.slice none 0 0::((bB (aC.mk bC.arg bC.au bC.from_ false))++(Value.bool (!(decide (bC.au=(-1))))::[]))))))) eZ (.pl rfl) (.pl rfl) rfl (qX _) (i:=0) rfl (Dc (l:=4) (m:=9) (by decide) rfl rfl) (Kg (a:=(Value.int .i64 bC.arg::(Value.int .i64 cW::(Value.int .i64 bC.from_::(Value.slice none 0 0::[]))))) (b:=(bB (aC.mk 0 0 0 false))) (c:=(Value.bool (!(decide (bC.au=(-1))))::[])) (ds:=(bB (aC.mk bC.arg bC.au bC.from_ false))) rfl rfl) ?_);refine a_ ?_;refine Wc aJ (fun vh aJ=>?_) (fun vh aJ=>?_)
    ·refine a_ ?_;refine WL.q (Y.fieldAddr (off:=1) (ft:=3) Tryz.underlying221 rfl bp (.pl rfl)) rfl ?_;refine WL.step (WO.dD (cs':=(Value.int .i64 bC.arg::(Value.int .i64 cW::(Value.int .i64 bC.from_::(Value.slice none 0 0::((bB (aC.mk bC.arg 200 bC.from_ false))++(Value.bool (!(decide (bC.au=(-1))))::[]))))))) bp (.pl rfl) (.pl rfl) rfl (i:=0) rfl (kX (m:=9) (by decide) rfl) (rfl) ?_);refine a_ ?_;refine WL.step (WO.yr (enc:=az) (bb:=aI) (hs:=([((none,0):Hd)]:List Hd)) (xs:=([(aa.mk bC.arg cW bC.from_ [] (aC.mk bC.arg 200 bC.from_ false) (!(decide (bC.au=(-1)))))]:List aa)) Tryz.underlying178 Jr (.cons (.pl rfl) (.nil)) rfl rfl rfl rfl rfl ba (by decide) (by decide) (.trans (.kw (eI .i64) 1 3) (.pick [0,1,2,3] rfl)) rfl fun XQ=>?_);obtain⟨Ju,aJ⟩:=aW aJ;refine WL.step (WO.Ce (enc:=az) (bb:=aI) (hs:=cr) Tryz.underlying178 O' ba ny (.pl rfl) rfl (.pl rfl) (i:=2) rfl (Ju) rfl fun Lt c22=>?_);obtain⟨z_,aJ⟩:=aW aJ;refine a_ ?_;exact g5 jb (oj aJ ec)
    ·refine a_ ?_;refine WL.step (WO.yr (enc:=az) (bb:=aI) (hs:=([((none,0):Hd)]:List Hd)) (xs:=([(aa.mk bC.arg cW bC.from_ [] (aC.mk bC.arg bC.au bC.from_ false) (!(decide (bC.au=(-1)))))]:List aa)) Tryz.underlying178 Jr (.cons (.pl rfl) (.nil)) rfl rfl rfl rfl rfl ba (by decide) (by decide) (.trans (.kw (eI .i64) 1 3) (.pick [0,1,2,3] rfl)) rfl fun XR=>?_);obtain⟨CB,aJ⟩:=aW aJ;refine WL.step (WO.Ce (enc:=az) (bb:=aI) (hs:=cr) Tryz.underlying178 O' ba ny (.pl rfl) rfl (.pl rfl) (i:=2) rfl (CB) rfl fun FQ FR=>?_);obtain⟨Jp,aJ⟩:=aW aJ;refine a_ ?_;exact g5 jb (oj aJ ec)
  ·refine a_ ?_;exact h4 ko (oj aJ ec)
 ·rintro Gf A7 c8 abm rfl;obtain⟨UN,fC,hF⟩:=aj hF;refine W.qI (fun a b=>[(3,.slice A7 (a).length c8)]) (fun a b=>[cN az aI 9 A7 c8 223 b a]) (fun a b=>a=UN) (.nil) (fun XS CE=>?_) ?_
  ·refine a_ ?_;refine Ml fC (fun a b c=>[(3,.slice A7 (a).length c8),(53,.int .i64 b)]) (fun a b c=>[cN az aI 9 A7 c8 223 c a]) (mD 0 52) fun Eh bJ abn k30 t30 hZ CF K31 Jv=>?_;refine a_ ?_;refine Wc hZ (fun M7 hZ=>?_) (fun M7 hZ=>?_)
   ·obtain⟨o35,eD,hZ⟩:=aj hZ;refine b_ ?_;refine W.qI (fun a b=>[(3,.slice A7 (a).length c8)]) (fun a b=>[cN az aI 9 A7 c8 223 b a]) (fun a b=>a=o35) (gx 0 52 53) (fun K36 Jw=>?_) ?_
    ·obtain⟨rK,Jx,eD⟩:=aj eD;refine a_ ?_;refine WL.q (Y.AX Tryz.underlying178 jz (i:=0) rfl (.pl rfl) rfl (.pl rfl) (aK (Jx))) rfl ?_;obtain⟨o39,ZB,eD⟩:=aj eD;refine b_ ?_;refine W.qI (fun a b=>[(3,.slice A7 (a).length c8)]) (fun a b=>[cN az aI 9 A7 c8 223 b a]) (fun a b=>a=o39) (lI 0 8 52 53) (fun K40 ZC=>?_) ?_
     ·refine a_ ?_;refine Ml ZB (fun a b c=>[(3,.slice A7 (a).length c8),(61,.int .i64 b)]) (fun a b c=>[cN az aI 9 A7 c8 223 c a]) (wX 0 8 52 53 59 60) fun ff bT CG XT t42 dW Jy K43 M8=>?_;refine a_ ?_;refine Wc dW (fun M9 dW=>?_) (fun M9 dW=>?_)
      ·obtain⟨gJ,abo,dW⟩:=aj dW;refine a_ ?_;refine mA fun b44=>?_;refine b_ ?_;refine W.mw (by kernel_rfl) (by kernel_rfl) fun R49 ZD=>?_;refine Dq yf ?_;refine Dq lH ?_;refine Dq ye ?_;refine Dq ym ?_;refine Dg wW ?_;refine Dg s9 ?_;refine Dg SY ?_;refine Dq yd ?_;refine Dq ym ?_;refine Dg wW ?_;refine Dg s9 ?_;refine Dg zl ?_;refine Dg Df ?_;obtain⟨BP,UO,dW⟩:=aj dW;refine WD.g (.pl rfl rfl rfl) (fun hg=>Y.lG (off:=0) (ft:=3) Tryz.underlying223 rfl bp (i':=1) rfl (aK (eC hg UO)) (.gd (hg) rfl)) rfl ?_;refine WD.g (.pl rfl rfl rfl) (fun hg=>Y.mT (enc:=az) (h0:=((none,0):Hd)) (v:=.int .i64 BP.value) (a:=(aa.mk BP.value BP.write BP.from_ BP.reads BP.aq BP.counts)) (idx:=bJ) (j:=0) Tryz.underlying3 rfl ba (i:=1) rfl (.gd (hg) rfl) (bx (eC hg UO)) rfl rfl) rfl ?_;refine Dg Y1 ?_;refine Dq yd ?_;refine WD.next ZD (EU 0 3 8 9 10 52 53 59 60 61 82) ?_;refine Wc dW (fun ZE dW=>?_) (fun ZE dW=>?_)
       ·obtain⟨bU,M_,dW⟩:=aj dW;refine a_ ?_;refine WL.q (Y.lG (off:=3) (ft:=29) Tryz.underlying223 rfl je (i':=1) rfl (aK (M_)) (.pl rfl)) rfl ?_;refine WL.q (Y.mT (enc:=az) (h0:=((none,0):Hd)) (v:=.slice (CG.getD bJ.toNat ((none,0):Hd)).1 (bU.reads).length (CG.getD bJ.toNat ((none,0):Hd)).2) (a:=(aa.mk bU.value bU.write bU.from_ bU.reads bU.aq bU.counts)) (idx:=bJ) (j:=3) Tryz.underlying29 rfl ba (i:=1) rfl (.pl rfl) (bx (M_)) rfl rfl) rfl ?_;refine a_ ?_;refine WL.step (WO.bA (enc:=(eI .i64)) (ys:=([bT]:List Int)) Tryz.underlying29 qv (.cons (.pl rfl) (.nil)) rfl (fun _=>rfl) rfl rfl (by decide) (by decide) rfl fun b47=>?_);refine WL.AW (bc.hole (h0:=((none,0):Hd)) (i:=2) rfl (bx (M_))) ?_;obtain⟨MR,dW⟩:=aW dW;refine WL.step (WO.d4 (enc:=(eI .i64)) Tryz.underlying29 Dn (fun _=>rfl) q7 (.pl rfl) rfl (.pl rfl) (i:=0) rfl (m2:=2) rfl (MR) rfl fun Bw c49=>?_);obtain⟨ao,UQ,dW⟩:=aj dW;refine a_ ?_;refine WL.q (Y.SP (off:=3) (ft:=29) Tryz.underlying223 rfl je (i':=1) rfl (aK (UQ)) (.pl rfl)) rfl ?_;refine WL.step (WO.EP (enc:=az) (bb:=aI) (h0:=((none,0):Hd)) (h':=((Bw,c49):Hd)) (a:=ao) (a':=(aa.mk ao.value ao.write ao.from_ (bU.reads++([bT]:List Int)) ao.aq ao.counts)) (idx:=bJ) (j:=3) je (.pl rfl) (.pl rfl) rfl ba (i:=1) rfl (bx (UQ)) rfl (by decide) rfl (.pick [0,1,2] rfl) ?_);obtain⟨x52,Na,dW⟩:=aj dW;refine a_ ?_;refine WL.q (Y.lG (off:=8) (ft:=4) Tryz.underlying223 rfl rJ (i':=0) rfl (aK (Na)) (.pl rfl)) rfl ?_;refine WL.step (WO.qT (enc:=az) (bb:=aI) (h0:=((none,0):Hd)) (a:=(aa.mk ao.value ao.write ao.from_ (bU.reads++([bT]:List Int)) ao.aq ao.counts)) (a':=(aa.mk ao.value ao.write ao.from_ (bU.reads++([bT]:List Int)) ao.aq true)) (idx:=bJ) (j:=8) rJ (.pl rfl) (.pl rfl) rfl ba (i:=0) rfl (mC (⟨(aK (Na)).1,by simpa only[List.length_set]using(aK (Na)).2⟩)) rfl (by decide) rfl rfl ?_);refine b_ ?_;refine W.IW (fun wz hw=>SV hw (i:=0) rfl) (fun mV=>?_);refine W.V_ 25 [1,2] (by kernel_rfl) ?_;refine Xp 0 rfl (fun _ _=>ym) ?_;refine Xp 1 rfl (fun _ _=>ym) ?_;refine Xp 2 rfl (fun _ _=>ym) ?_;refine Xp 3 rfl (fun _ _=>yc) ?_;obtain⟨x53,CH,dW⟩:=aj dW;refine Xt 4 rfl (Y.jd (off:=4) (ft:=221) Tryz.underlying223 rfl eZ mV (by have:=(aK (CH));omega) (.pl rfl)) ?_ (fun _ hw=>hw.pick [1,2] rfl);refine Xt 5 rfl (Y.jd (off:=1) (ft:=3) Tryz.underlying221 rfl bp mV (by have:=(aK (CH));omega) (.pl rfl)) ?_ (fun _ hw=>hw.pick [1,2] rfl);refine Xp 7 rfl (fun _ _=>yf) ?_;refine Xt 8 rfl (sA) ?_ (fun _ hw=>hw.pick [1,2] rfl);refine Xp 10 rfl (fun _ _=>ym) ?_;refine Xp 11 rfl (fun _ _=>yc) ?_;obtain⟨x54,CI,dW⟩:=aj dW;refine Xt 12 rfl (Y.jd (off:=4) (ft:=221) Tryz.underlying223 rfl eZ mV (by have:=(aK (CI));omega) (.pl rfl)) ?_ (fun _ hw=>hw.pick [1,2] rfl);refine Xt 13 rfl (Y.jd (off:=2) (ft:=3) Tryz.underlying221 rfl bp mV (by have:=(aK (CI));omega) (.pl rfl)) ?_ (fun _ hw=>hw.pick [1,2] rfl);refine Xp 15 rfl (fun _ _=>yf) ?_;refine Xt 16 rfl (sA) ?_ (fun _ hw=>hw.pick [1,2] rfl);obtain⟨x55,xp,dW⟩:=aj dW;obtain⟨x56,xq,dW⟩:=aj dW;refine WX.branch [6,14] (fun wz hw=>hw.pick [1,2] rfl) (by kernel_rfl) ⟨?_,?_,trivial⟩
        ·skip;refine AP.step #[true,true,true,true,true,true,true,true,true,false,true,true,true,true,false,true,true,false,false,false,false,false,false,false,false,false] rfl rfl (WO.q (Y.mT (enc:=az) (h0:=((none,0):Hd)) (v:=.int .i64 ao.aq.first) (a:=(aa.mk ao.value ao.write ao.from_ (bU.reads++([bT]:List Int)) ao.aq true)) (idx:=bJ) (j:=5) Tryz.underlying3 rfl ba (i:=0) rfl (.pl rfl) (mC (⟨(aK (CH)).1,by simpa only[List.length_set]using(aK (CH)).2⟩)) rfl rfl) rfl ?_);refine Xt 9 rfl (Y.min (.pl rfl) (.pl rfl)) ?_ (fun _ hw=>hw.pick [1,2] rfl);refine Xo 14 rfl (WO.q (Y.mT (enc:=az) (h0:=((none,0):Hd)) (v:=.int .i64 ao.aq.last) (a:=(aa.mk ao.value ao.write ao.from_ (bU.reads++([bT]:List Int)) ao.aq true)) (idx:=bJ) (j:=6) Tryz.underlying3 rfl ba (i:=0) rfl (.pl rfl) (mC (⟨(aK (CI)).1,by simpa only[List.length_set]using(aK (CI)).2⟩)) rfl rfl) rfl ?_) (fun _ hw=>hw.pick [1,2] rfl);refine Xt 17 rfl (Y.max (.pl rfl) (.pl rfl)) ?_ (fun _ hw=>hw.pick [1,2] rfl);refine Xp 18 rfl (fun _ _=>yc) ?_;refine Xt 19 rfl (Y.jd (off:=4) (ft:=221) Tryz.underlying223 rfl eZ mV (by have:=(aK (xp));omega) (.pl rfl)) ?_ (fun _ hw=>hw.pick [1,2] rfl);refine Xt 20 rfl (Y.jd (off:=1) (ft:=3) Tryz.underlying221 rfl bp mV (by have:=(aK (xp));omega) (.pl rfl)) ?_ (fun _ hw=>hw.pick [1,2] rfl);refine Xo 21 rfl (WO.qT (enc:=az) (bb:=aI) (h0:=((none,0):Hd)) (a:=(aa.mk ao.value ao.write ao.from_ (bU.reads++([bT]:List Int)) ao.aq true)) (a':=(aa.mk ao.value ao.write ao.from_ (bU.reads++([bT]:List Int)) (aC.mk ao.aq.value (min ao.aq.first gJ.au) ao.aq.last ao.aq.forward) true)) (idx:=bJ) (j:=5) bp (.pl rfl) (.pl rfl) rfl ba (i:=0) rfl (mC (⟨(aK (xp)).1,by simpa only[List.length_set]using(aK (xp)).2⟩)) rfl (by decide) rfl rfl ?_) (fun _ hw=>hw.pick [1,2] rfl);refine Xp 22 rfl (fun _ _=>yc) ?_;refine Xt 23 rfl (Y.jd (off:=4) (ft:=221) Tryz.underlying223 rfl eZ mV (by have:=(aK (xq));have e1:((((ff.set bJ.toNat (aa.mk ao.value ao.write ao.from_ (bU.reads++([bT]:List Int)) ao.aq ao.counts)).set bJ.toNat (aa.mk ao.value ao.write ao.from_ (bU.reads++([bT]:List Int)) ao.aq true)).set bJ.toNat (aa.mk ao.value ao.write ao.from_ (bU.reads++([bT]:List Int)) (aC.mk ao.aq.value (min ao.aq.first gJ.au) ao.aq.last ao.aq.forward) true))).length=(((ff.set bJ.toNat (aa.mk ao.value ao.write ao.from_ (bU.reads++([bT]:List Int)) ao.aq ao.counts)).set bJ.toNat (aa.mk ao.value ao.write ao.from_ (bU.reads++([bT]:List Int)) ao.aq true))).length:=(by simp only[List.length_set]);omega) (.pl rfl)) ?_ (fun _ hw=>hw.pick [1,2] rfl);refine Xt 24 rfl (Y.jd (off:=2) (ft:=3) Tryz.underlying221 rfl bp mV (by have:=(aK (xq));have e1:((((ff.set bJ.toNat (aa.mk ao.value ao.write ao.from_ (bU.reads++([bT]:List Int)) ao.aq ao.counts)).set bJ.toNat (aa.mk ao.value ao.write ao.from_ (bU.reads++([bT]:List Int)) ao.aq true)).set bJ.toNat (aa.mk ao.value ao.write ao.from_ (bU.reads++([bT]:List Int)) (aC.mk ao.aq.value (min ao.aq.first gJ.au) ao.aq.last ao.aq.forward) true))).length=(((ff.set bJ.toNat (aa.mk ao.value ao.write ao.from_ (bU.reads++([bT]:List Int)) ao.aq ao.counts)).set bJ.toNat (aa.mk ao.value ao.write ao.from_ (bU.reads++([bT]:List Int)) ao.aq true))).length:=(by simp only[List.length_set]);omega) (.pl rfl)) ?_ (fun _ hw=>hw.pick [1,2] rfl);refine Xs rfl (WO.qT (enc:=az) (bb:=aI) (h0:=((none,0):Hd)) (a:=(aa.mk ao.value ao.write ao.from_ (bU.reads++([bT]:List Int)) (aC.mk ao.aq.value (min ao.aq.first gJ.au) ao.aq.last ao.aq.forward) true)) (a':=(aa.mk ao.value ao.write ao.from_ (bU.reads++([bT]:List Int)) (aC.mk ao.aq.value (min ao.aq.first gJ.au) (max ao.aq.last gJ.from_) ao.aq.forward) true)) (idx:=bJ) (j:=6) bp (.pl rfl) (.pl rfl) rfl ba (i:=0) rfl (mC (⟨(aK (xq)).1,by simpa only[List.length_set]using(aK (xq)).2⟩)) rfl (by decide) rfl rfl ?_) (fun _ hw=>hw.pick [1,2] rfl);refine WA.done (by kernel_rfl) ?_;obtain⟨abp,dW⟩:=aW dW;obtain rfl:=oi dW;refine a_ ?_;exact⟨W.Kp M8 ((((ff.set bJ.toNat (aa.mk ao.value ao.write ao.from_ (bU.reads++([bT]:List Int)) ao.aq ao.counts)).set bJ.toNat (aa.mk ao.value ao.write ao.from_ (bU.reads++([bT]:List Int)) ao.aq true)).set bJ.toNat (aa.mk ao.value ao.write ao.from_ (bU.reads++([bT]:List Int)) (aC.mk ao.aq.value (min ao.aq.first gJ.au) ao.aq.last ao.aq.forward) true)).set bJ.toNat (aa.mk ao.value ao.write ao.from_ (bU.reads++([bT]:List Int)) (aC.mk ao.aq.value (min ao.aq.first gJ.au) (max ao.aq.last gJ.from_) ao.aq.forward) true)) (bT+1) (CG.set bJ.toNat ((Bw,c49):Hd)) XT Jy nl (.cons (I1 (by simp)) (.cons rfl (.nil))) kr (fun wz hw=>St.fL (L:=[cN az aI 9 A7 c8 223 (CG.set bJ.toNat ((Bw,c49):Hd)) ((((ff.set bJ.toNat (aa.mk ao.value ao.write ao.from_ (bU.reads++([bT]:List Int)) ao.aq ao.counts)).set bJ.toNat (aa.mk ao.value ao.write ao.from_ (bU.reads++([bT]:List Int)) ao.aq true)).set bJ.toNat (aa.mk ao.value ao.write ao.from_ (bU.reads++([bT]:List Int)) (aC.mk ao.aq.value (min ao.aq.first gJ.au) ao.aq.last ao.aq.forward) true)).set bJ.toNat (aa.mk ao.value ao.write ao.from_ (bU.reads++([bT]:List Int)) (aC.mk ao.aq.value (min ao.aq.first gJ.au) (max ao.aq.last gJ.from_) ao.aq.forward) true))]) (hw.pick [0] rfl) (by simp only[List.length_set,List.nil_append,List.cons_append]))⟩
        ·skip;refine AP.step #[true,true,true,true,true,true,false,true,true,false,true,true,true,true,true,true,true,false,false,false,false,false,false,false,false,false] rfl rfl (WO.q (Y.mT (enc:=az) (h0:=((none,0):Hd)) (v:=.int .i64 ao.aq.last) (a:=(aa.mk ao.value ao.write ao.from_ (bU.reads++([bT]:List Int)) ao.aq true)) (idx:=bJ) (j:=6) Tryz.underlying3 rfl ba (i:=0) rfl (.pl rfl) (mC (⟨(aK (CI)).1,by simpa only[List.length_set]using(aK (CI)).2⟩)) rfl rfl) rfl ?_);refine Xt 17 rfl (Y.max (.pl rfl) (.pl rfl)) ?_ (fun _ hw=>hw.pick [1,2] rfl);refine Xo 6 rfl (WO.q (Y.mT (enc:=az) (h0:=((none,0):Hd)) (v:=.int .i64 ao.aq.first) (a:=(aa.mk ao.value ao.write ao.from_ (bU.reads++([bT]:List Int)) ao.aq true)) (idx:=bJ) (j:=5) Tryz.underlying3 rfl ba (i:=0) rfl (.pl rfl) (mC (⟨(aK (CH)).1,by simpa only[List.length_set]using(aK (CH)).2⟩)) rfl rfl) rfl ?_) (fun _ hw=>hw.pick [1,2] rfl);refine Xt 9 rfl (Y.min (.pl rfl) (.pl rfl)) ?_ (fun _ hw=>hw.pick [1,2] rfl);refine Xp 18 rfl (fun _ _=>yc) ?_;refine Xt 19 rfl (Y.jd (off:=4) (ft:=221) Tryz.underlying223 rfl eZ mV (by have:=(aK (xp));omega) (.pl rfl)) ?_ (fun _ hw=>hw.pick [1,2] rfl);refine Xt 20 rfl (Y.jd (off:=1) (ft:=3) Tryz.underlying221 rfl bp mV (by have:=(aK (xp));omega) (.pl rfl)) ?_ (fun _ hw=>hw.pick [1,2] rfl);refine Xo 21 rfl (WO.qT (enc:=az) (bb:=aI) (h0:=((none,0):Hd)) (a:=(aa.mk ao.value ao.write ao.from_ (bU.reads++([bT]:List Int)) ao.aq true)) (a':=(aa.mk ao.value ao.write ao.from_ (bU.reads++([bT]:List Int)) (aC.mk ao.aq.value (min ao.aq.first gJ.au) ao.aq.last ao.aq.forward) true)) (idx:=bJ) (j:=5) bp (.pl rfl) (.pl rfl) rfl ba (i:=0) rfl (mC (⟨(aK (xp)).1,by simpa only[List.length_set]using(aK (xp)).2⟩)) rfl (by decide) rfl rfl ?_) (fun _ hw=>hw.pick [1,2] rfl);refine Xp 22 rfl (fun _ _=>yc) ?_;refine Xt 23 rfl (Y.jd (off:=4) (ft:=221) Tryz.underlying223 rfl eZ mV (by have:=(aK (xq));have e1:((((ff.set bJ.toNat (aa.mk ao.value ao.write ao.from_ (bU.reads++([bT]:List Int)) ao.aq ao.counts)).set bJ.toNat (aa.mk ao.value ao.write ao.from_ (bU.reads++([bT]:List Int)) ao.aq true)).set bJ.toNat (aa.mk ao.value ao.write ao.from_ (bU.reads++([bT]:List Int)) (aC.mk ao.aq.value (min ao.aq.first gJ.au) ao.aq.last ao.aq.forward) true))).length=(((ff.set bJ.toNat (aa.mk ao.value ao.write ao.from_ (bU.reads++([bT]:List Int)) ao.aq ao.counts)).set bJ.toNat (aa.mk ao.value ao.write ao.from_ (bU.reads++([bT]:List Int)) ao.aq true))).length:=(by simp only[List.length_set]);omega) (.pl rfl)) ?_ (fun _ hw=>hw.pick [1,2] rfl);refine Xt 24 rfl (Y.jd (off:=2) (ft:=3) Tryz.underlying221 rfl bp mV (by have:=(aK (xq));have e1:((((ff.set bJ.toNat (aa.mk ao.value ao.write ao.from_ (bU.reads++([bT]:List Int)) ao.aq ao.counts)).set bJ.toNat (aa.mk ao.value ao.write ao.from_ (bU.reads++([bT]:List Int)) ao.aq true)).set bJ.toNat (aa.mk ao.value ao.write ao.from_ (bU.reads++([bT]:List Int)) (aC.mk ao.aq.value (min ao.aq.first gJ.au) ao.aq.last ao.aq.forward) true))).length=(((ff.set bJ.toNat (aa.mk ao.value ao.write ao.from_ (bU.reads++([bT]:List Int)) ao.aq ao.counts)).set bJ.toNat (aa.mk ao.value ao.write ao.from_ (bU.reads++([bT]:List Int)) ao.aq true))).length:=(by simp only[List.length_set]);omega) (.pl rfl)) ?_ (fun _ hw=>hw.pick [1,2] rfl);refine Xs rfl (WO.qT (enc:=az) (bb:=aI) (h0:=((none,0):Hd)) (a:=(aa.mk ao.value ao.write ao.from_ (bU.reads++([bT]:List Int)) (aC.mk ao.aq.value (min ao.aq.first gJ.au) ao.aq.last ao.aq.forward) true)) (a':=(aa.mk ao.value ao.write ao.from_ (bU.reads++([bT]:List Int)) (aC.mk ao.aq.value (min ao.aq.first gJ.au) (max ao.aq.last gJ.from_) ao.aq.forward) true)) (idx:=bJ) (j:=6) bp (.pl rfl) (.pl rfl) rfl ba (i:=0) rfl (mC (⟨(aK (xq)).1,by simpa only[List.length_set]using(aK (xq)).2⟩)) rfl (by decide) rfl rfl ?_) (fun _ hw=>hw.pick [1,2] rfl);refine WA.done (by kernel_rfl) ?_;obtain⟨abq,dW⟩:=aW dW;obtain rfl:=oi dW;refine a_ ?_;exact⟨W.Kp M8 ((((ff.set bJ.toNat (aa.mk ao.value ao.write ao.from_ (bU.reads++([bT]:List Int)) ao.aq ao.counts)).set bJ.toNat (aa.mk ao.value ao.write ao.from_ (bU.reads++([bT]:List Int)) ao.aq true)).set bJ.toNat (aa.mk ao.value ao.write ao.from_ (bU.reads++([bT]:List Int)) (aC.mk ao.aq.value (min ao.aq.first gJ.au) ao.aq.last ao.aq.forward) true)).set bJ.toNat (aa.mk ao.value ao.write ao.from_ (bU.reads++([bT]:List Int)) (aC.mk ao.aq.value (min ao.aq.first gJ.au) (max ao.aq.last gJ.from_) ao.aq.forward) true)) (bT+1) (CG.set bJ.toNat ((Bw,c49):Hd)) XT Jy nl (.cons (I1 (by simp)) (.cons rfl (.nil))) kr (fun wz hw=>St.fL (L:=[cN az aI 9 A7 c8 223 (CG.set bJ.toNat ((Bw,c49):Hd)) ((((ff.set bJ.toNat (aa.mk ao.value ao.write ao.from_ (bU.reads++([bT]:List Int)) ao.aq ao.counts)).set bJ.toNat (aa.mk ao.value ao.write ao.from_ (bU.reads++([bT]:List Int)) ao.aq true)).set bJ.toNat (aa.mk ao.value ao.write ao.from_ (bU.reads++([bT]:List Int)) (aC.mk ao.aq.value (min ao.aq.first gJ.au) ao.aq.last ao.aq.forward) true)).set bJ.toNat (aa.mk ao.value ao.write ao.from_ (bU.reads++([bT]:List Int)) (aC.mk ao.aq.value (min ao.aq.first gJ.au) (max ao.aq.last gJ.from_) ao.aq.forward) true))]) (hw.pick [0] rfl) (by simp only[List.length_set,List.nil_append,List.cons_append]))⟩
       ·obtain⟨abr,dW⟩:=aW dW;refine a_ ?_;exact g3 M8 (oj dW Jy)
      ·refine a_ ?_;exact h2 ZC (oj dW Jy)
     ·rintro yR MV rfl;refine W.SD 15 (by kernel_rfl) (by kernel_rfl) ?_;refine Sq ym ?_;refine Sq ym ?_;refine Sq yc ?_;obtain⟨xn,Nb,eD⟩:=aj eD;refine WS.q (Y.lG (off:=4) (ft:=221) Tryz.underlying223 rfl eZ (i':=0) rfl (aK (Nb)) (.pl rfl)) rfl ?_;refine WS.q (Y.lG (off:=1) (ft:=3) Tryz.underlying221 rfl bp (i':=0) rfl (aK (Nb)) (.pl rfl)) rfl ?_;refine WS.q (Y.mT (enc:=az) (h0:=((none,0):Hd)) (v:=.int .i64 xn.aq.first) (a:=(aa.mk xn.value xn.write xn.from_ xn.reads xn.aq xn.counts)) (idx:=bJ) (j:=5) Tryz.underlying3 rfl ba (i:=0) rfl (.pl rfl) (bx (Nb)) rfl rfl) rfl ?_;refine Sq ym ?_;refine Sq yc ?_;obtain⟨xo,Nc,eD⟩:=aj eD;refine WS.q (Y.lG (off:=4) (ft:=221) Tryz.underlying223 rfl eZ (i':=0) rfl (aK (Nc)) (.pl rfl)) rfl ?_;refine WS.q (Y.lG (off:=2) (ft:=3) Tryz.underlying221 rfl bp (i':=0) rfl (aK (Nc)) (.pl rfl)) rfl ?_;refine WS.q (Y.mT (enc:=az) (h0:=((none,0):Hd)) (v:=.int .i64 xo.aq.last) (a:=(aa.mk xo.value xo.write xo.from_ xo.reads xo.aq xo.counts)) (idx:=bJ) (j:=6) Tryz.underlying3 rfl ba (i:=0) rfl (.pl rfl) (bx (Nc)) rfl rfl) rfl ?_;refine Sq yl ?_;refine Sq yc ?_;obtain⟨iO,Nf,eD⟩:=aj eD;refine WS.q (Y.lG (off:=4) (ft:=221) Tryz.underlying223 rfl eZ (i':=0) rfl (aK (Nf)) (.pl rfl)) rfl ?_;refine WS.q (Y.lG (off:=3) (ft:=4) Tryz.underlying221 rfl rJ (i':=0) rfl (aK (Nf)) (.pl rfl)) rfl ?_;refine WS.tail ?_;refine WL.step (WO.qT (enc:=az) (bb:=aI) (h0:=((none,0):Hd)) (a:=(aa.mk iO.value iO.write iO.from_ iO.reads iO.aq iO.counts)) (a':=(aa.mk iO.value iO.write iO.from_ iO.reads (aC.mk iO.aq.value iO.aq.first iO.aq.last (decide (xn.aq.first < xo.aq.last))) iO.counts)) (idx:=bJ) (j:=7) rJ (.pl rfl) (.pl rfl) rfl ba (i:=0) rfl (bx (Nf)) rfl (by decide) rfl rfl ?_);refine a_ ?_;exact⟨W.P1 Jw (yR.set bJ.toNat (aa.mk iO.value iO.write iO.from_ iO.reads (aC.mk iO.aq.value iO.aq.first iO.aq.last (decide (xn.aq.first < xo.aq.last))) iO.counts)) MV (oi eD) (.cons (I1 (by simp)) (.nil)) kr (fun wz hw=>hw.pick [0] rfl)⟩
    ·rintro yK abs rfl;obtain⟨abt,hZ⟩:=aW hZ;refine a_ ?_;exact g3 Jv (oj hZ CF)
   ·refine a_ ?_;exact h2 CE (oj hZ CF)
  ·rintro Jt Ub rfl;obtain⟨r64,ZF,hF⟩:=aj hF;refine a_ ?_;refine kC QP (v2 rfl rfl) (fun _ hw=>Js ZF (sw hw)) ?_;rintro ZG ZH;obtain rfl:=oi hF;refine a_ ?_;refine W.ii (fn:=Tryz.f87) (vs:=[.slice A7 (Jt).length c8]) Tryz.results87 ⟨.tmp rfl,trivial⟩ (fun _ _ h=>h) (fun wz hw=>?_);exact hR _ _ ⟨(A7,c8,ZG),trivial,by simp[zN,ZH],(hw.pick [0] rfl)⟩
def wt(N:Nat)(BQ:Int)(Gg:Int)(Jz:Int)(Gh:(List Int))(JA:aC)(CJ:Bool)(Dh:Call):Option Unit:=some ()
theorem Ao{N BQ Gg Jz Gh JA CJ Dh A5 c6 b9 res}(hF:wt N BQ Gg Jz Gh JA CJ Dh=some res){w0 w T}(hw:St w0.heap.size w0 (al b9 162 (ak Dh)::T) w):Calls Tryz.prog 125 (List.toArray [.agg (Value.int .i64 BQ::(Value.int .i64 Gg::(Value.int .i64 Jz::(Value.slice A5 (Gh).length c6::((bB JA)++(Value.bool CJ::[])))))).toArray,.pointer (some ⟨b9,0,none⟩)]) w (fun e w'=>∃g:Unit,(True)∧e= .returned (.bool (decide (BQ=Dh.res)))∧St w0.heap.size w0 (al b9 162 (ak Dh)::T) w'):=by
 refine We 9 Tryz.func125 hw fun R hR=>?_;refine a_ ?_;refine WL.step (WO.fg (.pl rfl) rfl fun lw=>?_);obtain rfl:=oi hF;refine a_ ?_;exact rG ()
def cG(N:Nat)(s3:(List aa))(c6:Call):Int→Option (Int ⊕(Unit ⊕ Int))|v7=>cond (decide (v7 < ((s3).length:Int))) (bd (ix s3 v7) fun x8=>bd (wt N x8.value x8.write x8.from_ x8.reads x8.aq x8.counts c6) fun r9=>cond (decide (x8.value=c6.res)) (some (.inr (.inr v7))) (ck (aQ (v7+1)) <| some (.inl (v7+1)))) (some (.inr (.inl ())))
def bW(N:Nat)(s3:(List aa))(c6:Call):Option Int:=bd (α:=(Unit ⊕ Int)) (iter (cG N s3 c6) N 0) <| Sum.elim (fun _=>some (-1)) (fun p=>some p)
theorem i_{N s3 c6 A1 c2 ov b5 res}(hF:bW N s3 c6=some res){w0 w T}(hw:St w0.heap.size w0 (cN az aI 9 A1 c2 223 ov s3::al b5 162 (ak c6)::T) w):Calls Tryz.prog 124 (List.toArray [.slice A1 (s3).length c2,.func (.func 125) #[] #[.pointer (some ⟨b5,0,none⟩)]]) w (fun e w'=>∃g:Unit,(True)∧e= .returned (.int .i64 res)∧St w0.heap.size w0 (cN az aI 9 A1 c2 223 ov s3::al b5 162 (ak c6)::T) w'):=by
 refine We 19 Tryz.func124 hw fun R hR=>?_;obtain⟨o2,bS,hF⟩:=aj hF;refine b_ ?_;refine W.dR [] ((cN az aI 9 A1 c2 223 ov s3::al b5 162 (ak c6)::T)) ((.inl ())=o2) (.nil) (fun K3 d5=>?_) ?_
 ·refine a_ ?_;refine gl bS (fun a=>[(8,.int .i64 a)]) (fun a=>(cN az aI 9 A1 c2 223 ov s3::al b5 162 (ak c6)::T)) (gx 0 1 7) fun v7 k5 t5 aD cU K6 io=>?_;refine a_ ?_;refine Wc aD (fun eO aD=>?_) (fun eO aD=>?_)
  ·obtain⟨x8,HM,aD⟩:=aj aD;refine a_ ?_;refine WL.q (Y.AX Tryz.underlying178 jz (i:=0) rfl (.pl rfl) rfl (.pl rfl) (aK (HM))) rfl ?_;refine WL.q (Y.Ks (enc:=az) (h0:=((none,0):Hd)) (ds:=(Value.int .i64 x8.value::(Value.int .i64 x8.write::(Value.int .i64 x8.from_::(Value.slice (ov.getD v7.toNat ((none,0):Hd)).1 (x8.reads).length (ov.getD v7.toNat ((none,0):Hd)).2::((bB x8.aq)++(Value.bool x8.counts::[]))))))) (a:=(aa.mk x8.value x8.write x8.from_ x8.reads x8.aq x8.counts)) (idx:=v7) (j:=0) Tryz.underlying223 rfl jz ba (i:=0) rfl (.pl rfl) (bx (HM)) rfl rfl m5) rfl ?_;obtain⟨r9,pO,aD⟩:=aj aD;refine kG QR (.pl rfl) (v1 rfl) (fun _ hw=>Ao pO (sw hw)) ?_;rintro _ -;refine a_ ?_;refine Wc aD (fun iB aD=>?_) (fun iB aD=>?_)
   ·obtain rfl:=oi aD;obtain rfl:=dC cU;obtain rfl:=oi hF;refine a_ ?_;exact rG ()
   ·obtain⟨z',aD⟩:=aW aD;refine a_ ?_;exact g1 io (oj aD cU)
  ·refine a_ ?_;exact h0 d5 (oj aD cU)
 ·rintro rfl;obtain rfl:=oi hF;refine a_ ?_;exact rG ()
def pv(N:Nat)(c3:(List Call))(l6:(List aa)):(Int×Int×Int×Int)→Option ((Int×Int×Int×Int) ⊕((Int×Int×Int) ⊕(Int×Int×Int)))|(uJ,wg,Pa,fU)=>cond (decide (fU < ((c3).length:Int))) (bd (ix c3 fU) fun jF=>cond ((!(decide (jF.kind=2)))||(decide (jF.au=(-1)))) (ck (aQ (fU+1)) <| some (.inl (uJ,wg,Pa,(fU+1)))) (bd (bW N l6 jF) fun n_=>cond (decide (n_ < 0)) (some (.inr (.inr (1,fU,0)))) (bd ((cond ((decide (uJ=0))==true) (ix l6 n_) (some aa.z))) fun rl=>cond ((decide (uJ=0))&&(decide (jF.au < rl.from_))) (bd (ix l6 n_) fun ce=>ck (aQ (fU+1)) <| some (.inl (3,fU,ce.write,(fU+1)))) (ck (aQ (fU+1)) <| some (.inl (uJ,wg,Pa,(fU+1))))))) (some (.inr (.inl (uJ,wg,Pa))))
def lg(N:Nat)(c3:(List Call))(l6:(List aa)):Option (Int×Int×Int):=bd (α:=((Int×Int×Int) ⊕(Int×Int×Int))) (iter (pv N c3 l6) N (0,0,0,0)) <| Sum.elim (fun(Lu,bH,XU)=>some (Lu,bH,XU)) (fun p=>some p)
theorem CK{N c3 l6 A1 c2 A4 c5 Pb res}(hF:lg N c3 l6=some res){w0 w T}(hw:St w0.heap.size w0 (cR ak 7 A1 c2 162 c3::cN az aI 9 A4 c5 223 Pb l6::T) w):Calls Tryz.prog 88 (List.toArray [.slice A1 (c3).length c2,.slice A4 (l6).length c5]) w (fun e w'=>∃g:Unit,(True)∧e= .returned (.agg (aH (bq.mk res.1 res.2.1 res.2.2)).toArray)∧St w0.heap.size w0 (cR ak 7 A1 c2 162 c3::cN az aI 9 A4 c5 223 Pb l6::T) w'):=by
 refine We 54 Tryz.func88 hw fun R hR=>?_;refine a_ ?_;refine mA fun b8=>?_;refine a_ ?_;refine WL.q (Y.build (cs:=(aH (bq.mk 0 0 0)).toArray) bV (.nil) (aX trivial) rfl) rfl ?_;refine mA fun b9=>?_;obtain⟨o3,ey,hF⟩:=aj hF;refine b_ ?_;refine W.jI (fun a b c=>[]) (fun a b c=>(cR ak 7 A1 c2 162 c3::cN az aI 9 A4 c5 223 Pb l6::al b8 131 (aH (bq.mk 0 0 0))::al b9 131 (aH (bq.mk a b c))::T)) (fun a b c=>(.inl (a,b,c))=o3) (mD 4 5) (fun K4 ko=>?_) ?_
 ·refine a_ ?_;refine Y7 ey (fun a b c d=>[(12,.int .i64 d)]) (fun a b c d=>(cR ak 7 A1 c2 162 c3::cN az aI 9 A4 c5 223 Pb l6::al b8 131 (aH (bq.mk 0 0 0))::al b9 131 (aH (bq.mk a b c))::T)) (qu 1 4 5 10 11) fun uJ wg Pa fU k6 t6 aJ ec K7 jb=>?_;refine a_ ?_;refine Wc aJ (fun iI aJ=>?_) (fun iI aJ=>?_)
  ·obtain⟨jF,vO,aJ⟩:=aj aJ;refine a_ ?_;refine mA fun Fc=>?_;refine a_ ?_;refine Wc aJ (fun m7 aJ=>?_) (fun m7 aJ=>?_)
   ·obtain⟨vI,aJ⟩:=aW aJ;refine a_ ?_;exact g4 jb (oj aJ ec)
   ·obtain⟨n_,zS,aJ⟩:=aj aJ;refine a_ ?_;refine kC QQ (v2 rfl rfl) (fun _ hw=>i_ zS (sw hw)) ?_;rintro _ -;refine a_ ?_;refine Wc aJ (fun rA aJ=>?_) (fun rA aJ=>?_)
    ·refine a_ ?_;refine WL.q (Y.build (cs:=(aH (bq.mk 1 fU 0)).toArray) bV (.cons (.pl rfl) (.cons (.pl rfl) (.nil))) (aX ⟨rfl,⟨rfl,trivial⟩⟩) rfl) rfl ?_;obtain rfl:=oi aJ;obtain rfl:=dC ec;obtain rfl:=oi hF;refine a_ ?_;exact rG ()
    ·refine b_ ?_;refine W.mw (by kernel_rfl) (by kernel_rfl) fun R22 ZJ=>?_;refine Dq yf ?_;refine Dq Xe ?_;refine Dq ye ?_;refine Dq ym ?_;refine Dg wW ?_;refine Dg ET ?_;refine Dg zl ?_;refine Dg zl ?_;obtain⟨rl,vj,aJ⟩:=aj aJ;refine WD.g (.pl rfl rfl rfl) (fun hg=>Y.AX Tryz.underlying178 jz (i:=0) rfl (.gd (hg) rfl) rfl (.gd (hg) rfl) (aK (eC hg vj))) rfl ?_;refine WD.g (.pl rfl rfl rfl) (fun hg=>Y.lG (off:=2) (ft:=3) Tryz.underlying223 rfl bp (i':=0) rfl (aK (eC hg vj)) (.gd (hg) rfl)) rfl ?_;refine WD.g (.pl rfl rfl rfl) (fun hg=>Y.mT (enc:=az) (h0:=((none,0):Hd)) (v:=.int .i64 rl.from_) (a:=(aa.mk rl.value rl.write rl.from_ rl.reads rl.aq rl.counts)) (idx:=n_) (j:=2) Tryz.underlying3 rfl ba (i:=0) rfl (.gd (hg) rfl) (bx (eC hg vj)) rfl rfl) rfl ?_;refine Dg Mk ?_;refine Dq yd ?_;refine WD.next ZJ (HH 1 4 5 6 8 10 11 12 44) ?_;refine Wc aJ (fun rm aJ=>?_) (fun rm aJ=>?_)
     ·obtain⟨ce,tf,aJ⟩:=aj aJ;refine a_ ?_;refine WL.q (Y.AX Tryz.underlying178 jz (i:=0) rfl (.pl rfl) rfl (.pl rfl) (aK (tf))) rfl ?_;refine WL.q (Y.lG (off:=1) (ft:=3) Tryz.underlying223 rfl bp (i':=0) rfl (aK (tf)) (.pl rfl)) rfl ?_;refine WL.q (Y.mT (enc:=az) (h0:=((none,0):Hd)) (v:=.int .i64 ce.write) (a:=(aa.mk ce.value ce.write ce.from_ ce.reads ce.aq ce.counts)) (idx:=n_) (j:=1) Tryz.underlying3 rfl ba (i:=0) rfl (.pl rfl) (bx (tf)) rfl rfl) rfl ?_;refine WL.q (Y.build (cs:=(aH (bq.mk 3 fU ce.write)).toArray) bV (.cons (.pl rfl) (.cons (.pl rfl) (.cons (.pl rfl) (.nil)))) (aX ⟨rfl,⟨rfl,⟨rfl,trivial⟩⟩⟩) rfl) rfl ?_;obtain⟨Ju,aJ⟩:=aW aJ;refine a_ ?_;exact g4 jb (oj aJ ec)
     ·obtain⟨z_,aJ⟩:=aW aJ;refine a_ ?_;exact g4 jb (oj aJ ec)
  ·refine a_ ?_;exact h3 ko (oj aJ ec)
 ·rintro Lu bH XU rfl;obtain rfl:=oi hF;refine a_ ?_;exact rG ()
def nA(N:Nat)(l3:(List aa)):((List aC)×Int)→Option (((List aC)×Int) ⊕(List aC))|(ow,v11)=>cond (decide (v11 < ((l3).length:Int))) (bd (ix l3 v11) fun cw=>cond cw.counts (ck (dh 32 ((ow).length+(([cw.aq]:List aC)).length)) <| ck (aQ (v11+1)) <| some (.inl ((ow++([cw.aq]:List aC)),(v11+1)))) (ck (aQ (v11+1)) <| some (.inl (ow,(v11+1))))) (some (.inr ow))
def jf(N:Nat)(l3:(List aa)):Option (List aC):=bd (α:=(List aC)) (iter (nA N l3) N ([],0)) <| fun UR=>some UR
theorem Ap{N l3 A1 c2 ov res}(hF:jf N l3=some res){w0 w T}(hw:St w0.heap.size w0 (cN az aI 9 A1 c2 223 ov l3::T) w):Calls Tryz.prog 90 (List.toArray [.slice A1 (l3).length c2]) w (fun e w'=>∃g:(Option Addr×Nat),(True)∧e= .returned (.slice g.1 (res).length g.2)∧St w0.heap.size w0 (cN az aI 9 A1 c2 223 ov l3::cR bB 4 g.1 g.2 221 res::T) w'):=by
 refine We 21 Tryz.func90 hw fun R hR=>?_;obtain⟨o3,ey,hF⟩:=aj hF;refine b_ ?_;refine W.jI (fun a b c=>[(3,.slice b (a).length c)]) (fun a b c=>(cN az aI 9 A1 c2 223 ov l3::cR bB 4 b c 221 a::T)) (fun a b c=>a=o3) (.nil) (fun K4 ko=>?_) ?_
 ·refine a_ ?_;refine s_ ey (fun a b c d=>[(3,.slice c (a).length d),(8,.int .i64 b)]) (fun a b c d=>(cN az aI 9 A1 c2 223 ov l3::cR bB 4 c d 221 a::T)) (mD 6 7) fun ow v11 A8 c9 k6 t6 aJ ec K7 jb=>?_;refine a_ ?_;refine Wc aJ (fun iI aJ=>?_) (fun iI aJ=>?_)
  ·obtain⟨cw,ob,aJ⟩:=aj aJ;refine a_ ?_;refine WL.q (Y.AX Tryz.underlying178 jz (i:=0) rfl (.pl rfl) rfl (.pl rfl) (aK (ob))) rfl ?_;refine WL.q (Y.Ks (enc:=az) (h0:=((none,0):Hd)) (ds:=(Value.int .i64 cw.value::(Value.int .i64 cw.write::(Value.int .i64 cw.from_::(Value.slice (ov.getD v11.toNat ((none,0):Hd)).1 (cw.reads).length (ov.getD v11.toNat ((none,0):Hd)).2::((bB cw.aq)++(Value.bool cw.counts::[]))))))) (a:=(aa.mk cw.value cw.write cw.from_ cw.reads cw.aq cw.counts)) (idx:=v11) (j:=0) Tryz.underlying223 rfl jz ba (i:=0) rfl (.pl rfl) (bx (ob)) rfl rfl m5) rfl ?_;refine mA fun pS=>?_;refine WL.step (WO.mc (ds:=(Value.int .i64 cw.value::(Value.int .i64 cw.write::(Value.int .i64 cw.from_::(Value.slice (ov.getD v11.toNat ((none,0):Hd)).1 (cw.reads).length (ov.getD v11.toNat ((none,0):Hd)).2::((bB cw.aq)++(Value.bool cw.counts::[]))))))) (cs':=(Value.int .i64 cw.value::(Value.int .i64 cw.write::(Value.int .i64 cw.from_::(Value.slice (ov.getD v11.toNat ((none,0):Hd)).1 (cw.reads).length (ov.getD v11.toNat ((none,0):Hd)).2::((bB cw.aq)++(Value.bool cw.counts::[]))))))) jz (.pl rfl) (.pl rfl) rfl (bt rfl (bt rfl (bt rfl (bt rfl (yb (qX _) (bt rfl jQ)))))) (i:=0) rfl (Dc (o:=0) (l:=9) (m:=9) (by decide) rfl rfl) (wS rfl) ?_);refine a_ ?_;refine Wc aJ (fun jx aJ=>?_) (fun jx aJ=>?_)
   ·refine a_ ?_;refine WL.q (Y.wR (ds:=(bB cw.aq)) Tryz.underlying221 rfl eZ (.pl rfl) (i:=0) rfl rfl (YS (pre:=(Value.int .i64 cw.value::(Value.int .i64 cw.write::(Value.int .i64 cw.from_::(Value.slice (ov.getD v11.toNat ((none,0):Hd)).1 (cw.reads).length (ov.getD v11.toNat ((none,0):Hd)).2::[]))))) (o:=4) rfl)) rfl ?_;refine WL.step (WO.bA (enc:=bB) (ys:=([cw.aq]:List aC)) Tryz.underlying182 WG (.cons (.pl rfl) (.nil)) rfl CC rfl rfl (by decide) (by decide) rfl fun gr=>?_);obtain⟨Cz,aJ⟩:=aW aJ;refine WL.step (WO.d4 (enc:=bB) Tryz.underlying182 WH CC qX (.pl rfl) rfl (.pl rfl) (i:=3) rfl (m2:=0) rfl (Cz) rfl fun Tr c16=>?_);obtain⟨Ai,aJ⟩:=aW aJ;refine a_ ?_;exact g4 jb (oj aJ ec)
   ·obtain⟨vI,aJ⟩:=aW aJ;refine a_ ?_;exact g4 jb (oj aJ ec)
  ·refine a_ ?_;exact h3 ko (oj aJ ec)
 ·rintro UR A5 c6 rfl;obtain rfl:=oi hF;refine a_ ?_;exact rG (A5,c6)
def qk(N:Nat)(a1:aC)(b2:aC):Option Unit:=some ()
theorem rL{N a1 b2 res}(hF:qk N a1 b2=some res)(w:World):Pure Tryz.prog 126 [.agg (bB a1).toArray,.agg (bB b2).toArray] w (.bool ((decide (a1.first < b2.last))&&(decide (b2.first < a1.last)))):=by
 refine We 17 Tryz.func126 (St.start w) fun R hR=>?_;refine a_ ?_;refine WL.step (WO.fg (.pl rfl) rfl fun b3=>?_);refine WL.step (WO.fg (.pl rfl) rfl fun b4=>?_);obtain rfl:=oi hF;refine a_ ?_;exact rP
def ox(N:Nat)(z1:(List aC))(v7:Int)(x8:aC):Int→Option (Int ⊕(Unit ⊕(Int×Int×Int)))|v12=>cond (decide (v12 < (((z1.drop (v7+1).toNat)).length:Int))) (bd (ix (z1.drop (v7+1).toNat) v12) fun de=>bd (α:=Bool) (cond ((x8.forward&&de.forward)==true) (bd (qk N x8 de) fun r16=>some ((x8.forward&&de.forward)&&((decide (x8.first < de.last))&&(decide (de.first < x8.last))))) (some ((x8.forward&&de.forward)&&false))) <| fun cW=>cond cW (some (.inr (.inr (4,x8.value,de.value)))) (ck (aQ (v12+1)) <| some (.inl (v12+1)))) (some (.inr (.inl ())))
def oy(N:Nat)(z1:(List aC)):Int→Option (Int ⊕(Unit ⊕(Int×Int×Int)))|v7=>cond (decide (v7 < ((z1).length:Int))) (bd (α:=(Unit ⊕(Int×Int×Int))) (bd (ix z1 v7) fun x8=>ck (aQ (v7+1)) <| ck (nH (z1).length (v7+1) ((z1).length:Int)) <| iter (ox N z1 v7 x8) N 0) <| Sum.elim (fun _=>ck (aQ (v7+1)) <| some (.inl (v7+1))) (fun p=>some (.inr (.inr p)))) (some (.inr (.inl ())))
def oz(N:Nat)(z1:(List aC))(jG:aC):Int→Option (Int ⊕(Unit ⊕(Int×Int×Int)))|v22=>cond (decide (v22 < ((z1).length:Int))) (bd (ix z1 v22) fun cx=>bd (α:=Bool) (cond ((jG.forward&&(!cx.forward))==true) (bd (qk N jG cx) fun Pd=>some ((jG.forward&&(!cx.forward))&&((decide (jG.first < cx.last))&&(decide (cx.first < jG.last))))) (some ((jG.forward&&(!cx.forward))&&false))) <| fun v25=>cond v25 (some (.inr (.inr (5,jG.value,cx.value)))) (ck (aQ (v22+1)) <| some (.inl (v22+1)))) (some (.inr (.inl ())))
def oA(N:Nat)(z1:(List aC)):Int→Option (Int ⊕(Unit ⊕(Int×Int×Int)))|Lv=>cond (decide (Lv < ((z1).length:Int))) (bd (α:=(Unit ⊕(Int×Int×Int))) (bd (ix z1 Lv) fun jG=>iter (oz N z1 jG) N 0) <| Sum.elim (fun _=>ck (aQ (Lv+1)) <| some (.inl (Lv+1))) (fun p=>some (.inr (.inr p)))) (some (.inr (.inl ())))
def jA(N:Nat)(z1:(List aC)):Option (Int×Int×Int):=bd (α:=(Unit ⊕(Int×Int×Int))) (iter (oy N z1) N 0) <| Sum.elim (fun _=>bd (α:=(Unit ⊕(Int×Int×Int))) (iter (oA N z1) N 0) <| Sum.elim (fun _=>some (0,0,0)) (fun p=>some p)) (fun p=>some p)
theorem CL{N z1 res}(hF:jA N z1=some res)(w:World){v5}(hs4:aP bB 4 w v5 z1):Pure Tryz.prog 89 [v5] w (.agg (aH (bq.mk res.1 res.2.1 res.2.2)).toArray):=by
 obtain⟨A2,c3,rfl,g9,hs4⟩:=hs4.form;refine We 80 Tryz.func89 (St.start w) fun R hR=>?_;refine a_ ?_;refine mA fun b6=>?_;obtain⟨o3,ey,hF⟩:=aj hF;refine b_ ?_;refine W.dR [] [al b6 131 (aH (bq.mk 0 0 0))] ((.inl ())=o3) (gx 0 2 3) (fun K4 ko=>?_) ?_
 ·refine a_ ?_;refine gl ey (fun a=>[(14,.int .i64 a)]) (fun a=>[al b6 131 (aH (bq.mk 0 0 0))]) (qu 0 2 3 12 13) fun v7 k6 t6 aJ ec K7 jb=>?_;refine a_ ?_;refine Wc aJ (fun iI aJ=>?_) (fun iI aJ=>?_)
  ·obtain⟨lN,aA,aJ⟩:=aj aJ;refine b_ ?_;refine W.dR [] [al b6 131 (aH (bq.mk 0 0 0))] ((.inl ())=lN) (wX 0 2 3 12 13 14) (fun rk di=>?_) ?_
   ·obtain⟨x8,HM,aA⟩:=aj aA;refine a_ ?_;refine mA fun b9=>?_;obtain⟨z',aA⟩:=aW aA;obtain⟨qf,aA⟩:=aW aA;refine a_ ?_;refine WL.q (Y.Km (xs:=z1) Tryz.underlying182 eZ (.pl rfl) rfl (hs4).EJ (.pl rfl) (qf)) rfl ?_;refine a_ ?_;refine gl aA (fun a=>[(24,.int .i64 a)]) (fun a=>[al b6 131 (aH (bq.mk 0 0 0)),al b9 221 (bB x8)]) (HH 0 2 3 5 12 13 14 22 23) fun v12 Tp t15 bF ni OP tc=>?_;refine a_ ?_;refine Wc bF (fun pg bF=>?_) (fun pg bF=>?_)
    ·obtain⟨de,pi,bF⟩:=aj bF;refine a_ ?_;refine WL.q (Y.u_ Tryz.underlying182 eZ (aP.Mg hs4 (Cc (qf)).1) (.pl rfl) (.pl rfl) (aK (pi))) rfl ?_;refine WL.q (Y.Kh (enc:=bB) (ds:=(bB de)) (j:=0) Tryz.underlying221 rfl eZ (aP.Mg hs4 (Cc (qf)).1) (.pl rfl) (pi) rfl rfl m5) rfl ?_;refine mA fun gr=>?_;obtain⟨UU,kJ,bF⟩:=aj bF;refine c_ ?_;refine W.eh (fun a=>[(39,.bool a)]) (fun a=>[al b6 131 (aH (bq.mk 0 0 0)),al b9 221 (bB x8),al gr 221 (bB de)]) (fun a=>a=UU) (EU 0 2 3 5 7 12 13 14 22 23 24) (fun K23 Gi=>?_) ?_
     ·refine a_ ?_;refine dl ((x8.forward&&de.forward)==true) (fun kK=>?_) (fun kK=>?_)
      ·replace kJ:=fJ kK kJ;refine WL.gd (.pl rfl rfl rfl) (kK) ?_;obtain⟨r16,na,kJ⟩:=aj kJ;refine WL.step (WO.yi (γ:=Unit) (first:=[]) (cap:=[]) (fun g=>.bool ((decide (x8.first < de.last))&&(decide (de.first < x8.last)))) (fun g=>[al gr 221 (bB de),al b6 131 (aH (bq.mk 0 0 0)),al b9 221 (bB x8)]) (fun g=>True) Ib (.gd (kK) rfl) (.cons (.gd (kK) rfl) (.cons (.gd (kK) rfl) (.nil))) rfl (fun wz hw=>(rL (na) wz).calls hw) ?_);rintro _ -;refine a_ ?_;exact h1 Gi (oi kJ)
      ·replace kJ:=fK kK kJ;refine WL.gn (.pl rfl rfl rfl) kK rfl ?_;refine WL.q (Y.and (b:=false) (.pl rfl) (fun h2=>(AQ kK h2).elim)) rfl ?_;refine a_ ?_;exact h1 Gi (oi kJ)
     ·rintro cW rfl;refine Wc bF (fun rn bF=>?_) (fun rn bF=>?_)
      ·refine a_ ?_;refine WL.q (Y.build (cs:=(aH (bq.mk 4 x8.value de.value)).toArray) bV (.cons (.pl rfl) (.cons (.pl rfl) (.cons (.pl rfl) (.nil)))) (aX ⟨rfl,⟨rfl,⟨rfl,trivial⟩⟩⟩) rfl) rfl ?_;obtain rfl:=oi bF;obtain rfl:=dC ni;obtain rfl:=oi aJ;obtain rfl:=dC ec;obtain rfl:=oi hF;refine a_ ?_;exact rP
      ·obtain⟨Cz,bF⟩:=aW bF;refine a_ ?_;exact g1 tc (oj bF ni)
    ·refine a_ ?_;exact h0 di (oj bF ni)
   ·rintro rfl;obtain⟨Ai,aJ⟩:=aW aJ;refine a_ ?_;exact g1 jb (oj aJ ec)
  ·refine a_ ?_;exact h0 ko (oj aJ ec)
 ·rintro rfl;obtain⟨XF,ql,hF⟩:=aj hF;refine W.dR [] [al b6 131 (aH (bq.mk 0 0 0))] ((.inl ())=XF) (lr 2) (fun K30 Ng=>?_) ?_
  ·refine a_ ?_;refine gl ql (fun a=>[(49,.int .i64 a)]) (fun a=>[al b6 131 (aH (bq.mk 0 0 0))]) (qu 0 2 3 47 48) fun Lv k32 t32 qm Nh K33 Ni=>?_;refine a_ ?_;refine Wc qm (fun Nj qm=>?_) (fun Nj qm=>?_)
   ·obtain⟨o37,Nk,qm⟩:=aj qm;refine b_ ?_;refine W.dR [] [al b6 131 (aH (bq.mk 0 0 0))] ((.inl ())=o37) (wX 0 2 3 47 48 49) (fun K38 ZK=>?_) ?_
    ·obtain⟨jG,Aq,Nk⟩:=aj Nk;refine a_ ?_;refine mA fun FK=>?_;refine a_ ?_;refine gl Nk (fun a=>[(55,.int .i64 a)]) (fun a=>[al b6 131 (aH (bq.mk 0 0 0)),al FK 221 (bB jG)]) (HH 0 2 3 9 47 48 49 53 54) fun v22 k41 t41 nB Nl K42 ZL=>?_;refine a_ ?_;refine Wc nB (fun ZM nB=>?_) (fun ZM nB=>?_)
     ·obtain⟨cx,ng,nB⟩:=aj nB;refine a_ ?_;refine mA fun Dx=>?_;obtain⟨o48,xr,nB⟩:=aj nB;refine c_ ?_;refine W.eh (fun a=>[(71,.bool a)]) (fun a=>[al b6 131 (aH (bq.mk 0 0 0)),al FK 221 (bB jG),al Dx 221 (bB cx)]) (fun a=>a=o48) (EU 0 2 3 9 11 47 48 49 53 54 55) (fun K49 UV=>?_) ?_
      ·refine a_ ?_;refine dl ((jG.forward&&(!cx.forward))==true) (fun vP=>?_) (fun vP=>?_)
       ·replace xr:=fJ vP xr;refine WL.gd (.pl rfl rfl rfl) (vP) ?_;obtain⟨Pd,Nm,xr⟩:=aj xr;refine WL.step (WO.yi (γ:=Unit) (first:=[]) (cap:=[]) (fun g=>.bool ((decide (jG.first < cx.last))&&(decide (cx.first < jG.last)))) (fun g=>[al Dx 221 (bB cx),al b6 131 (aH (bq.mk 0 0 0)),al FK 221 (bB jG)]) (fun g=>True) Ib (.gd (vP) rfl) (.cons (.gd (vP) rfl) (.cons (.gd (vP) rfl) (.nil))) rfl (fun wz hw=>(rL (Nm) wz).calls hw) ?_);rintro _ -;refine a_ ?_;exact h1 UV (oi xr)
       ·replace xr:=fK vP xr;refine WL.gn (.pl rfl rfl rfl) vP rfl ?_;refine WL.q (Y.and (b:=false) (.pl rfl) (fun h2=>(AQ vP h2).elim)) rfl ?_;refine a_ ?_;exact h1 UV (oi xr)
      ·rintro v25 rfl;refine Wc nB (fun ZN nB=>?_) (fun ZN nB=>?_)
       ·refine a_ ?_;refine WL.q (Y.build (cs:=(aH (bq.mk 5 jG.value cx.value)).toArray) bV (.cons (.pl rfl) (.cons (.pl rfl) (.cons (.pl rfl) (.nil)))) (aX ⟨rfl,⟨rfl,⟨rfl,trivial⟩⟩⟩) rfl) rfl ?_;obtain rfl:=oi nB;obtain rfl:=dC Nl;obtain rfl:=oi qm;obtain rfl:=dC Nh;obtain rfl:=oi hF;refine a_ ?_;exact rP
       ·obtain⟨Jf,nB⟩:=aW nB;refine a_ ?_;exact g1 ZL (oj nB Nl)
     ·refine a_ ?_;exact h0 ZK (oj nB Nl)
    ·rintro rfl;obtain⟨CB,qm⟩:=aW qm;refine a_ ?_;exact g1 Ni (oj qm Nh)
   ·refine a_ ?_;exact h0 Ng (oj qm Nh)
  ·rintro rfl;refine a_ ?_;refine WL.q (Y.build (cs:=(aH (bq.mk 0 0 0)).toArray) bV (.nil) (aX trivial) rfl) rfl ?_;obtain rfl:=oi hF;refine a_ ?_;exact rP
def fk(N:Nat)(l1:(List Event)):Option (Bool×Int×Int×Int×Int):=bd (lf N l1) fun r7=>cond (!(decide (r7.2=0))) (some (false,0,0,0,r7.2)) (bd (fY N r7.1) fun ex=>bd (lg N r7.1 ex) fun kp=>bd (α:=(Int×Int×Int)) (cond (decide (kp.1=0)) (bd (jf N ex) fun DC=>bd (jA N DC) fun gz=>some (gz.1,gz.2.1,gz.2.2)) (some (kp.1,kp.2.1,kp.2.2))) <| fun(BR,Bo,UW)=>some ((decide (BR=0)),BR,Bo,UW,0))
theorem CM{N l1 res}(hF:fk N l1=some res)(w:World){v5}(hs4:aP aR 4 w v5 l1):Pure Tryz.prog 56 [v5] w (.tuple #[.bool res.1,.agg (aH (bq.mk res.2.1 res.2.2.1 res.2.2.2.1)).toArray,.int .i64 res.2.2.2.2]):=by
 obtain⟨A2,c3,rfl,g9,hs4⟩:=hs4.form;refine We 33 Tryz.func56 (St.start w) fun R hR=>?_;refine a_ ?_;refine mA fun b6=>?_;obtain⟨r7,pN,hF⟩:=aj hF;refine a_ ?_;refine kM UE (v1 rfl) (fun wz hw=>CD pN wz (hs4.mono hw)) ?_;rintro⟨A8,c9⟩ -;refine a_ ?_;refine Wc hF (fun dG hF=>?_) (fun dG hF=>?_)
 ·refine a_ ?_;refine WL.q (Y.build (cs:=(aH (bq.mk 0 0 0)).toArray) bV (.nil) (aX trivial) rfl) rfl ?_;obtain rfl:=oi hF;refine a_ ?_;exact rP
 ·obtain⟨ex,kD,hF⟩:=aj hF;refine a_ ?_;refine kM UF (v1 rfl) (fun wz hw=>zb kD wz (so hw)) ?_;rintro⟨bH,c12,abu⟩ -;obtain⟨kp,vF,hF⟩:=aj hF;refine a_ ?_;refine kC UG (v2 rfl rfl) (fun _ hw=>CK vF (sw hw)) ?_;rintro _ -;refine mA fun dI=>?_;obtain⟨o9,mG,hF⟩:=aj hF;refine b_ ?_;refine W.jI (fun a b c=>[]) (fun a b c=>[al b6 131 (aH (bq.mk 0 0 0)),al dI 131 (aH (bq.mk a b c))]) (fun a b c=>(a,b,c)=o9) (mD 3 8) (fun Xi w7=>?_) ?_
  ·refine a_ ?_;refine Wc mG (fun vo mG=>?_) (fun vo mG=>?_)
   ·obtain⟨DC,Nn,mG⟩:=aj mG;refine a_ ?_;refine kC UI (v1 rfl) (fun _ hw=>Ap Nn (sw hw)) ?_;rintro⟨KQ,c21⟩ -;obtain⟨gz,vk,mG⟩:=aj mG;refine kP UH (v1 rfl) (fun wz hw=>CL vk wz (so hw)) ?_;refine a_ ?_;exact h3 w7 (oi mG)
   ·refine a_ ?_;exact h3 w7 (oi mG)
  ·rintro BR Bo UW rfl;refine W.s7 5 (by kernel_rfl) (by kernel_rfl) fun Q14 ZO=>?_;refine Sq yf ?_;refine Sq sA ?_;refine Sq ye ?_;refine WS.q (Y.wR (ds:=(aH (bq.mk BR Bo UW))) Tryz.underlying131 rfl vN (.pl rfl) (i:=1) rfl rfl m5) rfl ?_;refine Sq ya ?_;refine WS.tail ?_;refine a_ ?_;refine xQ ZO ?_;obtain rfl:=oi hF;exact rP
end Go.Proofs.YtjdkkabcenohcaaGreatDoor
