import Derived.Test.YtjdkkabcenohcaaGreatDoorAuto
import Derived.Test.YtjdkkabcenohcaaGreatDoorV3
import Derived.Test.YtjdkkabcenohcaaGreatDoorSortN
set_option linter.unusedVariables false
set_option linter.defProp false
set_option linter.unusedSimpArgs false
set_option linter.unusedSectionVars false
set_option maxRecDepth 100000
namespace Go.Proofs.YtjdkkabcenohcaaGreatDoor
open Go.RowKit
attribute [local irreducible] Yd aD ik
structure dh where
 kind:Int
 a:Int
 b:Int
deriving DecidableEq
def dh.z:dh:=⟨0,0,0⟩
def bG(x:dh):List Value:=(Value.int .i64 x.kind::(Value.int .i64 x.a::(Value.int .i64 x.b::[])))
theorem ae6: ∀x,∀v∈bG x,v.oneCell'=true:=fun x=>(bu rfl (bu rfl (bu rfl iB)))
structure bv where
 value:Int
 first:Int
 last:Int
 forward:Bool
deriving DecidableEq
def bv.z:bv:=⟨0,0,0,false⟩
def dH(x:bv):List Value:=(Value.int .i64 x.value::(Value.int .i64 x.first::(Value.int .i64 x.last::(Value.bool x.forward::[]))))
theorem LT(x:bv):(dH x).length=4:=rfl
theorem AK: ∀x,∀v∈dH x,v.oneCell'=true:=fun x=>(bu rfl (bu rfl (bu rfl (bu rfl iB))))
structure ag where
 value:Int
 write:Int
 from_:Int
 reads:List Int
 ba:bv
 counts:Bool
deriving DecidableEq
def ag.z:ag:=⟨0,0,0,[],bv.z,false⟩
def bl(h:Hd)(x:ag):List Value:=(Value.int .i64 x.value::(Value.int .i64 x.write::(Value.int .i64 x.from_::(Value.slice h.1 x.reads.length h.2::(dH x.ba++(Value.bool x.counts::[]))))))
def bQ(h:Hd)(x:ag):List Chunk:=[cR (eI .i64) 1 h.1 h.2 3 x.reads]
theorem cz(h:Hd)(x:ag):(bl h x).length=9:=rfl
theorem vd(h:Hd)(x:ag): ∀v∈bl h x,v.oneCell'=true:=(bu rfl (bu rfl (bu rfl (bu rfl (AF (AK _) (bu rfl iB))))))
theorem d5:Tryz.prog.cellsOf 4=0+1:=by kernel_rfl
theorem EW:Tryz.prog.cellsOf 131=2+1:=by kernel_rfl
theorem jY:Tryz.prog.cellsOf 221=3+1:=by kernel_rfl
theorem pn:Tryz.prog.cellsOf 223=8+1:=by kernel_rfl
def ae7:=gg Tryz.func86
def ae8:=gg Tryz.func87
def ae9:=gg Tryz.func88
def ae_:=gg Tryz.func89
def ae':=gg Tryz.func90
def ab7:=gg Tryz.func122
def ab8:=gg Tryz.func124
def ab9:=gg Tryz.func125
def TI:=gg Tryz.func126
theorem ab_: ∃i,Tryz.prog.info? 131=some i∧i.zero=some (Value.agg #[(Value.int .i64 0),(Value.int .i64 0),(Value.int .i64 0)]):=⟨_,rfl,by kernel_rfl⟩
theorem ab': ∃i,Tryz.prog.info? 221=some i∧i.zero=some (Value.agg #[(Value.int .i64 0),(Value.int .i64 0),(Value.int .i64 0),(Value.bool false)]):=⟨_,rfl,by kernel_rfl⟩
theorem aca: ∃i,Tryz.prog.info? 223=some i∧i.zero=some (Value.agg #[(Value.int .i64 0),(Value.int .i64 0),(Value.int .i64 0),(Value.slice none 0 0),(Value.int .i64 0),(Value.int .i64 0),(Value.int .i64 0),(Value.bool false),(Value.bool false)]):=⟨_,rfl,by kernel_rfl⟩
@[reducible,instance] def aln:=CT.mk jY
instance:FT Tryz.prog 223 4 4 221:=⟨_,Tryz.underlying223,rfl⟩
@[reducible,instance] def alo:=ZI.mk aca
@[reducible,instance] def alp:=UT.mk Tryz.underlying223
@[reducible,instance] def alq:=CT.mk pn
@[reducible,instance] def alr:=UT.mk Tryz.underlying178
instance:FT Tryz.prog 223 0 0 3:=⟨_,Tryz.underlying223,rfl⟩
@[reducible,instance] def c131:=CT.mk EW
instance:ON bG:=⟨ae6⟩
@[reducible,instance] def z131:=ZI.mk ab_
instance:FT Tryz.prog 131 0 0 3:=⟨_,Tryz.underlying131,rfl⟩
@[reducible,instance] def als:=UT.mk Tryz.underlying131
@[reducible,instance] def c4:=CT.mk d5
instance:FT Tryz.prog 223 5 8 4:=⟨_,Tryz.underlying223,rfl⟩
@[reducible,instance] def u4:=UT.mk Tryz.underlying4
instance:FT Tryz.prog 221 1 1 3:=⟨_,Tryz.underlying221,rfl⟩
instance:FT Tryz.prog 221 2 2 3:=⟨_,Tryz.underlying221,rfl⟩
@[reducible,instance] def alt:=UT.mk Tryz.underlying182
@[reducible,instance] def alu:=UT.mk Tryz.underlying221
instance:EN dH 4:=⟨LT⟩
instance:ON dH:=⟨AK⟩
@[reducible,instance] def alv:=ZI.mk ab'
instance:FT Tryz.prog 221 3 3 4:=⟨_,Tryz.underlying221,rfl⟩
instance:FT Tryz.prog 221 0 0 3:=⟨_,Tryz.underlying221,rfl⟩
theorem ahp: ∃i,Tryz.prog.info? 221=some i∧i.zero=some (Value.agg #[(Value.int .i64 0),(Value.int .i64 0),(Value.int .i64 0),(Value.bool false)])∧i.size=4:=⟨_,rfl,by kernel_rfl,by kernel_rfl⟩
theorem Vg: ∃i,Tryz.prog.info? 223=some i∧i.zero=some (Value.agg #[(Value.int .i64 0),(Value.int .i64 0),(Value.int .i64 0),(Value.slice none 0 0),(Value.int .i64 0),(Value.int .i64 0),(Value.int .i64 0),(Value.bool false),(Value.bool false)])∧i.size=9:=⟨_,rfl,by kernel_rfl,by kernel_rfl⟩
theorem ahq: ∃i z,Tryz.prog.info? 221=some i∧i.zero=some z∧i.size=4∧i.bytes=32∧z.cells.size=4∧0 < 4:=⟨_,(Value.agg #[(Value.int .i64 0),(Value.int .i64 0),(Value.int .i64 0),(Value.bool false)]),rfl,by kernel_rfl,by kernel_rfl,by kernel_rfl,by kernel_rfl,by decide⟩
theorem aaX: ∃i z,Tryz.prog.info? 223=some i∧i.zero=some z∧i.size=9∧i.bytes=88∧z.cells.size=9∧0 < 9:=⟨_,(Value.agg #[(Value.int .i64 0),(Value.int .i64 0),(Value.int .i64 0),(Value.slice none 0 0),(Value.int .i64 0),(Value.int .i64 0),(Value.int .i64 0),(Value.bool false),(Value.bool false)]),rfl,by kernel_rfl,by kernel_rfl,by kernel_rfl,by kernel_rfl,by decide⟩
theorem e_:Shape Tryz.prog 131 [(0,1),(1,1),(2,1)] #[(Value.int .i64 0),(Value.int .i64 0),(Value.int .i64 0)]:=⟨_,_,Value.agg #[(Value.int .i64 0),(Value.int .i64 0),(Value.int .i64 0)],Tryz.underlying131,rfl,by kernel_rfl,rfl,by kernel_rfl,by decide⟩
theorem Qn:Shape Tryz.prog 221 [(0,1),(1,1),(2,1),(3,1)] #[(Value.int .i64 0),(Value.int .i64 0),(Value.int .i64 0),(Value.bool false)]:=⟨_,_,Value.agg #[(Value.int .i64 0),(Value.int .i64 0),(Value.int .i64 0),(Value.bool false)],Tryz.underlying221,rfl,by kernel_rfl,rfl,by kernel_rfl,by decide⟩
theorem Qo:Shape Tryz.prog 223 [(0,1),(1,1),(2,1),(3,1),(4,4),(8,1)] #[(Value.int .i64 0),(Value.int .i64 0),(Value.int .i64 0),(Value.slice none 0 0),(Value.int .i64 0),(Value.int .i64 0),(Value.int .i64 0),(Value.bool false),(Value.bool false)]:=⟨_,_,Value.agg #[(Value.int .i64 0),(Value.int .i64 0),(Value.int .i64 0),(Value.slice none 0 0),(Value.int .i64 0),(Value.int .i64 0),(Value.int .i64 0),(Value.bool false),(Value.bool false)],Tryz.underlying223,rfl,by kernel_rfl,rfl,by kernel_rfl,by decide⟩
def ta(N:Nat)(r7:((List Call)×Int×Int)):((List (Int×Bool))×Int)→Option (((List (Int×Bool))×Int) ⊕(Unit ⊕((List Call)×Int)))|(Kv,v12)=>cond (decide (v12 < ((r7.1).length:Int))) (bd (ix r7.1 v12) fun gG=>cond (decide (gG.kind=1)) (cond ((gz Kv gG.arg).getD false) (some (.inr (.inr ([],6)))) (ck (bB (v12+1)) <| some (.inl ((kX Kv gG.arg true),(v12+1))))) (ck (bB (v12+1)) <| some (.inl (Kv,(v12+1))))) (some (.inr (.inl ())))
def re(N:Nat)(l1:(List Event)):Option ((List Call)×Int):=bd (cB N ([1]:List Int) l1) fun r7=>cond (!(decide (r7.2.2=0))) (some ([],r7.2.2)) (bd (α:=(Unit ⊕((List Call)×Int))) (iter (ta N r7) N (([]:List (Int×Bool)),0)) <| Sum.elim (fun _=>some (r7.1,0)) (fun p=>some p))
theorem LU{N l1 res}(hF:re N l1=some res)(w:World){v5}(hs4:bi az 4 w v5 l1):Made Tryz.prog 86 [v5] w (fun g:(Option Addr×Nat)=>.tuple #[.slice g.1 (res.1).length g.2,.int .i64 res.2]) (fun g=>[cR aC 7 g.1 g.2 162 res.1]) (fun g=>True):=by
 obtain⟨A2,c3,rfl,jy,hs4⟩:=hs4.form;refine We 39 Tryz.func86 (St.start w) fun R hR=>?_;refine a_ ?_;refine WL.step (WO.cC (enc:=(eI .i64)) (ys:=([1]:List Int)) Tryz.underlying29 ut (.cons (.pl rfl) (.nil)) rfl (fun _=>rfl) rfl rfl (by decide) (by decide) rfl fun b6=>?_);obtain⟨r7,Bi,hF⟩:=al hF;refine a_ ?_;refine kM yT (v2 rfl rfl) (fun wz hw=>jj Bi wz (so hw) (hs4.mono hw)) ?_;rintro⟨A8,c9⟩ -;refine a_ ?_;refine Wc hF (fun fT hF=>?_) (fun fT hF=>?_)
 ·obtain rfl:=oi hF;refine a_ ?_;exact rG (none,0)
 ·refine a_ ?_;refine WL.step (WO.UM Value.bool rfl fun qW=>?_);obtain⟨o8,pQ,hF⟩:=al hF;refine b_ ?_;refine W.fQ [] [cR aC 7 A8 c9 162 r7.1] ((.inl ())=o8) (mM 4) (fun K9 Bf=>?_) ?_
  ·refine a_ ?_;refine xP pQ (fun a b=>[(23,.int .i64 b)]) (fun a b=>[cR aC 7 A8 c9 162 r7.1,cM Value.bool (some qW) a]) (lE 4 7 21 22) fun Kv v12 k11 t11 bk pg zZ gr=>?_;refine a_ ?_;refine Wc bk (fun pi bk=>?_) (fun pi bk=>?_)
   ·obtain⟨gG,x_,bk⟩:=al bk;refine a_ ?_;refine mA fun gK=>?_;refine a_ ?_;refine Wc bk (fun sC bk=>?_) (fun sC bk=>?_)
    ·refine a_ ?_;refine WL.q (Y.gz (f:=Value.bool) (dv:=false) Tryz.underlying219 Tryz.underlying3 U7 (.pl rfl) (.pl rfl) (i:=2) rfl) rfl ?_;refine a_ ?_;refine Wc bk (fun uU bk=>?_) (fun uU bk=>?_)
     ·obtain rfl:=oi bk;obtain rfl:=fy pg;obtain rfl:=oi hF;refine a_ ?_;exact rG (none,0)
     ·refine a_ ?_;refine WL.step (WO.Yx (f:=Value.bool) (a:=true) Tryz.underlying219 Tryz.underlying3 (.pl rfl) (.pl rfl) (.pl rfl) (i:=2) rfl ?_);obtain⟨I5,bk⟩:=bx bk;refine a_ ?_;exact g2 gr (oj bk pg)
    ·obtain⟨GA,bk⟩:=bx bk;refine a_ ?_;exact g2 gr (oj bk pg)
   ·refine a_ ?_;exact h0 Bf (oj bk pg)
  ·rintro rfl;obtain rfl:=oi hF;refine a_ ?_;exact rG (A8,c9)
def afa:Go.Shelf.Ren:=⟨fun x=>match x with|6=>122|14=>158|15=>159|20=>180|21=>181|22=>182|23=>183|24=>184|25=>185|26=>186|27=>187|28=>188|29=>176|46=>205|47=>206|48=>207|49=>208|50=>209|57=>224|n=>n,fun x=>match x with|0=>0|3=>3|4=>4|5=>5|9=>9|22=>178|24=>223|25=>226|39=>176|45=>288|46=>289|50=>158|53=>255|55=>263|66=>312|70=>316|76=>331|77=>332|n=>n,fun x=>x⟩
theorem acb:SlLaysF0.n6 Tryz.prog afa where
 mixed:=by kernel_rfl
 f6:=⟨Tryz.f122.name,by kernel_rfl,Tryz.func122.trans (congrArg some (by kernel_rfl))⟩
 f14:=⟨Tryz.f158.name,by kernel_rfl,Tryz.func158.trans (congrArg some (by kernel_rfl))⟩
 f15:=Tryz.func159.trans (congrArg some (by kernel_rfl))
 f20:=⟨Tryz.f180.name,by kernel_rfl,Tryz.func180.trans (congrArg some (by kernel_rfl))⟩
 f21:=⟨Tryz.f181.name,by kernel_rfl,Tryz.func181.trans (congrArg some (by kernel_rfl))⟩
 f22:=⟨Tryz.f182.name,by kernel_rfl,Tryz.func182.trans (congrArg some (by kernel_rfl))⟩
 f23:=⟨Tryz.f183.name,by kernel_rfl,Tryz.func183.trans (congrArg some (by kernel_rfl))⟩
 f24:=⟨Tryz.f184.name,by kernel_rfl,Tryz.func184.trans (congrArg some (by kernel_rfl))⟩
 f25:=⟨Tryz.f185.name,by kernel_rfl,Tryz.func185.trans (congrArg some (by kernel_rfl))⟩
 f26:=⟨Tryz.f186.name,by kernel_rfl,Tryz.func186.trans (congrArg some (by kernel_rfl))⟩
 f27:=⟨Tryz.f187.name,by kernel_rfl,Tryz.func187.trans (congrArg some (by kernel_rfl))⟩
 f28:=Tryz.func188.trans (congrArg some (by kernel_rfl))
 f29:=Tryz.func176.trans (congrArg some (by kernel_rfl))
 f46:=⟨Tryz.f205.name,by kernel_rfl,Tryz.func205.trans (congrArg some (by kernel_rfl))⟩
 f47:=Tryz.func206.trans (congrArg some (by kernel_rfl))
 f48:=Tryz.func207.trans (congrArg some (by kernel_rfl))
 f49:=⟨Tryz.f208.name,by kernel_rfl,Tryz.func208.trans (congrArg some (by kernel_rfl))⟩
 f50:=⟨Tryz.f209.name,by kernel_rfl,Tryz.func209.trans (congrArg some (by kernel_rfl))⟩
 f57:=⟨Tryz.f224.name,by kernel_rfl,Tryz.func224.trans (congrArg some (by kernel_rfl))⟩
 t0:=Tryz.underlying0
 a0:=Tryz.isAgg0
 z0:=Tryz.sizeOf0
 v0:=Tryz.zeroValue0
 t3:=Tryz.underlying3
 a3:=Tryz.isAgg3
 z3:=Tryz.sizeOf3
 v3:=Tryz.zeroValue3
 t4:=Tryz.underlying4
 a4:=Tryz.isAgg4
 z4:=Tryz.sizeOf4
 v4:=Tryz.zeroValue4
 t5:=Tryz.underlying5
 a5:=Tryz.isAgg5
 z5:=Tryz.sizeOf5
 v5:=Tryz.zeroValue5
 t9:=Tryz.underlying9
 a9:=Tryz.isAgg9
 z9:=Tryz.sizeOf9
 v9:=Tryz.zeroValue9
 t22:=Tryz.underlying178
 a22:=Tryz.isAgg178
 z22:=Tryz.sizeOf178
 v22:=Tryz.zeroValue178
 t25:=Tryz.underlying226
 a25:=Tryz.isAgg226
 z25:=Tryz.sizeOf226
 v25:=Tryz.zeroValue226
 t39:=Tryz.underlying176
 a39:=Tryz.isAgg176
 z39:=Tryz.sizeOf176
 v39:=Tryz.zeroValue176
 t45:=Tryz.underlying288
 a45:=Tryz.isAgg288
 z45:=Tryz.sizeOf288
 v45:=Tryz.zeroValue288
 t46:=Tryz.underlying289
 a46:=Tryz.isAgg289
 z46:=Tryz.sizeOf289
 v46:=Tryz.zeroValue289
 t50:=Tryz.underlying158
 a50:=Tryz.isAgg158
 z50:=Tryz.sizeOf158
 v50:=Tryz.zeroValue158
 t53:=Tryz.underlying255
 a53:=Tryz.isAgg255
 z53:=Tryz.sizeOf255
 v53:=Tryz.zeroValue255
 t55:=Tryz.underlying263
 a55:=Tryz.isAgg263
 z55:=Tryz.sizeOf263
 v55:=Tryz.zeroValue263
 t66:=Tryz.underlying312
 a66:=Tryz.isAgg312
 z66:=Tryz.sizeOf312
 v66:=Tryz.zeroValue312
 t70:=Tryz.underlying316
 a70:=Tryz.isAgg316
 z70:=Tryz.sizeOf316
 v70:=Tryz.zeroValue316
 t76:=Tryz.underlying331
 a76:=Tryz.isAgg331
 z76:=Tryz.sizeOf331
 v76:=Tryz.zeroValue331
 t77:=Tryz.underlying332
 a77:=Tryz.isAgg332
 z77:=Tryz.sizeOf332
 v77:=Tryz.zeroValue332
theorem afb(x:Int)(w:World):Calls Tryz.prog 148 #[.int .i64 x] w fun e w'=>e= .returned (.bool false)∧w'=w:=by
 go_enter Tryz.func148,Tryz.ntmps148
 go_wp2
 go_ret
 exact⟨by simp,rfl⟩
theorem afc(x y:Int)(w:World):Calls Tryz.prog 114 #[.int .i64 x,.int .i64 y] w fun e w'=>e= .returned (.int .i64 (Go.Lib.compareInt x y))∧w'=w:=by
 go_enter Tryz.func114,Tryz.ntmps114
 go_wp2_with (go_at_call 148;refine(afb _ _).mono ?_;rintro e w' ⟨rfl,hw⟩;rw[hw])
 all_goals (go_ret;refine⟨?_,rfl⟩;unfold Go.Lib.compareInt;(repeat' split)<;>first|rfl|(exfalso;omega))
theorem wL(x y:Int):Go.Lib.compareInt x y < 0↔x < y:=by
 unfold Go.Lib.compareInt
 split
 ·omega
 ·split<;>omega
def ve:ag→Bool:=fun x=>true
instance:Inhabited (iu ve):=⟨⟨ag.z,rfl⟩⟩
abbrev yk:ag→ag→Int:=fun a b=>Go.Lib.compareInt a.value b.value
theorem Il:Go.Sort.SWO (ltOf fun a b:iu ve=>yk a.1 b.1):=by
 refine⟨fun x=>?_,fun x y z h1 h2=>?_,fun x y z h1 h2=>?_⟩
 ·exact decide_eq_false (by rw[wL];omega)
 ·have h1:x.1.value < y.1.value:=(wL _ _).1 (of_decide_eq_true h1)
  have h2:y.1.value < z.1.value:=(wL _ _).1 (of_decide_eq_true h2)
  exact decide_eq_true ((wL x.1.value z.1.value).2 (by omega))
 ·have h1: ¬x.1.value < y.1.value:=fun h=>(of_decide_eq_false h1) ((wL _ _).2 h)
  have h2: ¬y.1.value < z.1.value:=fun h=>(of_decide_eq_false h2) ((wL _ _).2 h)
  exact decide_eq_false (fun h=>by have h:x.1.value < z.1.value:=(wL _ _).1 h;omega)
theorem SA(h h':Hd)(x y:ag)(hx:ve x=true)(hy:ve y=true)(W:World):Calls Tryz.prog 123 #[.agg (bl h x).toArray,.agg (bl h' y).toArray] W fun e w'=>e= .returned (.int .i64 (yk x y))∧∃q os',w'=Go.Sort.grow (W.drewN q) os':=by
 obtain⟨a1,a2,a3,a4,⟨a5,a6,a7,a8⟩,a9⟩:=x
 obtain⟨b1,b2,b3,b4,⟨b5,b6,b7,b8⟩,b9⟩:=y
 have Vh:=fun W'=>afc a1 b1 W'
 show Calls Tryz.prog 123 #[.agg #[.int .i64 a1,.int .i64 a2,.int .i64 a3,.slice h.1 a4.length h.2,.int .i64 a5,.int .i64 a6,.int .i64 a7,.bool a8,.bool a9],.agg #[.int .i64 b1,.int .i64 b2,.int .i64 b3,.slice h'.1 b4.length h'.2,.int .i64 b5,.int .i64 b6,.int .i64 b7,.bool b8,.bool b9]] W fun e w'=>e= .returned (.int .i64 (Go.Lib.compareInt a1 b1))∧∃q os',w'=Go.Sort.grow (W.drewN q) os'
 generalize Go.Lib.compareInt a1 b1=r at Vh⊢
 go_enter Tryz.func123,Tryz.ntmps123
 go_wp2_with (go_at_call 114;refine(Vh _).mono ?_;rintro e w' ⟨rfl,rfl⟩)
 go_ret
 exact⟨rfl,0,_,by rw[Go.Sort.alloc_eq_grow,Go.Sort.alloc_eq_grow,Go.Sort.grow_grow];rfl⟩
def DJ(N:Nat)(xs:List ag):Option (List ag):=Ku ve yk xs
theorem Vi{N:Nat}{mN:(List ag)}{nG:Option Addr}{lP:Nat}{hI6:List Hd}{res:(List ag)}(hF:DJ N mN=some res){w0 w:World}{T:List Chunk}(hw:St w0.heap.size w0 (cN bl bQ 9 nG lP 223 hI6 mN::T) w):
  Calls Tryz.prog 122 (List.toArray [.slice nG (mN).length lP,.func (.func 123) #[] #[]]) w (fun e w'=>∃g:List Hd,((res).length=(mN).length)∧e= .returned (.tuple #[])∧St w0.heap.size w0 (cN bl bQ 9 nG lP 223 g res::T) w'):=
 Sz acb Tryz.isAgg223 Tryz.sizeOf223 cz vd Il (enters_of Tryz.func123 (by kernel_rfl) rfl) SA hF hw
def lT(N:Nat)(c1:(List Call)):((List ag)×Int)→Option (((List ag)×Int) ⊕(List ag))|(lK,fB)=>cond (decide (fB < ((c1).length:Int))) (bd (ix c1 fB) fun dJ=>cond (!(decide (dJ.kind=1))) (ck (bB (fB+1)) <| some (.inl (lK,(fB+1)))) (cond (decide (dJ.aY=(-1))) (ck (eY 88 ((lK).length+(([(ag.mk dJ.arg fB dJ.from_ [] (bv.mk dJ.arg 200 dJ.from_ false) (!(decide (dJ.aY=(-1)))))]:List ag)).length)) <| ck (bB (fB+1)) <| some (.inl ((lK++([(ag.mk dJ.arg fB dJ.from_ [] (bv.mk dJ.arg 200 dJ.from_ false) (!(decide (dJ.aY=(-1)))))]:List ag)),(fB+1)))) (ck (eY 88 ((lK).length+(([(ag.mk dJ.arg fB dJ.from_ [] (bv.mk dJ.arg dJ.aY dJ.from_ false) (!(decide (dJ.aY=(-1)))))]:List ag)).length)) <| ck (bB (fB+1)) <| some (.inl ((lK++([(ag.mk dJ.arg fB dJ.from_ [] (bv.mk dJ.arg dJ.aY dJ.from_ false) (!(decide (dJ.aY=(-1)))))]:List ag)),(fB+1)))))) (some (.inr lK))
def oG(N:Nat)(c1:(List Call))(dU:Int):((List ag)×Int)→Option (((List ag)×Int) ⊕(List ag))|(kh,eU)=>cond (decide (eU < ((c1).length:Int))) (bd (ix c1 eU) fun mg=>bd ((cond (((decide (mg.kind=2))&&(!(decide (mg.aY=(-1)))))==true) (ix kh dU) (some ag.z))) fun Kw=>cond (((decide (mg.kind=2))&&(!(decide (mg.aY=(-1)))))&&(decide (mg.res=Kw.value))) (bd (ix kh dU) fun eG=>ck (eY 8 ((eG.reads).length+(([eU]:List Int)).length)) <| bd (ix kh dU) fun aF=>bd (ix (kh.set dU.toNat (ag.mk aF.value aF.write aF.from_ (eG.reads++([eU]:List Int)) aF.ba aF.counts)) dU) fun x52=>bd (ix ((kh.set dU.toNat (ag.mk aF.value aF.write aF.from_ (eG.reads++([eU]:List Int)) aF.ba aF.counts)).set dU.toNat (ag.mk aF.value aF.write aF.from_ (eG.reads++([eU]:List Int)) aF.ba true)) dU) fun x53=>bd (ix ((kh.set dU.toNat (ag.mk aF.value aF.write aF.from_ (eG.reads++([eU]:List Int)) aF.ba aF.counts)).set dU.toNat (ag.mk aF.value aF.write aF.from_ (eG.reads++([eU]:List Int)) aF.ba true)) dU) fun x54=>bd (ix ((kh.set dU.toNat (ag.mk aF.value aF.write aF.from_ (eG.reads++([eU]:List Int)) aF.ba aF.counts)).set dU.toNat (ag.mk aF.value aF.write aF.from_ (eG.reads++([eU]:List Int)) aF.ba true)) dU) fun x55=>bd (ix (((kh.set dU.toNat (ag.mk aF.value aF.write aF.from_ (eG.reads++([eU]:List Int)) aF.ba aF.counts)).set dU.toNat (ag.mk aF.value aF.write aF.from_ (eG.reads++([eU]:List Int)) aF.ba true)).set dU.toNat (ag.mk aF.value aF.write aF.from_ (eG.reads++([eU]:List Int)) (bv.mk aF.ba.value (min aF.ba.first mg.aY) aF.ba.last aF.ba.forward) true)) dU) fun x56=>ck (bB (eU+1)) <| some (.inl (((((kh.set dU.toNat (ag.mk aF.value aF.write aF.from_ (eG.reads++([eU]:List Int)) aF.ba aF.counts)).set dU.toNat (ag.mk aF.value aF.write aF.from_ (eG.reads++([eU]:List Int)) aF.ba true)).set dU.toNat (ag.mk aF.value aF.write aF.from_ (eG.reads++([eU]:List Int)) (bv.mk aF.ba.value (min aF.ba.first mg.aY) aF.ba.last aF.ba.forward) true)).set dU.toNat (ag.mk aF.value aF.write aF.from_ (eG.reads++([eU]:List Int)) (bv.mk aF.ba.value (min aF.ba.first mg.aY) (max aF.ba.last mg.from_) aF.ba.forward) true)),(eU+1)))) (ck (bB (eU+1)) <| some (.inl (kh,(eU+1))))) (some (.inr kh))
def oH(N:Nat)(Qp:(List ag))(c1:(List Call)):((List ag)×Int)→Option (((List ag)×Int) ⊕(List ag))|(Om,dU)=>cond (decide (dU < ((Qp).length:Int))) (bd (α:=(List ag)) (bd (ix Om dU) fun BB=>bd (α:=(List ag)) (iter (oG N c1 dU) N (Om,0)) <| fun HN=>bd (ix HN dU) fun xq=>bd (ix HN dU) fun GB=>bd (ix HN dU) fun nT=>some (HN.set dU.toNat (ag.mk nT.value nT.write nT.from_ nT.reads (bv.mk nT.ba.value nT.ba.first nT.ba.last (decide (xq.ba.first < GB.ba.last))) nT.counts))) <| fun HF=>ck (bB (dU+1)) <| some (.inl (HF,(dU+1)))) (some (.inr Om))
def lA(N:Nat)(c1:(List Call)):Option (List ag):=bd (α:=(List ag)) (iter (lT N c1) N (([(ag.mk 0 (-1) (-1) [] (bv.mk 0 (-1) (-1) false) false)]:List ag),0)) <| fun Qp=>bd (α:=(List ag)) (iter (oH N Qp c1) N (Qp,0)) <| fun Vj=>bd (DJ N Vj) fun r64=>some r64
theorem H1{N c1 res}(hF:lA N c1=some res)(w:World){v5}(hs4:bi aC 7 w v5 c1):Made Tryz.prog 87 [v5] w (fun g:(Option Addr×Nat×List Hd)=>.slice g.1 (res).length g.2.1) (fun g=>[cN bl bQ 9 g.1 g.2.1 223 g.2.2 res]) (fun g=>True):=by
 obtain⟨A2,c3,rfl,jy,hs4⟩:=hs4.form;refine We 140 Tryz.func87 (St.start w) fun R hR=>?_;refine a_ ?_;refine WL.q (Y.build (cs:=(dH (bv.mk 0 (-1) (-1) false)).toArray) Qn (.cons (.pl rfl) (.cons (.pl rfl) (.nil))) (bH ⟨rfl,⟨rfl,trivial⟩⟩) rfl) rfl ?_;refine WL.q (Y.OP (cs:=(Value.int .i64 0::(Value.int .i64 (-1)::(Value.int .i64 (-1)::(Value.slice none 0 0::((dH (bv.mk 0 (-1) (-1) false))++(Value.bool false::[])))))).toArray) Qo (.cons (.pl rfl) (.cons (.pl rfl) (.cons (.pl rfl) (.nil)))) (by kernel_rfl)) rfl ?_;refine WL.step (WO.vC (enc:=bl) (bN:=bQ) (hs:=([((none,0):Hd)]:List Hd)) (xs:=([(ag.mk 0 (-1) (-1) [] (bv.mk 0 (-1) (-1) false) false)]:List ag)) Tryz.underlying178 Vg (.cons (.pl rfl) (.nil)) rfl rfl rfl rfl rfl cz (by decide) (by decide) (.trans (.qp (eI .i64) 1 3) (.pick [0] rfl)) rfl fun b6=>?_);obtain⟨o3,ff,hF⟩:=al hF;refine b_ ?_;refine W.s7 (fun a b c d=>[(3,.slice b (a).length c)]) (fun a b c d=>[cN bl bQ 9 b c 223 d a]) (fun a b c d=>a=o3) (mM 0) (fun K4 mb=>?_) ?_
 ·refine a_ ?_;refine Er ff (fun a b c d f=>[(3,.slice c (a).length d),(16,.int .i64 b)]) (fun a b c d f=>[cN bl bQ 9 c d 223 f a]) (fY 0 14 15) fun lK fB cg c12 fO k6 t6 bF iE K7 lF=>?_;refine a_ ?_;refine Wc bF (fun iL bF=>?_) (fun iL bF=>?_)
  ·obtain⟨dJ,Gn,bF⟩:=al bF;refine a_ ?_;refine mA fun nH=>?_;refine a_ ?_;refine Wc bF (fun pi bF=>?_) (fun pi bF=>?_)
   ·obtain⟨Gx,bF⟩:=bx bF;refine a_ ?_;exact g5 lF (oj bF iE)
   ·refine a_ ?_;refine WL.q (Y.build (cs:=(Value.int .i64 dJ.arg::(Value.int .i64 fB::(Value.int .i64 dJ.from_::(Value.slice none 0 0::((dH (bv.mk 0 0 0 false))++(Value.bool (!(decide (dJ.aY=(-1))))::[])))))).toArray) Qo (.cons (.pl rfl) (.cons (.pl rfl) (.cons (.pl rfl) (.cons (.pl rfl) (.nil))))) (bH ⟨rfl,⟨rfl,⟨rfl,⟨rfl,trivial⟩⟩⟩⟩) rfl) rfl ?_;refine mA fun eL=>?_;refine WL.step (WO.q_ (ds:=(Value.int .i64 dJ.arg::(Value.int .i64 fB::(Value.int .i64 dJ.from_::(Value.slice none 0 0::((dH (bv.mk 0 0 0 false))++(Value.bool (!(decide (dJ.aY=(-1))))::[]))))))) (cs':=(Value.int .i64 dJ.arg::(Value.int .i64 fB::(Value.int .i64 dJ.from_::(Value.slice none 0 0::((dH (bv.mk 0 0 0 false))++(Value.bool (!(decide (dJ.aY=(-1))))::[]))))))) pn (.pl rfl) (.pl rfl) rfl (bu rfl (bu rfl (bu rfl (bu rfl (AF (AK _) (bu rfl iB)))))) (i:=0) rfl (JN (o:=0) (l:=9) (m:=9) (by decide) rfl rfl) (Ej rfl) ?_);refine a_ ?_;refine WL.q (Y.build (cs:=(dH (bv.mk dJ.arg dJ.aY dJ.from_ false)).toArray) Qn (.cons (.pl rfl) (.cons (.pl rfl) (.cons (.pl rfl) (.nil)))) (bH ⟨rfl,⟨rfl,⟨rfl,trivial⟩⟩⟩) rfl) rfl ?_;refine a_ ?_;refine WL.step (WO.q_ (ds:=(dH (bv.mk dJ.arg dJ.aY dJ.from_ false))) (cs':=(Value.int .i64 dJ.arg::(Value.int .i64 fB::(Value.int .i64 dJ.from_::(Value.slice none 0 0::((dH (bv.mk dJ.arg dJ.aY dJ.from_ false))++(Value.bool (!(decide (dJ.aY=(-1))))::[]))))))) jY (.pl rfl) (.pl rfl) rfl (AK _) (i:=0) rfl (JN (l:=4) (m:=9) (by decide) rfl rfl) (Wk (a:=(Value.int .i64 dJ.arg::(Value.int .i64 fB::(Value.int .i64 dJ.from_::(Value.slice none 0 0::[]))))) (b:=(dH (bv.mk 0 0 0 false))) (c:=(Value.bool (!(decide (dJ.aY=(-1))))::[])) (ds:=(dH (bv.mk dJ.arg dJ.aY dJ.from_ false))) rfl rfl) ?_);refine a_ ?_;refine Wc bF (fun su bF=>?_) (fun su bF=>?_)
    ·refine a_ ?_;refine WL.q (Y.fieldAddr (off:=1) (ft:=3) Tryz.underlying221 rfl bh (.pl rfl)) rfl ?_;refine WL.step (WO.dC (cs':=(Value.int .i64 dJ.arg::(Value.int .i64 fB::(Value.int .i64 dJ.from_::(Value.slice none 0 0::((dH (bv.mk dJ.arg 200 dJ.from_ false))++(Value.bool (!(decide (dJ.aY=(-1))))::[]))))))) bh (.pl rfl) (.pl rfl) rfl (i:=0) rfl (iQ (m:=9) (by decide) rfl) (rfl) ?_);refine a_ ?_;refine WL.step (WO.vC (enc:=bl) (bN:=bQ) (hs:=([((none,0):Hd)]:List Hd)) (xs:=([(ag.mk dJ.arg fB dJ.from_ [] (bv.mk dJ.arg 200 dJ.from_ false) (!(decide (dJ.aY=(-1)))))]:List ag)) Tryz.underlying178 Vg (.cons (.pl rfl) (.nil)) rfl rfl rfl rfl rfl cz (by decide) (by decide) (.trans (.qp (eI .i64) 1 3) (.pick [0,1,2,3] rfl)) rfl fun DK=>?_);obtain⟨BC,bF⟩:=bx bF;refine WL.step (WO.xO (enc:=bl) (bN:=bQ) (hs:=fO) Tryz.underlying178 aaX cz vd (.pl rfl) rfl (.pl rfl) (i:=2) rfl (BC) rfl fun Cw Im=>?_);obtain⟨wD,bF⟩:=bx bF;refine a_ ?_;exact g5 lF (oj bF iE)
    ·refine a_ ?_;refine WL.step (WO.vC (enc:=bl) (bN:=bQ) (hs:=([((none,0):Hd)]:List Hd)) (xs:=([(ag.mk dJ.arg fB dJ.from_ [] (bv.mk dJ.arg dJ.aY dJ.from_ false) (!(decide (dJ.aY=(-1)))))]:List ag)) Tryz.underlying178 Vg (.cons (.pl rfl) (.nil)) rfl rfl rfl rfl rfl cz (by decide) (by decide) (.trans (.qp (eI .i64) 1 3) (.pick [0,1,2,3] rfl)) rfl fun qm=>?_);obtain⟨zH,bF⟩:=bx bF;refine WL.step (WO.xO (enc:=bl) (bN:=bQ) (hs:=fO) Tryz.underlying178 aaX cz vd (.pl rfl) rfl (.pl rfl) (i:=2) rfl (zH) rfl fun DF DG=>?_);obtain⟨EV,bF⟩:=bx bF;refine a_ ?_;exact g5 lF (oj bF iE)
  ·refine a_ ?_;exact h4 mb (oj bF iE)
 ·rintro Qp A7 c8 dV rfl;obtain⟨o27,kD,hF⟩:=al hF;refine W.Ak (fun a b=>[(3,.slice A7 (a).length c8)]) (fun a b=>[cN bl bQ 9 A7 c8 223 b a]) (fun a b=>a=o27) (.nil) (fun K28 LV=>?_) ?_
  ·refine a_ ?_;refine YD kD (fun a b c=>[(3,.slice A7 (a).length c8),(53,.int .i64 b)]) (fun a b c=>[cN bl bQ 9 A7 c8 223 c a]) (m_ 0 52) fun Om dU alw k30 t30 mK LW K31 Vk=>?_;refine a_ ?_;refine Wc mK (fun Qq mK=>?_) (fun Qq mK=>?_)
   ·obtain⟨o35,cU,mK⟩:=al mK;refine b_ ?_;refine W.Ak (fun a b=>[(3,.slice A7 (a).length c8)]) (fun a b=>[cN bl bQ 9 A7 c8 223 b a]) (fun a b=>a=o35) (fY 0 52 53) (fun K36 C6=>?_) ?_
    ·obtain⟨BB,Vl,cU⟩:=al cU;refine a_ ?_;refine WL.q (Y.xl Tryz.underlying178 pn (i:=0) rfl (.pl rfl) rfl (.pl rfl) (ai (Vl))) rfl ?_;obtain⟨o39,aiL,cU⟩:=al cU;refine b_ ?_;refine W.Ak (fun a b=>[(3,.slice A7 (a).length c8)]) (fun a b=>[cN bl bQ 9 A7 c8 223 b a]) (fun a b=>a=o39) (lE 0 8 52 53) (fun K40 aiM=>?_) ?_
     ·refine a_ ?_;refine YD aiL (fun a b c=>[(3,.slice A7 (a).length c8),(61,.int .i64 b)]) (fun a b c=>[cN bl bQ 9 A7 c8 223 c a]) (zX 0 8 52 53 59 60) fun kh eU I6 k42 t42 iY Vm K43 Zd=>?_;refine a_ ?_;refine Wc iY (fun Ze iY=>?_) (fun Ze iY=>?_)
      ·obtain⟨mg,alx,iY⟩:=al iY;refine a_ ?_;refine mA fun b44=>?_;refine b_ ?_;refine W.iI (by kernel_rfl) (by kernel_rfl) fun R49 aiN=>?_;refine Dq yf ?_;refine Dq fj ?_;refine Dq ye ?_;refine Dq ym ?_;refine Dg qj ?_;refine Dg lM ?_;refine Dg aeh ?_;refine Dq yd ?_;refine Dq ym ?_;refine Dg qj ?_;refine Dg lM ?_;refine Dg sf ?_;refine Dg AZ ?_;obtain⟨Kw,afd,iY⟩:=al iY;refine WD.g (.pl rfl rfl rfl) (fun hg=>Y.bJ (off:=0) (ft:=3) Tryz.underlying223 rfl bh (i':=1) rfl (ai (fq hg afd)) (.gd (hg) rfl)) rfl ?_;refine WD.g (.pl rfl rfl rfl) (fun hg=>Y.cu (enc:=bl) (h0:=((none,0):Hd)) (v:=.int .i64 Kw.value) (a:=(ag.mk Kw.value Kw.write Kw.from_ Kw.reads Kw.ba Kw.counts)) (idx:=dU) (j:=0) Tryz.underlying3 rfl cz (i:=1) rfl (.gd (hg) rfl) (aI (fq hg afd)) rfl rfl) rfl ?_;refine Dg aeg ?_;refine Dq yd ?_;refine WD.next aiN (O9 0 3 8 9 10 52 53 59 60 61 82) ?_;refine Wc iY (fun aiO iY=>?_) (fun aiO iY=>?_)
       ·obtain⟨eG,I7,iY⟩:=al iY;refine a_ ?_;refine WL.q (Y.bJ (off:=3) (ft:=29) Tryz.underlying223 rfl ly (i':=1) rfl (ai (I7)) (.pl rfl)) rfl ?_;refine WL.q (Y.cu (enc:=bl) (h0:=((none,0):Hd)) (v:=.slice (I6.getD dU.toNat ((none,0):Hd)).1 (eG.reads).length (I6.getD dU.toNat ((none,0):Hd)).2) (a:=(ag.mk eG.value eG.write eG.from_ eG.reads eG.ba eG.counts)) (idx:=dU) (j:=3) Tryz.underlying29 rfl cz (i:=1) rfl (.pl rfl) (aI (I7)) rfl rfl) rfl ?_;refine a_ ?_;refine WL.step (WO.cC (enc:=(eI .i64)) (ys:=([eU]:List Int)) Tryz.underlying29 ut (.cons (.pl rfl) (.nil)) rfl (fun _=>rfl) rfl rfl (by decide) (by decide) rfl fun b47=>?_);refine WL.AX (cp.hole (h0:=((none,0):Hd)) (i:=2) rfl (aI (I7))) ?_;obtain⟨P8,iY⟩:=bx iY;refine WL.step (WO.fH (enc:=(eI .i64)) Tryz.underlying29 M6 (fun _=>rfl) AR (.pl rfl) rfl (.pl rfl) (i:=0) rfl (m2:=2) rfl (P8) rfl fun Gu c49=>?_);obtain⟨aF,Vn,iY⟩:=al iY;refine a_ ?_;refine WL.q (Y.aea (off:=3) (ft:=29) Tryz.underlying223 rfl ly (i':=1) rfl (ai (Vn)) (.pl rfl)) rfl ?_;refine WL.step (WO.JT (enc:=bl) (bN:=bQ) (h0:=((none,0):Hd)) (h':=((Gu,c49):Hd)) (a:=aF) (a':=(ag.mk aF.value aF.write aF.from_ (eG.reads++([eU]:List Int)) aF.ba aF.counts)) (idx:=dU) (j:=3) ly (.pl rfl) (.pl rfl) rfl cz (i:=1) rfl (aI (Vn)) rfl (by decide) rfl (.pick [0,1,2] rfl) ?_);obtain⟨x52,Zf,iY⟩:=al iY;refine a_ ?_;refine WL.q (Y.bJ (off:=8) (ft:=4) Tryz.underlying223 rfl d5 (i':=0) rfl (ai (Zf)) (.pl rfl)) rfl ?_;refine WL.step (WO.dG (enc:=bl) (bN:=bQ) (h0:=((none,0):Hd)) (a:=(ag.mk aF.value aF.write aF.from_ (eG.reads++([eU]:List Int)) aF.ba aF.counts)) (a':=(ag.mk aF.value aF.write aF.from_ (eG.reads++([eU]:List Int)) aF.ba true)) (idx:=dU) (j:=8) d5 (.pl rfl) (.pl rfl) rfl cz (i:=0) rfl (dm (⟨(ai (Zf)).1,by simpa only[List.length_set]using(ai (Zf)).2⟩)) rfl (by decide) rfl rfl ?_);refine b_ ?_;refine W.dB (fun wz hw=>nD hw (i:=0) rfl) (fun uK=>?_);refine W.ag0 25 [1,2] (by kernel_rfl) ?_;refine Xp 0 rfl (fun _ _=>ym) ?_;refine Xp 1 rfl (fun _ _=>ym) ?_;refine Xp 2 rfl (fun _ _=>ym) ?_;refine Xp 3 rfl (fun _ _=>yc) ?_;obtain⟨x53,LX,iY⟩:=al iY;refine Xt 4 rfl (Y.cZ (off:=4) (ft:=221) Tryz.underlying223 rfl jY uK (by have:=(ai (LX));omega) (.pl rfl)) ?_ (fun _ hw=>hw.pick [1,2] rfl);refine Xt 5 rfl (Y.cZ (off:=1) (ft:=3) Tryz.underlying221 rfl bh uK (by have:=(ai (LX));omega) (.pl rfl)) ?_ (fun _ hw=>hw.pick [1,2] rfl);refine Xp 7 rfl (fun _ _=>yf) ?_;refine Xt 8 rfl (rK) ?_ (fun _ hw=>hw.pick [1,2] rfl);refine Xp 10 rfl (fun _ _=>ym) ?_;refine Xp 11 rfl (fun _ _=>yc) ?_;obtain⟨x54,LY,iY⟩:=al iY;refine Xt 12 rfl (Y.cZ (off:=4) (ft:=221) Tryz.underlying223 rfl jY uK (by have:=(ai (LY));omega) (.pl rfl)) ?_ (fun _ hw=>hw.pick [1,2] rfl);refine Xt 13 rfl (Y.cZ (off:=2) (ft:=3) Tryz.underlying221 rfl bh uK (by have:=(ai (LY));omega) (.pl rfl)) ?_ (fun _ hw=>hw.pick [1,2] rfl);refine Xp 15 rfl (fun _ _=>yf) ?_;refine Xt 16 rfl (rK) ?_ (fun _ hw=>hw.pick [1,2] rfl);obtain⟨x55,GC,iY⟩:=al iY;obtain⟨x56,GD,iY⟩:=al iY;refine WX.branch [6,14] (fun wz hw=>hw.pick [1,2] rfl) (by kernel_rfl) ⟨?_,?_,trivial⟩
        ·skip;refine JL.step #[true,true,true,true,true,true,true,true,true,false,true,true,true,true,false,true,true,false,false,false,false,false,false,false,false,false] rfl rfl (WO.q (Y.cu (enc:=bl) (h0:=((none,0):Hd)) (v:=.int .i64 aF.ba.first) (a:=(ag.mk aF.value aF.write aF.from_ (eG.reads++([eU]:List Int)) aF.ba true)) (idx:=dU) (j:=5) Tryz.underlying3 rfl cz (i:=0) rfl (.pl rfl) (dm (⟨(ai (LX)).1,by simpa only[List.length_set]using(ai (LX)).2⟩)) rfl rfl) rfl ?_);refine Xt 9 rfl (Y.min (.pl rfl) (.pl rfl)) ?_ (fun _ hw=>hw.pick [1,2] rfl);refine Xo 14 rfl (WO.q (Y.cu (enc:=bl) (h0:=((none,0):Hd)) (v:=.int .i64 aF.ba.last) (a:=(ag.mk aF.value aF.write aF.from_ (eG.reads++([eU]:List Int)) aF.ba true)) (idx:=dU) (j:=6) Tryz.underlying3 rfl cz (i:=0) rfl (.pl rfl) (dm (⟨(ai (LY)).1,by simpa only[List.length_set]using(ai (LY)).2⟩)) rfl rfl) rfl ?_) (fun _ hw=>hw.pick [1,2] rfl);refine Xt 17 rfl (Y.max (.pl rfl) (.pl rfl)) ?_ (fun _ hw=>hw.pick [1,2] rfl);refine Xp 18 rfl (fun _ _=>yc) ?_;refine Xt 19 rfl (Y.cZ (off:=4) (ft:=221) Tryz.underlying223 rfl jY uK (by have:=(ai (GC));omega) (.pl rfl)) ?_ (fun _ hw=>hw.pick [1,2] rfl);refine Xt 20 rfl (Y.cZ (off:=1) (ft:=3) Tryz.underlying221 rfl bh uK (by have:=(ai (GC));omega) (.pl rfl)) ?_ (fun _ hw=>hw.pick [1,2] rfl);refine Xo 21 rfl (WO.dG (enc:=bl) (bN:=bQ) (h0:=((none,0):Hd)) (a:=(ag.mk aF.value aF.write aF.from_ (eG.reads++([eU]:List Int)) aF.ba true)) (a':=(ag.mk aF.value aF.write aF.from_ (eG.reads++([eU]:List Int)) (bv.mk aF.ba.value (min aF.ba.first mg.aY) aF.ba.last aF.ba.forward) true)) (idx:=dU) (j:=5) bh (.pl rfl) (.pl rfl) rfl cz (i:=0) rfl (dm (⟨(ai (GC)).1,by simpa only[List.length_set]using(ai (GC)).2⟩)) rfl (by decide) rfl rfl ?_) (fun _ hw=>hw.pick [1,2] rfl);refine Xp 22 rfl (fun _ _=>yc) ?_;refine Xt 23 rfl (Y.cZ (off:=4) (ft:=221) Tryz.underlying223 rfl jY uK (by have:=(ai (GD));have e1:((((kh.set dU.toNat (ag.mk aF.value aF.write aF.from_ (eG.reads++([eU]:List Int)) aF.ba aF.counts)).set dU.toNat (ag.mk aF.value aF.write aF.from_ (eG.reads++([eU]:List Int)) aF.ba true)).set dU.toNat (ag.mk aF.value aF.write aF.from_ (eG.reads++([eU]:List Int)) (bv.mk aF.ba.value (min aF.ba.first mg.aY) aF.ba.last aF.ba.forward) true))).length=(((kh.set dU.toNat (ag.mk aF.value aF.write aF.from_ (eG.reads++([eU]:List Int)) aF.ba aF.counts)).set dU.toNat (ag.mk aF.value aF.write aF.from_ (eG.reads++([eU]:List Int)) aF.ba true))).length:=(by simp only[List.length_set]);omega) (.pl rfl)) ?_ (fun _ hw=>hw.pick [1,2] rfl);refine Xt 24 rfl (Y.cZ (off:=2) (ft:=3) Tryz.underlying221 rfl bh uK (by have:=(ai (GD));have e1:((((kh.set dU.toNat (ag.mk aF.value aF.write aF.from_ (eG.reads++([eU]:List Int)) aF.ba aF.counts)).set dU.toNat (ag.mk aF.value aF.write aF.from_ (eG.reads++([eU]:List Int)) aF.ba true)).set dU.toNat (ag.mk aF.value aF.write aF.from_ (eG.reads++([eU]:List Int)) (bv.mk aF.ba.value (min aF.ba.first mg.aY) aF.ba.last aF.ba.forward) true))).length=(((kh.set dU.toNat (ag.mk aF.value aF.write aF.from_ (eG.reads++([eU]:List Int)) aF.ba aF.counts)).set dU.toNat (ag.mk aF.value aF.write aF.from_ (eG.reads++([eU]:List Int)) aF.ba true))).length:=(by simp only[List.length_set]);omega) (.pl rfl)) ?_ (fun _ hw=>hw.pick [1,2] rfl);refine Xs rfl (WO.dG (enc:=bl) (bN:=bQ) (h0:=((none,0):Hd)) (a:=(ag.mk aF.value aF.write aF.from_ (eG.reads++([eU]:List Int)) (bv.mk aF.ba.value (min aF.ba.first mg.aY) aF.ba.last aF.ba.forward) true)) (a':=(ag.mk aF.value aF.write aF.from_ (eG.reads++([eU]:List Int)) (bv.mk aF.ba.value (min aF.ba.first mg.aY) (max aF.ba.last mg.from_) aF.ba.forward) true)) (idx:=dU) (j:=6) bh (.pl rfl) (.pl rfl) rfl cz (i:=0) rfl (dm (⟨(ai (GD)).1,by simpa only[List.length_set]using(ai (GD)).2⟩)) rfl (by decide) rfl rfl ?_) (fun _ hw=>hw.pick [1,2] rfl);refine WA.done (by kernel_rfl) ?_;obtain⟨afe,iY⟩:=bx iY;obtain rfl:=oi iY;refine a_ ?_;exact⟨W.Wq Zd ((((kh.set dU.toNat (ag.mk aF.value aF.write aF.from_ (eG.reads++([eU]:List Int)) aF.ba aF.counts)).set dU.toNat (ag.mk aF.value aF.write aF.from_ (eG.reads++([eU]:List Int)) aF.ba true)).set dU.toNat (ag.mk aF.value aF.write aF.from_ (eG.reads++([eU]:List Int)) (bv.mk aF.ba.value (min aF.ba.first mg.aY) aF.ba.last aF.ba.forward) true)).set dU.toNat (ag.mk aF.value aF.write aF.from_ (eG.reads++([eU]:List Int)) (bv.mk aF.ba.value (min aF.ba.first mg.aY) (max aF.ba.last mg.from_) aF.ba.forward) true)) (eU+1) (I6.set dU.toNat ((Gu,c49):Hd)) k42 Vm nl (.cons (UL (by simp)) (.cons rfl (.nil))) kr (fun wz hw=>St.dZ (L:=[cN bl bQ 9 A7 c8 223 (I6.set dU.toNat ((Gu,c49):Hd)) ((((kh.set dU.toNat (ag.mk aF.value aF.write aF.from_ (eG.reads++([eU]:List Int)) aF.ba aF.counts)).set dU.toNat (ag.mk aF.value aF.write aF.from_ (eG.reads++([eU]:List Int)) aF.ba true)).set dU.toNat (ag.mk aF.value aF.write aF.from_ (eG.reads++([eU]:List Int)) (bv.mk aF.ba.value (min aF.ba.first mg.aY) aF.ba.last aF.ba.forward) true)).set dU.toNat (ag.mk aF.value aF.write aF.from_ (eG.reads++([eU]:List Int)) (bv.mk aF.ba.value (min aF.ba.first mg.aY) (max aF.ba.last mg.from_) aF.ba.forward) true))]) (hw.pick [0] rfl) (by simp only[List.length_set,List.nil_append,List.cons_append]))⟩
        ·skip;refine JL.step #[true,true,true,true,true,true,false,true,true,false,true,true,true,true,true,true,true,false,false,false,false,false,false,false,false,false] rfl rfl (WO.q (Y.cu (enc:=bl) (h0:=((none,0):Hd)) (v:=.int .i64 aF.ba.last) (a:=(ag.mk aF.value aF.write aF.from_ (eG.reads++([eU]:List Int)) aF.ba true)) (idx:=dU) (j:=6) Tryz.underlying3 rfl cz (i:=0) rfl (.pl rfl) (dm (⟨(ai (LY)).1,by simpa only[List.length_set]using(ai (LY)).2⟩)) rfl rfl) rfl ?_);refine Xt 17 rfl (Y.max (.pl rfl) (.pl rfl)) ?_ (fun _ hw=>hw.pick [1,2] rfl);refine Xo 6 rfl (WO.q (Y.cu (enc:=bl) (h0:=((none,0):Hd)) (v:=.int .i64 aF.ba.first) (a:=(ag.mk aF.value aF.write aF.from_ (eG.reads++([eU]:List Int)) aF.ba true)) (idx:=dU) (j:=5) Tryz.underlying3 rfl cz (i:=0) rfl (.pl rfl) (dm (⟨(ai (LX)).1,by simpa only[List.length_set]using(ai (LX)).2⟩)) rfl rfl) rfl ?_) (fun _ hw=>hw.pick [1,2] rfl);refine Xt 9 rfl (Y.min (.pl rfl) (.pl rfl)) ?_ (fun _ hw=>hw.pick [1,2] rfl);refine Xp 18 rfl (fun _ _=>yc) ?_;refine Xt 19 rfl (Y.cZ (off:=4) (ft:=221) Tryz.underlying223 rfl jY uK (by have:=(ai (GC));omega) (.pl rfl)) ?_ (fun _ hw=>hw.pick [1,2] rfl);refine Xt 20 rfl (Y.cZ (off:=1) (ft:=3) Tryz.underlying221 rfl bh uK (by have:=(ai (GC));omega) (.pl rfl)) ?_ (fun _ hw=>hw.pick [1,2] rfl);refine Xo 21 rfl (WO.dG (enc:=bl) (bN:=bQ) (h0:=((none,0):Hd)) (a:=(ag.mk aF.value aF.write aF.from_ (eG.reads++([eU]:List Int)) aF.ba true)) (a':=(ag.mk aF.value aF.write aF.from_ (eG.reads++([eU]:List Int)) (bv.mk aF.ba.value (min aF.ba.first mg.aY) aF.ba.last aF.ba.forward) true)) (idx:=dU) (j:=5) bh (.pl rfl) (.pl rfl) rfl cz (i:=0) rfl (dm (⟨(ai (GC)).1,by simpa only[List.length_set]using(ai (GC)).2⟩)) rfl (by decide) rfl rfl ?_) (fun _ hw=>hw.pick [1,2] rfl);refine Xp 22 rfl (fun _ _=>yc) ?_;refine Xt 23 rfl (Y.cZ (off:=4) (ft:=221) Tryz.underlying223 rfl jY uK (by have:=(ai (GD));have e1:((((kh.set dU.toNat (ag.mk aF.value aF.write aF.from_ (eG.reads++([eU]:List Int)) aF.ba aF.counts)).set dU.toNat (ag.mk aF.value aF.write aF.from_ (eG.reads++([eU]:List Int)) aF.ba true)).set dU.toNat (ag.mk aF.value aF.write aF.from_ (eG.reads++([eU]:List Int)) (bv.mk aF.ba.value (min aF.ba.first mg.aY) aF.ba.last aF.ba.forward) true))).length=(((kh.set dU.toNat (ag.mk aF.value aF.write aF.from_ (eG.reads++([eU]:List Int)) aF.ba aF.counts)).set dU.toNat (ag.mk aF.value aF.write aF.from_ (eG.reads++([eU]:List Int)) aF.ba true))).length:=(by simp only[List.length_set]);omega) (.pl rfl)) ?_ (fun _ hw=>hw.pick [1,2] rfl);refine Xt 24 rfl (Y.cZ (off:=2) (ft:=3) Tryz.underlying221 rfl bh uK (by have:=(ai (GD));have e1:((((kh.set dU.toNat (ag.mk aF.value aF.write aF.from_ (eG.reads++([eU]:List Int)) aF.ba aF.counts)).set dU.toNat (ag.mk aF.value aF.write aF.from_ (eG.reads++([eU]:List Int)) aF.ba true)).set dU.toNat (ag.mk aF.value aF.write aF.from_ (eG.reads++([eU]:List Int)) (bv.mk aF.ba.value (min aF.ba.first mg.aY) aF.ba.last aF.ba.forward) true))).length=(((kh.set dU.toNat (ag.mk aF.value aF.write aF.from_ (eG.reads++([eU]:List Int)) aF.ba aF.counts)).set dU.toNat (ag.mk aF.value aF.write aF.from_ (eG.reads++([eU]:List Int)) aF.ba true))).length:=(by simp only[List.length_set]);omega) (.pl rfl)) ?_ (fun _ hw=>hw.pick [1,2] rfl);refine Xs rfl (WO.dG (enc:=bl) (bN:=bQ) (h0:=((none,0):Hd)) (a:=(ag.mk aF.value aF.write aF.from_ (eG.reads++([eU]:List Int)) (bv.mk aF.ba.value (min aF.ba.first mg.aY) aF.ba.last aF.ba.forward) true)) (a':=(ag.mk aF.value aF.write aF.from_ (eG.reads++([eU]:List Int)) (bv.mk aF.ba.value (min aF.ba.first mg.aY) (max aF.ba.last mg.from_) aF.ba.forward) true)) (idx:=dU) (j:=6) bh (.pl rfl) (.pl rfl) rfl cz (i:=0) rfl (dm (⟨(ai (GD)).1,by simpa only[List.length_set]using(ai (GD)).2⟩)) rfl (by decide) rfl rfl ?_) (fun _ hw=>hw.pick [1,2] rfl);refine WA.done (by kernel_rfl) ?_;obtain⟨aiP,iY⟩:=bx iY;obtain rfl:=oi iY;refine a_ ?_;exact⟨W.Wq Zd ((((kh.set dU.toNat (ag.mk aF.value aF.write aF.from_ (eG.reads++([eU]:List Int)) aF.ba aF.counts)).set dU.toNat (ag.mk aF.value aF.write aF.from_ (eG.reads++([eU]:List Int)) aF.ba true)).set dU.toNat (ag.mk aF.value aF.write aF.from_ (eG.reads++([eU]:List Int)) (bv.mk aF.ba.value (min aF.ba.first mg.aY) aF.ba.last aF.ba.forward) true)).set dU.toNat (ag.mk aF.value aF.write aF.from_ (eG.reads++([eU]:List Int)) (bv.mk aF.ba.value (min aF.ba.first mg.aY) (max aF.ba.last mg.from_) aF.ba.forward) true)) (eU+1) (I6.set dU.toNat ((Gu,c49):Hd)) k42 Vm nl (.cons (UL (by simp)) (.cons rfl (.nil))) kr (fun wz hw=>St.dZ (L:=[cN bl bQ 9 A7 c8 223 (I6.set dU.toNat ((Gu,c49):Hd)) ((((kh.set dU.toNat (ag.mk aF.value aF.write aF.from_ (eG.reads++([eU]:List Int)) aF.ba aF.counts)).set dU.toNat (ag.mk aF.value aF.write aF.from_ (eG.reads++([eU]:List Int)) aF.ba true)).set dU.toNat (ag.mk aF.value aF.write aF.from_ (eG.reads++([eU]:List Int)) (bv.mk aF.ba.value (min aF.ba.first mg.aY) aF.ba.last aF.ba.forward) true)).set dU.toNat (ag.mk aF.value aF.write aF.from_ (eG.reads++([eU]:List Int)) (bv.mk aF.ba.value (min aF.ba.first mg.aY) (max aF.ba.last mg.from_) aF.ba.forward) true))]) (hw.pick [0] rfl) (by simp only[List.length_set,List.nil_append,List.cons_append]))⟩
       ·obtain⟨aly,iY⟩:=bx iY;refine a_ ?_;exact g3 Zd (oj iY Vm)
      ·refine a_ ?_;exact h2 aiM (oj iY Vm)
     ·rintro HN Y0 rfl;refine W.OI 15 (by kernel_rfl) (by kernel_rfl) ?_;refine Sq ym ?_;refine Sq ym ?_;refine Sq yc ?_;obtain⟨xq,LZ,cU⟩:=al cU;refine WS.q (Y.bJ (off:=4) (ft:=221) Tryz.underlying223 rfl jY (i':=0) rfl (ai (LZ)) (.pl rfl)) rfl ?_;refine WS.q (Y.bJ (off:=1) (ft:=3) Tryz.underlying221 rfl bh (i':=0) rfl (ai (LZ)) (.pl rfl)) rfl ?_;refine WS.q (Y.cu (enc:=bl) (h0:=((none,0):Hd)) (v:=.int .i64 xq.ba.first) (a:=(ag.mk xq.value xq.write xq.from_ xq.reads xq.ba xq.counts)) (idx:=dU) (j:=5) Tryz.underlying3 rfl cz (i:=0) rfl (.pl rfl) (aI (LZ)) rfl rfl) rfl ?_;refine Sq ym ?_;refine Sq yc ?_;obtain⟨GB,Zg,cU⟩:=al cU;refine WS.q (Y.bJ (off:=4) (ft:=221) Tryz.underlying223 rfl jY (i':=0) rfl (ai (Zg)) (.pl rfl)) rfl ?_;refine WS.q (Y.bJ (off:=2) (ft:=3) Tryz.underlying221 rfl bh (i':=0) rfl (ai (Zg)) (.pl rfl)) rfl ?_;refine WS.q (Y.cu (enc:=bl) (h0:=((none,0):Hd)) (v:=.int .i64 GB.ba.last) (a:=(ag.mk GB.value GB.write GB.from_ GB.reads GB.ba GB.counts)) (idx:=dU) (j:=6) Tryz.underlying3 rfl cz (i:=0) rfl (.pl rfl) (aI (Zg)) rfl rfl) rfl ?_;refine Sq yl ?_;refine Sq yc ?_;obtain⟨nT,Zh,cU⟩:=al cU;refine WS.q (Y.bJ (off:=4) (ft:=221) Tryz.underlying223 rfl jY (i':=0) rfl (ai (Zh)) (.pl rfl)) rfl ?_;refine WS.q (Y.bJ (off:=3) (ft:=4) Tryz.underlying221 rfl d5 (i':=0) rfl (ai (Zh)) (.pl rfl)) rfl ?_;refine WS.tail ?_;refine WL.step (WO.dG (enc:=bl) (bN:=bQ) (h0:=((none,0):Hd)) (a:=(ag.mk nT.value nT.write nT.from_ nT.reads nT.ba nT.counts)) (a':=(ag.mk nT.value nT.write nT.from_ nT.reads (bv.mk nT.ba.value nT.ba.first nT.ba.last (decide (xq.ba.first < GB.ba.last))) nT.counts)) (idx:=dU) (j:=7) d5 (.pl rfl) (.pl rfl) rfl cz (i:=0) rfl (aI (Zh)) rfl (by decide) rfl rfl ?_);refine a_ ?_;exact⟨W.abm C6 (HN.set dU.toNat (ag.mk nT.value nT.write nT.from_ nT.reads (bv.mk nT.ba.value nT.ba.first nT.ba.last (decide (xq.ba.first < GB.ba.last))) nT.counts)) Y0 (oi cU) (.cons (UL (by simp)) (.nil)) kr (fun wz hw=>hw.pick [0] rfl)⟩
    ·rintro HF alz rfl;obtain⟨alA,mK⟩:=bx mK;refine a_ ?_;exact g3 Vk (oj mK LW)
   ·refine a_ ?_;exact h2 LV (oj mK LW)
  ·rintro Vj aeQ rfl;obtain⟨r64,aiQ,hF⟩:=al hF;refine a_ ?_;refine kC ab7 (v2 rfl rfl) (fun _ hw=>Vi aiQ (sw hw)) ?_;rintro aiR aiS;obtain rfl:=oi hF;refine a_ ?_;refine W.lr (fn:=Tryz.f87) (vs:=[.slice A7 (Vj).length c8]) Tryz.results87 ⟨.tmp rfl,trivial⟩ (fun _ _ h=>h) (fun wz hw=>?_);exact hR _ _ ⟨(A7,c8,aiR),trivial,by simp[zu,aiS],(hw.pick [0] rfl)⟩
def FA(N:Nat)(Kx:Int)(Qs:Int)(Vo:Int)(Qt:(List Int))(Vp:bv)(L2:Bool)(MW:Call):Option Unit:=some ()
theorem I8{N Kx Qs Vo Qt Vp L2 MW A5 c6 b9 res}(hF:FA N Kx Qs Vo Qt Vp L2 MW=some res){w0 w T}(hw:St w0.heap.size w0 (aw b9 162 (aC MW)::T) w):Calls Tryz.prog 125 (List.toArray [.agg (Value.int .i64 Kx::(Value.int .i64 Qs::(Value.int .i64 Vo::(Value.slice A5 (Qt).length c6::((dH Vp)++(Value.bool L2::[])))))).toArray,.pointer (some ⟨b9,0,none⟩)]) w (fun e w'=>∃g:Unit,(True)∧e= .returned (.bool (decide (Kx=MW.res)))∧St w0.heap.size w0 (aw b9 162 (aC MW)::T) w'):=by
 refine We 9 Tryz.func125 hw fun R hR=>?_;refine a_ ?_;refine WL.step (WO.il (.pl rfl) rfl fun rS=>?_);obtain rfl:=oi hF;refine a_ ?_;exact rG ()
def gb(N:Nat)(s3:(List ag))(c6:Call):Int→Option (Int ⊕(Unit ⊕ Int))|v7=>cond (decide (v7 < ((s3).length:Int))) (bd (ix s3 v7) fun x8=>bd (FA N x8.value x8.write x8.from_ x8.reads x8.ba x8.counts c6) fun r9=>cond (decide (x8.value=c6.res)) (some (.inr (.inr v7))) (ck (bB (v7+1)) <| some (.inl (v7+1)))) (some (.inr (.inl ())))
def fc(N:Nat)(s3:(List ag))(c6:Call):Option Int:=bd (α:=(Unit ⊕ Int)) (iter (gb N s3 c6) N 0) <| Sum.elim (fun _=>some (-1)) (fun p=>some p)
theorem og{N s3 c6 A1 c2 ua b5 res}(hF:fc N s3 c6=some res){w0 w T}(hw:St w0.heap.size w0 (cN bl bQ 9 A1 c2 223 ua s3::aw b5 162 (aC c6)::T) w):Calls Tryz.prog 124 (List.toArray [.slice A1 (s3).length c2,.func (.func 125) #[] #[.pointer (some ⟨b5,0,none⟩)]]) w (fun e w'=>∃g:Unit,(True)∧e= .returned (.int .i64 res)∧St w0.heap.size w0 (cN bl bQ 9 A1 c2 223 ua s3::aw b5 162 (aC c6)::T) w'):=by
 refine We 19 Tryz.func124 hw fun R hR=>?_;obtain⟨o2,eK,hF⟩:=al hF;refine b_ ?_;refine W.fQ [] ((cN bl bQ 9 A1 c2 223 ua s3::aw b5 162 (aC c6)::T)) ((.inl ())=o2) (.nil) (fun K3 kU=>?_) ?_
 ·refine a_ ?_;refine jg eK (fun a=>[(8,.int .i64 a)]) (fun a=>(cN bl bQ 9 A1 c2 223 ua s3::aw b5 162 (aC c6)::T)) (fY 0 1 7) fun v7 k5 t5 bC hZ K6 ol=>?_;refine a_ ?_;refine Wc bC (fun ip bC=>?_) (fun ip bC=>?_)
  ·obtain⟨x8,S_,bC⟩:=al bC;refine a_ ?_;refine WL.q (Y.xl Tryz.underlying178 pn (i:=0) rfl (.pl rfl) rfl (.pl rfl) (ai (S_))) rfl ?_;refine WL.q (Y.JR (enc:=bl) (h0:=((none,0):Hd)) (ds:=(Value.int .i64 x8.value::(Value.int .i64 x8.write::(Value.int .i64 x8.from_::(Value.slice (ua.getD v7.toNat ((none,0):Hd)).1 (x8.reads).length (ua.getD v7.toNat ((none,0):Hd)).2::((dH x8.ba)++(Value.bool x8.counts::[]))))))) (a:=(ag.mk x8.value x8.write x8.from_ x8.reads x8.ba x8.counts)) (idx:=v7) (j:=0) Tryz.underlying223 rfl pn cz (i:=0) rfl (.pl rfl) (aI (S_)) rfl rfl mB) rfl ?_;obtain⟨r9,Bj,bC⟩:=al bC;refine kG ab9 (.pl rfl) (v1 rfl) (fun _ hw=>I8 Bj (sw hw)) ?_;rintro _ -;refine a_ ?_;refine Wc bC (fun jh bC=>?_) (fun jh bC=>?_)
   ·obtain rfl:=oi bC;obtain rfl:=fy hZ;obtain rfl:=oi hF;refine a_ ?_;exact rG ()
   ·obtain⟨Gq,bC⟩:=bx bC;refine a_ ?_;exact g1 ol (oj bC hZ)
  ·refine a_ ?_;exact h0 kU (oj bC hZ)
 ·rintro rfl;obtain rfl:=oi hF;refine a_ ?_;exact rG ()
def yp(N:Nat)(c3:(List Call))(l6:(List ag)):(Int×Int×Int×Int)→Option ((Int×Int×Int×Int) ⊕((Int×Int×Int) ⊕(Int×Int×Int)))|(DL,rM,B15,jK)=>cond (decide (jK < ((c3).length:Int))) (bd (ix c3 jK) fun ap=>cond ((!(decide (ap.kind=2)))||(decide (ap.aY=(-1)))) (ck (bB (jK+1)) <| some (.inl (DL,rM,B15,(jK+1)))) (bd (fc N l6 ap) fun lZ=>cond (decide (lZ < 0)) (some (.inr (.inr (1,jK,0)))) (bd ((cond ((decide (DL=0))==true) (ix l6 lZ) (some ag.z))) fun bo=>cond ((decide (DL=0))&&(decide (ap.aY < bo.from_))) (bd (ix l6 lZ) fun aG=>ck (bB (jK+1)) <| some (.inl (3,jK,aG.write,(jK+1)))) (ck (bB (jK+1)) <| some (.inl (DL,rM,B15,(jK+1))))))) (some (.inr (.inl (DL,rM,B15))))
def rh(N:Nat)(c3:(List Call))(l6:(List ag)):Option (Int×Int×Int):=bd (α:=((Int×Int×Int) ⊕(Int×Int×Int))) (iter (yp N c3 l6) N (0,0,0,0)) <| Sum.elim (fun(Xi,cg,B12)=>some (Xi,cg,B12)) (fun p=>some p)
theorem L3{N c3 l6 A1 c2 A4 c5 hd7 res}(hF:rh N c3 l6=some res){w0 w T}(hw:St w0.heap.size w0 (cR aC 7 A1 c2 162 c3::cN bl bQ 9 A4 c5 223 hd7 l6::T) w):Calls Tryz.prog 88 (List.toArray [.slice A1 (c3).length c2,.slice A4 (l6).length c5]) w (fun e w'=>∃g:Unit,(True)∧e= .returned (.agg (bG (dh.mk res.1 res.2.1 res.2.2)).toArray)∧St w0.heap.size w0 (cR aC 7 A1 c2 162 c3::cN bl bQ 9 A4 c5 223 hd7 l6::T) w'):=by
 refine We 54 Tryz.func88 hw fun R hR=>?_;refine a_ ?_;refine mA fun b8=>?_;refine a_ ?_;refine WL.q (Y.build (cs:=(bG (dh.mk 0 0 0)).toArray) e_ (.nil) (bH trivial) rfl) rfl ?_;refine mA fun b9=>?_;obtain⟨o3,ff,hF⟩:=al hF;refine b_ ?_;refine W.pF (fun a b c=>[]) (fun a b c=>(cR aC 7 A1 c2 162 c3::cN bl bQ 9 A4 c5 223 hd7 l6::aw b8 131 (bG (dh.mk 0 0 0))::aw b9 131 (bG (dh.mk a b c))::T)) (fun a b c=>(.inl (a,b,c))=o3) (m_ 4 5) (fun K4 mb=>?_) ?_
 ·refine a_ ?_;refine aiq ff (fun a b c d=>[(12,.int .i64 d)]) (fun a b c d=>(cR aC 7 A1 c2 162 c3::cN bl bQ 9 A4 c5 223 hd7 l6::aw b8 131 (bG (dh.mk 0 0 0))::aw b9 131 (bG (dh.mk a b c))::T)) (wl 1 4 5 10 11) fun DL rM B15 jK k6 t6 bF iE K7 lF=>?_;refine a_ ?_;refine Wc bF (fun iL bF=>?_) (fun iL bF=>?_)
  ·obtain⟨ap,dd,bF⟩:=al bF;refine a_ ?_;refine mA fun vG=>?_;refine a_ ?_;refine Wc bF (fun pi bF=>?_) (fun pi bF=>?_)
   ·obtain⟨zC,bF⟩:=bx bF;refine a_ ?_;exact g4 lF (oj bF iE)
   ·obtain⟨lZ,uT,bF⟩:=al bF;refine a_ ?_;refine kC ab8 (v2 rfl rfl) (fun _ hw=>og uT (sw hw)) ?_;rintro _ -;refine a_ ?_;refine Wc bF (fun uZ bF=>?_) (fun uZ bF=>?_)
    ·refine a_ ?_;refine WL.q (Y.build (cs:=(bG (dh.mk 1 jK 0)).toArray) e_ (.cons (.pl rfl) (.cons (.pl rfl) (.nil))) (bH ⟨rfl,⟨rfl,trivial⟩⟩) rfl) rfl ?_;obtain rfl:=oi bF;obtain rfl:=fy iE;obtain rfl:=oi hF;refine a_ ?_;exact rG ()
    ·refine b_ ?_;refine W.iI (by kernel_rfl) (by kernel_rfl) fun R22 aiT=>?_;refine Dq yf ?_;refine Dq yb4 ?_;refine Dq ye ?_;refine Dq ym ?_;refine Dg qj ?_;refine Dg O5 ?_;refine Dg sf ?_;refine Dg sf ?_;obtain⟨bo,gV,bF⟩:=al bF;refine WD.g (.pl rfl rfl rfl) (fun hg=>Y.xl Tryz.underlying178 pn (i:=0) rfl (.gd (hg) rfl) rfl (.gd (hg) rfl) (ai (fq hg gV))) rfl ?_;refine WD.g (.pl rfl rfl rfl) (fun hg=>Y.bJ (off:=2) (ft:=3) Tryz.underlying223 rfl bh (i':=0) rfl (ai (fq hg gV)) (.gd (hg) rfl)) rfl ?_;refine WD.g (.pl rfl rfl rfl) (fun hg=>Y.cu (enc:=bl) (h0:=((none,0):Hd)) (v:=.int .i64 bo.from_) (a:=(ag.mk bo.value bo.write bo.from_ bo.reads bo.ba bo.counts)) (idx:=lZ) (j:=2) Tryz.underlying3 rfl cz (i:=0) rfl (.gd (hg) rfl) (aI (fq hg gV)) rfl rfl) rfl ?_;refine Dg YC ?_;refine Dq yd ?_;refine WD.next aiT (S4 1 4 5 6 8 10 11 12 44) ?_;refine Wc bF (fun Bl bF=>?_) (fun Bl bF=>?_)
     ·obtain⟨aG,dt,bF⟩:=al bF;refine a_ ?_;refine WL.q (Y.xl Tryz.underlying178 pn (i:=0) rfl (.pl rfl) rfl (.pl rfl) (ai (dt))) rfl ?_;refine WL.q (Y.bJ (off:=1) (ft:=3) Tryz.underlying223 rfl bh (i':=0) rfl (ai (dt)) (.pl rfl)) rfl ?_;refine WL.q (Y.cu (enc:=bl) (h0:=((none,0):Hd)) (v:=.int .i64 aG.write) (a:=(ag.mk aG.value aG.write aG.from_ aG.reads aG.ba aG.counts)) (idx:=lZ) (j:=1) Tryz.underlying3 rfl cz (i:=0) rfl (.pl rfl) (aI (dt)) rfl rfl) rfl ?_;refine WL.q (Y.build (cs:=(bG (dh.mk 3 jK aG.write)).toArray) e_ (.cons (.pl rfl) (.cons (.pl rfl) (.cons (.pl rfl) (.nil)))) (bH ⟨rfl,⟨rfl,⟨rfl,trivial⟩⟩⟩) rfl) rfl ?_;obtain⟨BC,bF⟩:=bx bF;refine a_ ?_;exact g4 lF (oj bF iE)
     ·obtain⟨wD,bF⟩:=bx bF;refine a_ ?_;exact g4 lF (oj bF iE)
  ·refine a_ ?_;exact h3 mb (oj bF iE)
 ·rintro Xi cg B12 rfl;obtain rfl:=oi hF;refine a_ ?_;exact rG ()
def vf(N:Nat)(l3:(List ag)):((List bv)×Int)→Option (((List bv)×Int) ⊕(List bv))|(wM,v11)=>cond (decide (v11 < ((l3).length:Int))) (bd (ix l3 v11) fun eD=>cond eD.counts (ck (eY 32 ((wM).length+(([eD.ba]:List bv)).length)) <| ck (bB (v11+1)) <| some (.inl ((wM++([eD.ba]:List bv)),(v11+1)))) (ck (bB (v11+1)) <| some (.inl (wM,(v11+1))))) (some (.inr wM))
def ou(N:Nat)(l3:(List ag)):Option (List bv):=bd (α:=(List bv)) (iter (vf N l3) N ([],0)) <| fun aff=>some aff
theorem I9{N l3 A1 c2 ua res}(hF:ou N l3=some res){w0 w T}(hw:St w0.heap.size w0 (cN bl bQ 9 A1 c2 223 ua l3::T) w):Calls Tryz.prog 90 (List.toArray [.slice A1 (l3).length c2]) w (fun e w'=>∃g:(Option Addr×Nat),(True)∧e= .returned (.slice g.1 (res).length g.2)∧St w0.heap.size w0 (cN bl bQ 9 A1 c2 223 ua l3::cR dH 4 g.1 g.2 221 res::T) w'):=by
 refine We 21 Tryz.func90 hw fun R hR=>?_;obtain⟨o3,ff,hF⟩:=al hF;refine b_ ?_;refine W.pF (fun a b c=>[(3,.slice b (a).length c)]) (fun a b c=>(cN bl bQ 9 A1 c2 223 ua l3::cR dH 4 b c 221 a::T)) (fun a b c=>a=o3) (.nil) (fun K4 mb=>?_) ?_
 ·refine a_ ?_;refine Ba ff (fun a b c d=>[(3,.slice c (a).length d),(8,.int .i64 b)]) (fun a b c d=>(cN bl bQ 9 A1 c2 223 ua l3::cR dH 4 c d 221 a::T)) (m_ 6 7) fun wM v11 A8 c9 k6 t6 bF iE K7 lF=>?_;refine a_ ?_;refine Wc bF (fun iL bF=>?_) (fun iL bF=>?_)
  ·obtain⟨eD,wm,bF⟩:=al bF;refine a_ ?_;refine WL.q (Y.xl Tryz.underlying178 pn (i:=0) rfl (.pl rfl) rfl (.pl rfl) (ai (wm))) rfl ?_;refine WL.q (Y.JR (enc:=bl) (h0:=((none,0):Hd)) (ds:=(Value.int .i64 eD.value::(Value.int .i64 eD.write::(Value.int .i64 eD.from_::(Value.slice (ua.getD v11.toNat ((none,0):Hd)).1 (eD.reads).length (ua.getD v11.toNat ((none,0):Hd)).2::((dH eD.ba)++(Value.bool eD.counts::[]))))))) (a:=(ag.mk eD.value eD.write eD.from_ eD.reads eD.ba eD.counts)) (idx:=v11) (j:=0) Tryz.underlying223 rfl pn cz (i:=0) rfl (.pl rfl) (aI (wm)) rfl rfl mB) rfl ?_;refine mA fun yY=>?_;refine WL.step (WO.q_ (ds:=(Value.int .i64 eD.value::(Value.int .i64 eD.write::(Value.int .i64 eD.from_::(Value.slice (ua.getD v11.toNat ((none,0):Hd)).1 (eD.reads).length (ua.getD v11.toNat ((none,0):Hd)).2::((dH eD.ba)++(Value.bool eD.counts::[]))))))) (cs':=(Value.int .i64 eD.value::(Value.int .i64 eD.write::(Value.int .i64 eD.from_::(Value.slice (ua.getD v11.toNat ((none,0):Hd)).1 (eD.reads).length (ua.getD v11.toNat ((none,0):Hd)).2::((dH eD.ba)++(Value.bool eD.counts::[]))))))) pn (.pl rfl) (.pl rfl) rfl (bu rfl (bu rfl (bu rfl (bu rfl (AF (AK _) (bu rfl iB)))))) (i:=0) rfl (JN (o:=0) (l:=9) (m:=9) (by decide) rfl rfl) (Ej rfl) ?_);refine a_ ?_;refine Wc bF (fun ji bF=>?_) (fun ji bF=>?_)
   ·refine a_ ?_;refine WL.q (Y.yQ (ds:=(dH eD.ba)) Tryz.underlying221 rfl jY (.pl rfl) (i:=0) rfl rfl (Lp (pre:=(Value.int .i64 eD.value::(Value.int .i64 eD.write::(Value.int .i64 eD.from_::(Value.slice (ua.getD v11.toNat ((none,0):Hd)).1 (eD.reads).length (ua.getD v11.toNat ((none,0):Hd)).2::[]))))) (o:=4) rfl)) rfl ?_;refine WL.step (WO.cC (enc:=dH) (ys:=([eD.ba]:List bv)) Tryz.underlying182 ahp (.cons (.pl rfl) (.nil)) rfl LT rfl rfl (by decide) (by decide) rfl fun gK=>?_);obtain⟨LR,bF⟩:=bx bF;refine WL.step (WO.fH (enc:=dH) Tryz.underlying182 ahq LT AK (.pl rfl) rfl (.pl rfl) (i:=3) rfl (m2:=0) rfl (LR) rfl fun A15 c16=>?_);obtain⟨Gx,bF⟩:=bx bF;refine a_ ?_;exact g4 lF (oj bF iE)
   ·obtain⟨zC,bF⟩:=bx bF;refine a_ ?_;exact g4 lF (oj bF iE)
  ·refine a_ ?_;exact h3 mb (oj bF iE)
 ·rintro aff A5 c6 rfl;obtain rfl:=oi hF;refine a_ ?_;exact rG (A5,c6)
def zI(N:Nat)(a1:bv)(b2:bv):Option Unit:=some ()
theorem BD{N a1 b2 res}(hF:zI N a1 b2=some res)(w:World):Pure Tryz.prog 126 [.agg (dH a1).toArray,.agg (dH b2).toArray] w (.bool ((decide (a1.first < b2.last))&&(decide (b2.first < a1.last)))):=by
 refine We 17 Tryz.func126 (St.start w) fun R hR=>?_;refine a_ ?_;refine WL.step (WO.il (.pl rfl) rfl fun b3=>?_);refine WL.step (WO.il (.pl rfl) rfl fun b4=>?_);obtain rfl:=oi hF;refine a_ ?_;exact rP
def wO(N:Nat)(z1:(List bv))(v7:Int)(x8:bv):Int→Option (Int ⊕(Unit ⊕(Int×Int×Int)))|v12=>cond (decide (v12 < (((z1.drop (v7+1).toNat)).length:Int))) (bd (ix (z1.drop (v7+1).toNat) v12) fun gG=>bd (α:=Bool) (cond ((x8.forward&&gG.forward)==true) (bd (zI N x8 gG) fun r16=>some ((x8.forward&&gG.forward)&&((decide (x8.first < gG.last))&&(decide (gG.first < x8.last))))) (some ((x8.forward&&gG.forward)&&false))) <| fun fB=>cond fB (some (.inr (.inr (4,x8.value,gG.value)))) (ck (bB (v12+1)) <| some (.inl (v12+1)))) (some (.inr (.inl ())))
def wQ(N:Nat)(z1:(List bv)):Int→Option (Int ⊕(Unit ⊕(Int×Int×Int)))|v7=>cond (decide (v7 < ((z1).length:Int))) (bd (α:=(Unit ⊕(Int×Int×Int))) (bd (ix z1 v7) fun x8=>ck (bB (v7+1)) <| ck (pB (z1).length (v7+1) ((z1).length:Int)) <| iter (wO N z1 v7 x8) N 0) <| Sum.elim (fun _=>ck (bB (v7+1)) <| some (.inl (v7+1))) (fun p=>some (.inr (.inr p)))) (some (.inr (.inl ())))
def wR(N:Nat)(z1:(List bv))(eA:bv):Int→Option (Int ⊕(Unit ⊕(Int×Int×Int)))|v22=>cond (decide (v22 < ((z1).length:Int))) (bd (ix z1 v22) fun dX=>bd (α:=Bool) (cond ((eA.forward&&(!dX.forward))==true) (bd (zI N eA dX) fun xr=>some ((eA.forward&&(!dX.forward))&&((decide (eA.first < dX.last))&&(decide (dX.first < eA.last))))) (some ((eA.forward&&(!dX.forward))&&false))) <| fun v25=>cond v25 (some (.inr (.inr (5,eA.value,dX.value)))) (ck (bB (v22+1)) <| some (.inl (v22+1)))) (some (.inr (.inl ())))
def wS(N:Nat)(z1:(List bv)):Int→Option (Int ⊕(Unit ⊕(Int×Int×Int)))|oI=>cond (decide (oI < ((z1).length:Int))) (bd (α:=(Unit ⊕(Int×Int×Int))) (bd (ix z1 oI) fun eA=>iter (wR N z1 eA) N 0) <| Sum.elim (fun _=>ck (bB (oI+1)) <| some (.inl (oI+1))) (fun p=>some (.inr (.inr p)))) (some (.inr (.inl ())))
def pq(N:Nat)(z1:(List bv)):Option (Int×Int×Int):=bd (α:=(Unit ⊕(Int×Int×Int))) (iter (wQ N z1) N 0) <| Sum.elim (fun _=>bd (α:=(Unit ⊕(Int×Int×Int))) (iter (wS N z1) N 0) <| Sum.elim (fun _=>some (0,0,0)) (fun p=>some p)) (fun p=>some p)
theorem L4{N z1 res}(hF:pq N z1=some res)(w:World){v5}(hs4:bi dH 4 w v5 z1):Pure Tryz.prog 89 [v5] w (.agg (bG (dh.mk res.1 res.2.1 res.2.2)).toArray):=by
 obtain⟨A2,c3,rfl,jy,hs4⟩:=hs4.form;refine We 80 Tryz.func89 (St.start w) fun R hR=>?_;refine a_ ?_;refine mA fun b6=>?_;obtain⟨o3,ff,hF⟩:=al hF;refine b_ ?_;refine W.fQ [] [aw b6 131 (bG (dh.mk 0 0 0))] ((.inl ())=o3) (fY 0 2 3) (fun K4 mb=>?_) ?_
 ·refine a_ ?_;refine jg ff (fun a=>[(14,.int .i64 a)]) (fun a=>[aw b6 131 (bG (dh.mk 0 0 0))]) (wl 0 2 3 12 13) fun v7 k6 t6 bF iE K7 lF=>?_;refine a_ ?_;refine Wc bF (fun iL bF=>?_) (fun iL bF=>?_)
  ·obtain⟨sA,bk,bF⟩:=al bF;refine b_ ?_;refine W.fQ [] [aw b6 131 (bG (dh.mk 0 0 0))] ((.inl ())=sA) (zX 0 2 3 12 13 14) (fun zZ gr=>?_) ?_
   ·obtain⟨x8,S_,bk⟩:=al bk;refine a_ ?_;refine mA fun b9=>?_;obtain⟨Gq,bk⟩:=bx bk;obtain⟨zA,bk⟩:=bx bk;refine a_ ?_;refine WL.q (Y.FY (xs:=z1) Tryz.underlying182 jY (.pl rfl) rfl (hs4).Dl (.pl rfl) (zA)) rfl ?_;refine a_ ?_;refine jg bk (fun a=>[(24,.int .i64 a)]) (fun a=>[aw b6 131 (bG (dh.mk 0 0 0)),aw b9 221 (dH x8)]) (S4 0 2 3 5 12 13 14 22 23) fun v12 k15 t15 dc rx Py sD=>?_;refine a_ ?_;refine Wc dc (fun sC dc=>?_) (fun sC dc=>?_)
    ·obtain⟨gG,x_,dc⟩:=al dc;refine a_ ?_;refine WL.q (Y.mT Tryz.underlying182 jY (bi.Lt hs4 (AG (zA)).1) (.pl rfl) (.pl rfl) (ai (x_))) rfl ?_;refine WL.q (Y.wi (enc:=dH) (ds:=(dH gG)) (j:=0) Tryz.underlying221 rfl jY (bi.Lt hs4 (AG (zA)).1) (.pl rfl) (x_) rfl rfl mB) rfl ?_;refine mA fun gK=>?_;obtain⟨Qu,nU,dc⟩:=al dc;refine c_ ?_;refine W.gh (fun a=>[(39,.bool a)]) (fun a=>[aw b6 131 (bG (dh.mk 0 0 0)),aw b9 221 (dH x8),aw gK 221 (dH gG)]) (fun a=>a=Qu) (O9 0 2 3 5 7 12 13 14 22 23 24) (fun K23 EX=>?_) ?_
     ·refine a_ ?_;refine gq ((x8.forward&&gG.forward)==true) (fun qJ=>?_) (fun qJ=>?_)
      ·replace nU:=km qJ nU;refine WL.gd (.pl rfl rfl rfl) (qJ) ?_;obtain⟨r16,mF,nU⟩:=al nU;refine WL.step (WO.Hm (γ:=Unit) (first:=[]) (cap:=[]) (fun g=>.bool ((decide (x8.first < gG.last))&&(decide (gG.first < x8.last)))) (fun g=>[aw gK 221 (dH gG),aw b6 131 (bG (dh.mk 0 0 0)),aw b9 221 (dH x8)]) (fun g=>True) TI (.gd (qJ) rfl) (.cons (.gd (qJ) rfl) (.cons (.gd (qJ) rfl) (.nil))) rfl (fun wz hw=>(BD (mF) wz).calls hw) ?_);rintro _ -;refine a_ ?_;exact h1 EX (oi nU)
      ·replace nU:=ko qJ nU;refine WL.gn (.pl rfl rfl rfl) qJ rfl ?_;refine WL.q (Y.and (b:=false) (.pl rfl) (fun h2=>(JM qJ h2).elim)) rfl ?_;refine a_ ?_;exact h1 EX (oi nU)
     ·rintro fB rfl;refine Wc dc (fun xZ dc=>?_) (fun xZ dc=>?_)
      ·refine a_ ?_;refine WL.q (Y.build (cs:=(bG (dh.mk 4 x8.value gG.value)).toArray) e_ (.cons (.pl rfl) (.cons (.pl rfl) (.cons (.pl rfl) (.nil)))) (bH ⟨rfl,⟨rfl,⟨rfl,trivial⟩⟩⟩) rfl) rfl ?_;obtain rfl:=oi dc;obtain rfl:=fy rx;obtain rfl:=oi bF;obtain rfl:=fy iE;obtain rfl:=oi hF;refine a_ ?_;exact rP
      ·obtain⟨LR,dc⟩:=bx dc;refine a_ ?_;exact g1 sD (oj dc rx)
    ·refine a_ ?_;exact h0 gr (oj dc rx)
   ·rintro rfl;obtain⟨Gx,bF⟩:=bx bF;refine a_ ?_;exact g1 lF (oj bF iE)
  ·refine a_ ?_;exact h0 mb (oj bF iE)
 ·rintro rfl;obtain⟨o29,mX,hF⟩:=al hF;refine W.fQ [] [aw b6 131 (bG (dh.mk 0 0 0))] ((.inl ())=o29) (mM 2) (fun K30 Qv=>?_) ?_
  ·refine a_ ?_;refine jg mX (fun a=>[(49,.int .i64 a)]) (fun a=>[aw b6 131 (bG (dh.mk 0 0 0))]) (wl 0 2 3 47 48) fun oI k32 t32 wU Zi K33 Qw=>?_;refine a_ ?_;refine Wc wU (fun Qx wU=>?_) (fun Qx wU=>?_)
   ·obtain⟨o37,Zj,wU⟩:=al wU;refine b_ ?_;refine W.fQ [] [aw b6 131 (bG (dh.mk 0 0 0))] ((.inl ())=o37) (zX 0 2 3 47 48 49) (fun K38 aiU=>?_) ?_
    ·obtain⟨eA,sL,Zj⟩:=al Zj;refine a_ ?_;refine mA fun DC=>?_;refine a_ ?_;refine jg Zj (fun a=>[(55,.int .i64 a)]) (fun a=>[aw b6 131 (bG (dh.mk 0 0 0)),aw DC 221 (dH eA)]) (S4 0 2 3 9 47 48 49 53 54) fun v22 k41 t41 vg Zk K42 aiV=>?_;refine a_ ?_;refine Wc vg (fun Qy vg=>?_) (fun Qy vg=>?_)
     ·obtain⟨dX,ru,vg⟩:=al vg;refine a_ ?_;refine mA fun Ke=>?_;obtain⟨o48,GE,vg⟩:=al vg;refine c_ ?_;refine W.gh (fun a=>[(71,.bool a)]) (fun a=>[aw b6 131 (bG (dh.mk 0 0 0)),aw DC 221 (dH eA),aw Ke 221 (dH dX)]) (fun a=>a=o48) (O9 0 2 3 9 11 47 48 49 53 54 55) (fun K49 afg=>?_) ?_
      ·refine a_ ?_;refine gq ((eA.forward&&(!dX.forward))==true) (fun EY=>?_) (fun EY=>?_)
       ·replace GE:=km EY GE;refine WL.gd (.pl rfl rfl rfl) (EY) ?_;obtain⟨xr,EZ,GE⟩:=al GE;refine WL.step (WO.Hm (γ:=Unit) (first:=[]) (cap:=[]) (fun g=>.bool ((decide (eA.first < dX.last))&&(decide (dX.first < eA.last)))) (fun g=>[aw Ke 221 (dH dX),aw b6 131 (bG (dh.mk 0 0 0)),aw DC 221 (dH eA)]) (fun g=>True) TI (.gd (EY) rfl) (.cons (.gd (EY) rfl) (.cons (.gd (EY) rfl) (.nil))) rfl (fun wz hw=>(BD (EZ) wz).calls hw) ?_);rintro _ -;refine a_ ?_;exact h1 afg (oi GE)
       ·replace GE:=ko EY GE;refine WL.gn (.pl rfl rfl rfl) EY rfl ?_;refine WL.q (Y.and (b:=false) (.pl rfl) (fun h2=>(JM EY h2).elim)) rfl ?_;refine a_ ?_;exact h1 afg (oi GE)
      ·rintro v25 rfl;refine Wc vg (fun aiW vg=>?_) (fun aiW vg=>?_)
       ·refine a_ ?_;refine WL.q (Y.build (cs:=(bG (dh.mk 5 eA.value dX.value)).toArray) e_ (.cons (.pl rfl) (.cons (.pl rfl) (.cons (.pl rfl) (.nil)))) (bH ⟨rfl,⟨rfl,⟨rfl,trivial⟩⟩⟩) rfl) rfl ?_;obtain rfl:=oi vg;obtain rfl:=fy Zk;obtain rfl:=oi wU;obtain rfl:=fy Zi;obtain rfl:=oi hF;refine a_ ?_;exact rP
       ·obtain⟨Ge,vg⟩:=bx vg;refine a_ ?_;exact g1 aiV (oj vg Zk)
     ·refine a_ ?_;exact h0 aiU (oj vg Zk)
    ·rintro rfl;obtain⟨zH,wU⟩:=bx wU;refine a_ ?_;exact g1 Qw (oj wU Zi)
   ·refine a_ ?_;exact h0 Qv (oj wU Zi)
  ·rintro rfl;refine a_ ?_;refine WL.q (Y.build (cs:=(bG (dh.mk 0 0 0)).toArray) e_ (.nil) (bH trivial) rfl) rfl ?_;obtain rfl:=oi hF;refine a_ ?_;exact rP
def jL(N:Nat)(l1:(List Event)):Option (Bool×Int×Int×Int×Int):=bd (re N l1) fun r7=>cond (!(decide (r7.2=0))) (some (false,0,0,0,r7.2)) (bd (lA N r7.1) fun jw=>bd (rh N r7.1 jw) fun oD=>bd (α:=(Int×Int×Int)) (cond (decide (oD.1=0)) (bd (ou N jw) fun xu=>bd (pq N xu) fun fZ=>some (fZ.1,fZ.2.1,fZ.2.2)) (some (oD.1,oD.2.1,oD.2.2))) <| fun(Ky,l_,B18)=>some ((decide (Ky=0)),Ky,l_,B18,0))
theorem L5{N l1 res}(hF:jL N l1=some res)(w:World){v5}(hs4:bi az 4 w v5 l1):Pure Tryz.prog 56 [v5] w (.tuple #[.bool res.1,.agg (bG (dh.mk res.2.1 res.2.2.1 res.2.2.2.1)).toArray,.int .i64 res.2.2.2.2]):=by
 obtain⟨A2,c3,rfl,jy,hs4⟩:=hs4.form;refine We 33 Tryz.func56 (St.start w) fun R hR=>?_;refine a_ ?_;refine mA fun b6=>?_;obtain⟨r7,Bi,hF⟩:=al hF;refine a_ ?_;refine kM ae7 (v1 rfl) (fun wz hw=>LU Bi wz (hs4.mono hw)) ?_;rintro⟨A8,c9⟩ -;refine a_ ?_;refine Wc hF (fun fT hF=>?_) (fun fT hF=>?_)
 ·refine a_ ?_;refine WL.q (Y.build (cs:=(bG (dh.mk 0 0 0)).toArray) e_ (.nil) (bH trivial) rfl) rfl ?_;obtain rfl:=oi hF;refine a_ ?_;exact rP
 ·obtain⟨jw,qD,hF⟩:=al hF;refine a_ ?_;refine kM ae8 (v1 rfl) (fun wz hw=>H1 qD wz (so hw)) ?_;rintro⟨cg,c12,jZ⟩ -;obtain⟨oD,Br,hF⟩:=al hF;refine a_ ?_;refine kC ae9 (v2 rfl rfl) (fun _ hw=>L3 Br (sw hw)) ?_;rintro _ -;refine mA fun ir=>?_;obtain⟨o9,gF,hF⟩:=al hF;refine b_ ?_;refine W.pF (fun a b c=>[]) (fun a b c=>[aw b6 131 (bG (dh.mk 0 0 0)),aw ir 131 (bG (dh.mk a b c))]) (fun a b c=>(a,b,c)=o9) (m_ 3 8) (fun Ta sv=>?_) ?_
  ·refine a_ ?_;refine Wc gF (fun Bm gF=>?_) (fun Bm gF=>?_)
   ·obtain⟨xu,E0,gF⟩:=al gF;refine a_ ?_;refine kC ae' (v1 rfl) (fun _ hw=>I9 E0 (sw hw)) ?_;rintro⟨Dv,c21⟩ -;obtain⟨fZ,nI,gF⟩:=al gF;refine kP ae_ (v1 rfl) (fun wz hw=>L4 nI wz (so hw)) ?_;refine a_ ?_;exact h3 sv (oi gF)
   ·refine a_ ?_;exact h3 sv (oi gF)
  ·rintro Ky l_ B18 rfl;refine W.zq 5 (by kernel_rfl) (by kernel_rfl) fun Q14 aiX=>?_;refine Sq yf ?_;refine Sq rK ?_;refine Sq ye ?_;refine WS.q (Y.yQ (ds:=(bG (dh.mk Ky l_ B18))) Tryz.underlying131 rfl EW (.pl rfl) (i:=1) rfl rfl mB) rfl ?_;refine Sq ya ?_;refine WS.tail ?_;refine a_ ?_;refine xQ aiX ?_;obtain rfl:=oi hF;exact rP
end Go.Proofs.YtjdkkabcenohcaaGreatDoor
