import Derived.Test.YtjdkkabcenohcaaGreatDoorAuto
import Derived.Test.YtjdkkabcenohcaaGreatDoorChecked
import Derived.Test.YtjdkkabcenohcaaGreatDoorText
import Derived.Test.YtjdkkabcenohcaaGreatDoorOpt
import Derived.Test.YtjdkkabcenohcaaGreatDoorStrMap
set_option linter.unusedVariables false
set_option linter.defProp false
set_option linter.unusedSimpArgs false
set_option linter.unusedSectionVars false
set_option maxRecDepth 100000
namespace Go.Proofs.YtjdkkabcenohcaaGreatDoor
open Go.RowKit
attribute [local irreducible] Yd aD ik
structure Event where
 who:Int
 aj:Int
 kind:Int
 value:Int
deriving DecidableEq
def Event.z:Event:=⟨0,0,0,0⟩
def az(x:Event):List Value:=(Value.int .i64 x.who::(Value.int .i64 x.aj::(Value.int .i64 x.kind::(Value.int .i64 x.value::[]))))
theorem iJ(x:Event):(az x).length=4:=rfl
theorem mC: ∀x,∀v∈az x,v.oneCell'=true:=fun x=>(bu rfl (bu rfl (bu rfl (bu rfl iB))))
structure Call where
 who:Int
 aj:Int
 kind:Int
 arg:Int
 res:Int
 from_:Int
 aY:Int
deriving DecidableEq
def Call.z:Call:=⟨0,0,0,0,0,0,0⟩
def aC(x:Call):List Value:=(Value.int .i64 x.who::(Value.int .i64 x.aj::(Value.int .i64 x.kind::(Value.int .i64 x.arg::(Value.int .i64 x.res::(Value.int .i64 x.from_::(Value.int .i64 x.aY::[])))))))
theorem lw(x:Call):(aC x).length=7:=rfl
theorem S8: ∀x,∀v∈aC x,v.oneCell'=true:=fun x=>(bu rfl (bu rfl (bu rfl (bu rfl (bu rfl (bu rfl (bu rfl iB)))))))
theorem bh:Tryz.prog.cellsOf 3=0+1:=by kernel_rfl
theorem F8:Tryz.prog.cellsOf 9=0+1:=by kernel_rfl
theorem ly:Tryz.prog.cellsOf 29=0+1:=by kernel_rfl
theorem LB:Tryz.prog.cellsOf 58=0+1:=by kernel_rfl
theorem Ev:Tryz.prog.cellsOf 108=3+1:=by kernel_rfl
theorem YI:Tryz.prog.cellsOf 120=7+1:=by kernel_rfl
theorem nF:Tryz.prog.cellsOf 162=6+1:=by kernel_rfl
def yT:=gg Tryz.func24
def Po:=gg Tryz.func32
def aer:=gg Tryz.func45
def aes:=gg Tryz.func46
def Dt:=gg Tryz.func48
def J3:=gg Tryz.func49
def aet:=gg Tryz.func50
def F9:=gg Tryz.func63
def F_:=gg Tryz.func64
def WJ:=gg Tryz.func67
def Pp:=gg Tryz.func68
def WK:=gg Tryz.func69
def J4:=gg Tryz.func74
def Pq:=gg Tryz.func75
def aeu:=gg Tryz.func78
def WM:=gg Tryz.func79
def aev:=gg Tryz.func80
def abv:=gg Tryz.func105
def abw:=gg Tryz.func116
def S9:=gg Tryz.func119
theorem Hx: ∃i,Tryz.prog.info? 108=some i∧i.zero=some (Value.agg #[(Value.int .i64 0),(Value.int .i64 0),(Value.int .i64 0),(Value.int .i64 0)]):=⟨_,rfl,by kernel_rfl⟩
@[reducible,instance] def u65:=UT.mk Tryz.underlying65
@[reducible,instance] def c9:=CT.mk F8
@[reducible,instance] def u9:=UT.mk Tryz.underlying9
@[reducible,instance] def ak7:=ZI.mk Hx
@[reducible,instance] def ak8:=CT.mk Ev
instance:ON az:=⟨mC⟩
@[reducible,instance] def c3:=CT.mk bh
instance:FT Tryz.prog 108 2 2 3:=⟨_,Tryz.underlying108,rfl⟩
@[reducible,instance] def u3:=UT.mk Tryz.underlying3
@[reducible,instance] def ak9:=UT.mk Tryz.underlying108
instance:FT Tryz.prog 108 3 3 3:=⟨_,Tryz.underlying108,rfl⟩
@[reducible,instance] def u29:=UT.mk Tryz.underlying29
instance:FT Tryz.prog 108 0 0 3:=⟨_,Tryz.underlying108,rfl⟩
instance:FT Tryz.prog 108 1 1 3:=⟨_,Tryz.underlying108,rfl⟩
instance:FT Tryz.prog 122 0 0 29:=⟨_,Tryz.underlying122,rfl⟩
@[reducible,instance] def M5:=CT.mk ly
instance:FT Tryz.prog 122 2 2 120:=⟨_,Tryz.underlying122,rfl⟩
@[reducible,instance] def ak_:=CT.mk YI
instance:FT Tryz.prog 122 1 1 58:=⟨_,Tryz.underlying122,rfl⟩
@[reducible,instance] def c58:=CT.mk LB
@[reducible,instance] def u58:=UT.mk Tryz.underlying58
@[reducible,instance] def c162:=CT.mk nF
instance:FT Tryz.prog 162 4 4 3:=⟨_,Tryz.underlying162,rfl⟩
@[reducible,instance] def u31:=UT.mk Tryz.underlying31
instance:EN az 4:=⟨iJ⟩
theorem ut: ∃i,Tryz.prog.info? 3=some i∧i.zero=some (Value.int .i64 0)∧i.size=1:=⟨_,rfl,by kernel_rfl,by kernel_rfl⟩
theorem bz9: ∃i,Tryz.prog.info? 9=some i∧i.zero=some (Value.string ⟨#[]⟩)∧i.size=1:=⟨_,rfl,by kernel_rfl,by kernel_rfl⟩
theorem Cl: ∃i,Tryz.prog.info? 108=some i∧i.zero=some (Value.agg #[(Value.int .i64 0),(Value.int .i64 0),(Value.int .i64 0),(Value.int .i64 0)])∧i.size=4:=⟨_,rfl,by kernel_rfl,by kernel_rfl⟩
theorem ahg: ∃i,Tryz.prog.info? 162=some i∧i.zero=some (Value.agg #[(Value.int .i64 0),(Value.int .i64 0),(Value.int .i64 0),(Value.int .i64 0),(Value.int .i64 0),(Value.int .i64 0),(Value.int .i64 0)])∧i.size=7:=⟨_,rfl,by kernel_rfl,by kernel_rfl⟩
theorem M6: ∃i z,Tryz.prog.info? 3=some i∧i.zero=some z∧i.size=1∧i.bytes=8∧z.cells.size=1∧0 < 1:=⟨_,(Value.int .i64 0),rfl,by kernel_rfl,by kernel_rfl,by kernel_rfl,by kernel_rfl,by decide⟩
theorem Cn: ∃i z,Tryz.prog.info? 108=some i∧i.zero=some z∧i.size=4∧i.bytes=32∧z.cells.size=4∧0 < 4:=⟨_,(Value.agg #[(Value.int .i64 0),(Value.int .i64 0),(Value.int .i64 0),(Value.int .i64 0)]),rfl,by kernel_rfl,by kernel_rfl,by kernel_rfl,by kernel_rfl,by decide⟩
theorem ahh: ∃i z,Tryz.prog.info? 162=some i∧i.zero=some z∧i.size=7∧i.bytes=56∧z.cells.size=7∧0 < 7:=⟨_,(Value.agg #[(Value.int .i64 0),(Value.int .i64 0),(Value.int .i64 0),(Value.int .i64 0),(Value.int .i64 0),(Value.int .i64 0),(Value.int .i64 0)]),rfl,by kernel_rfl,by kernel_rfl,by kernel_rfl,by kernel_rfl,by decide⟩
theorem mD:Shape Tryz.prog 108 [(0,1),(1,1),(2,1),(3,1)] #[(Value.int .i64 0),(Value.int .i64 0),(Value.int .i64 0),(Value.int .i64 0)]:=⟨_,_,Value.agg #[(Value.int .i64 0),(Value.int .i64 0),(Value.int .i64 0),(Value.int .i64 0)],Tryz.underlying108,rfl,by kernel_rfl,rfl,by kernel_rfl,by decide⟩
theorem YJ:Shape Tryz.prog 122 [(0,1),(1,1),(2,8)] #[(Value.slice none 0 0),(Value.slice none 0 0),(Value.int .i64 0),(Value.int .i64 0),(Value.int .i64 0),(Value.int .i64 0),(Value.int .i64 0),(Value.int .i64 0),(Value.int .i64 0),(Value.int .i64 0)]:=⟨_,_,Value.agg #[(Value.slice none 0 0),(Value.slice none 0 0),(Value.int .i64 0),(Value.int .i64 0),(Value.int .i64 0),(Value.int .i64 0),(Value.int .i64 0),(Value.int .i64 0),(Value.int .i64 0),(Value.int .i64 0)],Tryz.underlying122,rfl,by kernel_rfl,rfl,by kernel_rfl,by decide⟩
theorem YK:Shape Tryz.prog 162 [(0,1),(1,1),(2,1),(3,1),(4,1),(5,1),(6,1)] #[(Value.int .i64 0),(Value.int .i64 0),(Value.int .i64 0),(Value.int .i64 0),(Value.int .i64 0),(Value.int .i64 0),(Value.int .i64 0)]:=⟨_,_,Value.agg #[(Value.int .i64 0),(Value.int .i64 0),(Value.int .i64 0),(Value.int .i64 0),(Value.int .i64 0),(Value.int .i64 0),(Value.int .i64 0)],Tryz.underlying162,rfl,by kernel_rfl,rfl,by kernel_rfl,by decide⟩
def J5:Go.Shelf.Ren:=⟨fun x=>match x with|129=>176|171=>48|243=>77|246=>118|283=>151|284=>152|285=>153|286=>154|317=>175|318=>177|319=>178|320=>179|337=>203|338=>204|172=>116|205=>202|244=>149|245=>150|247=>170|279=>171|280=>172|281=>173|282=>174|287=>200|316=>201|321=>222|322=>223|138=>10|143=>29|146=>32|195=>27|197=>145|217=>100|218=>28|219=>60|221=>61|224=>102|225=>101|260=>169|266=>143|267=>103|268=>104|314=>144|100=>12|207=>30|99=>13|206=>31|103=>33|210=>62|144=>39|166=>47|240=>76|276=>117|n=>n,fun x=>match x with|37=>49|46=>176|51=>255|53=>263|171=>262|173=>266|212=>285|213=>286|232=>329|233=>330|75=>113|76=>114|80=>57|85=>279|127=>117|143=>326|145=>328|167=>278|168=>281|175=>307|210=>310|31=>65|105=>258|119=>303|138=>305|139=>306|146=>256|24=>27|70=>48|72=>51|164=>210|n=>n,fun x=>match x with|17=>1|18=>6|19=>7|15=>4|16=>5|1=>0|3=>2|4=>3|n=>n⟩
abbrev lO(w:World):Prop:=M1 Tryz.prog 4 5 0 w
theorem s8:LaysM.n146 Tryz.prog J5 where
 mixed:=by kernel_rfl
 f138:=Tryz.func10.trans (congrArg some (by kernel_rfl))
 f143:=Tryz.func29.trans (congrArg some (by kernel_rfl))
 f146:=Tryz.func32.trans (congrArg some (by kernel_rfl))
 f195:=Tryz.func27.trans (congrArg some (by kernel_rfl))
 f197:=Tryz.func145.trans (congrArg some (by kernel_rfl))
 f217:=Tryz.func100.trans (congrArg some (by kernel_rfl))
 f218:=Tryz.func28.trans (congrArg some (by kernel_rfl))
 f219:=Tryz.func60.trans (congrArg some (by kernel_rfl))
 f221:=Tryz.func61.trans (congrArg some (by kernel_rfl))
 f224:=Tryz.func102.trans (congrArg some (by kernel_rfl))
 f225:=Tryz.func101.trans (congrArg some (by kernel_rfl))
 f260:=Tryz.func169.trans (congrArg some (by kernel_rfl))
 f266:=Tryz.func143.trans (congrArg some (by kernel_rfl))
 f267:=Tryz.func103.trans (congrArg some (by kernel_rfl))
 f268:=Tryz.func104.trans (congrArg some (by kernel_rfl))
 f314:=Tryz.func144.trans (congrArg some (by kernel_rfl))
 t0:=Tryz.underlying0
 a0:=Tryz.isAgg0
 z0:=Tryz.sizeOf0
 v0:=Tryz.zeroValue0
 t3:=Tryz.underlying3
 a3:=Tryz.isAgg3
 z3:=Tryz.sizeOf3
 v3:=Tryz.zeroValue3
 t4:=Tryz.underlying4
 a4:=Tryz.isAgg4
 z4:=Tryz.sizeOf4
 v4:=Tryz.zeroValue4
 t5:=Tryz.underlying5
 a5:=Tryz.isAgg5
 z5:=Tryz.sizeOf5
 v5:=Tryz.zeroValue5
 t9:=Tryz.underlying9
 a9:=Tryz.isAgg9
 z9:=Tryz.sizeOf9
 v9:=Tryz.zeroValue9
 t21:=Tryz.underlying21
 a21:=Tryz.isAgg21
 z21:=Tryz.sizeOf21
 v21:=Tryz.zeroValue21
 t31:=Tryz.underlying65
 a31:=Tryz.isAgg65
 z31:=Tryz.sizeOf65
 v31:=Tryz.zeroValue65
 t46:=Tryz.underlying176
 a46:=Tryz.isAgg176
 z46:=Tryz.sizeOf176
 v46:=Tryz.zeroValue176
 t51:=Tryz.underlying255
 a51:=Tryz.isAgg255
 z51:=Tryz.sizeOf255
 v51:=Tryz.zeroValue255
 t105:=Tryz.underlying258
 a105:=Tryz.isAgg258
 z105:=Tryz.sizeOf258
 v105:=Tryz.zeroValue258
 t119:=Tryz.underlying303
 a119:=Tryz.isAgg303
 z119:=Tryz.sizeOf303
 t138:=Tryz.underlying305
 a138:=Tryz.isAgg305
 z138:=Tryz.sizeOf305
 v138:=Tryz.zeroValue305
 t139:=Tryz.underlying306
 a139:=Tryz.isAgg306
 z139:=Tryz.sizeOf306
 v139:=Tryz.zeroValue306
 t146:=Tryz.underlying256
 a146:=Tryz.isAgg256
 z146:=Tryz.sizeOf256
 v146:=Tryz.zeroValue256
 g1:=by kernel_rfl
 g3:=by kernel_rfl
 g4:=by kernel_rfl
 i0:=by kernel_rfl
 i3:=by kernel_rfl
 i4:=by kernel_rfl
 i5:=by kernel_rfl
 i9:=by kernel_rfl
 i21:=by kernel_rfl
 i31:=by kernel_rfl
 i46:=by kernel_rfl
 i51:=by kernel_rfl
 i105:=by kernel_rfl
 i138:=by kernel_rfl
 i139:=by kernel_rfl
 i146:=by kernel_rfl
 m1:=by kernel_rfl
 s1_3:=fun w h=>Go.Proofs.cell_of_shapedOpen_int (zero:= #[.int .i64 0]) (t:=3) h (of_decide_eq_true (by kernel_rfl)) (by kernel_rfl) rfl (by kernel_rfl) (by kernel_rfl) Tryz.underlying3
 m3:=by kernel_rfl
 m4:=by kernel_rfl
theorem uR{N:Nat}{mN M7:ByteArray}{res:List ByteArray}(hF:yR N mN M7=some res)(w:World)(hG:lO w):Made Tryz.prog 32 [.string mN,.string M7] w (fun g:(Option Addr×Nat)=> .slice g.1 (res).length g.2) (fun g=>[cR eS 1 g.1 g.2 9 res]) (fun g=>True):=U1 s8 hF w hG
def xS(N:Nat):Option Unit:=some ()
theorem zY{N res}(hF:xS N=some res)(w:World):Made Tryz.prog 67 [] w (fun g:Option Addr=>.slice g (([(⟨#[]⟩:ByteArray),(⟨#[114,101,103]⟩:ByteArray),(⟨#[113,117,101,117,101]⟩:ByteArray),(⟨#[115,116,97,99,107]⟩:ByteArray),(⟨#[115,101,116]⟩:ByteArray),(⟨#[116,105,99,107,101,116]⟩:ByteArray)]:List ByteArray)).length (([(⟨#[]⟩:ByteArray),(⟨#[114,101,103]⟩:ByteArray),(⟨#[113,117,101,117,101]⟩:ByteArray),(⟨#[115,116,97,99,107]⟩:ByteArray),(⟨#[115,101,116]⟩:ByteArray),(⟨#[116,105,99,107,101,116]⟩:ByteArray)]:List ByteArray)).length) (fun g=>[cR eS 1 g (([(⟨#[]⟩:ByteArray),(⟨#[114,101,103]⟩:ByteArray),(⟨#[113,117,101,117,101]⟩:ByteArray),(⟨#[115,116,97,99,107]⟩:ByteArray),(⟨#[115,101,116]⟩:ByteArray),(⟨#[116,105,99,107,101,116]⟩:ByteArray)]:List ByteArray)).length 9 ([(⟨#[]⟩:ByteArray),(⟨#[114,101,103]⟩:ByteArray),(⟨#[113,117,101,117,101]⟩:ByteArray),(⟨#[115,116,97,99,107]⟩:ByteArray),(⟨#[115,101,116]⟩:ByteArray),(⟨#[116,105,99,107,101,116]⟩:ByteArray)]:List ByteArray)]) (fun g=>True):=by
 refine We 2 Tryz.func67 (St.start w) fun R hR=>?_;refine a_ ?_;refine WL.step (WO.cC (enc:=eS) (ys:=([(⟨#[]⟩:ByteArray),(⟨#[114,101,103]⟩:ByteArray),(⟨#[113,117,101,117,101]⟩:ByteArray),(⟨#[115,116,97,99,107]⟩:ByteArray),(⟨#[115,101,116]⟩:ByteArray),(⟨#[116,105,99,107,101,116]⟩:ByteArray)]:List ByteArray)) Tryz.underlying65 bz9 (.cons (.pl rfl) (.cons (.pl rfl) (.cons (.pl rfl) (.cons (.pl rfl) (.cons (.pl rfl) (.cons (.pl rfl) (.nil))))))) rfl (fun _=>rfl) rfl rfl (by decide) (by decide) rfl fun b1=>?_);obtain rfl:=oi hF;refine a_ ?_;exact rG (some (Addr.mk b1 0 none))
def kZ(N:Nat)(s1:(List ByteArray))(v6:ByteArray):Int→Option (Int ⊕(Unit ⊕ Int))|v7=>cond (decide (v7 < ((s1).length:Int))) (bd (ix s1 v7) fun x8=>cond (decide (v6=x8)) (some (.inr (.inr v7))) (ck (bB (v7+1)) <| some (.inl (v7+1)))) (some (.inr (.inl ())))
def io(N:Nat)(s1:(List ByteArray))(v6:ByteArray):Option Int:=bd (α:=(Unit ⊕ Int)) (iter (kZ N s1 v6) N 0) <| Sum.elim (fun _=>some (-1)) (fun p=>some p)
theorem jd{N s1 v6 res}(hF:io N s1 v6=some res)(w:World){v5}(hs4:bi eS 1 w v5 s1):Pure Tryz.prog 74 [v5,.string v6] w (.int .i64 res):=by
 obtain⟨A2,c3,rfl,jy,hs4⟩:=hs4.form;refine We 19 Tryz.func74 (St.start w) fun R hR=>?_;obtain⟨o2,eK,hF⟩:=al hF;refine b_ ?_;refine W.fQ [] [] ((.inl ())=o2) (.nil) (fun K3 kU=>?_) ?_
 ·refine a_ ?_;refine jg eK (fun a=>[(8,.int .i64 a)]) (fun a=>[]) (fY 0 1 7) fun v7 k5 t5 bC hZ K6 ol=>?_;refine a_ ?_;refine Wc bC (fun ip bC=>?_) (fun ip bC=>?_)
  ·obtain⟨x8,S_,bC⟩:=al bC;refine a_ ?_;refine WL.q (Y.Ph Tryz.underlying9 (.pl rfl) (.pl rfl)) rfl ?_;refine a_ ?_;refine Wc bC (fun jh bC=>?_) (fun jh bC=>?_)
   ·obtain rfl:=oi bC;obtain rfl:=fy hZ;obtain rfl:=oi hF;refine a_ ?_;exact rP
   ·obtain⟨Fv,bC⟩:=bx bC;refine a_ ?_;exact g1 ol (oj bC hZ)
  ·refine a_ ?_;exact h0 kU (oj bC hZ)
 ·rintro rfl;obtain rfl:=oi hF;refine a_ ?_;exact rP
def xU(N:Nat)(r2:(List ByteArray)):((List Int)×Int)→Option (((List Int)×Int) ⊕((List Int) ⊕((List Int)×Bool)))|(Oi,Fw)=>cond (decide (Fw < (((r2.drop (1:Int).toNat)).length:Int))) (bd (ix (r2.drop (1:Int).toNat) Fw) fun jT=>bd (xS N) fun gw=>bd (io N ([(⟨#[]⟩:ByteArray),(⟨#[114,101,103]⟩:ByteArray),(⟨#[113,117,101,117,101]⟩:ByteArray),(⟨#[115,116,97,99,107]⟩:ByteArray),(⟨#[115,101,116]⟩:ByteArray),(⟨#[116,105,99,107,101,116]⟩:ByteArray)]:List ByteArray) jT) fun rL=>cond (decide (rL < 1)) (some (.inr (.inr ([],false)))) (ck (eY 8 ((Oi).length+(([rL]:List Int)).length)) <| ck (bB (Fw+1)) <| some (.inl ((Oi++([rL]:List Int)),(Fw+1))))) (some (.inr (.inl Oi)))
def yH(N:Nat)(Aq:ByteArray):Option ((List Int)×Bool):=bd (yR N Aq (⟨#[32]⟩:ByteArray)) fun r2=>bd (ix r2 0) fun x5=>cond (((!(decide (x5=(⟨#[116,104,105,110,103,115]⟩:ByteArray))))||(decide (((r2).length:Int) < 2)))||(decide (5 < ((r2).length:Int)))) (some ([],false)) (bd (α:=((List Int) ⊕((List Int)×Bool))) (ck (pB (r2).length 1 ((r2).length:Int)) <| iter (xU N r2) N ([],0)) <| Sum.elim (fun kp=>some (kp,true)) (fun p=>some p))
theorem LC{N Aq res}(hF:yH N Aq=some res)(w:World)(hG:lO w):Made Tryz.prog 45 [.string Aq] w (fun g:(Option Addr×Nat)=>.tuple #[.slice g.1 (res.1).length g.2,.bool res.2]) (fun g=>[cR (eI .i64) 1 g.1 g.2 3 res.1]) (fun g=>True):=by
 refine We 43 Tryz.func45 (St.start w) fun R hR=>?_;obtain⟨r2,hr2,hF⟩:=al hF;refine a_ ?_;refine kM Po (v2 rfl rfl) (fun wz hw=>uR hr2 wz (hG.mono hw)) ?_;rintro⟨AI3,cI4⟩ -;obtain⟨x5,hx5,hF⟩:=al hF;refine a_ ?_;refine WL.q (Y.aiu Tryz.underlying9 (.pl rfl) (.pl rfl)) rfl ?_;refine a_ ?_;refine Wc hF (fun fT hF=>?_) (fun fT hF=>?_)
 ·obtain rfl:=oi hF;refine a_ ?_;exact rG (none,0)
 ·obtain⟨o8,pQ,hF⟩:=al hF;refine b_ ?_;refine W.pF (fun a b c=>[(5,.slice b (a).length c)]) (fun a b c=>[cR (eI .i64) 1 b c 3 a]) (fun a b c=>(.inl a)=o8) (.nil) (fun K9 Bf=>?_) ?_
  ·obtain⟨Fv,pQ⟩:=bx pQ;refine a_ ?_;refine WL.q (Y.SU Tryz.underlying65 F8 (i:=0) rfl (.pl rfl) rfl (.pl rfl) (Fv)) rfl ?_;refine a_ ?_;refine Ba pQ (fun a b c d=>[(5,.slice c (a).length d),(28,.int .i64 b)]) (fun a b c d=>[cR (eI .i64) 1 c d 3 a,cR eS 1 AI3 cI4 9 r2]) (m_ 26 27) fun Oi Fw dW c11 k11 t11 bk pg zZ gr=>?_;refine a_ ?_;refine Wc bk (fun pi bk=>?_) (fun pi bk=>?_)
   ·obtain⟨jT,sr,bk⟩:=al bk;refine a_ ?_;refine WL.q (Y.aec (xs:=r2) Tryz.underlying65 F8 (i:=1) rfl (.pl rfl) (.pl rfl) (Dk (Fv)).1 (ai (sr)) (ai (OY (Dk (Fv)).1 (sr))).2) rfl ?_;refine WL.q (Y.gD (enc:=eS) (v:=.string jT) (a:=jT) (idx:=(1+Fw)) (j:=0) Tryz.underlying9 rfl (fun _=>rfl) (i:=1) rfl (.pl rfl) (aI (OY (Dk (Fv)).1 (sr))) rfl rfl) rfl ?_;obtain⟨gw,pj,bk⟩:=al bk;refine a_ ?_;refine kM WJ v0 (fun wz hw=>zY pj wz) ?_;rintro iq -;obtain⟨rL,Bh,bk⟩:=al bk;refine a_ ?_;refine kP J4 (v2 rfl rfl) (fun wz hw=>jd Bh wz (so hw)) ?_;refine a_ ?_;refine Wc bk (fun su bk=>?_) (fun su bk=>?_)
    ·obtain rfl:=oi bk;obtain rfl:=fy pg;obtain rfl:=oi hF;refine a_ ?_;exact rG (none,0)
    ·refine a_ ?_;refine WL.step (WO.cC (enc:=(eI .i64)) (ys:=([rL]:List Int)) Tryz.underlying29 ut (.cons (.pl rfl) (.nil)) rfl (fun _=>rfl) rfl rfl (by decide) (by decide) rfl fun vG=>?_);obtain⟨xV,bk⟩:=bx bk;refine WL.step (WO.fH (enc:=(eI .i64)) Tryz.underlying29 M6 (fun _=>rfl) AR (.pl rfl) rfl (.pl rfl) (i:=2) rfl (m2:=0) rfl (xV) rfl fun vH c20=>?_);obtain⟨CS,bk⟩:=bx bk;refine a_ ?_;exact g4 gr (oj bk pg)
   ·refine a_ ?_;exact h3 Bf (oj bk pg)
  ·rintro kp A6 c7 rfl;obtain rfl:=oi hF;refine a_ ?_;exact rG (A6,c7)
theorem LD:LaysC.n172 Tryz.prog J5 where
 mixed:=by kernel_rfl
 f129:=Tryz.func176.trans (congrArg some (by kernel_rfl))
 f171:=Tryz.func48.trans (congrArg some (by kernel_rfl))
 f172:=Tryz.func116.trans (congrArg some (by kernel_rfl))
 f205:=Tryz.func202.trans (congrArg some (by kernel_rfl))
 f243:=Tryz.func77.trans (congrArg some (by kernel_rfl))
 f244:=Tryz.func149.trans (congrArg some (by kernel_rfl))
 f245:=Tryz.func150.trans (congrArg some (by kernel_rfl))
 f246:=Tryz.func118.trans (congrArg some (by kernel_rfl))
 f247:=Tryz.func170.trans (congrArg some (by kernel_rfl))
 f279:=Tryz.func171.trans (congrArg some (by kernel_rfl))
 f280:=Tryz.func172.trans (congrArg some (by kernel_rfl))
 f281:=Tryz.func173.trans (congrArg some (by kernel_rfl))
 f282:=Tryz.func174.trans (congrArg some (by kernel_rfl))
 f283:=Tryz.func151.trans (congrArg some (by kernel_rfl))
 f284:=Tryz.func152.trans (congrArg some (by kernel_rfl))
 f285:=Tryz.func153.trans (congrArg some (by kernel_rfl))
 f286:=Tryz.func154.trans (congrArg some (by kernel_rfl))
 f287:=Tryz.func200.trans (congrArg some (by kernel_rfl))
 f316:=Tryz.func201.trans (congrArg some (by kernel_rfl))
 f317:=Tryz.func175.trans (congrArg some (by kernel_rfl))
 f318:=Tryz.func177.trans (congrArg some (by kernel_rfl))
 f319:=Tryz.func178.trans (congrArg some (by kernel_rfl))
 f320:=Tryz.func179.trans (congrArg some (by kernel_rfl))
 f321:=Tryz.func222.trans (congrArg some (by kernel_rfl))
 f322:=Tryz.func223.trans (congrArg some (by kernel_rfl))
 f337:=Tryz.func203.trans (congrArg some (by kernel_rfl))
 f338:=Tryz.func204.trans (congrArg some (by kernel_rfl))
 t0:=Tryz.underlying0
 a0:=Tryz.isAgg0
 z0:=Tryz.sizeOf0
 v0:=Tryz.zeroValue0
 t2:=Tryz.underlying2
 a2:=Tryz.isAgg2
 z2:=Tryz.sizeOf2
 v2:=Tryz.zeroValue2
 t3:=Tryz.underlying3
 a3:=Tryz.isAgg3
 z3:=Tryz.sizeOf3
 v3:=Tryz.zeroValue3
 t4:=Tryz.underlying4
 a4:=Tryz.isAgg4
 z4:=Tryz.sizeOf4
 v4:=Tryz.zeroValue4
 t5:=Tryz.underlying5
 a5:=Tryz.isAgg5
 z5:=Tryz.sizeOf5
 v5:=Tryz.zeroValue5
 t9:=Tryz.underlying9
 a9:=Tryz.isAgg9
 z9:=Tryz.sizeOf9
 v9:=Tryz.zeroValue9
 t20:=Tryz.underlying20
 a20:=Tryz.isAgg20
 z20:=Tryz.sizeOf20
 v20:=Tryz.zeroValue20
 t21:=Tryz.underlying21
 a21:=Tryz.isAgg21
 z21:=Tryz.sizeOf21
 v21:=Tryz.zeroValue21
 t37:=Tryz.underlying49
 a37:=Tryz.isAgg49
 z37:=Tryz.sizeOf49
 v37:=Tryz.zeroValue49
 t46:=Tryz.underlying176
 a46:=Tryz.isAgg176
 z46:=Tryz.sizeOf176
 v46:=Tryz.zeroValue176
 t51:=Tryz.underlying255
 a51:=Tryz.isAgg255
 z51:=Tryz.sizeOf255
 v51:=Tryz.zeroValue255
 t53:=Tryz.underlying263
 a53:=Tryz.isAgg263
 z53:=Tryz.sizeOf263
 v53:=Tryz.zeroValue263
 t75:=Tryz.underlying113
 a75:=Tryz.isAgg113
 z75:=Tryz.sizeOf113
 v75:=Tryz.zeroValue113
 t76:=Tryz.underlying114
 a76:=Tryz.isAgg114
 z76:=Tryz.sizeOf114
 v76:=Tryz.zeroValue114
 t85:=Tryz.underlying279
 a85:=Tryz.isAgg279
 z85:=Tryz.sizeOf279
 v85:=Tryz.zeroValue279
 t127:=Tryz.underlying117
 a127:=Tryz.isAgg117
 z127:=Tryz.sizeOf117
 v127:=Tryz.zeroValue117
 t143:=Tryz.underlying326
 a143:=Tryz.isAgg326
 z143:=Tryz.sizeOf326
 v143:=Tryz.zeroValue326
 t145:=Tryz.underlying328
 a145:=Tryz.isAgg328
 z145:=Tryz.sizeOf328
 v145:=Tryz.zeroValue328
 t167:=Tryz.underlying278
 a167:=Tryz.isAgg278
 z167:=Tryz.sizeOf278
 v167:=Tryz.zeroValue278
 t168:=Tryz.underlying281
 a168:=Tryz.isAgg281
 z168:=Tryz.sizeOf281
 v168:=Tryz.zeroValue281
 t171:=Tryz.underlying262
 a171:=Tryz.isAgg262
 z171:=Tryz.sizeOf262
 v171:=Tryz.zeroValue262
 t173:=Tryz.underlying266
 a173:=Tryz.isAgg266
 z173:=Tryz.sizeOf266
 v173:=Tryz.zeroValue266
 t175:=Tryz.underlying307
 a175:=Tryz.isAgg307
 z175:=Tryz.sizeOf307
 v175:=Tryz.zeroValue307
 t210:=Tryz.underlying310
 a210:=Tryz.isAgg310
 z210:=Tryz.sizeOf310
 v210:=Tryz.zeroValue310
 t212:=Tryz.underlying285
 a212:=Tryz.isAgg285
 z212:=Tryz.sizeOf285
 v212:=Tryz.zeroValue285
 t213:=Tryz.underlying286
 a213:=Tryz.isAgg286
 z213:=Tryz.sizeOf286
 t232:=Tryz.underlying329
 a232:=Tryz.isAgg329
 z232:=Tryz.sizeOf329
 v232:=Tryz.zeroValue329
 t233:=Tryz.underlying330
 a233:=Tryz.isAgg330
 z233:=Tryz.sizeOf330
 v233:=Tryz.zeroValue330
 g15:=by kernel_rfl
 g16:=by kernel_rfl
 g17:=by kernel_rfl
 g18:=by kernel_rfl
 g19:=by kernel_rfl
 t80:=Tryz.underlying57
 a80:=Tryz.isAgg57
 z80:=Tryz.sizeOf57
 v80:=Tryz.zeroValue57
 i0:=by kernel_rfl
 i2:=by kernel_rfl
 i3:=by kernel_rfl
 i4:=by kernel_rfl
 i5:=by kernel_rfl
 i9:=by kernel_rfl
 i20:=by kernel_rfl
 i21:=by kernel_rfl
 i37:=by kernel_rfl
 i46:=by kernel_rfl
 i51:=by kernel_rfl
 i53:=by kernel_rfl
 i75:=by kernel_rfl
 i76:=by kernel_rfl
 i80:=by kernel_rfl
 i85:=by kernel_rfl
 i127:=by kernel_rfl
 i143:=by kernel_rfl
 i145:=by kernel_rfl
 i167:=by kernel_rfl
 i168:=by kernel_rfl
 i171:=by kernel_rfl
 i173:=by kernel_rfl
 i175:=by kernel_rfl
 i210:=by kernel_rfl
 i212:=by kernel_rfl
 i232:=by kernel_rfl
 i233:=by kernel_rfl
 m15:=by kernel_rfl
 m16:=by kernel_rfl
 m17:=by kernel_rfl
 m18:=by kernel_rfl
 m19:=by kernel_rfl
 c0:=by kernel_rfl
 c2:=by kernel_rfl
 c3:=by kernel_rfl
 c4:=by kernel_rfl
 c5:=by kernel_rfl
 c9:=by kernel_rfl
 c20:=by kernel_rfl
 c21:=by kernel_rfl
 c37:=by kernel_rfl
 c46:=by kernel_rfl
 c51:=by kernel_rfl
 c53:=by kernel_rfl
 c75:=by kernel_rfl
 c76:=by kernel_rfl
 c80:=by kernel_rfl
 c85:=by kernel_rfl
 c127:=by kernel_rfl
 c143:=by kernel_rfl
 c145:=by kernel_rfl
 c167:=by kernel_rfl
 c168:=by kernel_rfl
 c171:=by kernel_rfl
 c173:=by kernel_rfl
 c175:=by kernel_rfl
 c210:=by kernel_rfl
 c212:=by kernel_rfl
 c213:=by kernel_rfl
 c232:=by kernel_rfl
 c233:=by kernel_rfl
theorem strconv_Atoi_ok{N:Nat}{mN:ByteArray}{res:Int×Bool}(hF:Hv N mN=some res)(w:World)(hG:lO w):Made Tryz.prog 116 [.string mN] w (fun g:TypeId×Value=> .tuple #[.int .i64 res.1,(Lx res.2 g)]) (fun g=>[]) (fun g=>True):=WG LD hF w hG
theorem LE:LaysM.n171 Tryz.prog J5 where
 mixed:=by kernel_rfl
 f129:=Tryz.func176.trans (congrArg some (by kernel_rfl))
 f171:=Tryz.func48.trans (congrArg some (by kernel_rfl))
 f243:=Tryz.func77.trans (congrArg some (by kernel_rfl))
 f246:=Tryz.func118.trans (congrArg some (by kernel_rfl))
 f283:=Tryz.func151.trans (congrArg some (by kernel_rfl))
 f284:=Tryz.func152.trans (congrArg some (by kernel_rfl))
 f285:=Tryz.func153.trans (congrArg some (by kernel_rfl))
 f286:=Tryz.func154.trans (congrArg some (by kernel_rfl))
 f317:=Tryz.func175.trans (congrArg some (by kernel_rfl))
 f318:=Tryz.func177.trans (congrArg some (by kernel_rfl))
 f319:=Tryz.func178.trans (congrArg some (by kernel_rfl))
 f320:=Tryz.func179.trans (congrArg some (by kernel_rfl))
 f337:=Tryz.func203.trans (congrArg some (by kernel_rfl))
 f338:=Tryz.func204.trans (congrArg some (by kernel_rfl))
 t0:=Tryz.underlying0
 a0:=Tryz.isAgg0
 z0:=Tryz.sizeOf0
 v0:=Tryz.zeroValue0
 t2:=Tryz.underlying2
 a2:=Tryz.isAgg2
 z2:=Tryz.sizeOf2
 v2:=Tryz.zeroValue2
 t3:=Tryz.underlying3
 a3:=Tryz.isAgg3
 z3:=Tryz.sizeOf3
 v3:=Tryz.zeroValue3
 t4:=Tryz.underlying4
 a4:=Tryz.isAgg4
 z4:=Tryz.sizeOf4
 v4:=Tryz.zeroValue4
 t5:=Tryz.underlying5
 a5:=Tryz.isAgg5
 z5:=Tryz.sizeOf5
 v5:=Tryz.zeroValue5
 t9:=Tryz.underlying9
 a9:=Tryz.isAgg9
 z9:=Tryz.sizeOf9
 v9:=Tryz.zeroValue9
 t20:=Tryz.underlying20
 a20:=Tryz.isAgg20
 z20:=Tryz.sizeOf20
 v20:=Tryz.zeroValue20
 t37:=Tryz.underlying49
 a37:=Tryz.isAgg49
 z37:=Tryz.sizeOf49
 v37:=Tryz.zeroValue49
 t46:=Tryz.underlying176
 a46:=Tryz.isAgg176
 z46:=Tryz.sizeOf176
 v46:=Tryz.zeroValue176
 t51:=Tryz.underlying255
 a51:=Tryz.isAgg255
 z51:=Tryz.sizeOf255
 v51:=Tryz.zeroValue255
 t53:=Tryz.underlying263
 a53:=Tryz.isAgg263
 z53:=Tryz.sizeOf263
 v53:=Tryz.zeroValue263
 t171:=Tryz.underlying262
 a171:=Tryz.isAgg262
 z171:=Tryz.sizeOf262
 v171:=Tryz.zeroValue262
 t173:=Tryz.underlying266
 a173:=Tryz.isAgg266
 z173:=Tryz.sizeOf266
 v173:=Tryz.zeroValue266
 t212:=Tryz.underlying285
 a212:=Tryz.isAgg285
 z212:=Tryz.sizeOf285
 v212:=Tryz.zeroValue285
 t213:=Tryz.underlying286
 a213:=Tryz.isAgg286
 z213:=Tryz.sizeOf286
 t232:=Tryz.underlying329
 a232:=Tryz.isAgg329
 z232:=Tryz.sizeOf329
 v232:=Tryz.zeroValue329
 t233:=Tryz.underlying330
 a233:=Tryz.isAgg330
 z233:=Tryz.sizeOf330
 v233:=Tryz.zeroValue330
 g17:=by kernel_rfl
 g18:=by kernel_rfl
 g19:=by kernel_rfl
 i0:=by kernel_rfl
 i2:=by kernel_rfl
 i3:=by kernel_rfl
 i4:=by kernel_rfl
 i5:=by kernel_rfl
 i9:=by kernel_rfl
 i20:=by kernel_rfl
 i37:=by kernel_rfl
 i46:=by kernel_rfl
 i51:=by kernel_rfl
 i53:=by kernel_rfl
 i171:=by kernel_rfl
 i173:=by kernel_rfl
 i212:=by kernel_rfl
 i232:=by kernel_rfl
 i233:=by kernel_rfl
 m17:=by kernel_rfl
 m18:=by kernel_rfl
 m19:=by kernel_rfl
theorem lY{N:Nat}{nI1:Int}{res:ByteArray}(hF:qq N nI1=some res)(w:World)(hG:lO w):Pure Tryz.prog 48 [.int .i64 nI1] w (.string res):=WC LE hF w hG
def rc(N:Nat)(s1:ByteArray):Option (Int×Bool):=bd (Hv N s1) fun r2=>bd ((cond ((!r2.2)==true) (qq N r2.1) (some ⟨#[]⟩))) fun r4=>some (r2.1,((((!r2.2)&&(decide (r4=s1)))&&(decide ((-1000000)≤r2.1)))&&(decide (r2.1≤1000000))))
theorem xW{N s1 res}(hF:rc N s1=some res)(w:World)(hG:lO w):Pure Tryz.prog 75 [.string s1] w (.tuple #[.int .i64 res.1,.bool res.2]):=by
 refine We 28 Tryz.func75 (St.start w) fun R hR=>?_;obtain⟨r2,hr2,hF⟩:=al hF;refine a_ ?_;refine kM abw (v1 rfl) (fun wz hw=>strconv_Atoi_ok hr2 wz (hG.mono hw)) ?_;rintro gI3 -;refine a_ ?_;refine WL.q (Y.aeo Tryz.underlying113 (.pl rfl)) rfl ?_;obtain⟨r4,Pr,hF⟩:=al hF;refine a_ ?_;refine WL.gP (.pl rfl rfl rfl) Dt (fun hg=>(.cons (.gd (hg) rfl) (.nil))) rfl (fun hg wz hw=>lY (fq hg Pr) wz (hG.mono hw)) ?_;refine a_ ?_;refine WL.g (.pl rfl rfl rfl) (fun hg=>Y.Ph Tryz.underlying9 (.gd (hg) rfl) (.gd (hg) rfl)) rfl ?_;obtain rfl:=oi hF;refine a_ ?_;exact rP
def xY(N:Nat):Option Unit:=some ()
theorem uf{N res}(hF:xY N=some res)(w:World):Made Tryz.prog 68 [] w (fun g:Option Addr=>.slice g (([(⟨#[101,110,100]⟩:ByteArray),(⟨#[119,114,105,116,101]⟩:ByteArray),(⟨#[114,101,97,100]⟩:ByteArray),(⟨#[101,110,113]⟩:ByteArray),(⟨#[100,101,113]⟩:ByteArray),(⟨#[112,117,115,104]⟩:ByteArray),(⟨#[112,111,112]⟩:ByteArray),(⟨#[97,100,100]⟩:ByteArray),(⟨#[114,101,109,111,118,101]⟩:ByteArray),(⟨#[104,97,115]⟩:ByteArray),(⟨#[116,97,107,101]⟩:ByteArray)]:List ByteArray)).length (([(⟨#[101,110,100]⟩:ByteArray),(⟨#[119,114,105,116,101]⟩:ByteArray),(⟨#[114,101,97,100]⟩:ByteArray),(⟨#[101,110,113]⟩:ByteArray),(⟨#[100,101,113]⟩:ByteArray),(⟨#[112,117,115,104]⟩:ByteArray),(⟨#[112,111,112]⟩:ByteArray),(⟨#[97,100,100]⟩:ByteArray),(⟨#[114,101,109,111,118,101]⟩:ByteArray),(⟨#[104,97,115]⟩:ByteArray),(⟨#[116,97,107,101]⟩:ByteArray)]:List ByteArray)).length) (fun g=>[cR eS 1 g (([(⟨#[101,110,100]⟩:ByteArray),(⟨#[119,114,105,116,101]⟩:ByteArray),(⟨#[114,101,97,100]⟩:ByteArray),(⟨#[101,110,113]⟩:ByteArray),(⟨#[100,101,113]⟩:ByteArray),(⟨#[112,117,115,104]⟩:ByteArray),(⟨#[112,111,112]⟩:ByteArray),(⟨#[97,100,100]⟩:ByteArray),(⟨#[114,101,109,111,118,101]⟩:ByteArray),(⟨#[104,97,115]⟩:ByteArray),(⟨#[116,97,107,101]⟩:ByteArray)]:List ByteArray)).length 9 ([(⟨#[101,110,100]⟩:ByteArray),(⟨#[119,114,105,116,101]⟩:ByteArray),(⟨#[114,101,97,100]⟩:ByteArray),(⟨#[101,110,113]⟩:ByteArray),(⟨#[100,101,113]⟩:ByteArray),(⟨#[112,117,115,104]⟩:ByteArray),(⟨#[112,111,112]⟩:ByteArray),(⟨#[97,100,100]⟩:ByteArray),(⟨#[114,101,109,111,118,101]⟩:ByteArray),(⟨#[104,97,115]⟩:ByteArray),(⟨#[116,97,107,101]⟩:ByteArray)]:List ByteArray)]) (fun g=>True):=by
 refine We 2 Tryz.func68 (St.start w) fun R hR=>?_;refine a_ ?_;refine WL.step (WO.cC (enc:=eS) (ys:=([(⟨#[101,110,100]⟩:ByteArray),(⟨#[119,114,105,116,101]⟩:ByteArray),(⟨#[114,101,97,100]⟩:ByteArray),(⟨#[101,110,113]⟩:ByteArray),(⟨#[100,101,113]⟩:ByteArray),(⟨#[112,117,115,104]⟩:ByteArray),(⟨#[112,111,112]⟩:ByteArray),(⟨#[97,100,100]⟩:ByteArray),(⟨#[114,101,109,111,118,101]⟩:ByteArray),(⟨#[104,97,115]⟩:ByteArray),(⟨#[116,97,107,101]⟩:ByteArray)]:List ByteArray)) Tryz.underlying65 bz9 (.cons (.pl rfl) (.cons (.pl rfl) (.cons (.pl rfl) (.cons (.pl rfl) (.cons (.pl rfl) (.cons (.pl rfl) (.cons (.pl rfl) (.cons (.pl rfl) (.cons (.pl rfl) (.cons (.pl rfl) (.cons (.pl rfl) (.nil)))))))))))) rfl (fun _=>rfl) rfl rfl (by decide) (by decide) rfl fun b1=>?_);obtain rfl:=oi hF;refine a_ ?_;exact rG (some (Addr.mk b1 0 none))
def F'(N:Nat)(ee:Int):Option Unit:=some ()
theorem Ga{N ee res}(hF:F' N ee=some res)(w:World):Pure Tryz.prog 69 [.int .i64 ee] w (.bool ((((decide (ee=2))||(decide (ee=4)))||(decide (ee=6)))||(decide (ee=10)))):=by
 refine We 17 Tryz.func69 (St.start w) fun R hR=>?_;obtain rfl:=oi hF;refine a_ ?_;exact rP
def Ar(N:Nat)(Aq:ByteArray):Option (Int×Int×Int×Int×Bool):=bd (yR N Aq (⟨#[32]⟩:ByteArray)) fun r3=>cond (decide (((r3).length:Int) < 3)) (some (0,0,0,0,false)) (bd (ix r3 0) fun x6=>bd (rc N x6) fun r7=>bd (ix r3 1) fun x8=>bd (rc N x8) fun r9=>bd (α:=Int) (bd (ix r3 2) fun eD=>bd (xY N) fun gU=>bd (io N ([(⟨#[101,110,100]⟩:ByteArray),(⟨#[119,114,105,116,101]⟩:ByteArray),(⟨#[114,101,97,100]⟩:ByteArray),(⟨#[101,110,113]⟩:ByteArray),(⟨#[100,101,113]⟩:ByteArray),(⟨#[112,117,115,104]⟩:ByteArray),(⟨#[112,111,112]⟩:ByteArray),(⟨#[97,100,100]⟩:ByteArray),(⟨#[114,101,109,111,118,101]⟩:ByteArray),(⟨#[104,97,115]⟩:ByteArray),(⟨#[116,97,107,101]⟩:ByteArray)]:List ByteArray) eD) fun gw=>some gw) <| fun uu=>cond (((!r7.2)||(!r9.2))||(decide (uu < 0))) (some (0,0,0,0,false)) (bd (F' N uu) fun lZ=>cond ((((decide (uu=2))||(decide (uu=4)))||(decide (uu=6)))||(decide (uu=10))) (some (r7.1,r9.1,uu,0,(decide (((r3).length:Int)=3)))) (cond (!(decide (((r3).length:Int)=4))) (some (0,0,0,0,false)) (bd (ix r3 3) fun bo=>bd (rc N bo) fun fZ=>some (r7.1,r9.1,uu,fZ.1,fZ.2)))))
theorem NK{N Aq res}(hF:Ar N Aq=some res)(w:World)(hG:lO w):Pure Tryz.prog 46 [.string Aq] w (.tuple #[.agg (az (Event.mk res.1 res.2.1 res.2.2.1 res.2.2.2.1)).toArray,.bool res.2.2.2.2]):=by
 refine We 71 Tryz.func46 (St.start w) fun R hR=>?_;refine a_ ?_;refine mA fun b2=>?_;obtain⟨r3,Gb,hF⟩:=al hF;refine a_ ?_;refine kM Po (v2 rfl rfl) (fun wz hw=>uR Gb wz (hG.mono hw)) ?_;rintro⟨nG,lP⟩ -;refine a_ ?_;refine Wc hF (fun fT hF=>?_) (fun fT hF=>?_)
 ·refine a_ ?_;refine WL.q (Y.build (cs:=(az (Event.mk 0 0 0 0)).toArray) mD (.nil) (bH trivial) rfl) rfl ?_;obtain rfl:=oi hF;refine a_ ?_;exact rP
 ·obtain⟨x6,hx6,hF⟩:=al hF;obtain⟨r7,Bi,hF⟩:=al hF;refine a_ ?_;refine kP Pq (v1 rfl) (fun wz hw=>xW Bi wz (hG.mono hw)) ?_;obtain⟨x8,S_,hF⟩:=al hF;obtain⟨r9,Bj,hF⟩:=al hF;refine a_ ?_;refine kP Pq (v1 rfl) (fun wz hw=>xW Bj wz (hG.mono hw)) ?_;obtain⟨o9,gF,hF⟩:=al hF;refine b_ ?_;refine W.Ak (fun a b=>[(9,.pointer (some ⟨b,0,none⟩))]) (fun a b=>[aw b2 108 (az (Event.mk 0 0 0 0)),cR eS 1 nG lP 9 r3,aw b 108 (az (Event.mk r7.1 r9.1 a 0))]) (fun a b=>a=o9) (lE 2 4 6 8) (fun Ta sv=>?_) ?_
  ·refine W.rq 9 (by kernel_rfl) ?_;refine Xp 0 rfl (fun _ _=>ym) ?_;refine Xp 1 rfl (fun _ _=>ym) ?_;refine Xp 3 rfl (fun _ _=>ym) ?_;obtain⟨eD,wm,gF⟩:=al gF;refine Xt 4 rfl (Y.mU Tryz.underlying65 F8 (i:=0) rfl (.pl rfl) rfl (.pl rfl) (ai (wm))) ?_;refine Xt 5 rfl (Y.gD (enc:=eS) (v:=.string eD) (a:=eD) (idx:=2) (j:=0) Tryz.underlying9 rfl (fun _=>rfl) (i:=0) rfl (.pl rfl) (aI (wm)) rfl rfl) ?_;obtain⟨gU,k8,gF⟩:=al gF;obtain⟨gw,pj,gF⟩:=al gF;refine WX.branch [2,8] (fun wz hw=>St.tail [] hw) (by kernel_rfl) ⟨?_,?_,trivial⟩
   ·skip;refine JL.step #[true,true,true,true,true,true,false,false,false,false] rfl rfl (WO.wg Pp (.nil) rfl (fun wz hw=>uf (k8) wz) ?_);rintro rM -;refine WX.now (fun wz hw=>St.tail [_] hw) ?_;refine WX.branch [6,8] (fun wz hw=>St.tail [] hw) (by kernel_rfl) ⟨?_,?_,trivial⟩
    ·skip;refine JL.step #[true,true,true,true,true,true,true,false,false,false] rfl rfl (WO.jc J4 (.cons (.pl rfl) (.cons (.pl rfl) (.nil))) rfl (fun wz hw=>jd (pj) wz (bi.ofRow (fun _=>rfl) hw (i:=0) rfl)) ?_);refine Xp 7 rfl (fun _ _=>Y.build (cs:=(az (Event.mk r7.1 r9.1 gw 0)).toArray) mD (.cons (.pl rfl) (.cons (.pl rfl) (.cons (.pl rfl) (.nil)))) (bH ⟨rfl,⟨rfl,⟨rfl,trivial⟩⟩⟩) rfl) ?_;refine Xo 8 rfl (WO.alloc (cs:=(az (Event.mk 0 0 0 0)).toArray) Hx rfl rfl fun Bk=>?_);refine WX.now (fun wz hw=>St.tail [_] hw) ?_;refine Xs rfl (WO.q_ (ds:=(az (Event.mk r7.1 r9.1 gw 0))) (cs':=(az (Event.mk r7.1 r9.1 gw 0))) Ev (.pl rfl) (.pl rfl) rfl (mC _) (i:=0) rfl (JN (o:=0) (l:=4) (m:=4) (by decide) rfl rfl) (Ej rfl) ?_);refine WA.done (by kernel_rfl) ?_;refine a_ ?_;exact h2 sv (oi gF)
    ·skip;refine JL.step #[true,true,true,true,true,true,false,false,true,false] rfl rfl (WO.alloc (cs:=(az (Event.mk 0 0 0 0)).toArray) Hx rfl rfl fun nH=>?_);refine WX.now (fun wz hw=>St.tail [_] hw) ?_;refine Xo 6 rfl (WO.jc J4 (.cons (.pl rfl) (.cons (.pl rfl) (.nil))) rfl (fun wz hw=>jd (pj) wz (bi.ofRow (fun _=>rfl) hw (i:=1) rfl)) ?_);refine Xp 7 rfl (fun _ _=>Y.build (cs:=(az (Event.mk r7.1 r9.1 gw 0)).toArray) mD (.cons (.pl rfl) (.cons (.pl rfl) (.cons (.pl rfl) (.nil)))) (bH ⟨rfl,⟨rfl,⟨rfl,trivial⟩⟩⟩) rfl) ?_;refine Xs rfl (WO.q_ (ds:=(az (Event.mk r7.1 r9.1 gw 0))) (cs':=(az (Event.mk r7.1 r9.1 gw 0))) Ev (.pl rfl) (.pl rfl) rfl (mC _) (i:=0) rfl (JN (o:=0) (l:=4) (m:=4) (by decide) rfl rfl) (Ej rfl) ?_);refine WA.done (by kernel_rfl) ?_;refine a_ ?_;exact h2 sv (oi gF)
   ·skip;refine JL.step #[true,true,false,true,true,true,false,false,true,false] rfl rfl (WO.alloc (cs:=(az (Event.mk 0 0 0 0)).toArray) Hx rfl rfl fun vG=>?_);refine WX.now (fun wz hw=>St.tail [_] hw) ?_;refine Xo 2 rfl (WO.wg Pp (.nil) rfl (fun wz hw=>uf (k8) wz) ?_);rintro vH -;refine WX.now (fun wz hw=>St.tail [_] hw) ?_;refine Xo 6 rfl (WO.jc J4 (.cons (.pl rfl) (.cons (.pl rfl) (.nil))) rfl (fun wz hw=>jd (pj) wz (bi.ofRow (fun _=>rfl) hw (i:=0) rfl)) ?_);refine Xp 7 rfl (fun _ _=>Y.build (cs:=(az (Event.mk r7.1 r9.1 gw 0)).toArray) mD (.cons (.pl rfl) (.cons (.pl rfl) (.cons (.pl rfl) (.nil)))) (bH ⟨rfl,⟨rfl,⟨rfl,trivial⟩⟩⟩) rfl) ?_;refine Xs rfl (WO.q_ (ds:=(az (Event.mk r7.1 r9.1 gw 0))) (cs':=(az (Event.mk r7.1 r9.1 gw 0))) Ev (.pl rfl) (.pl rfl) rfl (mC _) (i:=1) rfl (JN (o:=0) (l:=4) (m:=4) (by decide) rfl rfl) (Ej rfl) ?_);refine WA.done (by kernel_rfl) ?_;refine a_ ?_;exact h2 sv (oi gF)
  ·rintro uu qW rfl;refine a_ ?_;refine Wc hF (fun ji hF=>?_) (fun ji hF=>?_)
   ·refine a_ ?_;refine WL.q (Y.build (cs:=(az (Event.mk 0 0 0 0)).toArray) mD (.nil) (bH trivial) rfl) rfl ?_;obtain rfl:=oi hF;refine a_ ?_;exact rP
   ·obtain⟨lZ,uT,hF⟩:=al hF;refine a_ ?_;refine kP WK (v1 rfl) (fun wz hw=>Ga uT wz) ?_;refine a_ ?_;refine Wc hF (fun qr hF=>?_) (fun qr hF=>?_)
    ·obtain rfl:=oi hF;refine a_ ?_;exact rP
    ·refine a_ ?_;refine Wc hF (fun uU hF=>?_) (fun uU hF=>?_)
     ·refine a_ ?_;refine WL.q (Y.build (cs:=(az (Event.mk 0 0 0 0)).toArray) mD (.nil) (bH trivial) rfl) rfl ?_;obtain rfl:=oi hF;refine a_ ?_;exact rP
     ·obtain⟨bo,gV,hF⟩:=al hF;obtain⟨fZ,nI,hF⟩:=al hF;refine a_ ?_;refine kP Pq (v1 rfl) (fun wz hw=>xW nI wz (hG.mono hw)) ?_;refine a_ ?_;refine WL.step (WO.dC (cs':=(az (Event.mk r7.1 r9.1 uu fZ.1))) bh (.pl rfl) (.pl rfl) rfl (i:=2) rfl (iQ (m:=4) (by decide) rfl) (rfl) ?_);obtain rfl:=oi hF;refine a_ ?_;exact rP
def Co(N:Nat)(t1:Int):Option Unit:=some ()
theorem Gc{N t1 res}(hF:Co N t1=some res)(w:World):Pure Tryz.prog 78 [.int .i64 t1] w (.bool ((decide (t1 < 1))||(decide (5 < t1)))):=by
 refine We 9 Tryz.func78 (St.start w) fun R hR=>?_;obtain rfl:=oi hF;refine a_ ?_;exact rP
def lQ(N:Nat)(s1:(List Int)):Int→Option (Int ⊕(Unit ⊕ Int))|v6=>cond (decide (v6 < ((s1).length:Int))) (bd (ix s1 v6) fun x7=>bd (Co N x7) fun r8=>cond ((decide (x7 < 1))||(decide (5 < x7))) (some (.inr (.inr v6))) (ck (bB (v6+1)) <| some (.inl (v6+1)))) (some (.inr (.inl ())))
def nJ(N:Nat)(s1:(List Int)):Option Int:=bd (α:=(Unit ⊕ Int)) (iter (lQ N s1) N 0) <| Sum.elim (fun _=>some (-1)) (fun p=>some p)
theorem yU{N s1 res}(hF:nJ N s1=some res)(w:World){v5}(hs4:bi (eI .i64) 1 w v5 s1):Pure Tryz.prog 119 [v5,.func (.func 78) #[] #[]] w (.int .i64 res):=by
 obtain⟨A2,c3,rfl,jy,hs4⟩:=hs4.form;refine We 19 Tryz.func119 (St.start w) fun R hR=>?_;obtain⟨o2,eK,hF⟩:=al hF;refine b_ ?_;refine W.fQ [] [] ((.inl ())=o2) (.nil) (fun K3 kU=>?_) ?_
 ·refine a_ ?_;refine jg eK (fun a=>[(8,.int .i64 a)]) (fun a=>[]) (fY 0 1 7) fun v6 k5 t5 bC hZ K6 ol=>?_;refine a_ ?_;refine Wc bC (fun ip bC=>?_) (fun ip bC=>?_)
  ·obtain⟨x7,Tb,bC⟩:=al bC;obtain⟨r8,sy,bC⟩:=al bC;refine a_ ?_;refine kG aeu (.pl rfl) (v1 rfl) (fun wz hw=>(Gc sy wz).calls hw) ?_;rintro _ -;refine a_ ?_;refine Wc bC (fun jh bC=>?_) (fun jh bC=>?_)
   ·obtain rfl:=oi bC;obtain rfl:=fy hZ;obtain rfl:=oi hF;refine a_ ?_;exact rP
   ·obtain⟨Fv,bC⟩:=bx bC;refine a_ ?_;exact g1 ol (oj bC hZ)
  ·refine a_ ?_;exact h0 kU (oj bC hZ)
 ·rintro rfl;obtain rfl:=oi hF;refine a_ ?_;exact rP
def lR(N:Nat)(s1:(List Int)):Option Bool:=bd (nJ N s1) fun r6=>some (decide (0≤r6))
theorem wo{N s1 res}(hF:lR N s1=some res)(w:World){v5}(hs4:bi (eI .i64) 1 w v5 s1):Pure Tryz.prog 79 [v5,.func (.func 78) #[] #[]] w (.bool res):=by
 obtain⟨A2,c3,rfl,jy,hs4⟩:=hs4.form;refine We 9 Tryz.func79 (St.start w) fun R hR=>?_;obtain⟨r6,Du,hF⟩:=al hF;refine a_ ?_;refine kP S9 (v2 rfl rfl) (fun wz hw=>yU Du wz (hs4.mono hw)) ?_;obtain rfl:=oi hF;refine a_ ?_;exact rP
def co(N:Nat)(bn:(List Int)):Option Int:=bd ((cond (((decide (((bn).length:Int) < 1))||(decide (4 < ((bn).length:Int))))==false) (lR N bn) (some false))) fun r6=>cond (((decide (((bn).length:Int) < 1))||(decide (4 < ((bn).length:Int))))||r6) (some 1) (some 0)
theorem qu{N bn res}(hF:co N bn=some res)(w:World){v5}(hs4:bi (eI .i64) 1 w v5 bn):Pure Tryz.prog 49 [v5] w (.int .i64 res):=by
 obtain⟨A2,c3,rfl,jy,hs4⟩:=hs4.form;refine We 17 Tryz.func49 (St.start w) fun R hR=>?_;obtain⟨r6,Du,hF⟩:=al hF;refine a_ ?_;refine WL.gP (.pl rfl rfl rfl) WM (fun hg=>(.cons (.gd (hg) rfl) (.cons (.gd (hg) rfl) (.nil)))) rfl (fun hg wz hw=>wo (fq hg Du) wz (hs4.mono hw)) ?_;refine a_ ?_;refine Wc hF (fun fT hF=>?_) (fun fT hF=>?_)
 ·obtain rfl:=oi hF;refine a_ ?_;exact rP
 ·obtain rfl:=oi hF;refine a_ ?_;exact rP
def nk(N:Nat)(ee:Int):Option Int:=bd (α:=Bool) (cond (decide (ee=1)) (some (decide (ee=1))) (some (decide (ee=2)))) <| fun v2=>cond v2 (some 1) (bd (α:=Bool) (cond (decide (ee=3)) (some (decide (ee=3))) (some (decide (ee=4)))) <| fun v3=>cond v3 (some 2) (bd (α:=Bool) (cond (decide (ee=5)) (some (decide (ee=5))) (some (decide (ee=6)))) <| fun v4=>cond v4 (some 3) (bd (α:=Bool) (cond (decide (ee=7)) (some (decide (ee=7))) (cond (decide (ee=8)) (some (decide (ee=8))) (some (decide (ee=9))))) <| fun v5=>cond v5 (some 4) (cond (decide (ee=10)) (some 5) (some 0)))))
theorem HZ{N ee res}(hF:nk N ee=some res)(w:World):Pure Tryz.prog 105 [.int .i64 ee] w (.int .i64 res):=by
 refine We 19 Tryz.func105 (St.start w) fun R hR=>?_;obtain⟨o4,fU,hF⟩:=al hF;refine b_ ?_;refine iS ?_;refine b_ ?_;refine W.gh (fun a=>[(4,.bool a)]) (fun a=>[]) (fun a=>a=o4) (mM 3) (fun K5 ws=>?_) ?_
 ·refine a_ ?_;refine Wc fU (fun wt fU=>?_) (fun wt fU=>?_)
  ·refine a_ ?_;exact h1 ws (oi fU)
  ·refine a_ ?_;exact h1 ws (oi fU)
 ·rintro v2 rfl;refine Wc hF (fun ip hF=>?_) (fun ip hF=>?_)
  ·obtain rfl:=oi hF;refine a_ ?_;exact rP
  ·obtain⟨sA,bk,hF⟩:=al hF;refine W.gh (fun a=>[(7,.bool a)]) (fun a=>[]) (fun a=>a=sA) (mM 3) (fun zZ gr=>?_) ?_
   ·refine a_ ?_;refine Wc bk (fun ji bk=>?_) (fun ji bk=>?_)
    ·refine a_ ?_;exact h1 gr (oi bk)
    ·refine a_ ?_;exact h1 gr (oi bk)
   ·rintro v3 rfl;refine Wc hF (fun nL hF=>?_) (fun nL hF=>?_)
    ·obtain rfl:=oi hF;refine a_ ?_;exact rP
    ·obtain⟨Ps,qv,hF⟩:=al hF;refine W.gh (fun a=>[(10,.bool a)]) (fun a=>[]) (fun a=>a=Ps) (mM 3) (fun K19 CU=>?_) ?_
     ·refine a_ ?_;refine Wc qv (fun su qv=>?_) (fun su qv=>?_)
      ·refine a_ ?_;exact h1 CU (oi qv)
      ·refine a_ ?_;exact h1 CU (oi qv)
     ·rintro v4 rfl;refine Wc hF (fun Bl hF=>?_) (fun Bl hF=>?_)
      ·obtain rfl:=oi hF;refine a_ ?_;exact rP
      ·obtain⟨o25,eZ,hF⟩:=al hF;refine W.gh (fun a=>[(13,.bool a)]) (fun a=>[]) (fun a=>a=o25) (mM 3) (fun K26 LF=>?_) ?_
       ·refine a_ ?_;refine Wc eZ (fun YL eZ=>?_) (fun YL eZ=>?_)
        ·refine a_ ?_;exact h1 LF (oi eZ)
        ·refine a_ ?_;refine Wc eZ (fun IL eZ=>?_) (fun IL eZ=>?_)
         ·refine a_ ?_;exact h1 LF (oi eZ)
         ·refine a_ ?_;exact h1 LF (oi eZ)
       ·rintro v5 rfl;refine Wc hF (fun aiv hF=>?_) (fun aiv hF=>?_)
        ·obtain rfl:=oi hF;refine a_ ?_;exact rP
        ·refine a_ ?_;refine Wc hF (fun Pu hF=>?_) (fun Pu hF=>?_)
         ·obtain rfl:=oi hF;refine a_ ?_;exact rP
         ·obtain rfl:=oi hF;refine a_ ?_;exact rP
def jH(N:Nat)(jI:Int)(Oj:Int):Option Bool:=bd ((cond ((!(decide (jI=0)))==true) (nk N Oj) (some 0))) fun r3=>some ((!(decide (jI=0)))&&(decide (r3=jI)))
theorem ow{N jI Oj res}(hF:jH N jI Oj=some res)(w:World):Pure Tryz.prog 63 [.int .i64 jI,.int .i64 Oj] w (.bool res):=by
 refine We 13 Tryz.func63 (St.start w) fun R hR=>?_;obtain⟨r3,Gb,hF⟩:=al hF;refine a_ ?_;refine WL.gP (.pl rfl rfl rfl) abv (fun hg=>(.cons (.gd (hg) rfl) (.nil))) rfl (fun hg wz hw=>HZ (fq hg Gb) wz) ?_;obtain rfl:=oi hF;refine a_ ?_;exact rP
def cQ(N:Nat)(ee:Int)(n2:Int):Option Bool:=bd (α:=(Unit ⊕ Bool)) (cond (decide (ee=2)) (cond (decide (ee=2)) (some (.inr (decide (n2=0)))) (some (.inl ()))) (cond (decide (ee=4)) (cond (decide (ee=4)) (some (.inr (decide (n2=0)))) (some (.inl ()))) (cond (decide (ee=6)) (cond (decide (ee=6)) (some (.inr (decide (n2=0)))) (some (.inl ()))) (cond (decide (ee=10)) (some (.inr (decide (n2=0)))) (some (.inl ())))))) <| Sum.elim (fun _=>some ((decide (1≤n2))&&(decide (n2≤1000)))) (fun p=>some p)
theorem lm{N ee n2 res}(hF:cQ N ee n2=some res)(w:World):Pure Tryz.prog 64 [.int .i64 ee,.int .i64 n2] w (.bool res):=by
 refine We 19 Tryz.func64 (St.start w) fun R hR=>?_;obtain⟨o2,eK,hF⟩:=al hF;refine b_ ?_;refine W.fQ [] [] ((.inl ())=o2) (mM 1) (fun K3 kU=>?_) ?_
 ·refine a_ ?_;refine Wc eK (fun wt eK=>?_) (fun wt eK=>?_)
  ·refine a_ ?_;refine Wc eK (fun yV eK=>?_) (fun yV eK=>?_)
   ·obtain rfl:=oi eK;obtain rfl:=oi hF;refine a_ ?_;exact rP
   ·refine a_ ?_;exact h0 kU (oi eK)
  ·refine a_ ?_;refine Wc eK (fun sB eK=>?_) (fun sB eK=>?_)
   ·refine a_ ?_;refine Wc eK (fun Bm eK=>?_) (fun Bm eK=>?_)
    ·obtain rfl:=oi eK;obtain rfl:=oi hF;refine a_ ?_;exact rP
    ·refine a_ ?_;exact h0 kU (oi eK)
   ·refine a_ ?_;refine Wc eK (fun pi eK=>?_) (fun pi eK=>?_)
    ·refine a_ ?_;refine Wc eK (fun nL eK=>?_) (fun nL eK=>?_)
     ·obtain rfl:=oi eK;obtain rfl:=oi hF;refine a_ ?_;exact rP
     ·refine a_ ?_;exact h0 kU (oi eK)
    ·refine a_ ?_;refine Wc eK (fun sC eK=>?_) (fun sC eK=>?_)
     ·obtain rfl:=oi eK;obtain rfl:=oi hF;refine a_ ?_;exact rP
     ·refine a_ ?_;exact h0 kU (oi eK)
 ·rintro rfl;obtain rfl:=oi hF;refine a_ ?_;exact rP
def bV(N:Nat)(ee:Int)(n2:Int):Option Bool:=bd (α:=Bool) (cond (decide (ee=2)) (some (decide (ee=2))) (some (decide (ee=10)))) <| fun v3=>cond v3 (some ((decide (0≤n2))&&(decide (n2≤1000)))) (bd (α:=Bool) (cond (decide (ee=4)) (some (decide (ee=4))) (some (decide (ee=6)))) <| fun v4=>cond v4 (some ((decide (n2=(-1)))||((decide (1≤n2))&&(decide (n2≤1000))))) (bd (α:=Bool) (cond (decide (ee=7)) (some (decide (ee=7))) (cond (decide (ee=8)) (some (decide (ee=8))) (some (decide (ee=9))))) <| fun v5=>cond v5 (some ((decide (n2=0))||(decide (n2=1)))) (some (decide (n2=0)))))
theorem H0{N ee n2 res}(hF:bV N ee n2=some res)(w:World):Pure Tryz.prog 80 [.int .i64 ee,.int .i64 n2] w (.bool res):=by
 refine We 40 Tryz.func80 (St.start w) fun R hR=>?_;obtain⟨o4,fU,hF⟩:=al hF;refine b_ ?_;refine iS ?_;refine b_ ?_;refine W.gh (fun a=>[(6,.bool a)]) (fun a=>[]) (fun a=>a=o4) (m_ 1 5) (fun K5 ws=>?_) ?_
 ·refine a_ ?_;refine Wc fU (fun wt fU=>?_) (fun wt fU=>?_)
  ·refine a_ ?_;exact h1 ws (oi fU)
  ·refine a_ ?_;exact h1 ws (oi fU)
 ·rintro v3 rfl;refine Wc hF (fun ip hF=>?_) (fun ip hF=>?_)
  ·obtain rfl:=oi hF;refine a_ ?_;exact rP
  ·obtain⟨sA,bk,hF⟩:=al hF;refine W.gh (fun a=>[(15,.bool a)]) (fun a=>[]) (fun a=>a=sA) (m_ 1 5) (fun zZ gr=>?_) ?_
   ·refine a_ ?_;refine Wc bk (fun ji bk=>?_) (fun ji bk=>?_)
    ·refine a_ ?_;exact h1 gr (oi bk)
    ·refine a_ ?_;exact h1 gr (oi bk)
   ·rintro v4 rfl;refine Wc hF (fun nL hF=>?_) (fun nL hF=>?_)
    ·refine a_ ?_;refine WL.g (.pl rfl rfl rfl) (fun hg=>Y.and (.gd (hg) rfl) (fun h2=>.gd (uO hg (SH h2)) rfl)) rfl ?_;obtain rfl:=oi hF;refine a_ ?_;exact rP
    ·obtain⟨Ps,qv,hF⟩:=al hF;refine W.gh (fun a=>[(28,.bool a)]) (fun a=>[]) (fun a=>a=Ps) (mM 1) (fun K19 CU=>?_) ?_
     ·refine a_ ?_;refine Wc qv (fun su qv=>?_) (fun su qv=>?_)
      ·refine a_ ?_;exact h1 CU (oi qv)
      ·refine a_ ?_;refine Wc qv (fun Bl qv=>?_) (fun Bl qv=>?_)
       ·refine a_ ?_;exact h1 CU (oi qv)
       ·refine a_ ?_;exact h1 CU (oi qv)
     ·rintro v5 rfl;refine Wc hF (fun xZ hF=>?_) (fun xZ hF=>?_)
      ·obtain rfl:=oi hF;refine a_ ?_;exact rP
      ·obtain rfl:=oi hF;refine a_ ?_;exact rP
def ep(N:Nat)(bO:(List Int))(kp:(List Call))(l7:(List Int))(i10:Int)(v11:Event):Option ((List Call)×(List Int)×Int):=cond ((((decide (v11.who < 0))||(decide (8≤v11.who)))||(decide (v11.aj < 0)))||(decide (((bO).length:Int)≤v11.aj))) (some (kp,l7,3)) (bd (ax 8 0 l7 v11.who) fun gG=>cond (!(decide (v11.kind=0))) (bd (ix bO v11.aj) fun jT=>bd (jH N jT v11.kind) fun gw=>bd ((cond ((!gw)==false) (cQ N v11.kind v11.value) (some false))) fun r16=>cond ((!gw)||(!r16)) (some (kp,l7,3)) (cond (decide (0 < gG)) (some (kp,l7,5)) (ck (eY 56 ((kp).length+(([(Call.mk v11.who v11.aj v11.kind v11.value 0 i10 (-1))]:List Call)).length)) <| bd (ax 8 0 l7 v11.who) fun bo=>some ((kp++([(Call.mk v11.who v11.aj v11.kind v11.value 0 i10 (-1))]:List Call)),(fb 8 0 l7 v11.who (((kp++([(Call.mk v11.who v11.aj v11.kind v11.value 0 i10 (-1))]:List Call))).length:Int)),0)))) (cond (decide (gG=0)) (some (kp,l7,4)) (ck (bB (gG - 1)) <| bd (ix kp (gG - 1)) fun dX=>bd ((cond ((!(decide (dX.aj=v11.aj)))==false) (bV N dX.kind v11.value) (some false))) fun jD=>cond ((!(decide (dX.aj=v11.aj)))||(!jD)) (some (kp,l7,3)) (bd (ax 8 0 l7 v11.who) fun x25=>some ((kp.set (gG - 1).toNat (Call.mk dX.who dX.aj dX.kind dX.arg v11.value dX.from_ i10)),(fb 8 0 l7 v11.who 0),0)))))
theorem B_{N bO kp l7 i10 v11 b1 A3 c4 A6 c7 res}(hF:ep N bO kp l7 i10 v11=some res){w0 w T}(hw:St w0.heap.size w0 (aw b1 122 (Value.slice A3 (bO).length c4::(Value.slice A6 (kp).length c7::(((gj 8 (eI .i64) 0) l7)++[])))::cR aC 7 A6 c7 162 kp::T) w)(hs5:bi (eI .i64) 1 w0 (.slice A3 (bO).length c4) bO):Calls Tryz.prog 50 (List.toArray [.pointer (some ⟨b1,0,none⟩),.int .i64 i10,.agg (az v11).toArray]) w (fun e w'=>∃g:(Option Addr×Nat),(True)∧e= .returned (.int .i64 res.2.2)∧St w0.heap.size w0 (aw b1 122 (Value.slice A3 (bO).length c4::(Value.slice g.1 (res.1).length g.2::(((gj 8 (eI .i64) 0) res.2.1)++[])))::cR aC 7 g.1 g.2 162 res.1::T) w'):=by
 refine We 137 Tryz.func50 hw fun R hR=>?_;refine a_ ?_;refine WL.step (WO.il (.pl rfl) rfl fun na=>?_);refine b_ ?_;refine iS ?_;refine W.iI (by kernel_rfl) (by kernel_rfl) fun R3 hR3=>?_;refine Dq yf ?_;refine Dq fj ?_;refine Dq yl ?_;refine Dq ym ?_;refine Dg qj ?_;refine Dg lM ?_;refine Dg ail ?_;refine Dq yo ?_;refine Dq ym ?_;refine Dg qj ?_;refine Dg lM ?_;refine Dg aij ?_;refine Dq yo ?_;refine Dq ym ?_;refine Dg qj ?_;refine Dg lM ?_;refine Dg sf ?_;refine Dg AZ ?_;refine Dg O4 ?_;refine Dg O5 ?_;refine Dg gwg ?_;refine Dg O7 ?_;refine Dq yo ?_;refine WD.next hR3 (lE 0 1 5 31) ?_;refine Wc hF (fun ju hF=>?_) (fun ju hF=>?_)
 ·obtain rfl:=oi hF;refine a_ ?_;exact rG (A6,c7)
 ·refine b_ ?_;refine W.iI (by kernel_rfl) (by kernel_rfl) fun R6 J6=>?_;refine Dq ym ?_;refine Dq yf ?_;refine Dq fj ?_;refine Dq yc ?_;refine Dq yf ?_;obtain⟨gG,x_,hF⟩:=al hF;refine WD.q (Y.OE Tryz.underlying120 bh (.pl rfl) (.pl rfl) (uH (x_))) rfl ?_;refine WD.q (Y.lW (v:=.int .i64 gG) Tryz.underlying3 rfl (.pl rfl) (i:=1) rfl (Di (pre:=(Value.slice A3 (bO).length c4::(Value.slice A6 (kp).length c7::[]))) (off:=2) (post:=[]) (a:=l7) (enc:=(eI .i64)) (d:=0) (n:=8) (sz:=1) (j:=0) (fun _=>rfl) rfl (qV (x_)) (qU (x_)) rfl)) rfl ?_;refine Dq ya ?_;refine WD.next J6 (lE 0 1 5 7) ?_;refine a_ ?_;refine Wc hF (fun ip hF=>?_) (fun ip hF=>?_)
  ·refine iS ?_;refine b_ ?_;refine W.iI (by kernel_rfl) (by kernel_rfl) fun R11 YM=>?_;refine Dq ym ?_;refine Dq yc ?_;refine Dq yf ?_;refine Dq rK ?_;refine Dq yf ?_;refine Dq fj ?_;obtain⟨jT,sr,hF⟩:=al hF;refine WD.q (Y.mT Tryz.underlying29 bh hs5 (.pl rfl) (.pl rfl) (ai (sr))) rfl ?_;refine WD.q (Y.pE (enc:=(eI .i64)) (v:=.int .i64 jT) (j:=0) Tryz.underlying3 rfl hs5 (.pl rfl) (sr) rfl rfl) rfl ?_;refine Dq yf ?_;refine Dq fj ?_;obtain⟨gw,pj,hF⟩:=al hF;refine WD.jc F9 (.cons (.pl rfl) (.cons (.pl rfl) (.nil))) rfl (fun wz hw=>ow (pj) wz) ?_;refine Dq yt ?_;refine Dq ym ?_;refine Dg qj ?_;refine Dg lM ?_;refine Dg qj ?_;refine Dg lM ?_;obtain⟨r16,mF,hF⟩:=al hF;refine WD.gP (.pl rfl rfl rfl) F_ (fun hg=>(.cons (.gd (hg) rfl) (.cons (.gd (hg) rfl) (.nil)))) rfl (fun hg wz hw=>lm (fq hg mF) wz) ?_;refine Dg MV ?_;refine Dq yo ?_;refine Dq ya ?_;refine WD.next YM (wl 0 1 5 7 42) ?_;refine Wc hF (fun Bm hF=>?_) (fun Bm hF=>?_)
   ·obtain rfl:=oi hF;refine a_ ?_;exact rG (A6,c7)
   ·refine a_ ?_;refine Wc hF (fun pi hF=>?_) (fun pi hF=>?_)
    ·obtain rfl:=oi hF;refine a_ ?_;exact rG (A6,c7)
    ·refine b_ ?_;refine W.xL 16 (by kernel_rfl) fun K17 Pw=>?_;refine Xp 0 rfl (fun _ _=>ym) ?_;refine Xp 1 rfl (fun _ _=>ym) ?_;refine Xp 2 rfl (fun _ _=>yc) ?_;refine Xp 3 rfl (fun _ _=>yf) ?_;refine Xt 4 rfl (rK) ?_;refine Xp 5 rfl (fun _ _=>yf) ?_;refine Xt 6 rfl (fj) ?_;refine Xp 7 rfl (fun _ _=>yf) ?_;refine Xt 8 rfl (fj) ?_;refine Xp 9 rfl (fun _ _=>yf) ?_;refine Xt 10 rfl (fj) ?_;refine Xp 11 rfl (fun _ _=>yf) ?_;refine Xt 12 rfl (fj) ?_;refine Xp 13 rfl (fun _ _=>ym) ?_;refine Xp 14 rfl (fun _ _=>Y.build (cs:=(aC (Call.mk v11.who v11.aj v11.kind v11.value 0 i10 (-1))).toArray) YK (.cons (.pl rfl) (.cons (.pl rfl) (.cons (.pl rfl) (.cons (.pl rfl) (.cons (.pl rfl) (.cons (.pl rfl) (.nil))))))) (bH ⟨rfl,⟨rfl,⟨rfl,⟨rfl,⟨rfl,⟨rfl,trivial⟩⟩⟩⟩⟩⟩) rfl) ?_;refine Xo 15 rfl (WO.cC (enc:=aC) (ys:=([(Call.mk v11.who v11.aj v11.kind v11.value 0 i10 (-1))]:List Call)) Tryz.underlying58 ahg (.cons (.pl rfl) (.nil)) rfl lw rfl rfl (by decide) (by decide) rfl fun nH=>?_);refine WX.now (fun wz hw=>St.tail [_] hw) ?_;obtain⟨wu,hF⟩:=bx hF;refine Xs rfl (WO.fH (enc:=aC) Tryz.underlying58 ahh lw S8 (.pl rfl) rfl (.pl rfl) (i:=3) rfl (m2:=0) rfl (wu) rfl fun M8 c19=>?_);refine WA.take 17 #[true,true,true,true,true,true,true,true,true,true,true,true,true,true,true,true,true,true,false,false] rfl (by kernel_rfl) (fun _ _=>Y.nilCheck (.pl rfl)) rfl ?_;refine WA.take 18 #[true,true,true,true,true,true,true,true,true,true,true,true,true,true,true,true,true,true,true,false] rfl (by kernel_rfl) (fun _ _=>Y.dQ (off:=1) (ft:=58) Tryz.underlying122 rfl LB (.pl rfl)) rfl ?_;refine WA.branch [19] (by kernel_rfl) ⟨?_,trivial⟩;refine WI.step #[true,true,true,true,true,true,true,true,true,true,true,true,true,true,true,true,true,true,true,true] rfl rfl (WO.dC (cs':=(Value.slice A3 (bO).length c4::(Value.slice M8 ((kp++([(Call.mk v11.who v11.aj v11.kind v11.value 0 i10 (-1))]:List Call))).length c19::(((gj 8 (eI .i64) 0) l7)++[])))) LB (.pl rfl) (.pl rfl) rfl (i:=2) rfl (iQ (m:=10) (by decide) rfl) (rfl) ?_);refine WA.done (by kernel_rfl) ?_;refine KK.next Pw (m_ 0 5) ?_;refine W.zq 11 (by kernel_rfl) (by kernel_rfl) fun Q18 aiw=>?_;refine Sq ym ?_;refine Sq yf ?_;refine Sq rK ?_;refine Sq ym ?_;refine Sq yc ?_;refine Sq yf ?_;refine Sq O6 ?_;refine Sq yw ?_;refine Sq yc ?_;refine Sq yf ?_;obtain⟨bo,gV,hF⟩:=al hF;refine WS.q (Y.OE Tryz.underlying120 bh (.pl rfl) (.pl rfl) (uH (gV))) rfl ?_;refine WS.tail ?_;refine WL.step (WO.dC (cs':=(Value.slice A3 (bO).length c4::(Value.slice M8 ((kp++([(Call.mk v11.who v11.aj v11.kind v11.value 0 i10 (-1))]:List Call))).length c19::(((gj 8 (eI .i64) 0) (fb 8 0 l7 v11.who (((kp++([(Call.mk v11.who v11.aj v11.kind v11.value 0 i10 (-1))]:List Call))).length:Int)))++[])))) bh (.pl rfl) (.pl rfl) rfl (i:=2) rfl (iQ (m:=10) (Hk (off:=2) (sz:=1) (j:=0) (qV (gV)) (by decide)) rfl) (xM (pre:=(Value.slice A3 (bO).length c4::(Value.slice M8 ((kp++([(Call.mk v11.who v11.aj v11.kind v11.value 0 i10 (-1))]:List Call))).length c19::[]))) (off:=2) (post:=[]) (a:=l7) (enc:=(eI .i64)) (d:=0) (n:=8) (sz:=1) (j:=0) (x:=bo) (x':=(((kp++([(Call.mk v11.who v11.aj v11.kind v11.value 0 i10 (-1))]:List Call))).length:Int)) (fun _=>rfl) rfl (uH (gV)) (qU (gV)) (by decide) rfl rfl) ?_);refine a_ ?_;refine xQ aiw ?_;obtain rfl:=oi hF;refine a_ ?_;exact rG (M8,c19)
  ·refine a_ ?_;refine Wc hF (fun uU hF=>?_) (fun uU hF=>?_)
   ·obtain rfl:=oi hF;refine a_ ?_;exact rG (A6,c7)
   ·obtain⟨CS,hF⟩:=bx hF;obtain⟨dX,ru,hF⟩:=al hF;refine b_ ?_;refine iS ?_;refine W.iI (by kernel_rfl) (by kernel_rfl) fun R26 aix=>?_;refine Dq ym ?_;refine Dq yc ?_;refine WD.q (Y.gQ (off:=1) (ft:=3) Tryz.underlying162 rfl bh (i':=2) rfl (ai (ru)) (.pl rfl)) rfl ?_;refine WD.q (Y.gD (enc:=aC) (v:=.int .i64 dX.aj) (a:=dX) (idx:=(gG - 1)) (j:=1) Tryz.underlying3 rfl lw (i:=2) rfl (.pl rfl) (aI (ru)) rfl rfl) rfl ?_;refine Dq yf ?_;refine Dq fj ?_;refine Dq yn ?_;refine Dq ym ?_;refine Dg sf ?_;refine Dg AZ ?_;refine WD.g (.pl rfl rfl rfl) (fun hg=>Y.gQ (off:=2) (ft:=3) Tryz.underlying162 rfl bh (i':=2) rfl (ai (ru)) (.gd (hg) rfl)) rfl ?_;refine WD.g (.pl rfl rfl rfl) (fun hg=>Y.gD (enc:=aC) (v:=.int .i64 dX.kind) (a:=dX) (idx:=(gG - 1)) (j:=2) Tryz.underlying3 rfl lw (i:=2) rfl (.gd (hg) rfl) (aI (ru)) rfl rfl) rfl ?_;refine Dg qj ?_;refine Dg lM ?_;obtain⟨jD,qx,hF⟩:=al hF;refine WD.gP (.pl rfl rfl rfl) aev (fun hg=>(.cons (.gd (hg) rfl) (.cons (.gd (hg) rfl) (.nil)))) rfl (fun hg wz hw=>H0 (fq hg qx) wz) ?_;refine Dg MV ?_;refine Dq yo ?_;refine WD.next aix (wl 0 1 5 8 121) ?_;refine Wc hF (fun IM hF=>?_) (fun IM hF=>?_)
    ·obtain rfl:=oi hF;refine a_ ?_;exact rG (A6,c7)
    ·refine a_ ?_;refine WL.step (WO.AU (enc:=aC) (a:=dX) (a':=(Call.mk dX.who dX.aj dX.kind dX.arg v11.value dX.from_ dX.aY)) (idx:=(gG - 1)) (j:=4) bh (.pl rfl) (.pl rfl) rfl lw (i:=2) rfl (aI (ru)) rfl (by decide) rfl ?_);refine a_ ?_;refine WL.q (Y.gQ (off:=6) (ft:=3) Tryz.underlying162 rfl bh (i':=2) rfl (⟨(ai (ru)).1,by simpa only[List.length_set]using(ai (ru)).2⟩) (.pl rfl)) rfl ?_;refine WL.step (WO.Hl (enc:=aC) (a:=(Call.mk dX.who dX.aj dX.kind dX.arg v11.value dX.from_ dX.aY)) (a':=(Call.mk dX.who dX.aj dX.kind dX.arg v11.value dX.from_ i10)) (idx:=(gG - 1)) (j:=6) bh (.pl rfl) (.pl rfl) rfl lw (i:=2) rfl (ai (ru)) rfl (by decide) rfl ?_);refine b_ ?_;refine W.zq 6 (by kernel_rfl) (by kernel_rfl) fun Q30 aiy=>?_;refine Sq ym ?_;refine Sq yf ?_;refine Sq fj ?_;refine Sq yc ?_;refine Sq yf ?_;obtain⟨x25,uV,hF⟩:=al hF;refine WS.q (Y.OE Tryz.underlying120 bh (.pl rfl) (.pl rfl) (uH (uV))) rfl ?_;refine WS.tail ?_;refine WL.step (WO.dC (cs':=(Value.slice A3 (bO).length c4::(Value.slice A6 (kp).length c7::(((gj 8 (eI .i64) 0) (fb 8 0 l7 v11.who 0))++[])))) bh (.pl rfl) (.pl rfl) rfl (i:=1) rfl (iQ (m:=10) (Hk (off:=2) (sz:=1) (j:=0) (qV (uV)) (by decide)) rfl) (xM (pre:=(Value.slice A3 (bO).length c4::(Value.slice A6 (kp).length c7::[]))) (off:=2) (post:=[]) (a:=l7) (enc:=(eI .i64)) (d:=0) (n:=8) (sz:=1) (j:=0) (x:=x25) (x':=0) (fun _=>rfl) rfl (uH (uV)) (qU (uV)) (by decide) rfl rfl) ?_);refine a_ ?_;refine xQ aiy ?_;obtain rfl:=oi hF;refine a_ ?_;refine W.lr (fn:=Tryz.f50) (vs:=[.int .i64 0]) Tryz.results50 ⟨.tmp rfl,trivial⟩ (fun _ _ h=>h) (fun wz hw=>?_);exact hR _ _ ⟨(A6,c7),trivial,rfl,(St.dZ (L:=(aw b1 122 (Value.slice A3 (bO).length c4::(Value.slice A6 (kp).length c7::(((gj 8 (eI .i64) 0) (fb 8 0 l7 v11.who 0))++[])))::cR aC 7 A6 c7 162 (kp.set (gG - 1).toNat (Call.mk dX.who dX.aj dX.kind dX.arg v11.value dX.from_ i10))::T)) (hw.cY 3 [1,2] rfl) (by simp only[List.length_set,List.nil_append,List.cons_append]))⟩
def gB(N:Nat)(l6:(List Event))(bn:(List Int)):((List Call)×(List Int)×Int)→Option (((List Call)×(List Int)×Int) ⊕(((List Call)×(List Int)) ⊕((List Call)×Int×Int)))|(U2,Px,v21)=>cond (decide (v21 < ((l6).length:Int))) (bd (ix l6 v21) fun aG=>bd (ep N bn U2 Px v21 aG) fun jD=>cond (!(decide (jD.2.2=0))) (some (.inr (.inr ([],v21,jD.2.2)))) (ck (bB (v21+1)) <| some (.inl (jD.1,jD.2.1,(v21+1))))) (some (.inr (.inl (U2,Px))))
def cB(N:Nat)(bn:(List Int))(l6:(List Event)):Option ((List Call)×Int×Int):=bd (co N bn) fun fa=>cond (!(decide (fa=0))) (some ([],0,fa)) (cond (decide (200 < ((l6).length:Int))) (some ([],0,2)) (bd (α:=(((List Call)×(List Int)) ⊕((List Call)×Int×Int))) (iter (gB N l6 bn) N ([],[],0)) <| Sum.elim (fun(aaR,aew)=>some (aaR,0,0)) (fun p=>some p)))
theorem jj{N bn l6 res}(hF:cB N bn l6=some res)(w:World){v5}(hs4:bi (eI .i64) 1 w v5 bn){v10}(jU:bi az 4 w v10 l6):Made Tryz.prog 24 [v5,v10] w (fun g:(Option Addr×Nat)=>.tuple #[.slice g.1 (res.1).length g.2,.int .i64 res.2.1,.int .i64 res.2.2]) (fun g=>[cR aC 7 g.1 g.2 162 res.1]) (fun g=>True):=by
 obtain⟨A2,c3,rfl,jy,hs4⟩:=hs4.form;obtain⟨A7,c8,rfl,IO,jU⟩:=jU.form;refine We 43 Tryz.func24 (St.start w) fun R hR=>?_;obtain⟨fa,kz,hF⟩:=al hF;refine a_ ?_;refine kP J3 (v1 rfl) (fun wz hw=>qu kz wz (hs4.mono hw)) ?_;refine a_ ?_;refine Wc hF (fun fT hF=>?_) (fun fT hF=>?_)
 ·obtain rfl:=oi hF;refine a_ ?_;exact rG (none,0)
 ·refine a_ ?_;refine Wc hF (fun ip hF=>?_) (fun ip hF=>?_)
  ·obtain rfl:=oi hF;refine a_ ?_;exact rG (none,0)
  ·refine a_ ?_;refine WL.q (Y.build (cs:=(Value.slice A2 (bn).length c3::(Value.slice none 0 0::(((gj 8 (eI .i64) 0) [])++[]))).toArray) YJ (.cons (.pl rfl) (.nil)) (bH ⟨rfl,trivial⟩) rfl) rfl ?_;refine WL.step (WO.il (.pl rfl) rfl fun na=>?_);obtain⟨o12,jW,hF⟩:=al hF;refine b_ ?_;refine W.s7 (fun a b c d=>[]) (fun a b c d=>[aw na 122 (Value.slice A2 (bn).length c3::(Value.slice c (a).length d::(((gj 8 (eI .i64) 0) b)++[]))),cR aC 7 c d 162 a]) (fun a b c d=>(.inl (a,b))=o12) (mM 8) (fun K13 Ew=>?_) ?_
   ·refine a_ ?_;refine aem jW (fun a b c d f=>[(25,.int .i64 c)]) (fun a b c d f=>[aw na 122 (Value.slice A2 (bn).length c3::(Value.slice d (a).length f::(((gj 8 (eI .i64) 0) b)++[]))),cR aC 7 d f 162 a]) (fY 8 23 24) fun U2 Px v21 l_ c18 k15 t15 dc rx Py sD=>?_;refine a_ ?_;refine Wc dc (fun sC dc=>?_) (fun sC dc=>?_)
    ·obtain⟨aG,dt,dc⟩:=al dc;refine a_ ?_;refine mA fun J7=>?_;obtain⟨jD,qx,dc⟩:=al dc;refine a_ ?_;refine kC aet (v3 rfl rfl rfl) (fun _ hw=>B_ qx (sw hw) hs4) ?_;rintro⟨A25,c26⟩ -;refine a_ ?_;refine Wc dc (fun Pz dc=>?_) (fun Pz dc=>?_)
     ·obtain rfl:=oi dc;obtain rfl:=fy rx;obtain rfl:=oi hF;refine a_ ?_;exact rG (none,0)
     ·obtain⟨Ge,dc⟩:=bx dc;refine a_ ?_;exact g5 sD (oj dc rx)
    ·refine a_ ?_;exact h4 Ew (oj dc rx)
   ·rintro aaR aew fM c14 rfl;obtain rfl:=oi hF;refine a_ ?_;exact rG (fM,c14)
def wv(N:Nat)(r2:(List ByteArray)):((List Int)×(List Event)×Int)→Option (((List Int)×(List Event)×Int) ⊕(((List Int)×(List Event)) ⊕((List Int)×(List Event)×Int×Int)))|(Hy,Tc,M9)=>cond (decide (M9 < ((r2).length:Int))) (bd (ix r2 M9) fun eE=>bd (α:=((List Int)×(List Event)×Bool)) (cond (decide (M9=(((r2).length:Int) - 1))) (some (Hy,Tc,((decide (eE=(⟨#[]⟩:ByteArray)))&&(decide (0 < (((r2).length:Int) - 1)))))) (cond (decide (M9=0)) (bd (yH N eE) fun ma=>some (ma.1,Tc,ma.2)) (bd (Ar N eE) fun pC=>ck (eY 32 ((Tc).length+(([(Event.mk pC.1 pC.2.1 pC.2.2.1 pC.2.2.2.1)]:List Event)).length)) <| some (Hy,(Tc++([(Event.mk pC.1 pC.2.1 pC.2.2.1 pC.2.2.2.1)]:List Event)),pC.2.2.2.2)))) <| fun(Td,l25,aex)=>cond (!aex) (some (.inr (.inr ([],[],M9,7)))) (ck (bB (M9+1)) <| some (.inl (Td,l25,(M9+1))))) (some (.inr (.inl (Hy,Tc))))
def ox(N:Nat)(s1:ByteArray):Option ((List Int)×(List Event)×Int×Int):=cond (decide (8192 < ((s1).size:Int))) (some ([],[],0,2)) (bd (yR N s1 (⟨#[10]⟩:ByteArray)) fun r2=>ck (bB (((r2).length:Int) - 1)) <| bd (α:=(((List Int)×(List Event)) ⊕((List Int)×(List Event)×Int×Int))) (iter (wv N r2) N ([],[],0)) <| Sum.elim (fun(oy,Cp)=>bd (cB N oy Cp) fun yW=>cond (decide (yW.2.2=2)) (some ([],[],0,yW.2.2)) (cond (!(decide (yW.2.2=0))) (ck (bB (yW.2.1+1)) <| some ([],[],(yW.2.1+1),yW.2.2)) (some (oy,Cp,0,0)))) (fun p=>some p))
theorem PA{N s1 res}(hF:ox N s1=some res)(w:World)(hG:lO w):Made Tryz.prog 21 [.string s1] w (fun g:(Option Addr×Nat×Option Addr×Nat)=>.tuple #[.slice g.1 (res.1).length g.2.1,.slice g.2.2.1 (res.2.1).length g.2.2.2,.int .i64 res.2.2.1,.int .i64 res.2.2.2]) (fun g=>[cR (eI .i64) 1 g.1 g.2.1 3 res.1,cR az 4 g.2.2.1 g.2.2.2 108 res.2.1]) (fun g=>True):=by
 refine We 80 Tryz.func21 (St.start w) fun R hR=>?_;refine a_ ?_;refine WL.q (Y.UY Tryz.underlying9 (.pl rfl)) rfl ?_;refine a_ ?_;refine Wc hF (fun ju hF=>?_) (fun ju hF=>?_)
 ·obtain rfl:=oi hF;refine a_ ?_;exact rG (none,0,none,0)
 ·obtain⟨r2,hr2,hF⟩:=al hF;refine a_ ?_;refine kM Po (v2 rfl rfl) (fun wz hw=>uR hr2 wz (hG.mono hw)) ?_;rintro⟨AI3,cI4⟩ -;obtain⟨M_,hF⟩:=bx hF;obtain⟨PC,cj,hF⟩:=al hF;refine b_ ?_;refine W.aaL (fun a b c d f g=>[(8,.slice c (a).length d),(9,.slice f (b).length g)]) (fun a b c d f g=>[cR (eI .i64) 1 c d 3 a,cR az 4 f g 108 b]) (fun a b c d f g=>(.inl (a,b))=PC) (.nil) (fun Ie mG=>?_) ?_
  ·refine a_ ?_;refine aip cj (fun a b c d f g h=>[(8,.slice d (a).length f),(9,.slice g (b).length h),(27,.int .i64 c)]) (fun a b c d f g h=>[cR (eI .i64) 1 d f 3 a,cR az 4 g h 108 b,cR eS 1 AI3 cI4 9 r2]) (fY 7 25 26) fun Hy Tc M9 vI c13 A15 c16 k13 t13 fA IP K14 Ex=>?_;refine a_ ?_;refine Wc fA (fun qy fA=>?_) (fun qy fA=>?_)
   ·obtain⟨eE,k_,fA⟩:=al fA;obtain⟨o21,dF,fA⟩:=al fA;refine b_ ?_;refine iS ?_;refine b_ ?_;refine W.aaM (fun a b c d f g h=>[(8,.slice d (a).length f),(9,.slice g (b).length h),(12,.bool c)]) (fun a b c d f g h=>[cR (eI .i64) 1 d f 3 a,cR az 4 g h 108 b,cR eS 1 AI3 cI4 9 r2]) (fun a b c d f g h=>(a,b,c)=o21) (wl 7 10 25 26 27) (fun K22 ww=>?_) ?_
    ·refine a_ ?_;refine Wc dF (fun Pz dF=>?_) (fun Pz dF=>?_)
     ·refine a_ ?_;refine WL.q (Y.Ph Tryz.underlying9 (.pl rfl) (.pl rfl)) rfl ?_;refine a_ ?_;exact h7 ww (oi dF)
     ·refine a_ ?_;refine Wc dF (fun IM dF=>?_) (fun IM dF=>?_)
      ·obtain⟨ma,Ey,dF⟩:=al dF;refine a_ ?_;refine kM aer (v1 rfl) (fun wz hw=>LC Ey wz (hG.mono hw)) ?_;rintro⟨PD,M5⟩ -;refine a_ ?_;exact h7 ww (oi dF)
      ·refine a_ ?_;refine mA fun WN=>?_;obtain⟨pC,Ez,dF⟩:=al dF;refine a_ ?_;refine kP aes (v1 rfl) (fun wz hw=>NK Ez wz (hG.mono hw)) ?_;refine a_ ?_;refine WL.step (WO.cC (enc:=az) (ys:=([(Event.mk pC.1 pC.2.1 pC.2.2.1 pC.2.2.2.1)]:List Event)) Tryz.underlying31 Cl (.cons (.pl rfl) (.nil)) rfl iJ rfl rfl (by decide) (by decide) rfl fun PE=>?_);obtain⟨Gf,dF⟩:=bx dF;refine WL.step (WO.fH (enc:=az) Tryz.underlying31 Cn iJ mC (.pl rfl) rfl (.pl rfl) (i:=3) rfl (m2:=0) rfl (Gf) rfl fun J8 Na=>?_);refine a_ ?_;exact h7 ww (oi dF)
    ·rintro Td l25 aex Dv c21 z6 c24 rfl;refine a_ ?_;refine Wc fA (fun YN fA=>?_) (fun YN fA=>?_)
     ·obtain rfl:=oi fA;obtain rfl:=fy IP;obtain rfl:=oi hF;refine a_ ?_;exact rG (none,0,none,0)
     ·obtain⟨U3,fA⟩:=bx fA;refine a_ ?_;exact g7 Ex (oj fA IP)
   ·refine a_ ?_;exact h6 mG (oj fA IP)
  ·rintro oy Cp A6 c7 A9 c10 rfl;obtain⟨yW,IQ,hF⟩:=al hF;refine a_ ?_;refine kM yT (v2 rfl rfl) (fun wz hw=>jj IQ wz (so hw) (so hw)) ?_;rintro⟨Ig,Ih⟩ -;refine a_ ?_;refine Wc hF (fun Bn hF=>?_) (fun Bn hF=>?_)
   ·obtain rfl:=oi hF;refine a_ ?_;exact rG (none,0,none,0)
   ·refine a_ ?_;refine Wc hF (fun PF hF=>?_) (fun PF hF=>?_)
    ·obtain⟨U4,hF⟩:=bx hF;obtain rfl:=oi hF;refine a_ ?_;exact rG (none,0,none,0)
    ·obtain rfl:=oi hF;refine a_ ?_;exact rG (A6,c7,A9,c10)
end Go.Proofs.YtjdkkabcenohcaaGreatDoor
