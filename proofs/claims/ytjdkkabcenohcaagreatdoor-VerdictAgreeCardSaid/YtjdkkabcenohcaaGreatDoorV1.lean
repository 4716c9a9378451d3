/- Text: what Read computes, and the walks. -/
import Derived.Test.YtjdkkabcenohcaaGreatDoorAuto
import Derived.Test.YtjdkkabcenohcaaGreatDoorChecked
import Derived.Test.YtjdkkabcenohcaaGreatDoorText
import Derived.Test.YtjdkkabcenohcaaGreatDoorOpt
import Derived.Test.YtjdkkabcenohcaaGreatDoorStrMap
set_option linter.unusedVariables false
set_option linter.defProp false
set_option linter.unusedSimpArgs false
set_option linter.unusedSectionVars false
set_option maxRecDepth 100000
namespace Go.Proofs.YtjdkkabcenohcaaGreatDoor
open Go.RowKit
attribute [local irreducible] Yd ap eu
structure Event where
 who:Int
 aB:Int
 kind:Int
 value:Int
deriving DecidableEq
def Event.z:Event:=⟨0,0,0,0⟩
def aR(x:Event):List Value:=(Value.int .i64 x.who::(Value.int .i64 x.aB::(Value.int .i64 x.kind::(Value.int .i64 x.value::[]))))
theorem re(x:Event):(aR x).length=4:=rfl
theorem o_: ∀x,∀v∈aR x,v.oneCell'=true:=fun x=>(bt rfl (bt rfl (bt rfl (bt rfl jQ))))
structure Call where
 who:Int
 aB:Int
 kind:Int
 arg:Int
 res:Int
 from_:Int
 au:Int
deriving DecidableEq
def Call.z:Call:=⟨0,0,0,0,0,0,0⟩
def ak(x:Call):List Value:=(Value.int .i64 x.who::(Value.int .i64 x.aB::(Value.int .i64 x.kind::(Value.int .i64 x.arg::(Value.int .i64 x.res::(Value.int .i64 x.from_::(Value.int .i64 x.au::[])))))))
theorem fX(x:Call):(ak x).length=7:=rfl
theorem HJ: ∀x,∀v∈ak x,v.oneCell'=true:=fun x=>(bt rfl (bt rfl (bt rfl (bt rfl (bt rfl (bt rfl (bt rfl jQ)))))))
theorem bp:Tryz.prog.cellsOf 3=0+1:=by kernel_rfl
theorem Bi:Tryz.prog.cellsOf 9=0+1:=by kernel_rfl
theorem je:Tryz.prog.cellsOf 29=0+1:=by kernel_rfl
theorem Ci:Tryz.prog.cellsOf 58=0+1:=by kernel_rfl
theorem vg:Tryz.prog.cellsOf 108=3+1:=by kernel_rfl
theorem Mt:Tryz.prog.cellsOf 120=7+1:=by kernel_rfl
theorem iA:Tryz.prog.cellsOf 162=6+1:=by kernel_rfl
def rh:=gg Tryz.func24
def Bj:=gg Tryz.func32
def Tc:=gg Tryz.func45
def Td:=gg Tryz.func46
def E_:=gg Tryz.func48
def Te:=gg Tryz.func49
def Tf:=gg Tryz.func50
def KI:=gg Tryz.func63
def KJ:=gg Tryz.func64
def Tg:=gg Tryz.func67
def KL:=gg Tryz.func68
def Th:=gg Tryz.func69
def Bk:=gg Tryz.func74
def Fa:=gg Tryz.func75
def Ti:=gg Tryz.func78
def KM:=gg Tryz.func79
def Tj:=gg Tryz.func80
def Qb:=gg Tryz.func105
def Qd:=gg Tryz.func116
def HK:=gg Tryz.func119
theorem yD: ∃i,Tryz.prog.info? 108=some i∧i.zero=some (Value.agg #[(Value.int .i64 0),(Value.int .i64 0),(Value.int .i64 0),(Value.int .i64 0)]):=⟨_,rfl,by kernel_rfl⟩
@[reducible,instance] def u65:=UT.mk Tryz.underlying65
@[reducible,instance] def c9:=CT.mk Bi
@[reducible,instance] def u9:=UT.mk Tryz.underlying9
@[reducible,instance] def aaW:=ZI.mk yD
@[reducible,instance] def aaX:=CT.mk vg
instance:ON aR:=⟨o_⟩
@[reducible,instance] def c3:=CT.mk bp
instance:FT Tryz.prog 108 2 2 3:=⟨_,Tryz.underlying108,rfl⟩
@[reducible,instance] def u3:=UT.mk Tryz.underlying3
@[reducible,instance] def aaY:=UT.mk Tryz.underlying108
instance:FT Tryz.prog 108 3 3 3:=⟨_,Tryz.underlying108,rfl⟩
@[reducible,instance] def u29:=UT.mk Tryz.underlying29
instance:FT Tryz.prog 108 0 0 3:=⟨_,Tryz.underlying108,rfl⟩
instance:FT Tryz.prog 108 1 1 3:=⟨_,Tryz.underlying108,rfl⟩
instance:FT Tryz.prog 122 0 0 29:=⟨_,Tryz.underlying122,rfl⟩
@[reducible,instance] def HL:=CT.mk je
instance:FT Tryz.prog 122 2 2 120:=⟨_,Tryz.underlying122,rfl⟩
@[reducible,instance] def aaZ:=CT.mk Mt
instance:FT Tryz.prog 122 1 1 58:=⟨_,Tryz.underlying122,rfl⟩
@[reducible,instance] def c58:=CT.mk Ci
@[reducible,instance] def u58:=UT.mk Tryz.underlying58
@[reducible,instance] def c162:=CT.mk iA
instance:FT Tryz.prog 162 4 4 3:=⟨_,Tryz.underlying162,rfl⟩
@[reducible,instance] def u31:=UT.mk Tryz.underlying31
instance:EN aR 4:=⟨re⟩
theorem qv: ∃i,Tryz.prog.info? 3=some i∧i.zero=some (Value.int .i64 0)∧i.size=1:=⟨_,rfl,by kernel_rfl,by kernel_rfl⟩
theorem Xg: ∃i,Tryz.prog.info? 9=some i∧i.zero=some (Value.string ⟨#[]⟩)∧i.size=1:=⟨_,rfl,by kernel_rfl,by kernel_rfl⟩
theorem OI: ∃i,Tryz.prog.info? 108=some i∧i.zero=some (Value.agg #[(Value.int .i64 0),(Value.int .i64 0),(Value.int .i64 0),(Value.int .i64 0)])∧i.size=4:=⟨_,rfl,by kernel_rfl,by kernel_rfl⟩
theorem Wt: ∃i,Tryz.prog.info? 162=some i∧i.zero=some (Value.agg #[(Value.int .i64 0),(Value.int .i64 0),(Value.int .i64 0),(Value.int .i64 0),(Value.int .i64 0),(Value.int .i64 0),(Value.int .i64 0)])∧i.size=7:=⟨_,rfl,by kernel_rfl,by kernel_rfl⟩
theorem Dn: ∃i z,Tryz.prog.info? 3=some i∧i.zero=some z∧i.size=1∧i.bytes=8∧z.cells.size=1∧0 < 1:=⟨_,(Value.int .i64 0),rfl,by kernel_rfl,by kernel_rfl,by kernel_rfl,by kernel_rfl,by decide⟩
theorem OJ: ∃i z,Tryz.prog.info? 108=some i∧i.zero=some z∧i.size=4∧i.bytes=32∧z.cells.size=4∧0 < 4:=⟨_,(Value.agg #[(Value.int .i64 0),(Value.int .i64 0),(Value.int .i64 0),(Value.int .i64 0)]),rfl,by kernel_rfl,by kernel_rfl,by kernel_rfl,by kernel_rfl,by decide⟩
theorem Wu: ∃i z,Tryz.prog.info? 162=some i∧i.zero=some z∧i.size=7∧i.bytes=56∧z.cells.size=7∧0 < 7:=⟨_,(Value.agg #[(Value.int .i64 0),(Value.int .i64 0),(Value.int .i64 0),(Value.int .i64 0),(Value.int .i64 0),(Value.int .i64 0),(Value.int .i64 0)]),rfl,by kernel_rfl,by kernel_rfl,by kernel_rfl,by kernel_rfl,by decide⟩
theorem pc:Shape Tryz.prog 108 [(0,1),(1,1),(2,1),(3,1)] #[(Value.int .i64 0),(Value.int .i64 0),(Value.int .i64 0),(Value.int .i64 0)]:=⟨_,_,Value.agg #[(Value.int .i64 0),(Value.int .i64 0),(Value.int .i64 0),(Value.int .i64 0)],Tryz.underlying108,rfl,by kernel_rfl,rfl,by kernel_rfl,by decide⟩
theorem Mu:Shape Tryz.prog 122 [(0,1),(1,1),(2,8)] #[(Value.slice none 0 0),(Value.slice none 0 0),(Value.int .i64 0),(Value.int .i64 0),(Value.int .i64 0),(Value.int .i64 0),(Value.int .i64 0),(Value.int .i64 0),(Value.int .i64 0),(Value.int .i64 0)]:=⟨_,_,Value.agg #[(Value.slice none 0 0),(Value.slice none 0 0),(Value.int .i64 0),(Value.int .i64 0),(Value.int .i64 0),(Value.int .i64 0),(Value.int .i64 0),(Value.int .i64 0),(Value.int .i64 0),(Value.int .i64 0)],Tryz.underlying122,rfl,by kernel_rfl,rfl,by kernel_rfl,by decide⟩
theorem Mv:Shape Tryz.prog 162 [(0,1),(1,1),(2,1),(3,1),(4,1),(5,1),(6,1)] #[(Value.int .i64 0),(Value.int .i64 0),(Value.int .i64 0),(Value.int .i64 0),(Value.int .i64 0),(Value.int .i64 0),(Value.int .i64 0)]:=⟨_,_,Value.agg #[(Value.int .i64 0),(Value.int .i64 0),(Value.int .i64 0),(Value.int .i64 0),(Value.int .i64 0),(Value.int .i64 0),(Value.int .i64 0)],Tryz.underlying162,rfl,by kernel_rfl,rfl,by kernel_rfl,by decide⟩
def Bl:Go.Shelf.Ren:=⟨fun x=>match x with|129=>176|171=>48|243=>77|246=>118|283=>151|284=>152|285=>153|286=>154|317=>175|318=>177|319=>178|320=>179|337=>203|338=>204|172=>116|205=>202|244=>149|245=>150|247=>170|279=>171|280=>172|281=>173|282=>174|287=>200|316=>201|321=>222|322=>223|138=>10|143=>29|146=>32|195=>27|197=>145|217=>100|218=>28|219=>60|221=>61|224=>102|225=>101|260=>169|266=>143|267=>103|268=>104|314=>144|100=>12|207=>30|99=>13|206=>31|103=>33|210=>62|144=>39|166=>47|240=>76|276=>117|n=>n,fun x=>match x with|37=>49|46=>176|51=>255|53=>263|171=>262|173=>266|212=>285|213=>286|232=>329|233=>330|75=>113|76=>114|80=>57|85=>279|127=>117|143=>326|145=>328|167=>278|168=>281|175=>307|210=>310|31=>65|105=>258|119=>303|138=>305|139=>306|146=>256|24=>27|70=>48|72=>51|164=>210|n=>n,fun x=>match x with|17=>1|18=>6|19=>7|15=>4|16=>5|1=>0|3=>2|4=>3|n=>n⟩
abbrev li(w:World):Prop:=E6 Tryz.prog 4 5 0 w
theorem un:LaysM.n146 Tryz.prog Bl where
 mixed:=by kernel_rfl
 f138:=Tryz.func10.trans (congrArg some (by kernel_rfl))
 f143:=Tryz.func29.trans (congrArg some (by kernel_rfl))
 f146:=Tryz.func32.trans (congrArg some (by kernel_rfl))
 f195:=Tryz.func27.trans (congrArg some (by kernel_rfl))
 f197:=Tryz.func145.trans (congrArg some (by kernel_rfl))
 f217:=Tryz.func100.trans (congrArg some (by kernel_rfl))
 f218:=Tryz.func28.trans (congrArg some (by kernel_rfl))
 f219:=Tryz.func60.trans (congrArg some (by kernel_rfl))
 f221:=Tryz.func61.trans (congrArg some (by kernel_rfl))
 f224:=Tryz.func102.trans (congrArg some (by kernel_rfl))
 f225:=Tryz.func101.trans (congrArg some (by kernel_rfl))
 f260:=Tryz.func169.trans (congrArg some (by kernel_rfl))
 f266:=Tryz.func143.trans (congrArg some (by kernel_rfl))
 f267:=Tryz.func103.trans (congrArg some (by kernel_rfl))
 f268:=Tryz.func104.trans (congrArg some (by kernel_rfl))
 f314:=Tryz.func144.trans (congrArg some (by kernel_rfl))
 t0:=Tryz.underlying0
 a0:=Tryz.isAgg0
 z0:=Tryz.sizeOf0
 v0:=Tryz.zeroValue0
 t3:=Tryz.underlying3
 a3:=Tryz.isAgg3
 z3:=Tryz.sizeOf3
 v3:=Tryz.zeroValue3
 t4:=Tryz.underlying4
 a4:=Tryz.isAgg4
 z4:=Tryz.sizeOf4
 v4:=Tryz.zeroValue4
 t5:=Tryz.underlying5
 a5:=Tryz.isAgg5
 z5:=Tryz.sizeOf5
 v5:=Tryz.zeroValue5
 t9:=Tryz.underlying9
 a9:=Tryz.isAgg9
 z9:=Tryz.sizeOf9
 v9:=Tryz.zeroValue9
 t21:=Tryz.underlying21
 a21:=Tryz.isAgg21
 z21:=Tryz.sizeOf21
 v21:=Tryz.zeroValue21
 t31:=Tryz.underlying65
 a31:=Tryz.isAgg65
 z31:=Tryz.sizeOf65
 v31:=Tryz.zeroValue65
 t46:=Tryz.underlying176
 a46:=Tryz.isAgg176
 z46:=Tryz.sizeOf176
 v46:=Tryz.zeroValue176
 t51:=Tryz.underlying255
 a51:=Tryz.isAgg255
 z51:=Tryz.sizeOf255
 v51:=Tryz.zeroValue255
 t105:=Tryz.underlying258
 a105:=Tryz.isAgg258
 z105:=Tryz.sizeOf258
 v105:=Tryz.zeroValue258
 t119:=Tryz.underlying303
 a119:=Tryz.isAgg303
 z119:=Tryz.sizeOf303
 t138:=Tryz.underlying305
 a138:=Tryz.isAgg305
 z138:=Tryz.sizeOf305
 v138:=Tryz.zeroValue305
 t139:=Tryz.underlying306
 a139:=Tryz.isAgg306
 z139:=Tryz.sizeOf306
 v139:=Tryz.zeroValue306
 t146:=Tryz.underlying256
 a146:=Tryz.isAgg256
 z146:=Tryz.sizeOf256
 v146:=Tryz.zeroValue256
 g1:=by kernel_rfl
 g3:=by kernel_rfl
 g4:=by kernel_rfl
 i0:=by kernel_rfl
 i3:=by kernel_rfl
 i4:=by kernel_rfl
 i5:=by kernel_rfl
 i9:=by kernel_rfl
 i21:=by kernel_rfl
 i31:=by kernel_rfl
 i46:=by kernel_rfl
 i51:=by kernel_rfl
 i105:=by kernel_rfl
 i138:=by kernel_rfl
 i139:=by kernel_rfl
 i146:=by kernel_rfl
 m1:=by kernel_rfl
 s1_3:=fun w h=>Go.Proofs.cell_of_shapedOpen_int (zero:= #[.int .i64 0]) (t:=3) h (of_decide_eq_true (by kernel_rfl)) (by kernel_rfl) rfl (by kernel_rfl) (by kernel_rfl) Tryz.underlying3
 m3:=by kernel_rfl
 m4:=by kernel_rfl
theorem ky{N:Nat}{h_ Dp:ByteArray}{res:List ByteArray}(hF:nX N h_ Dp=some res)(w:World)(hG:li w):Made Tryz.prog 32 [.string h_,.string Dp] w (fun g:(Option Addr×Nat)=> .slice g.1 (res).length g.2) (fun g=>[cR eS 1 g.1 g.2 9 res]) (fun g=>True):=Jc un hF w hG
def uo(N:Nat):Option Unit:=some ()
theorem y_{N res}(hF:uo N=some res)(w:World):Made Tryz.prog 67 [] w (fun g:Option Addr=>.slice g (([(⟨#[]⟩:ByteArray),(⟨#[114,101,103]⟩:ByteArray),(⟨#[113,117,101,117,101]⟩:ByteArray),(⟨#[115,116,97,99,107]⟩:ByteArray),(⟨#[115,101,116]⟩:ByteArray),(⟨#[116,105,99,107,101,116]⟩:ByteArray)]:List ByteArray)).length (([(⟨#[]⟩:ByteArray),(⟨#[114,101,103]⟩:ByteArray),(⟨#[113,117,101,117,101]⟩:ByteArray),(⟨#[115,116,97,99,107]⟩:ByteArray),(⟨#[115,101,116]⟩:ByteArray),(⟨#[116,105,99,107,101,116]⟩:ByteArray)]:List ByteArray)).length) (fun g=>[cR eS 1 g (([(⟨#[]⟩:ByteArray),(⟨#[114,101,103]⟩:ByteArray),(⟨#[113,117,101,117,101]⟩:ByteArray),(⟨#[115,116,97,99,107]⟩:ByteArray),(⟨#[115,101,116]⟩:ByteArray),(⟨#[116,105,99,107,101,116]⟩:ByteArray)]:List ByteArray)).length 9 ([(⟨#[]⟩:ByteArray),(⟨#[114,101,103]⟩:ByteArray),(⟨#[113,117,101,117,101]⟩:ByteArray),(⟨#[115,116,97,99,107]⟩:ByteArray),(⟨#[115,101,116]⟩:ByteArray),(⟨#[116,105,99,107,101,116]⟩:ByteArray)]:List ByteArray)]) (fun g=>True):=by
 refine We 2 Tryz.func67 (St.start w) fun R hR=>?_;refine a_ ?_;refine WL.step (WO.bA (enc:=eS) (ys:=([(⟨#[]⟩:ByteArray),(⟨#[114,101,103]⟩:ByteArray),(⟨#[113,117,101,117,101]⟩:ByteArray),(⟨#[115,116,97,99,107]⟩:ByteArray),(⟨#[115,101,116]⟩:ByteArray),(⟨#[116,105,99,107,101,116]⟩:ByteArray)]:List ByteArray)) Tryz.underlying65 Xg (.cons (.pl rfl) (.cons (.pl rfl) (.cons (.pl rfl) (.cons (.pl rfl) (.cons (.pl rfl) (.cons (.pl rfl) (.nil))))))) rfl (fun _=>rfl) rfl rfl (by decide) (by decide) rfl fun b1=>?_);obtain rfl:=oi hF;refine a_ ?_;exact rG (some (Addr.mk b1 0 none))
def fN(N:Nat)(s1:(List ByteArray))(v6:ByteArray):Int→Option (Int ⊕(Unit ⊕ Int))|v7=>cond (decide (v7 < ((s1).length:Int))) (bd (ix s1 v7) fun x8=>cond (decide (v6=x8)) (some (.inr (.inr v7))) (ck (aQ (v7+1)) <| some (.inl (v7+1)))) (some (.inr (.inl ())))
def dF(N:Nat)(s1:(List ByteArray))(v6:ByteArray):Option Int:=bd (α:=(Unit ⊕ Int)) (iter (fN N s1 v6) N 0) <| Sum.elim (fun _=>some (-1)) (fun p=>some p)
theorem d6{N s1 v6 res}(hF:dF N s1 v6=some res)(w:World){v5}(hs4:aP eS 1 w v5 s1):Pure Tryz.prog 74 [v5,.string v6] w (.int .i64 res):=by
 obtain⟨A2,c3,rfl,g9,hs4⟩:=hs4.form;refine We 19 Tryz.func74 (St.start w) fun R hR=>?_;obtain⟨o2,bS,hF⟩:=aj hF;refine b_ ?_;refine W.dR [] [] ((.inl ())=o2) (.nil) (fun K3 d5=>?_) ?_
 ·refine a_ ?_;refine gl bS (fun a=>[(8,.int .i64 a)]) (fun a=>[]) (gx 0 1 7) fun v7 k5 t5 aD cU K6 io=>?_;refine a_ ?_;refine Wc aD (fun eO aD=>?_) (fun eO aD=>?_)
  ·obtain⟨x8,HM,aD⟩:=aj aD;refine a_ ?_;refine WL.q (Y.E4 Tryz.underlying9 (.pl rfl) (.pl rfl)) rfl ?_;refine a_ ?_;refine Wc aD (fun iB aD=>?_) (fun iB aD=>?_)
   ·obtain rfl:=oi aD;obtain rfl:=dC cU;obtain rfl:=oi hF;refine a_ ?_;exact rP
   ·obtain⟨wc,aD⟩:=aW aD;refine a_ ?_;exact g1 io (oj aD cU)
  ·refine a_ ?_;exact h0 d5 (oj aD cU)
 ·rintro rfl;obtain rfl:=oi hF;refine a_ ?_;exact rP
def pd(N:Nat)(r2:(List ByteArray)):((List Int)×Int)→Option (((List Int)×Int) ⊕((List Int) ⊕((List Int)×Bool)))|(Ec,wd)=>cond (decide (wd < (((r2.drop (1:Int).toNat)).length:Int))) (bd (ix (r2.drop (1:Int).toNat) wd) fun eW=>bd (uo N) fun d_=>bd (dF N ([(⟨#[]⟩:ByteArray),(⟨#[114,101,103]⟩:ByteArray),(⟨#[113,117,101,117,101]⟩:ByteArray),(⟨#[115,116,97,99,107]⟩:ByteArray),(⟨#[115,101,116]⟩:ByteArray),(⟨#[116,105,99,107,101,116]⟩:ByteArray)]:List ByteArray) eW) fun ur=>cond (decide (ur < 1)) (some (.inr (.inr ([],false)))) (ck (dh 8 ((Ec).length+(([ur]:List Int)).length)) <| ck (aQ (wd+1)) <| some (.inl ((Ec++([ur]:List Int)),(wd+1))))) (some (.inr (.inl Ec)))
def pH(N:Nat)(qM:ByteArray):Option ((List Int)×Bool):=bd (nX N qM (⟨#[32]⟩:ByteArray)) fun r2=>bd (ix r2 0) fun x5=>cond (((!(decide (x5=(⟨#[116,104,105,110,103,115]⟩:ByteArray))))||(decide (((r2).length:Int) < 2)))||(decide (5 < ((r2).length:Int)))) (some ([],false)) (bd (α:=((List Int) ⊕((List Int)×Bool))) (ck (nH (r2).length 1 ((r2).length:Int)) <| iter (pd N r2) N ([],0)) <| Sum.elim (fun fh=>some (fh,true)) (fun p=>some p))
theorem Cj{N qM res}(hF:pH N qM=some res)(w:World)(hG:li w):Made Tryz.prog 45 [.string qM] w (fun g:(Option Addr×Nat)=>.tuple #[.slice g.1 (res.1).length g.2,.bool res.2]) (fun g=>[cR (eI .i64) 1 g.1 g.2 3 res.1]) (fun g=>True):=by
 refine We 43 Tryz.func45 (St.start w) fun R hR=>?_;obtain⟨r2,hr2,hF⟩:=aj hF;refine a_ ?_;refine kM Bj (v2 rfl rfl) (fun wz hw=>ky hr2 wz (hG.mono hw)) ?_;rintro⟨OK,OL⟩ -;obtain⟨x5,hx5,hF⟩:=aj hF;refine a_ ?_;refine WL.q (Y.Y_ Tryz.underlying9 (.pl rfl) (.pl rfl)) rfl ?_;refine a_ ?_;refine Wc hF (fun dG hF=>?_) (fun dG hF=>?_)
 ·obtain rfl:=oi hF;refine a_ ?_;exact rG (none,0)
 ·obtain⟨o8,kZ,hF⟩:=aj hF;refine b_ ?_;refine W.jI (fun a b c=>[(5,.slice b (a).length c)]) (fun a b c=>[cR (eI .i64) 1 b c 3 a]) (fun a b c=>(.inl a)=o8) (.nil) (fun K9 ut=>?_) ?_
  ·obtain⟨wc,kZ⟩:=aW kZ;refine a_ ?_;refine WL.q (Y.Hv Tryz.underlying65 Bi (i:=0) rfl (.pl rfl) rfl (.pl rfl) (wc)) rfl ?_;refine a_ ?_;refine s_ kZ (fun a b c d=>[(5,.slice c (a).length d),(28,.int .i64 b)]) (fun a b c d=>[cR (eI .i64) 1 c d 3 a,cR eS 1 OK OL 9 r2]) (mD 26 27) fun Ec wd qw c11 Tl t11 aA lj rk di=>?_;refine a_ ?_;refine Wc aA (fun m7 aA=>?_) (fun m7 aA=>?_)
   ·obtain⟨eW,lL,aA⟩:=aj aA;refine a_ ?_;refine WL.q (Y.SU (xs:=r2) Tryz.underlying65 Bi (i:=1) rfl (.pl rfl) (.pl rfl) (ug (wc)).1 (aK (lL)) (aK (ER (ug (wc)).1 (lL))).2) rfl ?_;refine WL.q (Y.gc (enc:=eS) (v:=.string eW) (a:=eW) (idx:=(1+wd)) (j:=0) Tryz.underlying9 rfl (fun _=>rfl) (i:=1) rfl (.pl rfl) (bx (ER (ug (wc)).1 (lL))) rfl rfl) rfl ?_;obtain⟨d_,m8,aA⟩:=aj aA;refine a_ ?_;refine kM Tg v0 (fun wz hw=>y_ m8 wz) ?_;rintro dH -;obtain⟨ur,Fb,aA⟩:=aj aA;refine a_ ?_;refine kP Bk (v2 rfl rfl) (fun wz hw=>d6 Fb wz (so hw)) ?_;refine a_ ?_;refine Wc aA (fun vh aA=>?_) (fun vh aA=>?_)
    ·obtain rfl:=oi aA;obtain rfl:=dC lj;obtain rfl:=oi hF;refine a_ ?_;exact rG (none,0)
    ·refine a_ ?_;refine WL.step (WO.bA (enc:=(eI .i64)) (ys:=([ur]:List Int)) Tryz.underlying29 qv (.cons (.pl rfl) (.nil)) rfl (fun _=>rfl) rfl rfl (by decide) (by decide) rfl fun Fc=>?_);obtain⟨zR,aA⟩:=aW aA;refine WL.step (WO.d4 (enc:=(eI .i64)) Tryz.underlying29 Dn (fun _=>rfl) q7 (.pl rfl) rfl (.pl rfl) (i:=2) rfl (m2:=0) rfl (zR) rfl fun OM c20=>?_);obtain⟨Jd,aA⟩:=aW aA;refine a_ ?_;exact g4 di (oj aA lj)
   ·refine a_ ?_;exact h3 ut (oj aA lj)
  ·rintro fh A6 c7 rfl;obtain rfl:=oi hF;refine a_ ?_;exact rG (A6,c7)
theorem Ck:LaysC.n172 Tryz.prog Bl where
 mixed:=by kernel_rfl
 f129:=Tryz.func176.trans (congrArg some (by kernel_rfl))
 f171:=Tryz.func48.trans (congrArg some (by kernel_rfl))
 f172:=Tryz.func116.trans (congrArg some (by kernel_rfl))
 f205:=Tryz.func202.trans (congrArg some (by kernel_rfl))
 f243:=Tryz.func77.trans (congrArg some (by kernel_rfl))
 f244:=Tryz.func149.trans (congrArg some (by kernel_rfl))
 f245:=Tryz.func150.trans (congrArg some (by kernel_rfl))
 f246:=Tryz.func118.trans (congrArg some (by kernel_rfl))
 f247:=Tryz.func170.trans (congrArg some (by kernel_rfl))
 f279:=Tryz.func171.trans (congrArg some (by kernel_rfl))
 f280:=Tryz.func172.trans (congrArg some (by kernel_rfl))
 f281:=Tryz.func173.trans (congrArg some (by kernel_rfl))
 f282:=Tryz.func174.trans (congrArg some (by kernel_rfl))
 f283:=Tryz.func151.trans (congrArg some (by kernel_rfl))
 f284:=Tryz.func152.trans (congrArg some (by kernel_rfl))
 f285:=Tryz.func153.trans (congrArg some (by kernel_rfl))
 f286:=Tryz.func154.trans (congrArg some (by kernel_rfl))
 f287:=Tryz.func200.trans (congrArg some (by kernel_rfl))
 f316:=Tryz.func201.trans (congrArg some (by kernel_rfl))
 f317:=Tryz.func175.trans (congrArg some (by kernel_rfl))
 f318:=Tryz.func177.trans (congrArg some (by kernel_rfl))
 f319:=Tryz.func178.trans (congrArg some (by kernel_rfl))
 f320:=Tryz.func179.trans (congrArg some (by kernel_rfl))
 f321:=Tryz.func222.trans (congrArg some (by kernel_rfl))
 f322:=Tryz.func223.trans (congrArg some (by kernel_rfl))
 f337:=Tryz.func203.trans (congrArg some (by kernel_rfl))
 f338:=Tryz.func204.trans (congrArg some (by kernel_rfl))
 t0:=Tryz.underlying0
 a0:=Tryz.isAgg0
 z0:=Tryz.sizeOf0
 v0:=Tryz.zeroValue0
 t2:=Tryz.underlying2
 a2:=Tryz.isAgg2
 z2:=Tryz.sizeOf2
 v2:=Tryz.zeroValue2
 t3:=Tryz.underlying3
 a3:=Tryz.isAgg3
 z3:=Tryz.sizeOf3
 v3:=Tryz.zeroValue3
 t4:=Tryz.underlying4
 a4:=Tryz.isAgg4
 z4:=Tryz.sizeOf4
 v4:=Tryz.zeroValue4
 t5:=Tryz.underlying5
 a5:=Tryz.isAgg5
 z5:=Tryz.sizeOf5
 v5:=Tryz.zeroValue5
 t9:=Tryz.underlying9
 a9:=Tryz.isAgg9
 z9:=Tryz.sizeOf9
 v9:=Tryz.zeroValue9
 t20:=Tryz.underlying20
 a20:=Tryz.isAgg20
 z20:=Tryz.sizeOf20
 v20:=Tryz.zeroValue20
 t21:=Tryz.underlying21
 a21:=Tryz.isAgg21
 z21:=Tryz.sizeOf21
 v21:=Tryz.zeroValue21
 t37:=Tryz.underlying49
 a37:=Tryz.isAgg49
 z37:=Tryz.sizeOf49
 v37:=Tryz.zeroValue49
 t46:=Tryz.underlying176
 a46:=Tryz.isAgg176
 z46:=Tryz.sizeOf176
 v46:=Tryz.zeroValue176
 t51:=Tryz.underlying255
 a51:=Tryz.isAgg255
 z51:=Tryz.sizeOf255
 v51:=Tryz.zeroValue255
 t53:=Tryz.underlying263
 a53:=Tryz.isAgg263
 z53:=Tryz.sizeOf263
 v53:=Tryz.zeroValue263
 t75:=Tryz.underlying113
 a75:=Tryz.isAgg113
 z75:=Tryz.sizeOf113
 v75:=Tryz.zeroValue113
 t76:=Tryz.underlying114
 a76:=Tryz.isAgg114
 z76:=Tryz.sizeOf114
 v76:=Tryz.zeroValue114
 t85:=Tryz.underlying279
 a85:=Tryz.isAgg279
 z85:=Tryz.sizeOf279
 v85:=Tryz.zeroValue279
 t127:=Tryz.underlying117
 a127:=Tryz.isAgg117
 z127:=Tryz.sizeOf117
 v127:=Tryz.zeroValue117
 t143:=Tryz.underlying326
 a143:=Tryz.isAgg326
 z143:=Tryz.sizeOf326
 v143:=Tryz.zeroValue326
 t145:=Tryz.underlying328
 a145:=Tryz.isAgg328
 z145:=Tryz.sizeOf328
 v145:=Tryz.zeroValue328
 t167:=Tryz.underlying278
 a167:=Tryz.isAgg278
 z167:=Tryz.sizeOf278
 v167:=Tryz.zeroValue278
 t168:=Tryz.underlying281
 a168:=Tryz.isAgg281
 z168:=Tryz.sizeOf281
 v168:=Tryz.zeroValue281
 t171:=Tryz.underlying262
 a171:=Tryz.isAgg262
 z171:=Tryz.sizeOf262
 v171:=Tryz.zeroValue262
 t173:=Tryz.underlying266
 a173:=Tryz.isAgg266
 z173:=Tryz.sizeOf266
 v173:=Tryz.zeroValue266
 t175:=Tryz.underlying307
 a175:=Tryz.isAgg307
 z175:=Tryz.sizeOf307
 v175:=Tryz.zeroValue307
 t210:=Tryz.underlying310
 a210:=Tryz.isAgg310
 z210:=Tryz.sizeOf310
 v210:=Tryz.zeroValue310
 t212:=Tryz.underlying285
 a212:=Tryz.isAgg285
 z212:=Tryz.sizeOf285
 v212:=Tryz.zeroValue285
 t213:=Tryz.underlying286
 a213:=Tryz.isAgg286
 z213:=Tryz.sizeOf286
 t232:=Tryz.underlying329
 a232:=Tryz.isAgg329
 z232:=Tryz.sizeOf329
 v232:=Tryz.zeroValue329
 t233:=Tryz.underlying330
 a233:=Tryz.isAgg330
 z233:=Tryz.sizeOf330
 v233:=Tryz.zeroValue330
 g15:=by kernel_rfl
 g16:=by kernel_rfl
 g17:=by kernel_rfl
 g18:=by kernel_rfl
 g19:=by kernel_rfl
 t80:=Tryz.underlying57
 a80:=Tryz.isAgg57
 z80:=Tryz.sizeOf57
 v80:=Tryz.zeroValue57
 i0:=by kernel_rfl
 i2:=by kernel_rfl
 i3:=by kernel_rfl
 i4:=by kernel_rfl
 i5:=by kernel_rfl
 i9:=by kernel_rfl
 i20:=by kernel_rfl
 i21:=by kernel_rfl
 i37:=by kernel_rfl
 i46:=by kernel_rfl
 i51:=by kernel_rfl
 i53:=by kernel_rfl
 i75:=by kernel_rfl
 i76:=by kernel_rfl
 i80:=by kernel_rfl
 i85:=by kernel_rfl
 i127:=by kernel_rfl
 i143:=by kernel_rfl
 i145:=by kernel_rfl
 i167:=by kernel_rfl
 i168:=by kernel_rfl
 i171:=by kernel_rfl
 i173:=by kernel_rfl
 i175:=by kernel_rfl
 i210:=by kernel_rfl
 i212:=by kernel_rfl
 i232:=by kernel_rfl
 i233:=by kernel_rfl
 m15:=by kernel_rfl
 m16:=by kernel_rfl
 m17:=by kernel_rfl
 m18:=by kernel_rfl
 m19:=by kernel_rfl
 c0:=by kernel_rfl
 c2:=by kernel_rfl
 c3:=by kernel_rfl
 c4:=by kernel_rfl
 c5:=by kernel_rfl
 c9:=by kernel_rfl
 c20:=by kernel_rfl
 c21:=by kernel_rfl
 c37:=by kernel_rfl
 c46:=by kernel_rfl
 c51:=by kernel_rfl
 c53:=by kernel_rfl
 c75:=by kernel_rfl
 c76:=by kernel_rfl
 c80:=by kernel_rfl
 c85:=by kernel_rfl
 c127:=by kernel_rfl
 c143:=by kernel_rfl
 c145:=by kernel_rfl
 c167:=by kernel_rfl
 c168:=by kernel_rfl
 c171:=by kernel_rfl
 c173:=by kernel_rfl
 c175:=by kernel_rfl
 c210:=by kernel_rfl
 c212:=by kernel_rfl
 c213:=by kernel_rfl
 c232:=by kernel_rfl
 c233:=by kernel_rfl
theorem strconv_Atoi_ok{N:Nat}{h_:ByteArray}{res:Int×Bool}(hF:yB N h_=some res)(w:World)(hG:li w):Made Tryz.prog 116 [.string h_] w (fun g:TypeId×Value=> .tuple #[.int .i64 res.1,(Cf res.2 g)]) (fun g=>[]) (fun g=>True):=KG Ck hF w hG
theorem Cl:LaysM.n171 Tryz.prog Bl where
 mixed:=by kernel_rfl
 f129:=Tryz.func176.trans (congrArg some (by kernel_rfl))
 f171:=Tryz.func48.trans (congrArg some (by kernel_rfl))
 f243:=Tryz.func77.trans (congrArg some (by kernel_rfl))
 f246:=Tryz.func118.trans (congrArg some (by kernel_rfl))
 f283:=Tryz.func151.trans (congrArg some (by kernel_rfl))
 f284:=Tryz.func152.trans (congrArg some (by kernel_rfl))
 f285:=Tryz.func153.trans (congrArg some (by kernel_rfl))
 f286:=Tryz.func154.trans (congrArg some (by kernel_rfl))
 f317:=Tryz.func175.trans (congrArg some (by kernel_rfl))
 f318:=Tryz.func177.trans (congrArg some (by kernel_rfl))
 f319:=Tryz.func178.trans (congrArg some (by kernel_rfl))
 f320:=Tryz.func179.trans (congrArg some (by kernel_rfl))
 f337:=Tryz.func203.trans (congrArg some (by kernel_rfl))
 f338:=Tryz.func204.trans (congrArg some (by kernel_rfl))
 t0:=Tryz.underlying0
 a0:=Tryz.isAgg0
 z0:=Tryz.sizeOf0
 v0:=Tryz.zeroValue0
 t2:=Tryz.underlying2
 a2:=Tryz.isAgg2
 z2:=Tryz.sizeOf2
 v2:=Tryz.zeroValue2
 t3:=Tryz.underlying3
 a3:=Tryz.isAgg3
 z3:=Tryz.sizeOf3
 v3:=Tryz.zeroValue3
 t4:=Tryz.underlying4
 a4:=Tryz.isAgg4
 z4:=Tryz.sizeOf4
 v4:=Tryz.zeroValue4
 t5:=Tryz.underlying5
 a5:=Tryz.isAgg5
 z5:=Tryz.sizeOf5
 v5:=Tryz.zeroValue5
 t9:=Tryz.underlying9
 a9:=Tryz.isAgg9
 z9:=Tryz.sizeOf9
 v9:=Tryz.zeroValue9
 t20:=Tryz.underlying20
 a20:=Tryz.isAgg20
 z20:=Tryz.sizeOf20
 v20:=Tryz.zeroValue20
 t37:=Tryz.underlying49
 a37:=Tryz.isAgg49
 z37:=Tryz.sizeOf49
 v37:=Tryz.zeroValue49
 t46:=Tryz.underlying176
 a46:=Tryz.isAgg176
 z46:=Tryz.sizeOf176
 v46:=Tryz.zeroValue176
 t51:=Tryz.underlying255
 a51:=Tryz.isAgg255
 z51:=Tryz.sizeOf255
 v51:=Tryz.zeroValue255
 t53:=Tryz.underlying263
 a53:=Tryz.isAgg263
 z53:=Tryz.sizeOf263
 v53:=Tryz.zeroValue263
 t171:=Tryz.underlying262
 a171:=Tryz.isAgg262
 z171:=Tryz.sizeOf262
 v171:=Tryz.zeroValue262
 t173:=Tryz.underlying266
 a173:=Tryz.isAgg266
 z173:=Tryz.sizeOf266
 v173:=Tryz.zeroValue266
 t212:=Tryz.underlying285
 a212:=Tryz.isAgg285
 z212:=Tryz.sizeOf285
 v212:=Tryz.zeroValue285
 t213:=Tryz.underlying286
 a213:=Tryz.isAgg286
 z213:=Tryz.sizeOf286
 t232:=Tryz.underlying329
 a232:=Tryz.isAgg329
 z232:=Tryz.sizeOf329
 v232:=Tryz.zeroValue329
 t233:=Tryz.underlying330
 a233:=Tryz.isAgg330
 z233:=Tryz.sizeOf330
 v233:=Tryz.zeroValue330
 g17:=by kernel_rfl
 g18:=by kernel_rfl
 g19:=by kernel_rfl
 i0:=by kernel_rfl
 i2:=by kernel_rfl
 i3:=by kernel_rfl
 i4:=by kernel_rfl
 i5:=by kernel_rfl
 i9:=by kernel_rfl
 i20:=by kernel_rfl
 i37:=by kernel_rfl
 i46:=by kernel_rfl
 i51:=by kernel_rfl
 i53:=by kernel_rfl
 i171:=by kernel_rfl
 i173:=by kernel_rfl
 i212:=by kernel_rfl
 i232:=by kernel_rfl
 i233:=by kernel_rfl
 m17:=by kernel_rfl
 m18:=by kernel_rfl
 m19:=by kernel_rfl
theorem nZ{N:Nat}{Xh:Int}{res:ByteArray}(hF:pF N Xh=some res)(w:World)(hG:li w):Pure Tryz.prog 48 [.int .i64 Xh] w (.string res):=KF Cl hF w hG
def ld(N:Nat)(s1:ByteArray):Option (Int×Bool):=bd (yB N s1) fun r2=>bd ((cond ((!r2.2)==true) (pF N r2.1) (some ⟨#[]⟩))) fun r4=>some (r2.1,((((!r2.2)&&(decide (r4=s1)))&&(decide ((-1000000)≤r2.1)))&&(decide (r2.1≤1000000))))
theorem pf{N s1 res}(hF:ld N s1=some res)(w:World)(hG:li w):Pure Tryz.prog 75 [.string s1] w (.tuple #[.int .i64 res.1,.bool res.2]):=by
 refine We 28 Tryz.func75 (St.start w) fun R hR=>?_;obtain⟨r2,hr2,hF⟩:=aj hF;refine a_ ?_;refine kM Qd (v1 rfl) (fun wz hw=>strconv_Atoi_ok hr2 wz (hG.mono hw)) ?_;rintro gI3 -;refine a_ ?_;refine WL.q (Y.S9 Tryz.underlying113 (.pl rfl)) rfl ?_;obtain⟨r4,Fe,hF⟩:=aj hF;refine a_ ?_;refine WL.gP (.pl rfl rfl rfl) E_ (fun hg=>(.cons (.gd (hg) rfl) (.nil))) rfl (fun hg wz hw=>nZ (eC hg Fe) wz (hG.mono hw)) ?_;refine a_ ?_;refine WL.g (.pl rfl rfl rfl) (fun hg=>Y.E4 Tryz.underlying9 (.gd (hg) rfl) (.gd (hg) rfl)) rfl ?_;obtain rfl:=oi hF;refine a_ ?_;exact rP
def uu(N:Nat):Option Unit:=some ()
theorem qx{N res}(hF:uu N=some res)(w:World):Made Tryz.prog 68 [] w (fun g:Option Addr=>.slice g (([(⟨#[101,110,100]⟩:ByteArray),(⟨#[119,114,105,116,101]⟩:ByteArray),(⟨#[114,101,97,100]⟩:ByteArray),(⟨#[101,110,113]⟩:ByteArray),(⟨#[100,101,113]⟩:ByteArray),(⟨#[112,117,115,104]⟩:ByteArray),(⟨#[112,111,112]⟩:ByteArray),(⟨#[97,100,100]⟩:ByteArray),(⟨#[114,101,109,111,118,101]⟩:ByteArray),(⟨#[104,97,115]⟩:ByteArray),(⟨#[116,97,107,101]⟩:ByteArray)]:List ByteArray)).length (([(⟨#[101,110,100]⟩:ByteArray),(⟨#[119,114,105,116,101]⟩:ByteArray),(⟨#[114,101,97,100]⟩:ByteArray),(⟨#[101,110,113]⟩:ByteArray),(⟨#[100,101,113]⟩:ByteArray),(⟨#[112,117,115,104]⟩:ByteArray),(⟨#[112,111,112]⟩:ByteArray),(⟨#[97,100,100]⟩:ByteArray),(⟨#[114,101,109,111,118,101]⟩:ByteArray),(⟨#[104,97,115]⟩:ByteArray),(⟨#[116,97,107,101]⟩:ByteArray)]:List ByteArray)).length) (fun g=>[cR eS 1 g (([(⟨#[101,110,100]⟩:ByteArray),(⟨#[119,114,105,116,101]⟩:ByteArray),(⟨#[114,101,97,100]⟩:ByteArray),(⟨#[101,110,113]⟩:ByteArray),(⟨#[100,101,113]⟩:ByteArray),(⟨#[112,117,115,104]⟩:ByteArray),(⟨#[112,111,112]⟩:ByteArray),(⟨#[97,100,100]⟩:ByteArray),(⟨#[114,101,109,111,118,101]⟩:ByteArray),(⟨#[104,97,115]⟩:ByteArray),(⟨#[116,97,107,101]⟩:ByteArray)]:List ByteArray)).length 9 ([(⟨#[101,110,100]⟩:ByteArray),(⟨#[119,114,105,116,101]⟩:ByteArray),(⟨#[114,101,97,100]⟩:ByteArray),(⟨#[101,110,113]⟩:ByteArray),(⟨#[100,101,113]⟩:ByteArray),(⟨#[112,117,115,104]⟩:ByteArray),(⟨#[112,111,112]⟩:ByteArray),(⟨#[97,100,100]⟩:ByteArray),(⟨#[114,101,109,111,118,101]⟩:ByteArray),(⟨#[104,97,115]⟩:ByteArray),(⟨#[116,97,107,101]⟩:ByteArray)]:List ByteArray)]) (fun g=>True):=by
 refine We 2 Tryz.func68 (St.start w) fun R hR=>?_;refine a_ ?_;refine WL.step (WO.bA (enc:=eS) (ys:=([(⟨#[101,110,100]⟩:ByteArray),(⟨#[119,114,105,116,101]⟩:ByteArray),(⟨#[114,101,97,100]⟩:ByteArray),(⟨#[101,110,113]⟩:ByteArray),(⟨#[100,101,113]⟩:ByteArray),(⟨#[112,117,115,104]⟩:ByteArray),(⟨#[112,111,112]⟩:ByteArray),(⟨#[97,100,100]⟩:ByteArray),(⟨#[114,101,109,111,118,101]⟩:ByteArray),(⟨#[104,97,115]⟩:ByteArray),(⟨#[116,97,107,101]⟩:ByteArray)]:List ByteArray)) Tryz.underlying65 Xg (.cons (.pl rfl) (.cons (.pl rfl) (.cons (.pl rfl) (.cons (.pl rfl) (.cons (.pl rfl) (.cons (.pl rfl) (.cons (.pl rfl) (.cons (.pl rfl) (.cons (.pl rfl) (.cons (.pl rfl) (.cons (.pl rfl) (.nil)))))))))))) rfl (fun _=>rfl) rfl rfl (by decide) (by decide) rfl fun b1=>?_);obtain rfl:=oi hF;refine a_ ?_;exact rG (some (Addr.mk b1 0 none))
def Dr(N:Nat)(bM:Int):Option Unit:=some ()
theorem Ff{N bM res}(hF:Dr N bM=some res)(w:World):Pure Tryz.prog 69 [.int .i64 bM] w (.bool ((((decide (bM=2))||(decide (bM=4)))||(decide (bM=6)))||(decide (bM=10)))):=by
 refine We 17 Tryz.func69 (St.start w) fun R hR=>?_;obtain rfl:=oi hF;refine a_ ?_;exact rP
def qN(N:Nat)(qM:ByteArray):Option (Int×Int×Int×Int×Bool):=bd (nX N qM (⟨#[32]⟩:ByteArray)) fun r3=>cond (decide (((r3).length:Int) < 3)) (some (0,0,0,0,false)) (bd (ix r3 0) fun x6=>bd (ld N x6) fun r7=>bd (ix r3 1) fun x8=>bd (ld N x8) fun r9=>bd (α:=Int) (bd (ix r3 2) fun cw=>bd (uu N) fun fv=>bd (dF N ([(⟨#[101,110,100]⟩:ByteArray),(⟨#[119,114,105,116,101]⟩:ByteArray),(⟨#[114,101,97,100]⟩:ByteArray),(⟨#[101,110,113]⟩:ByteArray),(⟨#[100,101,113]⟩:ByteArray),(⟨#[112,117,115,104]⟩:ByteArray),(⟨#[112,111,112]⟩:ByteArray),(⟨#[97,100,100]⟩:ByteArray),(⟨#[114,101,109,111,118,101]⟩:ByteArray),(⟨#[104,97,115]⟩:ByteArray),(⟨#[116,97,107,101]⟩:ByteArray)]:List ByteArray) cw) fun d_=>some d_) <| fun mF=>cond (((!r7.2)||(!r9.2))||(decide (mF < 0))) (some (0,0,0,0,false)) (bd (Dr N mF) fun n_=>cond ((((decide (mF=2))||(decide (mF=4)))||(decide (mF=6)))||(decide (mF=10))) (some (r7.1,r9.1,mF,0,(decide (((r3).length:Int)=3)))) (cond (!(decide (((r3).length:Int)=4))) (some (0,0,0,0,false)) (bd (ix r3 3) fun rl=>bd (ld N rl) fun gz=>some (r7.1,r9.1,mF,gz.1,gz.2)))))
theorem DQ{N qM res}(hF:qN N qM=some res)(w:World)(hG:li w):Pure Tryz.prog 46 [.string qM] w (.tuple #[.agg (aR (Event.mk res.1 res.2.1 res.2.2.1 res.2.2.2.1)).toArray,.bool res.2.2.2.2]):=by
 refine We 71 Tryz.func46 (St.start w) fun R hR=>?_;refine a_ ?_;refine mA fun b2=>?_;obtain⟨r3,qy,hF⟩:=aj hF;refine a_ ?_;refine kM Bj (v2 rfl rfl) (fun wz hw=>ky qy wz (hG.mono hw)) ?_;rintro⟨k8,jV⟩ -;refine a_ ?_;refine Wc hF (fun dG hF=>?_) (fun dG hF=>?_)
 ·refine a_ ?_;refine WL.q (Y.build (cs:=(aR (Event.mk 0 0 0 0)).toArray) pc (.nil) (aX trivial) rfl) rfl ?_;obtain rfl:=oi hF;refine a_ ?_;exact rP
 ·obtain⟨x6,hx6,hF⟩:=aj hF;obtain⟨r7,pN,hF⟩:=aj hF;refine a_ ?_;refine kP Fa (v1 rfl) (fun wz hw=>pf pN wz (hG.mono hw)) ?_;obtain⟨x8,HM,hF⟩:=aj hF;obtain⟨r9,pO,hF⟩:=aj hF;refine a_ ?_;refine kP Fa (v1 rfl) (fun wz hw=>pf pO wz (hG.mono hw)) ?_;obtain⟨o9,mG,hF⟩:=aj hF;refine b_ ?_;refine W.qI (fun a b=>[(9,.pointer (some ⟨b,0,none⟩))]) (fun a b=>[al b2 108 (aR (Event.mk 0 0 0 0)),cR eS 1 k8 jV 9 r3,al b 108 (aR (Event.mk r7.1 r9.1 a 0))]) (fun a b=>a=o9) (lI 2 4 6 8) (fun Xi w7=>?_) ?_
  ·refine W.zM 9 (by kernel_rfl) ?_;refine Xp 0 rfl (fun _ _=>ym) ?_;refine Xp 1 rfl (fun _ _=>ym) ?_;refine Xp 3 rfl (fun _ _=>ym) ?_;obtain⟨cw,ob,mG⟩:=aj mG;refine Xt 4 rfl (Y.jh Tryz.underlying65 Bi (i:=0) rfl (.pl rfl) rfl (.pl rfl) (aK (ob))) ?_;refine Xt 5 rfl (Y.gc (enc:=eS) (v:=.string cw) (a:=cw) (idx:=2) (j:=0) Tryz.underlying9 rfl (fun _=>rfl) (i:=0) rfl (.pl rfl) (bx (ob)) rfl rfl) ?_;obtain⟨fv,jW,mG⟩:=aj mG;obtain⟨d_,m8,mG⟩:=aj mG;refine WX.branch [2,8] (fun wz hw=>St.tail [] hw) (by kernel_rfl) ⟨?_,?_,trivial⟩
   ·skip;refine AP.step #[true,true,true,true,true,true,false,false,false,false] rfl rfl (WO.pE KL (.nil) rfl (fun wz hw=>qx (jW) wz) ?_);rintro wg -;refine WX.now (fun wz hw=>St.tail [_] hw) ?_;refine WX.branch [6,8] (fun wz hw=>St.tail [] hw) (by kernel_rfl) ⟨?_,?_,trivial⟩
    ·skip;refine AP.step #[true,true,true,true,true,true,true,false,false,false] rfl rfl (WO.qE Bk (.cons (.pl rfl) (.cons (.pl rfl) (.nil))) rfl (fun wz hw=>d6 (m8) wz (aP.ofRow (fun _=>rfl) hw (i:=0) rfl)) ?_);refine Xp 7 rfl (fun _ _=>Y.build (cs:=(aR (Event.mk r7.1 r9.1 d_ 0)).toArray) pc (.cons (.pl rfl) (.cons (.pl rfl) (.cons (.pl rfl) (.nil)))) (aX ⟨rfl,⟨rfl,⟨rfl,trivial⟩⟩⟩) rfl) ?_;refine Xo 8 rfl (WO.alloc (cs:=(aR (Event.mk 0 0 0 0)).toArray) yD rfl rfl fun Bm=>?_);refine WX.now (fun wz hw=>St.tail [_] hw) ?_;refine Xs rfl (WO.mc (ds:=(aR (Event.mk r7.1 r9.1 d_ 0))) (cs':=(aR (Event.mk r7.1 r9.1 d_ 0))) vg (.pl rfl) (.pl rfl) rfl (o_ _) (i:=0) rfl (Dc (o:=0) (l:=4) (m:=4) (by decide) rfl rfl) (wS rfl) ?_);refine WA.done (by kernel_rfl) ?_;refine a_ ?_;exact h2 w7 (oi mG)
    ·skip;refine AP.step #[true,true,true,true,true,true,false,false,true,false] rfl rfl (WO.alloc (cs:=(aR (Event.mk 0 0 0 0)).toArray) yD rfl rfl fun Bn=>?_);refine WX.now (fun wz hw=>St.tail [_] hw) ?_;refine Xo 6 rfl (WO.qE Bk (.cons (.pl rfl) (.cons (.pl rfl) (.nil))) rfl (fun wz hw=>d6 (m8) wz (aP.ofRow (fun _=>rfl) hw (i:=1) rfl)) ?_);refine Xp 7 rfl (fun _ _=>Y.build (cs:=(aR (Event.mk r7.1 r9.1 d_ 0)).toArray) pc (.cons (.pl rfl) (.cons (.pl rfl) (.cons (.pl rfl) (.nil)))) (aX ⟨rfl,⟨rfl,⟨rfl,trivial⟩⟩⟩) rfl) ?_;refine Xs rfl (WO.mc (ds:=(aR (Event.mk r7.1 r9.1 d_ 0))) (cs':=(aR (Event.mk r7.1 r9.1 d_ 0))) vg (.pl rfl) (.pl rfl) rfl (o_ _) (i:=0) rfl (Dc (o:=0) (l:=4) (m:=4) (by decide) rfl rfl) (wS rfl) ?_);refine WA.done (by kernel_rfl) ?_;refine a_ ?_;exact h2 w7 (oi mG)
   ·skip;refine AP.step #[true,true,false,true,true,true,false,false,true,false] rfl rfl (WO.alloc (cs:=(aR (Event.mk 0 0 0 0)).toArray) yD rfl rfl fun Fc=>?_);refine WX.now (fun wz hw=>St.tail [_] hw) ?_;refine Xo 2 rfl (WO.pE KL (.nil) rfl (fun wz hw=>qx (jW) wz) ?_);rintro OM -;refine WX.now (fun wz hw=>St.tail [_] hw) ?_;refine Xo 6 rfl (WO.qE Bk (.cons (.pl rfl) (.cons (.pl rfl) (.nil))) rfl (fun wz hw=>d6 (m8) wz (aP.ofRow (fun _=>rfl) hw (i:=0) rfl)) ?_);refine Xp 7 rfl (fun _ _=>Y.build (cs:=(aR (Event.mk r7.1 r9.1 d_ 0)).toArray) pc (.cons (.pl rfl) (.cons (.pl rfl) (.cons (.pl rfl) (.nil)))) (aX ⟨rfl,⟨rfl,⟨rfl,trivial⟩⟩⟩) rfl) ?_;refine Xs rfl (WO.mc (ds:=(aR (Event.mk r7.1 r9.1 d_ 0))) (cs':=(aR (Event.mk r7.1 r9.1 d_ 0))) vg (.pl rfl) (.pl rfl) rfl (o_ _) (i:=1) rfl (Dc (o:=0) (l:=4) (m:=4) (by decide) rfl rfl) (wS rfl) ?_);refine WA.done (by kernel_rfl) ?_;refine a_ ?_;exact h2 w7 (oi mG)
  ·rintro mF mH rfl;refine a_ ?_;refine Wc hF (fun jx hF=>?_) (fun jx hF=>?_)
   ·refine a_ ?_;refine WL.q (Y.build (cs:=(aR (Event.mk 0 0 0 0)).toArray) pc (.nil) (aX trivial) rfl) rfl ?_;obtain rfl:=oi hF;refine a_ ?_;exact rP
   ·obtain⟨n_,zS,hF⟩:=aj hF;refine a_ ?_;refine kP Th (v1 rfl) (fun wz hw=>Ff zS wz) ?_;refine a_ ?_;refine Wc hF (fun m9 hF=>?_) (fun m9 hF=>?_)
    ·obtain rfl:=oi hF;refine a_ ?_;exact rP
    ·refine a_ ?_;refine Wc hF (fun vi hF=>?_) (fun vi hF=>?_)
     ·refine a_ ?_;refine WL.q (Y.build (cs:=(aR (Event.mk 0 0 0 0)).toArray) pc (.nil) (aX trivial) rfl) rfl ?_;obtain rfl:=oi hF;refine a_ ?_;exact rP
     ·obtain⟨rl,vj,hF⟩:=aj hF;obtain⟨gz,vk,hF⟩:=aj hF;refine a_ ?_;refine kP Fa (v1 rfl) (fun wz hw=>pf vk wz (hG.mono hw)) ?_;refine a_ ?_;refine WL.step (WO.dD (cs':=(aR (Event.mk r7.1 r9.1 mF gz.1))) bp (.pl rfl) (.pl rfl) rfl (i:=2) rfl (kX (m:=4) (by decide) rfl) (rfl) ?_);obtain rfl:=oi hF;refine a_ ?_;exact rP
def sE(N:Nat)(t1:Int):Option Unit:=some ()
theorem w8{N t1 res}(hF:sE N t1=some res)(w:World):Pure Tryz.prog 78 [.int .i64 t1] w (.bool ((decide (t1 < 1))||(decide (5 < t1)))):=by
 refine We 9 Tryz.func78 (St.start w) fun R hR=>?_;obtain rfl:=oi hF;refine a_ ?_;exact rP
def gm(N:Nat)(s1:(List Int)):Int→Option (Int ⊕(Unit ⊕ Int))|v6=>cond (decide (v6 < ((s1).length:Int))) (bd (ix s1 v6) fun x7=>bd (sE N x7) fun r8=>cond ((decide (x7 < 1))||(decide (5 < x7))) (some (.inr (.inr v6))) (ck (aQ (v6+1)) <| some (.inl (v6+1)))) (some (.inr (.inl ())))
def iC(N:Nat)(s1:(List Int)):Option Int:=bd (α:=(Unit ⊕ Int)) (iter (gm N s1) N 0) <| Sum.elim (fun _=>some (-1)) (fun p=>some p)
theorem pP{N s1 res}(hF:iC N s1=some res)(w:World){v5}(hs4:aP (eI .i64) 1 w v5 s1):Pure Tryz.prog 119 [v5,.func (.func 78) #[] #[]] w (.int .i64 res):=by
 obtain⟨A2,c3,rfl,g9,hs4⟩:=hs4.form;refine We 19 Tryz.func119 (St.start w) fun R hR=>?_;obtain⟨o2,bS,hF⟩:=aj hF;refine b_ ?_;refine W.dR [] [] ((.inl ())=o2) (.nil) (fun K3 d5=>?_) ?_
 ·refine a_ ?_;refine gl bS (fun a=>[(8,.int .i64 a)]) (fun a=>[]) (gx 0 1 7) fun v6 k5 t5 aD cU K6 io=>?_;refine a_ ?_;refine Wc aD (fun eO aD=>?_) (fun eO aD=>?_)
  ·obtain⟨x7,HN,aD⟩:=aj aD;obtain⟨r8,lM,aD⟩:=aj aD;refine a_ ?_;refine kG Ti (.pl rfl) (v1 rfl) (fun wz hw=>(w8 lM wz).calls hw) ?_;rintro _ -;refine a_ ?_;refine Wc aD (fun iB aD=>?_) (fun iB aD=>?_)
   ·obtain rfl:=oi aD;obtain rfl:=dC cU;obtain rfl:=oi hF;refine a_ ?_;exact rP
   ·obtain⟨wc,aD⟩:=aW aD;refine a_ ?_;exact g1 io (oj aD cU)
  ·refine a_ ?_;exact h0 d5 (oj aD cU)
 ·rintro rfl;obtain rfl:=oi hF;refine a_ ?_;exact rP
def gp(N:Nat)(s1:(List Int)):Option Bool:=bd (iC N s1) fun r6=>some (decide (0≤r6))
theorem oc{N s1 res}(hF:gp N s1=some res)(w:World){v5}(hs4:aP (eI .i64) 1 w v5 s1):Pure Tryz.prog 79 [v5,.func (.func 78) #[] #[]] w (.bool res):=by
 obtain⟨A2,c3,rfl,g9,hs4⟩:=hs4.form;refine We 9 Tryz.func79 (St.start w) fun R hR=>?_;obtain⟨r6,uv,hF⟩:=aj hF;refine a_ ?_;refine kP HK (v2 rfl rfl) (fun wz hw=>pP uv wz (hs4.mono hw)) ?_;obtain rfl:=oi hF;refine a_ ?_;exact rP
def bo(N:Nat)(bv:(List Int)):Option Int:=bd ((cond (((decide (((bv).length:Int) < 1))||(decide (4 < ((bv).length:Int))))==false) (gp N bv) (some false))) fun r6=>cond (((decide (((bv).length:Int) < 1))||(decide (4 < ((bv).length:Int))))||r6) (some 1) (some 0)
theorem zT{N bv res}(hF:bo N bv=some res)(w:World){v5}(hs4:aP (eI .i64) 1 w v5 bv):Pure Tryz.prog 49 [v5] w (.int .i64 res):=by
 obtain⟨A2,c3,rfl,g9,hs4⟩:=hs4.form;refine We 17 Tryz.func49 (St.start w) fun R hR=>?_;obtain⟨r6,uv,hF⟩:=aj hF;refine a_ ?_;refine WL.gP (.pl rfl rfl rfl) KM (fun hg=>(.cons (.gd (hg) rfl) (.cons (.gd (hg) rfl) (.nil)))) rfl (fun hg wz hw=>oc (eC hg uv) wz (hs4.mono hw)) ?_;refine a_ ?_;refine Wc hF (fun dG hF=>?_) (fun dG hF=>?_)
 ·obtain rfl:=oi hF;refine a_ ?_;exact rP
 ·obtain rfl:=oi hF;refine a_ ?_;exact rP
def ir(N:Nat)(bM:Int):Option Int:=bd (α:=Bool) (cond (decide (bM=1)) (some (decide (bM=1))) (some (decide (bM=2)))) <| fun v2=>cond v2 (some 1) (bd (α:=Bool) (cond (decide (bM=3)) (some (decide (bM=3))) (some (decide (bM=4)))) <| fun v3=>cond v3 (some 2) (bd (α:=Bool) (cond (decide (bM=5)) (some (decide (bM=5))) (some (decide (bM=6)))) <| fun v4=>cond v4 (some 3) (bd (α:=Bool) (cond (decide (bM=7)) (some (decide (bM=7))) (cond (decide (bM=8)) (some (decide (bM=8))) (some (decide (bM=9))))) <| fun v5=>cond v5 (some 4) (cond (decide (bM=10)) (some 5) (some 0)))))
theorem y'{N bM res}(hF:ir N bM=some res)(w:World):Pure Tryz.prog 105 [.int .i64 bM] w (.int .i64 res):=by
 refine We 19 Tryz.func105 (St.start w) fun R hR=>?_;obtain⟨o4,dc,hF⟩:=aj hF;refine b_ ?_;refine iS ?_;refine b_ ?_;refine W.eh (fun a=>[(4,.bool a)]) (fun a=>[]) (fun a=>a=o4) (lr 3) (fun K5 qz=>?_) ?_
 ·refine a_ ?_;refine Wc dc (fun w9 dc=>?_) (fun w9 dc=>?_)
  ·refine a_ ?_;exact h1 qz (oi dc)
  ·refine a_ ?_;exact h1 qz (oi dc)
 ·rintro v2 rfl;refine Wc hF (fun eO hF=>?_) (fun eO hF=>?_)
  ·obtain rfl:=oi hF;refine a_ ?_;exact rP
  ·obtain⟨lN,aA,hF⟩:=aj hF;refine W.eh (fun a=>[(7,.bool a)]) (fun a=>[]) (fun a=>a=lN) (lr 3) (fun rk di=>?_) ?_
   ·refine a_ ?_;refine Wc aA (fun jx aA=>?_) (fun jx aA=>?_)
    ·refine a_ ?_;exact h1 di (oi aA)
    ·refine a_ ?_;exact h1 di (oi aA)
   ·rintro v3 rfl;refine Wc hF (fun lO hF=>?_) (fun lO hF=>?_)
    ·obtain rfl:=oi hF;refine a_ ?_;exact rP
    ·obtain⟨KN,lP,hF⟩:=aj hF;refine W.eh (fun a=>[(10,.bool a)]) (fun a=>[]) (fun a=>a=KN) (lr 3) (fun Xj w_=>?_) ?_
     ·refine a_ ?_;refine Wc lP (fun vh lP=>?_) (fun vh lP=>?_)
      ·refine a_ ?_;exact h1 w_ (oi lP)
      ·refine a_ ?_;exact h1 w_ (oi lP)
     ·rintro v4 rfl;refine Wc hF (fun rm hF=>?_) (fun rm hF=>?_)
      ·obtain rfl:=oi hF;refine a_ ?_;exact rP
      ·obtain⟨o25,vm,hF⟩:=aj hF;refine W.eh (fun a=>[(13,.bool a)]) (fun a=>[]) (fun a=>a=o25) (lr 3) (fun K26 Mw=>?_) ?_
       ·refine a_ ?_;refine Wc vm (fun Mx vm=>?_) (fun Mx vm=>?_)
        ·refine a_ ?_;exact h1 Mw (oi vm)
        ·refine a_ ?_;refine Wc vm (fun Zd vm=>?_) (fun Zd vm=>?_)
         ·refine a_ ?_;exact h1 Mw (oi vm)
         ·refine a_ ?_;exact h1 Mw (oi vm)
       ·rintro v5 rfl;refine Wc hF (fun Ze hF=>?_) (fun Ze hF=>?_)
        ·obtain rfl:=oi hF;refine a_ ?_;exact rP
        ·refine a_ ?_;refine Wc hF (fun Zf hF=>?_) (fun Zf hF=>?_)
         ·obtain rfl:=oi hF;refine a_ ?_;exact rP
         ·obtain rfl:=oi hF;refine a_ ?_;exact rP
def iD(N:Nat)(eP:Int)(Ed:Int):Option Bool:=bd ((cond ((!(decide (eP=0)))==true) (ir N Ed) (some 0))) fun r3=>some ((!(decide (eP=0)))&&(decide (r3=eP)))
theorem sF{N eP Ed res}(hF:iD N eP Ed=some res)(w:World):Pure Tryz.prog 63 [.int .i64 eP,.int .i64 Ed] w (.bool res):=by
 refine We 13 Tryz.func63 (St.start w) fun R hR=>?_;obtain⟨r3,qy,hF⟩:=aj hF;refine a_ ?_;refine WL.gP (.pl rfl rfl rfl) Qb (fun hg=>(.cons (.gd (hg) rfl) (.nil))) rfl (fun hg wz hw=>y' (eC hg qy) wz) ?_;obtain rfl:=oi hF;refine a_ ?_;exact rP
def bK(N:Nat)(bM:Int)(n2:Int):Option Bool:=bd (α:=(Unit ⊕ Bool)) (cond (decide (bM=2)) (cond (decide (bM=2)) (some (.inr (decide (n2=0)))) (some (.inl ()))) (cond (decide (bM=4)) (cond (decide (bM=4)) (some (.inr (decide (n2=0)))) (some (.inl ()))) (cond (decide (bM=6)) (cond (decide (bM=6)) (some (.inr (decide (n2=0)))) (some (.inl ()))) (cond (decide (bM=10)) (some (.inr (decide (n2=0)))) (some (.inl ())))))) <| Sum.elim (fun _=>some ((decide (1≤n2))&&(decide (n2≤1000)))) (fun p=>some p)
theorem oP{N bM n2 res}(hF:bK N bM n2=some res)(w:World):Pure Tryz.prog 64 [.int .i64 bM,.int .i64 n2] w (.bool res):=by
 refine We 19 Tryz.func64 (St.start w) fun R hR=>?_;obtain⟨o2,bS,hF⟩:=aj hF;refine b_ ?_;refine W.dR [] [] ((.inl ())=o2) (lr 1) (fun K3 d5=>?_) ?_
 ·refine a_ ?_;refine Wc bS (fun w9 bS=>?_) (fun w9 bS=>?_)
  ·refine a_ ?_;refine Wc bS (fun uw bS=>?_) (fun uw bS=>?_)
   ·obtain rfl:=oi bS;obtain rfl:=oi hF;refine a_ ?_;exact rP
   ·refine a_ ?_;exact h0 d5 (oi bS)
  ·refine a_ ?_;refine Wc bS (fun m_ bS=>?_) (fun m_ bS=>?_)
   ·refine a_ ?_;refine Wc bS (fun vo bS=>?_) (fun vo bS=>?_)
    ·obtain rfl:=oi bS;obtain rfl:=oi hF;refine a_ ?_;exact rP
    ·refine a_ ?_;exact h0 d5 (oi bS)
   ·refine a_ ?_;refine Wc bS (fun m7 bS=>?_) (fun m7 bS=>?_)
    ·refine a_ ?_;refine Wc bS (fun lO bS=>?_) (fun lO bS=>?_)
     ·obtain rfl:=oi bS;obtain rfl:=oi hF;refine a_ ?_;exact rP
     ·refine a_ ?_;exact h0 d5 (oi bS)
    ·refine a_ ?_;refine Wc bS (fun pg bS=>?_) (fun pg bS=>?_)
     ·obtain rfl:=oi bS;obtain rfl:=oi hF;refine a_ ?_;exact rP
     ·refine a_ ?_;exact h0 d5 (oi bS)
 ·rintro rfl;obtain rfl:=oi hF;refine a_ ?_;exact rP
def cp(N:Nat)(bM:Int)(n2:Int):Option Bool:=bd (α:=Bool) (cond (decide (bM=2)) (some (decide (bM=2))) (some (decide (bM=10)))) <| fun v3=>cond v3 (some ((decide (0≤n2))&&(decide (n2≤1000)))) (bd (α:=Bool) (cond (decide (bM=4)) (some (decide (bM=4))) (some (decide (bM=6)))) <| fun v4=>cond v4 (some ((decide (n2=(-1)))||((decide (1≤n2))&&(decide (n2≤1000))))) (bd (α:=Bool) (cond (decide (bM=7)) (some (decide (bM=7))) (cond (decide (bM=8)) (some (decide (bM=8))) (some (decide (bM=9))))) <| fun v5=>cond v5 (some ((decide (n2=0))||(decide (n2=1)))) (some (decide (n2=0)))))
theorem za{N bM n2 res}(hF:cp N bM n2=some res)(w:World):Pure Tryz.prog 80 [.int .i64 bM,.int .i64 n2] w (.bool res):=by
 refine We 40 Tryz.func80 (St.start w) fun R hR=>?_;obtain⟨o4,dc,hF⟩:=aj hF;refine b_ ?_;refine iS ?_;refine b_ ?_;refine W.eh (fun a=>[(6,.bool a)]) (fun a=>[]) (fun a=>a=o4) (mD 1 5) (fun K5 qz=>?_) ?_
 ·refine a_ ?_;refine Wc dc (fun w9 dc=>?_) (fun w9 dc=>?_)
  ·refine a_ ?_;exact h1 qz (oi dc)
  ·refine a_ ?_;exact h1 qz (oi dc)
 ·rintro v3 rfl;refine Wc hF (fun eO hF=>?_) (fun eO hF=>?_)
  ·obtain rfl:=oi hF;refine a_ ?_;exact rP
  ·obtain⟨lN,aA,hF⟩:=aj hF;refine W.eh (fun a=>[(15,.bool a)]) (fun a=>[]) (fun a=>a=lN) (mD 1 5) (fun rk di=>?_) ?_
   ·refine a_ ?_;refine Wc aA (fun jx aA=>?_) (fun jx aA=>?_)
    ·refine a_ ?_;exact h1 di (oi aA)
    ·refine a_ ?_;exact h1 di (oi aA)
   ·rintro v4 rfl;refine Wc hF (fun lO hF=>?_) (fun lO hF=>?_)
    ·refine a_ ?_;refine WL.g (.pl rfl rfl rfl) (fun hg=>Y.and (.gd (hg) rfl) (fun h2=>.gd (wM hg (J6 h2)) rfl)) rfl ?_;obtain rfl:=oi hF;refine a_ ?_;exact rP
    ·obtain⟨KN,lP,hF⟩:=aj hF;refine W.eh (fun a=>[(28,.bool a)]) (fun a=>[]) (fun a=>a=KN) (lr 1) (fun Xj w_=>?_) ?_
     ·refine a_ ?_;refine Wc lP (fun vh lP=>?_) (fun vh lP=>?_)
      ·refine a_ ?_;exact h1 w_ (oi lP)
      ·refine a_ ?_;refine Wc lP (fun rm lP=>?_) (fun rm lP=>?_)
       ·refine a_ ?_;exact h1 w_ (oi lP)
       ·refine a_ ?_;exact h1 w_ (oi lP)
     ·rintro v5 rfl;refine Wc hF (fun rn hF=>?_) (fun rn hF=>?_)
      ·obtain rfl:=oi hF;refine a_ ?_;exact rP
      ·obtain rfl:=oi hF;refine a_ ?_;exact rP
def bO(N:Nat)(aU:(List Int))(fh:(List Call))(gB:(List Int))(i10:Int)(v11:Event):Option ((List Call)×(List Int)×Int):=cond ((((decide (v11.who < 0))||(decide (8≤v11.who)))||(decide (v11.aB < 0)))||(decide (((aU).length:Int)≤v11.aB))) (some (fh,gB,3)) (bd (ax 8 0 gB v11.who) fun de=>cond (!(decide (v11.kind=0))) (bd (ix aU v11.aB) fun eW=>bd (iD N eW v11.kind) fun d_=>bd ((cond ((!d_)==false) (bK N v11.kind v11.value) (some false))) fun r16=>cond ((!d_)||(!r16)) (some (fh,gB,3)) (cond (decide (0 < de)) (some (fh,gB,5)) (ck (dh 56 ((fh).length+(([(Call.mk v11.who v11.aB v11.kind v11.value 0 i10 (-1))]:List Call)).length)) <| bd (ax 8 0 gB v11.who) fun rl=>some ((fh++([(Call.mk v11.who v11.aB v11.kind v11.value 0 i10 (-1))]:List Call)),(eN 8 0 gB v11.who (((fh++([(Call.mk v11.who v11.aB v11.kind v11.value 0 i10 (-1))]:List Call))).length:Int)),0)))) (cond (decide (de=0)) (some (fh,gB,4)) (ck (aQ (de - 1)) <| bd (ix fh (de - 1)) fun cx=>bd ((cond ((!(decide (cx.aB=v11.aB)))==false) (cp N cx.kind v11.value) (some false))) fun rp=>cond ((!(decide (cx.aB=v11.aB)))||(!rp)) (some (fh,gB,3)) (bd (ax 8 0 gB v11.who) fun x25=>some ((fh.set (de - 1).toNat (Call.mk cx.who cx.aB cx.kind cx.arg v11.value cx.from_ i10)),(eN 8 0 gB v11.who 0),0)))))
theorem sh{N aU fh gB i10 v11 b1 A3 c4 A6 c7 res}(hF:bO N aU fh gB i10 v11=some res){w0 w T}(hw:St w0.heap.size w0 (al b1 122 (Value.slice A3 (aU).length c4::(Value.slice A6 (fh).length c7::(((gj 8 (eI .i64) 0) gB)++[])))::cR ak 7 A6 c7 162 fh::T) w)(hs5:aP (eI .i64) 1 w0 (.slice A3 (aU).length c4) aU):Calls Tryz.prog 50 (List.toArray [.pointer (some ⟨b1,0,none⟩),.int .i64 i10,.agg (aR v11).toArray]) w (fun e w'=>∃g:(Option Addr×Nat),(True)∧e= .returned (.int .i64 res.2.2)∧St w0.heap.size w0 (al b1 122 (Value.slice A3 (aU).length c4::(Value.slice g.1 (res.1).length g.2::(((gj 8 (eI .i64) 0) res.2.1)++[])))::cR ak 7 g.1 g.2 162 res.1::T) w'):=by
 refine We 137 Tryz.func50 hw fun R hR=>?_;refine a_ ?_;refine WL.step (WO.fg (.pl rfl) rfl fun iE=>?_);refine b_ ?_;refine iS ?_;refine W.mw (by kernel_rfl) (by kernel_rfl) fun R3 hR3=>?_;refine Dq yf ?_;refine Dq lH ?_;refine Dq yl ?_;refine Dq ym ?_;refine Dg wW ?_;refine Dg s9 ?_;refine Dg Y3 ?_;refine Dq yo ?_;refine Dq ym ?_;refine Dg wW ?_;refine Dg s9 ?_;refine Dg Y2 ?_;refine Dq yo ?_;refine Dq ym ?_;refine Dg wW ?_;refine Dg s9 ?_;refine Dg zl ?_;refine Dg Df ?_;refine Dg HF ?_;refine Dg ET ?_;refine Dg gwg ?_;refine Dg SZ ?_;refine Dq yo ?_;refine WD.next hR3 (lI 0 1 5 31) ?_;refine Wc hF (fun mI hF=>?_) (fun mI hF=>?_)
 ·obtain rfl:=oi hF;refine a_ ?_;exact rG (A6,c7)
 ·refine b_ ?_;refine W.mw (by kernel_rfl) (by kernel_rfl) fun R6 Tm=>?_;refine Dq ym ?_;refine Dq yf ?_;refine Dq lH ?_;refine Dq yc ?_;refine Dq yf ?_;obtain⟨de,pi,hF⟩:=aj hF;refine WD.q (Y.Ex Tryz.underlying120 bp (.pl rfl) (.pl rfl) (mQ (pi))) rfl ?_;refine WD.q (Y.lq (v:=.int .i64 de) Tryz.underlying3 rfl (.pl rfl) (i:=1) rfl (ue (pre:=(Value.slice A3 (aU).length c4::(Value.slice A6 (fh).length c7::[]))) (off:=2) (post:=[]) (a:=gB) (enc:=(eI .i64)) (d:=0) (n:=8) (sz:=1) (j:=0) (fun _=>rfl) rfl (kY (pi)) (kV (pi)) rfl)) rfl ?_;refine Dq ya ?_;refine WD.next Tm (lI 0 1 5 7) ?_;refine a_ ?_;refine Wc hF (fun eO hF=>?_) (fun eO hF=>?_)
  ·refine iS ?_;refine b_ ?_;refine W.mw (by kernel_rfl) (by kernel_rfl) fun R11 Mz=>?_;refine Dq ym ?_;refine Dq yc ?_;refine Dq yf ?_;refine Dq sA ?_;refine Dq yf ?_;refine Dq lH ?_;obtain⟨eW,lL,hF⟩:=aj hF;refine WD.q (Y.u_ Tryz.underlying29 bp hs5 (.pl rfl) (.pl rfl) (aK (lL))) rfl ?_;refine WD.q (Y.sv (enc:=(eI .i64)) (v:=.int .i64 eW) (j:=0) Tryz.underlying3 rfl hs5 (.pl rfl) (lL) rfl rfl) rfl ?_;refine Dq yf ?_;refine Dq lH ?_;obtain⟨d_,m8,hF⟩:=aj hF;refine WD.qE KI (.cons (.pl rfl) (.cons (.pl rfl) (.nil))) rfl (fun wz hw=>sF (m8) wz) ?_;refine Dq yt ?_;refine Dq ym ?_;refine Dg wW ?_;refine Dg s9 ?_;refine Dg wW ?_;refine Dg s9 ?_;obtain⟨r16,na,hF⟩:=aj hF;refine WD.gP (.pl rfl rfl rfl) KJ (fun hg=>(.cons (.gd (hg) rfl) (.cons (.gd (hg) rfl) (.nil)))) rfl (fun hg wz hw=>oP (eC hg na) wz) ?_;refine Dg Xd ?_;refine Dq yo ?_;refine Dq ya ?_;refine WD.next Mz (qu 0 1 5 7 42) ?_;refine Wc hF (fun vo hF=>?_) (fun vo hF=>?_)
   ·obtain rfl:=oi hF;refine a_ ?_;exact rG (A6,c7)
   ·refine a_ ?_;refine Wc hF (fun m7 hF=>?_) (fun m7 hF=>?_)
    ·obtain rfl:=oi hF;refine a_ ?_;exact rG (A6,c7)
    ·refine b_ ?_;refine W.IY 16 (by kernel_rfl) fun K17 MA=>?_;refine Xp 0 rfl (fun _ _=>ym) ?_;refine Xp 1 rfl (fun _ _=>ym) ?_;refine Xp 2 rfl (fun _ _=>yc) ?_;refine Xp 3 rfl (fun _ _=>yf) ?_;refine Xt 4 rfl (sA) ?_;refine Xp 5 rfl (fun _ _=>yf) ?_;refine Xt 6 rfl (lH) ?_;refine Xp 7 rfl (fun _ _=>yf) ?_;refine Xt 8 rfl (lH) ?_;refine Xp 9 rfl (fun _ _=>yf) ?_;refine Xt 10 rfl (lH) ?_;refine Xp 11 rfl (fun _ _=>yf) ?_;refine Xt 12 rfl (lH) ?_;refine Xp 13 rfl (fun _ _=>ym) ?_;refine Xp 14 rfl (fun _ _=>Y.build (cs:=(ak (Call.mk v11.who v11.aB v11.kind v11.value 0 i10 (-1))).toArray) Mv (.cons (.pl rfl) (.cons (.pl rfl) (.cons (.pl rfl) (.cons (.pl rfl) (.cons (.pl rfl) (.cons (.pl rfl) (.nil))))))) (aX ⟨rfl,⟨rfl,⟨rfl,⟨rfl,⟨rfl,⟨rfl,trivial⟩⟩⟩⟩⟩⟩) rfl) ?_;refine Xo 15 rfl (WO.bA (enc:=ak) (ys:=([(Call.mk v11.who v11.aB v11.kind v11.value 0 i10 (-1))]:List Call)) Tryz.underlying58 Wt (.cons (.pl rfl) (.nil)) rfl fX rfl rfl (by decide) (by decide) rfl fun Bn=>?_);refine WX.now (fun wz hw=>St.tail [_] hw) ?_;obtain⟨xb,hF⟩:=aW hF;refine Xs rfl (WO.d4 (enc:=ak) Tryz.underlying58 Wu fX HJ (.pl rfl) rfl (.pl rfl) (i:=3) rfl (m2:=0) rfl (xb) rfl fun Ds c19=>?_);refine WA.take 17 #[true,true,true,true,true,true,true,true,true,true,true,true,true,true,true,true,true,true,false,false] rfl (by kernel_rfl) (fun _ _=>Y.nilCheck (.pl rfl)) rfl ?_;refine WA.take 18 #[true,true,true,true,true,true,true,true,true,true,true,true,true,true,true,true,true,true,true,false] rfl (by kernel_rfl) (fun _ _=>Y.eT (off:=1) (ft:=58) Tryz.underlying122 rfl Ci (.pl rfl)) rfl ?_;refine WA.branch [19] (by kernel_rfl) ⟨?_,trivial⟩;refine WI.step #[true,true,true,true,true,true,true,true,true,true,true,true,true,true,true,true,true,true,true,true] rfl rfl (WO.dD (cs':=(Value.slice A3 (aU).length c4::(Value.slice Ds ((fh++([(Call.mk v11.who v11.aB v11.kind v11.value 0 i10 (-1))]:List Call))).length c19::(((gj 8 (eI .i64) 0) gB)++[])))) Ci (.pl rfl) (.pl rfl) rfl (i:=2) rfl (kX (m:=10) (by decide) rfl) (rfl) ?_);refine WA.done (by kernel_rfl) ?_;refine KK.next MA (mD 0 5) ?_;refine W.s7 11 (by kernel_rfl) (by kernel_rfl) fun Q18 Zg=>?_;refine Sq ym ?_;refine Sq yf ?_;refine Sq sA ?_;refine Sq ym ?_;refine Sq yc ?_;refine Sq yf ?_;refine Sq Kw ?_;refine Sq yw ?_;refine Sq yc ?_;refine Sq yf ?_;obtain⟨rl,vj,hF⟩:=aj hF;refine WS.q (Y.Ex Tryz.underlying120 bp (.pl rfl) (.pl rfl) (mQ (vj))) rfl ?_;refine WS.tail ?_;refine WL.step (WO.dD (cs':=(Value.slice A3 (aU).length c4::(Value.slice Ds ((fh++([(Call.mk v11.who v11.aB v11.kind v11.value 0 i10 (-1))]:List Call))).length c19::(((gj 8 (eI .i64) 0) (eN 8 0 gB v11.who (((fh++([(Call.mk v11.who v11.aB v11.kind v11.value 0 i10 (-1))]:List Call))).length:Int)))++[])))) bp (.pl rfl) (.pl rfl) rfl (i:=2) rfl (kX (m:=10) (yh (off:=2) (sz:=1) (j:=0) (kY (vj)) (by decide)) rfl) (o5 (pre:=(Value.slice A3 (aU).length c4::(Value.slice Ds ((fh++([(Call.mk v11.who v11.aB v11.kind v11.value 0 i10 (-1))]:List Call))).length c19::[]))) (off:=2) (post:=[]) (a:=gB) (enc:=(eI .i64)) (d:=0) (n:=8) (sz:=1) (j:=0) (x:=rl) (x':=(((fh++([(Call.mk v11.who v11.aB v11.kind v11.value 0 i10 (-1))]:List Call))).length:Int)) (fun _=>rfl) rfl (mQ (vj)) (kV (vj)) (by decide) rfl rfl) ?_);refine a_ ?_;refine xQ Zg ?_;obtain rfl:=oi hF;refine a_ ?_;exact rG (Ds,c19)
  ·refine a_ ?_;refine Wc hF (fun vi hF=>?_) (fun vi hF=>?_)
   ·obtain rfl:=oi hF;refine a_ ?_;exact rG (A6,c7)
   ·obtain⟨Jd,hF⟩:=aW hF;obtain⟨cx,ng,hF⟩:=aj hF;refine b_ ?_;refine iS ?_;refine W.mw (by kernel_rfl) (by kernel_rfl) fun R26 Zh=>?_;refine Dq ym ?_;refine Dq yc ?_;refine WD.q (Y.g0 (off:=1) (ft:=3) Tryz.underlying162 rfl bp (i':=2) rfl (aK (ng)) (.pl rfl)) rfl ?_;refine WD.q (Y.gc (enc:=ak) (v:=.int .i64 cx.aB) (a:=cx) (idx:=(de - 1)) (j:=1) Tryz.underlying3 rfl fX (i:=2) rfl (.pl rfl) (bx (ng)) rfl rfl) rfl ?_;refine Dq yf ?_;refine Dq lH ?_;refine Dq yn ?_;refine Dq ym ?_;refine Dg zl ?_;refine Dg Df ?_;refine WD.g (.pl rfl rfl rfl) (fun hg=>Y.g0 (off:=2) (ft:=3) Tryz.underlying162 rfl bp (i':=2) rfl (aK (ng)) (.gd (hg) rfl)) rfl ?_;refine WD.g (.pl rfl rfl rfl) (fun hg=>Y.gc (enc:=ak) (v:=.int .i64 cx.kind) (a:=cx) (idx:=(de - 1)) (j:=2) Tryz.underlying3 rfl fX (i:=2) rfl (.gd (hg) rfl) (bx (ng)) rfl rfl) rfl ?_;refine Dg wW ?_;refine Dg s9 ?_;obtain⟨rp,Fg,hF⟩:=aj hF;refine WD.gP (.pl rfl rfl rfl) Tj (fun hg=>(.cons (.gd (hg) rfl) (.cons (.gd (hg) rfl) (.nil)))) rfl (fun hg wz hw=>za (eC hg Fg) wz) ?_;refine Dg Xd ?_;refine Dq yo ?_;refine WD.next Zh (qu 0 1 5 8 121) ?_;refine Wc hF (fun zU hF=>?_) (fun zU hF=>?_)
    ·obtain rfl:=oi hF;refine a_ ?_;exact rG (A6,c7)
    ·refine a_ ?_;refine WL.step (WO.EF (enc:=ak) (a:=cx) (a':=(Call.mk cx.who cx.aB cx.kind cx.arg v11.value cx.from_ cx.au)) (idx:=(de - 1)) (j:=4) bp (.pl rfl) (.pl rfl) rfl fX (i:=2) rfl (bx (ng)) rfl (by decide) rfl ?_);refine a_ ?_;refine WL.q (Y.g0 (off:=6) (ft:=3) Tryz.underlying162 rfl bp (i':=2) rfl (⟨(aK (ng)).1,by simpa only[List.length_set]using(aK (ng)).2⟩) (.pl rfl)) rfl ?_;refine WL.step (WO.PY (enc:=ak) (a:=(Call.mk cx.who cx.aB cx.kind cx.arg v11.value cx.from_ cx.au)) (a':=(Call.mk cx.who cx.aB cx.kind cx.arg v11.value cx.from_ i10)) (idx:=(de - 1)) (j:=6) bp (.pl rfl) (.pl rfl) rfl fX (i:=2) rfl (aK (ng)) rfl (by decide) rfl ?_);refine b_ ?_;refine W.s7 6 (by kernel_rfl) (by kernel_rfl) fun Q30 Zi=>?_;refine Sq ym ?_;refine Sq yf ?_;refine Sq lH ?_;refine Sq yc ?_;refine Sq yf ?_;obtain⟨x25,nh,hF⟩:=aj hF;refine WS.q (Y.Ex Tryz.underlying120 bp (.pl rfl) (.pl rfl) (mQ (nh))) rfl ?_;refine WS.tail ?_;refine WL.step (WO.dD (cs':=(Value.slice A3 (aU).length c4::(Value.slice A6 (fh).length c7::(((gj 8 (eI .i64) 0) (eN 8 0 gB v11.who 0))++[])))) bp (.pl rfl) (.pl rfl) rfl (i:=1) rfl (kX (m:=10) (yh (off:=2) (sz:=1) (j:=0) (kY (nh)) (by decide)) rfl) (o5 (pre:=(Value.slice A3 (aU).length c4::(Value.slice A6 (fh).length c7::[]))) (off:=2) (post:=[]) (a:=gB) (enc:=(eI .i64)) (d:=0) (n:=8) (sz:=1) (j:=0) (x:=x25) (x':=0) (fun _=>rfl) rfl (mQ (nh)) (kV (nh)) (by decide) rfl rfl) ?_);refine a_ ?_;refine xQ Zi ?_;obtain rfl:=oi hF;refine a_ ?_;refine W.ii (fn:=Tryz.f50) (vs:=[.int .i64 0]) Tryz.results50 ⟨.tmp rfl,trivial⟩ (fun _ _ h=>h) (fun wz hw=>?_);exact hR _ _ ⟨(A6,c7),trivial,rfl,(St.fL (L:=(al b1 122 (Value.slice A3 (aU).length c4::(Value.slice A6 (fh).length c7::(((gj 8 (eI .i64) 0) (eN 8 0 gB v11.who 0))++[])))::cR ak 7 A6 c7 162 (fh.set (de - 1).toNat (Call.mk cx.who cx.aB cx.kind cx.arg v11.value cx.from_ i10))::T)) (hw.eU 3 [1,2] rfl) (by simp only[List.length_set,List.nil_append,List.cons_append]))⟩
def cZ(N:Nat)(l6:(List Event))(bv:(List Int)):((List Call)×(List Int)×Int)→Option (((List Call)×(List Int)×Int) ⊕(((List Call)×(List Int)) ⊕((List Call)×Int×Int)))|(Je,Fh,v21)=>cond (decide (v21 < ((l6).length:Int))) (bd (ix l6 v21) fun ce=>bd (bO N bv Je Fh v21 ce) fun rp=>cond (!(decide (rp.2.2=0))) (some (.inr (.inr ([],v21,rp.2.2)))) (ck (aQ (v21+1)) <| some (.inl (rp.1,rp.2.1,(v21+1))))) (some (.inr (.inl (Je,Fh))))
def bk(N:Nat)(bv:(List Int))(l6:(List Event)):Option ((List Call)×Int×Int):=bd (bo N bv) fun dr=>cond (!(decide (dr=0))) (some ([],0,dr)) (cond (decide (200 < ((l6).length:Int))) (some ([],0,2)) (bd (α:=(((List Call)×(List Int)) ⊕((List Call)×Int×Int))) (iter (cZ N l6 bv) N ([],[],0)) <| Sum.elim (fun(OO,Tn)=>some (OO,0,0)) (fun p=>some p)))
theorem eY{N bv l6 res}(hF:bk N bv l6=some res)(w:World){v5}(hs4:aP (eI .i64) 1 w v5 bv){v10}(gD:aP aR 4 w v10 l6):Made Tryz.prog 24 [v5,v10] w (fun g:(Option Addr×Nat)=>.tuple #[.slice g.1 (res.1).length g.2,.int .i64 res.2.1,.int .i64 res.2.2]) (fun g=>[cR ak 7 g.1 g.2 162 res.1]) (fun g=>True):=by
 obtain⟨A2,c3,rfl,g9,hs4⟩:=hs4.form;obtain⟨A7,c8,rfl,Fi,gD⟩:=gD.form;refine We 43 Tryz.func24 (St.start w) fun R hR=>?_;obtain⟨dr,kz,hF⟩:=aj hF;refine a_ ?_;refine kP Te (v1 rfl) (fun wz hw=>zT kz wz (hs4.mono hw)) ?_;refine a_ ?_;refine Wc hF (fun dG hF=>?_) (fun dG hF=>?_)
 ·obtain rfl:=oi hF;refine a_ ?_;exact rG (none,0)
 ·refine a_ ?_;refine Wc hF (fun eO hF=>?_) (fun eO hF=>?_)
  ·obtain rfl:=oi hF;refine a_ ?_;exact rG (none,0)
  ·refine a_ ?_;refine WL.q (Y.build (cs:=(Value.slice A2 (bv).length c3::(Value.slice none 0 0::(((gj 8 (eI .i64) 0) [])++[]))).toArray) Mu (.cons (.pl rfl) (.nil)) (aX ⟨rfl,trivial⟩) rfl) rfl ?_;refine WL.step (WO.fg (.pl rfl) rfl fun iE=>?_);obtain⟨Xk,rq,hF⟩:=aj hF;refine b_ ?_;refine W.u' (fun a b c d=>[]) (fun a b c d=>[al iE 122 (Value.slice A2 (bv).length c3::(Value.slice c (a).length d::(((gj 8 (eI .i64) 0) b)++[]))),cR ak 7 c d 162 a]) (fun a b c d=>(.inl (a,b))=Xk) (lr 8) (fun Xl Fj=>?_) ?_
   ·refine a_ ?_;refine S6 rq (fun a b c d f=>[(25,.int .i64 c)]) (fun a b c d f=>[al iE 122 (Value.slice A2 (bv).length c3::(Value.slice d (a).length f::(((gj 8 (eI .i64) 0) b)++[]))),cR ak 7 d f 162 a]) (gx 8 23 24) fun Je Fh v21 Bo c18 Tp t15 bF ni OP tc=>?_;refine a_ ?_;refine Wc bF (fun pg bF=>?_) (fun pg bF=>?_)
    ·obtain⟨ce,tf,bF⟩:=aj bF;refine a_ ?_;refine mA fun Bp=>?_;obtain⟨rp,Fg,bF⟩:=aj bF;refine a_ ?_;refine kC Tf (v3 rfl rfl rfl) (fun _ hw=>sh Fg (sw hw) hs4) ?_;rintro⟨A25,c26⟩ -;refine a_ ?_;refine Wc bF (fun Fk bF=>?_) (fun Fk bF=>?_)
     ·obtain rfl:=oi bF;obtain rfl:=dC ni;obtain rfl:=oi hF;refine a_ ?_;exact rG (none,0)
     ·obtain⟨Jf,bF⟩:=aW bF;refine a_ ?_;exact g5 tc (oj bF ni)
    ·refine a_ ?_;exact h4 Fj (oj bF ni)
   ·rintro OO Tn zo c14 rfl;obtain rfl:=oi hF;refine a_ ?_;exact rG (zo,c14)
def od(N:Nat)(r2:(List ByteArray)):((List Int)×(List Event)×Int)→Option (((List Int)×(List Event)×Int) ⊕(((List Int)×(List Event)) ⊕((List Int)×(List Event)×Int×Int)))|(yE,HO,Dt)=>cond (decide (Dt < ((r2).length:Int))) (bd (ix r2 Dt) fun ux=>bd (α:=((List Int)×(List Event)×Bool)) (cond (decide (Dt=(((r2).length:Int) - 1))) (some (yE,HO,((decide (ux=(⟨#[]⟩:ByteArray)))&&(decide (0 < (((r2).length:Int) - 1)))))) (cond (decide (Dt=0)) (bd (pH N ux) fun iG=>some (iG.1,HO,iG.2)) (bd (qN N ux) fun jE=>ck (dh 32 ((HO).length+(([(Event.mk jE.1 jE.2.1 jE.2.2.1 jE.2.2.2.1)]:List Event)).length)) <| some (yE,(HO++([(Event.mk jE.1 jE.2.1 jE.2.2.1 jE.2.2.2.1)]:List Event)),jE.2.2.2.2)))) <| fun(HP,Xm,Tq)=>cond (!Tq) (some (.inr (.inr ([],[],Dt,7)))) (ck (aQ (Dt+1)) <| some (.inl (HP,Xm,(Dt+1))))) (some (.inr (.inl (yE,HO))))
def kl(N:Nat)(s1:ByteArray):Option ((List Int)×(List Event)×Int×Int):=cond (decide (8192 < ((s1).size:Int))) (some ([],[],0,2)) (bd (nX N s1 (⟨#[10]⟩:ByteArray)) fun r2=>ck (aQ (((r2).length:Int) - 1)) <| bd (α:=(((List Int)×(List Event)) ⊕((List Int)×(List Event)×Int×Int))) (iter (od N r2) N ([],[],0)) <| Sum.elim (fun(ji,sG)=>bd (bk N ji sG) fun uy=>cond (decide (uy.2.2=2)) (some ([],[],0,uy.2.2)) (cond (!(decide (uy.2.2=0))) (ck (aQ (uy.2.1+1)) <| some ([],[],(uy.2.1+1),uy.2.2)) (some (ji,sG,0,0)))) (fun p=>some p))
theorem Fl{N s1 res}(hF:kl N s1=some res)(w:World)(hG:li w):Made Tryz.prog 21 [.string s1] w (fun g:(Option Addr×Nat×Option Addr×Nat)=>.tuple #[.slice g.1 (res.1).length g.2.1,.slice g.2.2.1 (res.2.1).length g.2.2.2,.int .i64 res.2.2.1,.int .i64 res.2.2.2]) (fun g=>[cR (eI .i64) 1 g.1 g.2.1 3 res.1,cR aR 4 g.2.2.1 g.2.2.2 108 res.2.1]) (fun g=>True):=by
 refine We 80 Tryz.func21 (St.start w) fun R hR=>?_;refine a_ ?_;refine WL.q (Y.S8 Tryz.underlying9 (.pl rfl)) rfl ?_;refine a_ ?_;refine Wc hF (fun mI hF=>?_) (fun mI hF=>?_)
 ·obtain rfl:=oi hF;refine a_ ?_;exact rG (none,0,none,0)
 ·obtain⟨r2,hr2,hF⟩:=aj hF;refine a_ ?_;refine kM Bj (v2 rfl rfl) (fun wz hw=>ky hr2 wz (hG.mono hw)) ?_;rintro⟨OK,OL⟩ -;obtain⟨hk5,hF⟩:=aW hF;obtain⟨Fm,bl,hF⟩:=aj hF;refine b_ ?_;refine W.Ow (fun a b c d f g=>[(8,.slice c (a).length d),(9,.slice f (b).length g)]) (fun a b c d f g=>[cR (eI .i64) 1 c d 3 a,cR aR 4 f g 108 b]) (fun a b c d f g=>(.inl (a,b))=Fm) (.nil) (fun HQ lQ=>?_) ?_
  ·refine a_ ?_;refine Y6 bl (fun a b c d f g h=>[(8,.slice d (a).length f),(9,.slice g (b).length h),(27,.int .i64 c)]) (fun a b c d f g h=>[cR (eI .i64) 1 d f 3 a,cR aR 4 g h 108 b,cR eS 1 OK OL 9 r2]) (gx 7 25 26) fun yE HO Dt pQ c13 Tr c16 k13 t13 cq zV Xn zX=>?_;refine a_ ?_;refine Wc cq (fun nj cq=>?_) (fun nj cq=>?_)
   ·obtain⟨ux,qd,cq⟩:=aj cq;obtain⟨Ts,bP,cq⟩:=aj cq;refine b_ ?_;refine iS ?_;refine b_ ?_;refine W.Ox (fun a b c d f g h=>[(8,.slice d (a).length f),(9,.slice g (b).length h),(12,.bool c)]) (fun a b c d f g h=>[cR (eI .i64) 1 d f 3 a,cR aR 4 g h 108 b,cR eS 1 OK OL 9 r2]) (fun a b c d f g h=>(a,b,c)=Ts) (qu 7 10 25 26 27) (fun Tt qe=>?_) ?_
    ·refine a_ ?_;refine Wc bP (fun Fk bP=>?_) (fun Fk bP=>?_)
     ·refine a_ ?_;refine WL.q (Y.E4 Tryz.underlying9 (.pl rfl) (.pl rfl)) rfl ?_;refine a_ ?_;exact h7 qe (oi bP)
     ·refine a_ ?_;refine Wc bP (fun zU bP=>?_) (fun zU bP=>?_)
      ·obtain⟨iG,zY,bP⟩:=aj bP;refine a_ ?_;refine kM Tc (v1 rfl) (fun wz hw=>Cj zY wz (hG.mono hw)) ?_;rintro⟨KO,HL⟩ -;refine a_ ?_;exact h7 qe (oi bP)
      ·refine a_ ?_;refine mA fun KP=>?_;obtain⟨jE,vq,bP⟩:=aj bP;refine a_ ?_;refine kP Td (v1 rfl) (fun wz hw=>DQ vq wz (hG.mono hw)) ?_;refine a_ ?_;refine WL.step (WO.bA (enc:=aR) (ys:=([(Event.mk jE.1 jE.2.1 jE.2.2.1 jE.2.2.2.1)]:List Event)) Tryz.underlying31 OI (.cons (.pl rfl) (.nil)) rfl re rfl rfl (by decide) (by decide) rfl fun Xq=>?_);obtain⟨MB,bP⟩:=aW bP;refine WL.step (WO.d4 (enc:=aR) Tryz.underlying31 OJ re o_ (.pl rfl) rfl (.pl rfl) (i:=3) rfl (m2:=0) rfl (MB) rfl fun Fp HR=>?_);refine a_ ?_;exact h7 qe (oi bP)
    ·rintro HP Xm Tq KQ c21 wh c24 rfl;refine a_ ?_;refine Wc cq (fun MC cq=>?_) (fun MC cq=>?_)
     ·obtain rfl:=oi cq;obtain rfl:=dC zV;obtain rfl:=oi hF;refine a_ ?_;exact rG (none,0,none,0)
     ·obtain⟨MD,cq⟩:=aW cq;refine a_ ?_;exact g7 zX (oj cq zV)
   ·refine a_ ?_;exact h6 lQ (oj cq zV)
  ·rintro ji sG A6 c7 A9 c10 rfl;obtain⟨uy,Fr,hF⟩:=aj hF;refine a_ ?_;refine kM rh (v2 rfl rfl) (fun wz hw=>eY Fr wz (so hw) (so hw)) ?_;rintro⟨Tu,Tv⟩ -;refine a_ ?_;refine Wc hF (fun MF hF=>?_) (fun MF hF=>?_)
   ·obtain rfl:=oi hF;refine a_ ?_;exact rG (none,0,none,0)
   ·refine a_ ?_;refine Wc hF (fun MG hF=>?_) (fun MG hF=>?_)
    ·obtain⟨Tw,hF⟩:=aW hF;obtain rfl:=oi hF;refine a_ ?_;exact rG (none,0,none,0)
    ·obtain rfl:=oi hF;refine a_ ?_;exact rG (A6,c7,A9,c10)
end Go.Proofs.YtjdkkabcenohcaaGreatDoor
