import Derived.Test.YtjdkkabcenohcaaGreatDoorAuto
import Derived.Test.YtjdkkabcenohcaaGreatDoorV1
set_option linter.unusedVariables false
set_option linter.defProp false
set_option linter.unusedSimpArgs false
set_option linter.unusedSectionVars false
set_option maxRecDepth 100000
namespace Go.Proofs.YtjdkkabcenohcaaGreatDoor
open Go.RowKit
attribute [local irreducible] Yd aD ik
structure Rel where
 n:Int
 after:List Int
deriving DecidableEq
def Rel.z:Rel:=⟨0,[]⟩
def cD(x:Rel):List Value:=(Value.int .i64 x.n::((gj 12 (eI .u16) 0) x.after++[]))
theorem aeD: ∀x,∀v∈cD x,v.oneCell'=true:=fun x=>(bu rfl (AF ((ad3 AR) _) iB))
structure cW where
deriving DecidableEq
def cW.z:cW:=⟨⟩
def kB(x:cW):List Value:=[]
structure Step where
 call:Int
 res:Int
deriving DecidableEq
def Step.z:Step:=⟨0,0⟩
def cx(x:Step):List Value:=(Value.int .i64 x.call::(Value.int .i64 x.res::[]))
theorem vK(x:Step):(cx x).length=2:=rfl
theorem HC: ∀x,∀v∈cx x,v.oneCell'=true:=fun x=>(bu rfl (bu rfl iB))
structure jk where
 many:cW
deriving DecidableEq
def jk.z:jk:=⟨cW.z⟩
def pR(x:jk):List Value:=(kB x.many++[])
structure js where
 single:cW
deriving DecidableEq
def js.z:js:=⟨cW.z⟩
def z7(x:js):List Value:=(kB x.single++[])
theorem Dy:Tryz.prog.cellsOf 32=0+1:=by kernel_rfl
theorem LJ:Tryz.prog.cellsOf 70=0+1:=by kernel_rfl
theorem PM:Tryz.prog.cellsOf 128=1+1:=by kernel_rfl
theorem uY:Tryz.prog.cellsOf 166=0+1:=by kernel_rfl
theorem PN:Tryz.prog.cellsOf 167=11+1:=by kernel_rfl
theorem YQ:Tryz.prog.cellsOf 169=12+1:=by kernel_rfl
theorem YR:Tryz.prog.cellsOf 215=0+1:=by kernel_rfl
def W1:=gg Tryz.func36
def PO:=gg Tryz.func65
def W2:=gg Tryz.func66
def PP:=gg Tryz.func81
def aeE:=gg Tryz.func82
def PQ:=gg Tryz.func83
def abB:=gg Tryz.func106
def AI:=gg Tryz.func107
def Tj:=gg Tryz.func120
def abC:=gg Tryz.func121
def HD:=gg Tryz.func148
def abD:=gg Tryz.func155
def abE:=gg Tryz.func156
def abF:=gg Tryz.func157
def abG:=gg Tryz.func219
def Tl:=gg Tryz.func246
def Tm:=gg Tryz.func247
def abH:=gg Tryz.func248
def LK:=gg Tryz.func249
def LL:=gg Tryz.func250
def abI:=gg Tryz.func251
def abJ:=gg Tryz.func252
def Tn:=gg Tryz.func253
def abK:=gg Tryz.func254
def abL:=gg Tryz.func255
def abM:=gg Tryz.func256
def abN:=gg Tryz.func257
def abO:=gg Tryz.func258
def abP:=gg Tryz.func259
def Tp:=gg Tryz.func260
def abQ:=gg Tryz.func265
theorem U7: ∃i,Tryz.prog.info? 4=some i∧i.zero=some (Value.bool false):=⟨_,rfl,by kernel_rfl⟩
theorem abR: ∃i,Tryz.prog.info? 162=some i∧i.zero=some (Value.agg #[(Value.int .i64 0),(Value.int .i64 0),(Value.int .i64 0),(Value.int .i64 0),(Value.int .i64 0),(Value.int .i64 0),(Value.int .i64 0)]):=⟨_,rfl,by kernel_rfl⟩
theorem abS: ∃i,Tryz.prog.info? 169=some i∧i.zero=some (Value.agg #[(Value.int .i64 0),(Value.int .u16 0),(Value.int .u16 0),(Value.int .u16 0),(Value.int .u16 0),(Value.int .u16 0),(Value.int .u16 0),(Value.int .u16 0),(Value.int .u16 0),(Value.int .u16 0),(Value.int .u16 0),(Value.int .u16 0),(Value.int .u16 0)]):=⟨_,rfl,by kernel_rfl⟩
theorem abT: ∃i,Tryz.prog.info? 197=some i∧i.zero=some (Value.agg #[]):=⟨_,rfl,by kernel_rfl⟩
theorem abU: ∃i,Tryz.prog.info? 200=some i∧i.zero=some (Value.agg #[]):=⟨_,rfl,by kernel_rfl⟩
theorem abV: ∃i,Tryz.prog.info? 201=some i∧i.zero=some (Value.agg #[]):=⟨_,rfl,by kernel_rfl⟩
theorem abW: ∃i,Tryz.prog.info? 202=some i∧i.zero=some (Value.agg #[]):=⟨_,rfl,by kernel_rfl⟩
theorem abX: ∃i,Tryz.prog.info? 203=some i∧i.zero=some (Value.agg #[]):=⟨_,rfl,by kernel_rfl⟩
@[reducible,instance] def ak':=ZI.mk abS
@[reducible,instance] def ala:=CT.mk YQ
instance:ON cD:=⟨aeD⟩
@[reducible,instance] def alb:=UT.mk Tryz.underlying162
instance:EN aC 7:=⟨lw⟩
instance:ON aC:=⟨S8⟩
@[reducible,instance] def z162:=ZI.mk abR
instance:FT Tryz.prog 162 6 6 3:=⟨_,Tryz.underlying162,rfl⟩
instance:FT Tryz.prog 162 5 5 3:=⟨_,Tryz.underlying162,rfl⟩
@[reducible,instance] def c167:=CT.mk PN
instance:FT Tryz.prog 169 1 1 167:=⟨_,Tryz.underlying169,rfl⟩
@[reducible,instance] def alc:=UT.mk Tryz.underlying167
@[reducible,instance] def ald:=CT.mk uY
@[reducible,instance] def ale:=UT.mk Tryz.underlying176
@[reducible,instance] def alf:=UT.mk Tryz.underlying169
instance:FT Tryz.prog 217 1 1 58:=⟨_,Tryz.underlying217,rfl⟩
instance:FT Tryz.prog 217 4 16 166:=⟨_,Tryz.underlying217,rfl⟩
@[reducible,instance] def alg:=UT.mk Tryz.underlying166
@[reducible,instance] def c70:=CT.mk LJ
instance:FT Tryz.prog 217 3 15 70:=⟨_,Tryz.underlying217,rfl⟩
@[reducible,instance] def u70:=UT.mk Tryz.underlying70
@[reducible,instance] def u5:=UT.mk Tryz.underlying5
instance:FT Tryz.prog 217 2 2 169:=⟨_,Tryz.underlying217,rfl⟩
instance:FT Tryz.prog 162 1 1 3:=⟨_,Tryz.underlying162,rfl⟩
instance:FT Tryz.prog 217 0 0 29:=⟨_,Tryz.underlying217,rfl⟩
instance:FT Tryz.prog 162 2 2 3:=⟨_,Tryz.underlying162,rfl⟩
instance:FT Tryz.prog 162 3 3 3:=⟨_,Tryz.underlying162,rfl⟩
@[reducible,instance] def PR:=CT.mk Dy
instance:FT Tryz.prog 217 5 17 32:=⟨_,Tryz.underlying217,rfl⟩
@[reducible,instance] def u32:=UT.mk Tryz.underlying32
@[reducible,instance] def alh:=CT.mk YR
instance:FT Tryz.prog 217 6 18 215:=⟨_,Tryz.underlying217,rfl⟩
@[reducible,instance] def ali:=UT.mk Tryz.underlying215
instance:EN cx 2:=⟨vK⟩
theorem bz5: ∃i,Tryz.prog.info? 5=some i∧i.zero=some (Value.int .u8 0)∧i.size=1:=⟨_,rfl,by kernel_rfl,by kernel_rfl⟩
theorem aeF: ∃i,Tryz.prog.info? 29=some i∧i.zero=some (Value.slice none 0 0)∧i.size=1:=⟨_,rfl,by kernel_rfl,by kernel_rfl⟩
theorem U8: ∃i,Tryz.prog.info? 128=some i∧i.zero=some (Value.agg #[(Value.int .i64 0),(Value.int .i64 0)])∧i.size=2:=⟨_,rfl,by kernel_rfl,by kernel_rfl⟩
theorem ap5: ∃i z,Tryz.prog.info? 5=some i∧i.zero=some z∧i.size=1∧i.bytes=1∧z.cells.size=1∧0 < 1:=⟨_,(Value.int .u8 0),rfl,by kernel_rfl,by kernel_rfl,by kernel_rfl,by kernel_rfl,by decide⟩
theorem aeG: ∃i z,Tryz.prog.info? 29=some i∧i.zero=some z∧i.size=1∧i.bytes=24∧z.cells.size=1∧0 < 1:=⟨_,(Value.slice none 0 0),rfl,by kernel_rfl,by kernel_rfl,by kernel_rfl,by kernel_rfl,by decide⟩
theorem U9: ∃i z,Tryz.prog.info? 128=some i∧i.zero=some z∧i.size=2∧i.bytes=16∧z.cells.size=2∧0 < 2:=⟨_,(Value.agg #[(Value.int .i64 0),(Value.int .i64 0)]),rfl,by kernel_rfl,by kernel_rfl,by kernel_rfl,by kernel_rfl,by decide⟩
theorem PS:Shape Tryz.prog 128 [(0,1),(1,1)] #[(Value.int .i64 0),(Value.int .i64 0)]:=⟨_,_,Value.agg #[(Value.int .i64 0),(Value.int .i64 0)],Tryz.underlying128,rfl,by kernel_rfl,rfl,by kernel_rfl,by decide⟩
theorem ED:Shape Tryz.prog 169 [(0,1),(1,12)] #[(Value.int .i64 0),(Value.int .u16 0),(Value.int .u16 0),(Value.int .u16 0),(Value.int .u16 0),(Value.int .u16 0),(Value.int .u16 0),(Value.int .u16 0),(Value.int .u16 0),(Value.int .u16 0),(Value.int .u16 0),(Value.int .u16 0),(Value.int .u16 0)]:=⟨_,_,Value.agg #[(Value.int .i64 0),(Value.int .u16 0),(Value.int .u16 0),(Value.int .u16 0),(Value.int .u16 0),(Value.int .u16 0),(Value.int .u16 0),(Value.int .u16 0),(Value.int .u16 0),(Value.int .u16 0),(Value.int .u16 0),(Value.int .u16 0),(Value.int .u16 0)],Tryz.underlying169,rfl,by kernel_rfl,rfl,by kernel_rfl,by decide⟩
theorem YS:Shape Tryz.prog 217 [(0,1),(1,1),(2,13),(15,1),(16,1),(17,1),(18,1)] #[(Value.slice none 0 0),(Value.slice none 0 0),(Value.int .i64 0),(Value.int .u16 0),(Value.int .u16 0),(Value.int .u16 0),(Value.int .u16 0),(Value.int .u16 0),(Value.int .u16 0),(Value.int .u16 0),(Value.int .u16 0),(Value.int .u16 0),(Value.int .u16 0),(Value.int .u16 0),(Value.int .u16 0),(Value.slice none 0 0),(Value.int .u16 0),(Value.slice none 0 0),(Value.map none)]:=⟨_,_,Value.agg #[(Value.slice none 0 0),(Value.slice none 0 0),(Value.int .i64 0),(Value.int .u16 0),(Value.int .u16 0),(Value.int .u16 0),(Value.int .u16 0),(Value.int .u16 0),(Value.int .u16 0),(Value.int .u16 0),(Value.int .u16 0),(Value.int .u16 0),(Value.int .u16 0),(Value.int .u16 0),(Value.int .u16 0),(Value.slice none 0 0),(Value.int .u16 0),(Value.slice none 0 0),(Value.map none)],Tryz.underlying217,rfl,by kernel_rfl,rfl,by kernel_rfl,by decide⟩
theorem Dz: ∃i,Tryz.prog.info? 198=some i∧i.size=0:=⟨_,rfl,by kernel_rfl⟩
theorem aeH:Tryz.prog.cellsOf 200=0:=by kernel_rfl
theorem aeI:Tryz.prog.cellsOf 201=0:=by kernel_rfl
theorem aeJ:Tryz.prog.cellsOf 202=0:=by kernel_rfl
theorem NL: ∀w,(method (Tryz.prog.types.size+Made.depth) 197 (.agg #[]) "alibi/object.start").run Tryz.prog w= .ok (246,.agg #[]) w:=fun w=>by kernel_rfl
theorem PT: ∀w,(method (Tryz.prog.types.size+Made.depth) 197 (.agg #[]) "alibi/object.step").run Tryz.prog w= .ok (248,.agg #[]) w:=fun w=>by kernel_rfl
theorem Sk: ∀w,(nilAhead (Tryz.prog.types.size+Made.depth) 197 (.agg #[]) "alibi/object.step").run Tryz.prog w= .ok (some false) w:=fun w=>by kernel_rfl
theorem NM: ∀w,(method (Tryz.prog.types.size+Made.depth) 197 (.agg #[]) "alibi/object.valid").run Tryz.prog w= .ok (247,.agg #[]) w:=fun w=>by kernel_rfl
theorem NN: ∀w,(method (Tryz.prog.types.size+Made.depth) 200 (.agg #[]) "alibi/object.start").run Tryz.prog w= .ok (249,.agg #[]) w:=fun w=>by kernel_rfl
theorem PU: ∀w,(method (Tryz.prog.types.size+Made.depth) 200 (.agg #[]) "alibi/object.step").run Tryz.prog w= .ok (252,.agg #[]) w:=fun w=>by kernel_rfl
theorem Sl: ∀w,(nilAhead (Tryz.prog.types.size+Made.depth) 200 (.agg #[]) "alibi/object.step").run Tryz.prog w= .ok (some false) w:=fun w=>by kernel_rfl
theorem NP: ∀w,(method (Tryz.prog.types.size+Made.depth) 200 (.agg #[]) "alibi/object.valid").run Tryz.prog w= .ok (250,.agg #[]) w:=fun w=>by kernel_rfl
theorem NQ: ∀w,(method (Tryz.prog.types.size+Made.depth) 201 (.agg #[]) "alibi/object.start").run Tryz.prog w= .ok (249,.agg #[]) w:=fun w=>by kernel_rfl
theorem PV: ∀w,(method (Tryz.prog.types.size+Made.depth) 201 (.agg #[]) "alibi/object.step").run Tryz.prog w= .ok (254,.agg #[]) w:=fun w=>by kernel_rfl
theorem Sn: ∀w,(nilAhead (Tryz.prog.types.size+Made.depth) 201 (.agg #[]) "alibi/object.step").run Tryz.prog w= .ok (some false) w:=fun w=>by kernel_rfl
theorem NR: ∀w,(method (Tryz.prog.types.size+Made.depth) 201 (.agg #[]) "alibi/object.valid").run Tryz.prog w= .ok (250,.agg #[]) w:=fun w=>by kernel_rfl
theorem NS: ∀w,(method (Tryz.prog.types.size+Made.depth) 202 (.agg #[]) "alibi/object.start").run Tryz.prog w= .ok (249,.agg #[]) w:=fun w=>by kernel_rfl
theorem PW: ∀w,(method (Tryz.prog.types.size+Made.depth) 202 (.agg #[]) "alibi/object.step").run Tryz.prog w= .ok (255,.agg #[]) w:=fun w=>by kernel_rfl
theorem Ss: ∀w,(nilAhead (Tryz.prog.types.size+Made.depth) 202 (.agg #[]) "alibi/object.step").run Tryz.prog w= .ok (some false) w:=fun w=>by kernel_rfl
theorem NT: ∀w,(method (Tryz.prog.types.size+Made.depth) 202 (.agg #[]) "alibi/object.valid").run Tryz.prog w= .ok (256,.agg #[]) w:=fun w=>by kernel_rfl
theorem NU: ∀w,(method (Tryz.prog.types.size+Made.depth) 203 (.agg #[]) "alibi/object.start").run Tryz.prog w= .ok (246,.agg #[]) w:=fun w=>by kernel_rfl
theorem PX: ∀w,(method (Tryz.prog.types.size+Made.depth) 203 (.agg #[]) "alibi/object.step").run Tryz.prog w= .ok (265,.agg #[]) w:=fun w=>by kernel_rfl
theorem Su: ∀w,(nilAhead (Tryz.prog.types.size+Made.depth) 203 (.agg #[]) "alibi/object.step").run Tryz.prog w= .ok (some false) w:=fun w=>by kernel_rfl
theorem NV: ∀w,(method (Tryz.prog.types.size+Made.depth) 203 (.agg #[]) "alibi/object.valid").run Tryz.prog w= .ok (247,.agg #[]) w:=fun w=>by kernel_rfl
def gW(N:Nat)(bn:(List Int))(l6:(List Event)):Option ((List Call)×Int):=bd (cB N bn l6) fun fa=>cond (!(decide (fa.2.2=0))) (some ([],fa.2.2)) (cond (decide (9 < ((fa.1).length:Int))) (some ([],2)) (some (fa.1,0)))
theorem wA{N bn l6 res}(hF:gW N bn l6=some res)(w:World){v5}(hs4:bi (eI .i64) 1 w v5 bn){v10}(jU:bi az 4 w v10 l6):Made Tryz.prog 81 [v5,v10] w (fun g:(Option Addr×Nat)=>.tuple #[.slice g.1 (res.1).length g.2,.int .i64 res.2]) (fun g=>[cR aC 7 g.1 g.2 162 res.1]) (fun g=>True):=by
 obtain⟨A2,c3,rfl,jy,hs4⟩:=hs4.form;obtain⟨A7,c8,rfl,IO,jU⟩:=jU.form;refine We 25 Tryz.func81 (St.start w) fun R hR=>?_;obtain⟨fa,kz,hF⟩:=al hF;refine a_ ?_;refine kM yT (v2 rfl rfl) (fun wz hw=>jj kz wz (hs4.mono hw) (jU.mono hw)) ?_;rintro⟨vI,c13⟩ -;refine a_ ?_;refine Wc hF (fun fT hF=>?_) (fun fT hF=>?_)
 ·obtain rfl:=oi hF;refine a_ ?_;exact rG (none,0)
 ·refine a_ ?_;refine Wc hF (fun yV hF=>?_) (fun yV hF=>?_)
  ·obtain rfl:=oi hF;refine a_ ?_;exact rG (none,0)
  ·obtain rfl:=oi hF;refine a_ ?_;exact rG (vI,c13)
def ug(N:Nat)(l1:(List Call))(eD:Call)(v10:Int):((List Int)×Int)→Option (((List Int)×Int) ⊕(List Int))|(jt,fB)=>cond (decide (fB < ((l1).length:Int))) (bd (ix l1 fB) fun dJ=>cond ((!(decide (eD.aY=(-1))))&&(decide (eD.aY < dJ.from_))) (bd (ax 12 0 jt v10) fun U=>bd (ax 12 0 jt v10) fun eE=>ck (bB (fB+1)) <| some (.inl ((fb 12 0 jt v10 (pa .u16 U (mz .u16 1 (IntKind.u64.wrap fB)))),(fB+1)))) (ck (bB (fB+1)) <| some (.inl (jt,(fB+1))))) (some (.inr jt))
def uh(N:Nat)(l1:(List Call)):((List Int)×Int)→Option (((List Int)×Int) ⊕(List Int))|(Bo,v10)=>cond (decide (v10 < ((l1).length:Int))) (bd (α:=(List Int)) (bd (ix l1 v10) fun eD=>iter (ug N l1 eD v10) N (Bo,0)) <| fun DA=>ck (bB (v10+1)) <| some (.inl (DA,(v10+1)))) (some (.inr Bo))
def uJ(N:Nat)(l1:(List Call)):Option (Int×(List Int)×Int):=cond (decide (12 < ((l1).length:Int))) (some (0,[],2)) (bd (α:=(List Int)) (iter (uh N l1) N ([],0)) <| fun Gm=>some (((l1).length:Int),Gm,0))
theorem IW{N l1 res}(hF:uJ N l1=some res)(w:World){v5}(hs4:bi aC 7 w v5 l1):Pure Tryz.prog 82 [v5] w (.tuple #[.agg (cD (Rel.mk res.1 res.2.1)).toArray,.int .i64 res.2.2]):=by
 obtain⟨A2,c3,rfl,jy,hs4⟩:=hs4.form;refine We 53 Tryz.func82 (St.start w) fun R hR=>?_;refine a_ ?_;refine mA fun b6=>?_;refine a_ ?_;refine Wc hF (fun ju hF=>?_) (fun ju hF=>?_)
 ·refine a_ ?_;refine WL.q (Y.build (cs:=(cD (Rel.mk 0 [])).toArray) ED (.nil) (bH trivial) rfl) rfl ?_;obtain rfl:=oi hF;refine a_ ?_;exact rP
 ·refine a_ ?_;refine WL.q (Y.build (cs:=(cD (Rel.mk ((l1).length:Int) [])).toArray) ED (.cons (.pl rfl) (.nil)) (bH ⟨rfl,trivial⟩) rfl) rfl ?_;refine mA fun b7=>?_;obtain⟨o7,dA,hF⟩:=al hF;refine b_ ?_;refine W.gh (fun a=>[]) (fun a=>[aw b6 169 (cD (Rel.mk 0 [])),aw b7 169 (cD (Rel.mk ((l1).length:Int) a))]) (fun a=>a=o7) (m_ 2 4) (fun K8 ng=>?_) ?_
  ·refine a_ ?_;refine xP dA (fun a b=>[(18,.int .i64 b)]) (fun a b=>[aw b6 169 (cD (Rel.mk 0 [])),aw b7 169 (cD (Rel.mk ((l1).length:Int) a))]) (wl 0 2 4 16 17) fun Bo v10 Kc t10 cj rz Ie mG=>?_;refine a_ ?_;refine Wc cj (fun ji cj=>?_) (fun ji cj=>?_)
   ·obtain⟨o15,dc,cj⟩:=al cj;refine b_ ?_;refine W.gh (fun a=>[]) (fun a=>[aw b6 169 (cD (Rel.mk 0 [])),aw b7 169 (cD (Rel.mk ((l1).length:Int) a))]) (fun a=>a=o15) (zX 0 2 4 16 17 18) (fun Py sD=>?_) ?_
    ·obtain⟨eD,wm,dc⟩:=al dc;refine a_ ?_;refine mA fun yY=>?_;refine a_ ?_;refine xP dc (fun a b=>[(25,.int .i64 b)]) (fun a b=>[aw b6 169 (cD (Rel.mk 0 [])),aw b7 169 (cD (Rel.mk ((l1).length:Int) a)),aw yY 162 (aC eD)]) (aei 0 2 4 5 6 16 17 18 23 24) fun jt fB k19 t19 qA YT K20 aeK=>?_;refine a_ ?_;refine Wc qA (fun Bl qA=>?_) (fun Bl qA=>?_)
     ·obtain⟨dJ,Gn,qA⟩:=al qA;refine a_ ?_;refine mA fun nH=>?_;refine a_ ?_;refine Wc qA (fun IM qA=>?_) (fun IM qA=>?_)
      ·obtain⟨U,aX,qA⟩:=al qA;refine a_ ?_;refine WL.q (Y.lW (v:=.int .u16 U) Tryz.underlying166 rfl (.pl rfl) (i:=2) rfl (Di (pre:=(Value.int .i64 ((l1).length:Int)::[])) (off:=1) (post:=[]) (a:=jt) (enc:=(eI .u16)) (d:=0) (n:=12) (sz:=1) (j:=0) (fun _=>rfl) rfl (qV (aX)) (qU (aX)) rfl)) rfl ?_;obtain⟨eE,k_,qA⟩:=al qA;refine a_ ?_;refine WL.step (WO.dC (cs':=(cD (Rel.mk ((l1).length:Int) (fb 12 0 jt v10 (pa .u16 U (mz .u16 1 (IntKind.u64.wrap fB))))))) uY (.pl rfl) (.pl rfl) rfl (i:=2) rfl (iQ (m:=13) (Hk (off:=1) (sz:=1) (j:=0) (qV (k_)) (by decide)) rfl) (xM (pre:=(Value.int .i64 ((l1).length:Int)::[])) (off:=1) (post:=[]) (a:=jt) (enc:=(eI .u16)) (d:=0) (n:=12) (sz:=1) (j:=0) (x:=eE) (x':=(pa .u16 U (mz .u16 1 (IntKind.u64.wrap fB)))) (fun _=>rfl) rfl (uH (k_)) (qU (k_)) (by decide) rfl rfl) ?_);obtain⟨wu,qA⟩:=bx qA;refine a_ ?_;exact g2 aeK (oj qA YT)
      ·obtain⟨xV,qA⟩:=bx qA;refine a_ ?_;exact g2 aeK (oj qA YT)
     ·refine a_ ?_;exact h1 sD (oj qA YT)
    ·rintro DA rfl;obtain⟨CS,cj⟩:=bx cj;refine a_ ?_;exact g2 mG (oj cj rz)
   ·refine a_ ?_;exact h1 ng (oj cj rz)
  ·rintro Gm rfl;obtain rfl:=oi hF;refine a_ ?_;exact rP
def ql(N:Nat)(jI:Int):Option Int:=cond (decide (jI=1)) (some 197) (cond (decide (jI=2)) (some 200) (cond (decide (jI=3)) (some 201) (cond (decide (jI=4)) (some 202) (cond (decide (jI=5)) (some 203) (some 0)))))
theorem Bp{N jI res}(hF:ql N jI=some res)(w:World):Pure Tryz.prog 65 [.int .i64 jI] w ((A_ res)):=by
 refine We 24 Tryz.func65 (St.start w) fun R hR=>?_;refine a_ ?_;refine Wc hF (fun fT hF=>?_) (fun fT hF=>?_)
 ·refine a_ ?_;refine WL.q (Y.F4 Tryz.underlying197 abT (by kernel_rfl)) rfl ?_;refine WL.q (Y.Ww Tryz.underlying197 rfl (.pl rfl)) rfl ?_;obtain rfl:=oi hF;refine a_ ?_;exact rP
 ·refine a_ ?_;refine Wc hF (fun yV hF=>?_) (fun yV hF=>?_)
  ·refine a_ ?_;refine WL.q (Y.F4 Tryz.underlying200 abU (by kernel_rfl)) rfl ?_;refine WL.q (Y.Ww Tryz.underlying200 rfl (.pl rfl)) rfl ?_;obtain rfl:=oi hF;refine a_ ?_;exact rP
  ·refine a_ ?_;refine Wc hF (fun sB hF=>?_) (fun sB hF=>?_)
   ·refine a_ ?_;refine WL.q (Y.F4 Tryz.underlying201 abV (by kernel_rfl)) rfl ?_;refine WL.q (Y.Ww Tryz.underlying201 rfl (.pl rfl)) rfl ?_;obtain rfl:=oi hF;refine a_ ?_;exact rP
   ·refine a_ ?_;refine Wc hF (fun ji hF=>?_) (fun ji hF=>?_)
    ·refine a_ ?_;refine WL.q (Y.F4 Tryz.underlying202 abW (by kernel_rfl)) rfl ?_;refine WL.q (Y.Ww Tryz.underlying202 rfl (.pl rfl)) rfl ?_;obtain rfl:=oi hF;refine a_ ?_;exact rP
    ·refine a_ ?_;refine Wc hF (fun qy hF=>?_) (fun qy hF=>?_)
     ·refine a_ ?_;refine WL.q (Y.F4 Tryz.underlying203 abX (by kernel_rfl)) rfl ?_;refine WL.q (Y.Ww Tryz.underlying203 rfl (.pl rfl)) rfl ?_;obtain rfl:=oi hF;refine a_ ?_;exact rP
     ·obtain rfl:=oi hF;refine a_ ?_;exact rP
def rA(N:Nat)(a1:cW):Option Unit:=some ()
theorem uw{N a1 res}(hF:rA N a1=some res)(w:World):Made Tryz.prog 246 [.agg (kB a1).toArray] w (fun g:Option Addr=>.slice g (([0]:List Int)).length (([0]:List Int)).length) (fun g=>[cR (eI .i64) 1 g (([0]:List Int)).length 3 ([0]:List Int)]) (fun g=>True):=by
 refine We 4 Tryz.func246 (St.start w) fun R hR=>?_;refine a_ ?_;refine WL.step (WO.il (.pl rfl) rfl fun b2=>?_);refine a_ ?_;refine WL.step (WO.cC (enc:=(eI .i64)) (ys:=([0]:List Int)) Tryz.underlying29 ut (.cons (.pl rfl) (.nil)) rfl (fun _=>rfl) rfl rfl (by decide) (by decide) rfl fun b3=>?_);obtain rfl:=oi hF;refine a_ ?_;exact rG (some (Addr.mk b3 0 none))
def pG(N:Nat)(a1:cW):Option Unit:=some ()
theorem qC{N a1 res}(hF:pG N a1=some res)(w:World):Pure Tryz.prog 249 [.agg (kB a1).toArray] w (.slice none 0 0):=by
 refine We 3 Tryz.func249 (St.start w) fun R hR=>?_;refine a_ ?_;refine WL.step (WO.il (.pl rfl) rfl fun b2=>?_);obtain rfl:=oi hF;refine a_ ?_;exact rP
def sH(N:Nat)(jI:Int):Option ((List Int)×Int):=bd (ql N jI) fun r2=>cond (decide (r2=0)) (some ([],1)) (bd (α:=(List Int)) (cond (decide (r2=197)) (bd (rA N (cW.mk)) fun r6=>some ([0]:List Int)) (cond (decide (r2=200)) (bd (pG N (cW.mk)) fun r8=>some []) (cond (decide (r2=201)) (bd (pG N (cW.mk)) fun r9=>some []) (cond (decide (r2=202)) (bd (pG N (cW.mk)) fun jw=>some []) (cond (decide (r2=203)) (bd (rA N (cW.mk)) fun fa=>some ([0]:List Int)) (none)))))) <| fun v5=>some (v5,0))
theorem Cq{N jI res}(hF:sH N jI=some res)(w:World):Made Tryz.prog 36 [.int .i64 jI] w (fun g:(Option Addr×Nat)=>.tuple #[.slice g.1 (res.1).length g.2,.int .i64 res.2]) (fun g=>[cR (eI .i64) 1 g.1 g.2 3 res.1]) (fun g=>True):=by
 refine We 11 Tryz.func36 (St.start w) fun R hR=>?_;obtain⟨r2,hr2,hF⟩:=al hF;refine a_ ?_;refine kP PO (v1 rfl) (fun wz hw=>Bp hr2 wz) ?_;refine a_ ?_;refine WL.q (Y.Wx Tryz.underlying140 (.pl rfl)) rfl ?_;refine a_ ?_;refine Wc hF (fun fT hF=>?_) (fun fT hF=>?_)
 ·obtain rfl:=oi hF;refine a_ ?_;exact rG (none,0)
 ·obtain⟨o7,dA,hF⟩:=al hF;refine c_ ?_;refine W.pF (fun a b c=>[(2,.slice b (a).length c),(3,.int .i64 0)]) (fun a b c=>[cR (eI .i64) 1 b c 3 a]) (fun a b c=>a=o7) (.nil) (fun K8 ng=>?_) ?_
  ·refine a_ ?_;refine gq (decide (r2=197)) (fun hT9=>?_) (fun hT9=>?_)
   ·replace dA:=km hT9 dA;obtain⟨r6,Du,dA⟩:=al dA;refine kI NL Tl (aD.vF (k:=197) (of_decide_eq_true hT9) rfl (.pl rfl)) v0 (fun wz hw=>(uw Du wz).calls hw) ?_;rintro A7 -;refine a_ ?_;exact h3 ng (oi dA)
   ·replace dA:=ko hT9 dA;refine gq (decide (r2=200)) (fun U_=>?_) (fun U_=>?_)
    ·replace dA:=km U_ dA;obtain⟨r8,sy,dA⟩:=al dA;refine kI NN LK (aD.vF (k:=200) (of_decide_eq_true U_) rfl (.pl rfl)) v0 (fun wz hw=>(qC sy wz).calls hw) ?_;rintro _ -;refine a_ ?_;exact h3 ng (oi dA)
    ·replace dA:=ko U_ dA;refine gq (decide (r2=201)) (fun U'=>?_) (fun U'=>?_)
     ·replace dA:=km U' dA;obtain⟨r9,Bj,dA⟩:=al dA;refine kI NQ LK (aD.vF (k:=201) (of_decide_eq_true U') rfl (.pl rfl)) v0 (fun wz hw=>(qC Bj wz).calls hw) ?_;rintro _ -;refine a_ ?_;exact h3 ng (oi dA)
     ·replace dA:=ko U' dA;refine gq (decide (r2=202)) (fun EE=>?_) (fun EE=>?_)
      ·replace dA:=km EE dA;obtain⟨jw,qD,dA⟩:=al dA;refine kI NS LK (aD.vF (k:=202) (of_decide_eq_true EE) rfl (.pl rfl)) v0 (fun wz hw=>(qC qD wz).calls hw) ?_;rintro _ -;refine a_ ?_;exact h3 ng (oi dA)
      ·replace dA:=ko EE dA;refine gq (decide (r2=203)) (fun EF=>?_) (fun EF=>?_)
       ·replace dA:=km EF dA;obtain⟨fa,kz,dA⟩:=al dA;refine kI NU Tl (aD.vF (k:=203) (of_decide_eq_true EF) rfl (.pl rfl)) v0 (fun wz hw=>(uw kz wz).calls hw) ?_;rintro vI -;refine a_ ?_;exact h3 ng (oi dA)
       ·replace dA:=ko EF dA;exact nomatch dA
  ·rintro v5 A3 c4 rfl;obtain rfl:=oi hF;exact rG (A3,c4)
def mV(N:Nat)(bX:(List Call))(ct:Int):Int→Option (Int ⊕(Unit ⊕ Bool))|v21=>cond (decide (v21 < ((bX).length:Int))) (bd (ix bX v21) fun aG=>cond ((!(decide (aG.aY=(-1))))&&(decide ((uI .u16 (kx .u16 ct (IntKind.u64.wrap v21)) 1)=0))) (some (.inr (.inr false))) (ck (bB (v21+1)) <| some (.inl (v21+1)))) (some (.inr (.inl ())))
def lJ(N:Nat)(bO:(List Int))(bX:(List Call))(cO:Rel)(cc:(List (List Int)))(ct:Int)(dy:(List Step))(di:(List (ByteArray×Bool))):Option Bool:=bd (α:=(Unit ⊕ Bool)) (iter (mV N bX ct) N 0) <| Sum.elim (fun _=>some true) (fun p=>some p)
theorem Au{N bO bX cO cc ct dy di b1 A3 c4 A7 c8 cg c12 fO iq c17 eL res}(hF:lJ N bO bX cO cc ct dy di=some res){w0 w T}(hw:St w0.heap.size w0 (aw b1 217 (Value.slice A3 (bO).length c4::(Value.slice A7 (bX).length c8::((cD cO)++(Value.slice cg (cc).length c12::(Value.int .u16 ct::(Value.slice iq (dy).length c17::(Value.map (some eL)::[])))))))::cN eo (eQ (eI .i64) 1 3) 1 cg c12 29 fO cc::cR cx 2 iq c17 128 dy::nE Value.bool (some eL) di::T) w)(hs5:bi (eI .i64) 1 w0 (.slice A3 (bO).length c4) bO)(jU:bi aC 7 w0 (.slice A7 (bX).length c8) bX):Calls Tryz.prog 155 (List.toArray [.pointer (some ⟨b1,0,none⟩)]) w (fun e w'=>∃g:Unit,(True)∧e= .returned (.bool res)∧St w0.heap.size w0 (aw b1 217 (Value.slice A3 (bO).length c4::(Value.slice A7 (bX).length c8::((cD cO)++(Value.slice cg (cc).length c12::(Value.int .u16 ct::(Value.slice iq (dy).length c17::(Value.map (some eL)::[])))))))::cN eo (eQ (eI .i64) 1 3) 1 cg c12 29 fO cc::cR cx 2 iq c17 128 dy::nE Value.bool (some eL) di::T) w'):=by
 refine We 30 Tryz.func155 hw fun R hR=>?_;obtain⟨o2,eK,hF⟩:=al hF;refine b_ ?_;refine W.fQ [] ((aw b1 217 (Value.slice A3 (bO).length c4::(Value.slice A7 (bX).length c8::((cD cO)++(Value.slice cg (cc).length c12::(Value.int .u16 ct::(Value.slice iq (dy).length c17::(Value.map (some eL)::[])))))))::cN eo (eQ (eI .i64) 1 3) 1 cg c12 29 fO cc::cR cx 2 iq c17 128 dy::nE Value.bool (some eL) di::T)) ((.inl ())=o2) (.nil) (fun K3 kU=>?_) ?_
 ·refine a_ ?_;refine jg eK (fun a=>[(10,.int .i64 a)]) (fun a=>(aw b1 217 (Value.slice A3 (bO).length c4::(Value.slice A7 (bX).length c8::((cD cO)++(Value.slice cg (cc).length c12::(Value.int .u16 ct::(Value.slice iq (dy).length c17::(Value.map (some eL)::[])))))))::cN eo (eQ (eI .i64) 1 3) 1 cg c12 29 fO cc::cR cx 2 iq c17 128 dy::nE Value.bool (some eL) di::T)) (fY 0 8 9) fun v21 k5 t5 bC hZ K6 ol=>?_;refine a_ ?_;refine Wc bC (fun ip bC=>?_) (fun ip bC=>?_)
  ·obtain⟨aG,dt,bC⟩:=al bC;refine a_ ?_;refine mA fun J7=>?_;refine a_ ?_;refine Wc bC (fun jh bC=>?_) (fun jh bC=>?_)
   ·obtain rfl:=oi bC;obtain rfl:=fy hZ;obtain rfl:=oi hF;refine a_ ?_;exact rG ()
   ·obtain⟨wD,bC⟩:=bx bC;refine a_ ?_;exact g1 ol (oj bC hZ)
  ·refine a_ ?_;exact h0 kU (oj bC hZ)
 ·rintro rfl;obtain rfl:=oi hF;refine a_ ?_;exact rG ()
def pS(N:Nat)(x32:(List Int)):((List Int)×Int)→Option (((List Int)×Int) ⊕(List Int))|(Tq,v40)=>cond (decide (v40 < ((x32).length:Int))) (bd (ix x32 v40) fun xm=>ck (eY 1 ((Tq).length+(([(IntKind.u8.wrap xm),(IntKind.u8.wrap (kx .i64 xm 8))]:List Int)).length)) <| ck (bB (v40+1)) <| some (.inl ((Tq++([(IntKind.u8.wrap xm),(IntKind.u8.wrap (kx .i64 xm 8))]:List Int)),(v40+1)))) (some (.inr Tq))
def pT(N:Nat)(cc:(List (List Int))):((List Int)×Int)→Option (((List Int)×Int) ⊕(List Int))|(W3,v28)=>cond (decide (v28 < ((cc).length:Int))) (bd (α:=(List Int)) (bd (ix cc v28) fun x32=>ck (eY 1 ((W3).length+(([(IntKind.u8.wrap ((x32).length:Int))]:List Int)).length)) <| iter (pS N x32) N ((W3++([(IntKind.u8.wrap ((x32).length:Int))]:List Int)),0)) <| fun b31=>ck (bB (v28+1)) <| some (.inl (b31,(v28+1)))) (some (.inr W3))
def pH(N:Nat)(bO:(List Int))(bX:(List Call))(cO:Rel)(cc:(List (List Int)))(ct:Int)(dy:(List Step))(di:(List (ByteArray×Bool))):Option ByteArray:=bd (α:=(List Int)) (iter (pT N cc) N (([(IntKind.u8.wrap ct),(IntKind.u8.wrap (kx .u16 ct 8))]:List Int),0)) <| fun Ke=>some (zy Ke)
theorem EG{N bO bX cO cc ct dy di b1 A3 c4 A7 c8 cg c12 fO iq c17 eL res}(hF:pH N bO bX cO cc ct dy di=some res){w0 w T}(hw:St w0.heap.size w0 (aw b1 217 (Value.slice A3 (bO).length c4::(Value.slice A7 (bX).length c8::((cD cO)++(Value.slice cg (cc).length c12::(Value.int .u16 ct::(Value.slice iq (dy).length c17::(Value.map (some eL)::[])))))))::cN eo (eQ (eI .i64) 1 3) 1 cg c12 29 fO cc::cR cx 2 iq c17 128 dy::nE Value.bool (some eL) di::T) w)(hs5:bi (eI .i64) 1 w0 (.slice A3 (bO).length c4) bO)(jU:bi aC 7 w0 (.slice A7 (bX).length c8) bX):Calls Tryz.prog 156 (List.toArray [.pointer (some ⟨b1,0,none⟩)]) w (fun e w'=>∃g:Unit,(True)∧e= .returned (.string res)∧St w0.heap.size w0 (aw b1 217 (Value.slice A3 (bO).length c4::(Value.slice A7 (bX).length c8::((cD cO)++(Value.slice cg (cc).length c12::(Value.int .u16 ct::(Value.slice iq (dy).length c17::(Value.map (some eL)::[])))))))::cN eo (eQ (eI .i64) 1 3) 1 cg c12 29 fO cc::cR cx 2 iq c17 128 dy::nE Value.bool (some eL) di::T) w'):=by
 refine We 53 Tryz.func156 hw fun R hR=>?_;refine b_ ?_;refine W.zq 11 (by kernel_rfl) (by kernel_rfl) fun Q2 DB=>?_;refine Sq ym ?_;refine Sq yc ?_;refine Sq yf ?_;refine Sq fj ?_;refine WS.q (Y.conv Tryz.underlying166 Tryz.underlying5 (.pl rfl)) rfl ?_;refine Sq ym ?_;refine Sq yc ?_;refine Sq yf ?_;refine Sq fj ?_;refine WS.q (Y.shr (.pl rfl) (.pl rfl) (by decide)) rfl ?_;refine WS.q (Y.conv Tryz.underlying166 Tryz.underlying5 (.pl rfl)) rfl ?_;refine WS.tail ?_;refine WL.step (WO.cC (enc:=(eI .u8)) (ys:=([(IntKind.u8.wrap ct),(IntKind.u8.wrap (kx .u16 ct 8))]:List Int)) Tryz.underlying49 bz5 (.cons (.pl rfl) (.cons (.pl rfl) (.nil))) rfl (fun _=>rfl) rfl rfl (by decide) (by decide) rfl fun DC=>?_);refine a_ ?_;refine xQ DB ?_;obtain⟨o3,ff,hF⟩:=al hF;refine W.pF (fun a b c=>[(3,.slice b (a).length c)]) (fun a b c=>(aw b1 217 (Value.slice A3 (bO).length c4::(Value.slice A7 (bX).length c8::((cD cO)++(Value.slice cg (cc).length c12::(Value.int .u16 ct::(Value.slice iq (dy).length c17::(Value.map (some eL)::[])))))))::cN eo (eQ (eI .i64) 1 3) 1 cg c12 29 fO cc::cR cx 2 iq c17 128 dy::nE Value.bool (some eL) di::cR (eI .u8) 1 b c 5 a::T)) (fun a b c=>a=o3) (.nil) (fun K4 mb=>?_) ?_
 ·refine a_ ?_;refine Ba ff (fun a b c d=>[(3,.slice c (a).length d),(25,.int .i64 b)]) (fun a b c d=>(aw b1 217 (Value.slice A3 (bO).length c4::(Value.slice A7 (bX).length c8::((cD cO)++(Value.slice cg (cc).length c12::(Value.int .u16 ct::(Value.slice iq (dy).length c17::(Value.map (some eL)::[])))))))::cN eo (eQ (eI .i64) 1 3) 1 cg c12 29 fO cc::cR cx 2 iq c17 128 dy::nE Value.bool (some eL) di::cR (eI .u8) 1 c d 5 a::T)) (m_ 23 24) fun W3 v28 A25 c26 k6 t6 bF iE K7 lF=>?_;refine a_ ?_;refine Wc bF (fun iL bF=>?_) (fun iL bF=>?_)
  ·obtain⟨sA,bk,bF⟩:=al bF;refine b_ ?_;refine W.pF (fun a b c=>[(3,.slice b (a).length c)]) (fun a b c=>(aw b1 217 (Value.slice A3 (bO).length c4::(Value.slice A7 (bX).length c8::((cD cO)++(Value.slice cg (cc).length c12::(Value.int .u16 ct::(Value.slice iq (dy).length c17::(Value.map (some eL)::[])))))))::cN eo (eQ (eI .i64) 1 3) 1 cg c12 29 fO cc::cR cx 2 iq c17 128 dy::nE Value.bool (some eL) di::cR (eI .u8) 1 b c 5 a::T)) (fun a b c=>a=sA) (fY 23 24 25) (fun zZ gr=>?_) ?_
   ·obtain⟨x32,Bq,bk⟩:=al bk;refine a_ ?_;refine WL.q (Y.xl Tryz.underlying70 ly (i:=1) rfl (.pl rfl) rfl (.pl rfl) (ai (Bq))) rfl ?_;refine WL.q (Y.cu (enc:=eo) (h0:=((none,0):Hd)) (v:=.slice (fO.getD v28.toNat ((none,0):Hd)).1 (x32).length (fO.getD v28.toNat ((none,0):Hd)).2) (a:=x32) (idx:=v28) (j:=0) Tryz.underlying29 rfl yF (i:=1) rfl (.pl rfl) (aI (Bq)) rfl rfl) rfl ?_;refine a_ ?_;refine WL.step (WO.cC (enc:=(eI .u8)) (ys:=([(IntKind.u8.wrap ((x32).length:Int))]:List Int)) Tryz.underlying49 bz5 (.cons (.pl rfl) (.nil)) rfl (fun _=>rfl) rfl rfl (by decide) (by decide) rfl fun b33=>?_);obtain⟨U3,bk⟩:=bx bk;refine WL.step (WO.fH (enc:=(eI .u8)) Tryz.underlying49 ap5 (fun _=>rfl) AR (.pl rfl) rfl (.pl rfl) (i:=5) rfl (m2:=0) rfl (U3) rfl fun A34 c35=>?_);refine a_ ?_;refine Ba bk (fun a b c d=>[(3,.slice c (a).length d),(37,.int .i64 b)]) (fun a b c d=>(aw b1 217 (Value.slice A3 (bO).length c4::(Value.slice A7 (bX).length c8::((cD cO)++(Value.slice cg (cc).length c12::(Value.int .u16 ct::(Value.slice iq (dy).length c17::(Value.map (some eL)::[])))))))::cN eo (eQ (eI .i64) 1 3) 1 cg c12 29 fO cc::cR cx 2 iq c17 128 dy::nE Value.bool (some eL) di::cR (eI .u8) 1 c d 5 a::T)) (wl 23 24 25 35 36) fun Tq v40 W4 W5 k16 t16 mH PY K17 Pw=>?_;refine a_ ?_;refine Wc mH (fun uZ mH=>?_) (fun uZ mH=>?_)
    ·obtain⟨xm,LM,mH⟩:=al mH;refine a_ ?_;refine WL.q (Y.wEl (enc:=(eI .i64)) (sz:=1) Tryz.underlying29 bh (fun wz hw=>(bi.inN (pc:=(eI .i64)) (OV:=1) (E2:=3) (h0:=((none,0):Hd)) (fun _=>rfl) hw (i:=1) rfl (Bq) (.head _))) (.pl rfl) (.pl rfl) (ai (LM))) rfl ?_;refine WL.q (Y.ag2 (enc:=(eI .i64)) (v:=.int .i64 xm) (j:=0) Tryz.underlying3 rfl (fun wz hw=>(bi.inN (pc:=(eI .i64)) (OV:=1) (E2:=3) (h0:=((none,0):Hd)) (fun _=>rfl) hw (i:=1) rfl (Bq) (.head _))) (.pl rfl) (LM) rfl rfl) rfl ?_;refine a_ ?_;refine WL.step (WO.cC (enc:=(eI .u8)) (ys:=([(IntKind.u8.wrap xm),(IntKind.u8.wrap (kx .i64 xm 8))]:List Int)) Tryz.underlying49 bz5 (.cons (.pl rfl) (.cons (.pl rfl) (.nil))) rfl (fun _=>rfl) rfl rfl (by decide) (by decide) rfl fun b42=>?_);obtain⟨Va,mH⟩:=bx mH;refine WL.step (WO.fH (enc:=(eI .u8)) Tryz.underlying49 ap5 (fun _=>rfl) AR (.pl rfl) rfl (.pl rfl) (i:=5) rfl (m2:=0) rfl (Va) rfl fun Tr Ts=>?_);obtain⟨YU,mH⟩:=bx mH;refine a_ ?_;exact g4 Pw (oj mH PY)
    ·refine a_ ?_;exact h3 gr (oj mH PY)
   ·rintro b31 A29 c30 rfl;obtain⟨alj,bF⟩:=bx bF;refine a_ ?_;exact g4 lF (oj bF iE)
  ·refine a_ ?_;exact h3 mb (oj bF iE)
 ·rintro Ke Kf Kg rfl;refine a_ ?_;refine WL.q (Y.zy (xs:=Ke) Tryz.underlying49 Tryz.underlying5 Tryz.underlying9 (.pl rfl) rfl (i:=4) rfl) rfl ?_;obtain rfl:=oi hF;refine a_ ?_;exact rG ()
def lp(N:Nat)(a1:cW)(s2:(List Int)):Option Bool:=bd ((cond ((decide (((s2).length:Int)=1))==true) (ix s2 0) (some 0))) fun x8=>bd ((cond (((decide (((s2).length:Int)=1))&&(decide (0≤x8)))==true) (ix s2 0) (some 0))) fun x9=>some (((decide (((s2).length:Int)=1))&&(decide (0≤x8)))&&(decide (x9≤1000)))
theorem ux{N a1 s2 res}(hF:lp N a1 s2=some res)(w:World){v6}(hs5:bi (eI .i64) 1 w v6 s2):Pure Tryz.prog 247 [.agg (kB a1).toArray,v6] w (.bool res):=by
 obtain⟨A3,c4,rfl,PZ,hs5⟩:=hs5.form;refine We 20 Tryz.func247 (St.start w) fun R hR=>?_;refine a_ ?_;refine WL.step (WO.il (.pl rfl) rfl fun b7=>?_);obtain⟨x8,S_,hF⟩:=al hF;obtain⟨x9,Gp,hF⟩:=al hF;obtain rfl:=oi hF;refine a_ ?_;exact rP
def xn(N:Nat)(n1:Int):Option Unit:=some ()
theorem CX{N n1 res}(hF:xn N n1=some res)(w:World):Pure Tryz.prog 251 [.int .i64 n1] w (.bool ((decide (n1 < 1))||(decide (1000 < n1)))):=by
 refine We 9 Tryz.func251 (St.start w) fun R hR=>?_;obtain rfl:=oi hF;refine a_ ?_;exact rP
def lc(N:Nat)(s1:(List Int)):Int→Option (Int ⊕(Unit ⊕ Int))|v6=>cond (decide (v6 < ((s1).length:Int))) (bd (ix s1 v6) fun x7=>bd (xn N x7) fun r8=>cond ((decide (x7 < 1))||(decide (1000 < x7))) (some (.inr (.inr v6))) (ck (bB (v6+1)) <| some (.inl (v6+1)))) (some (.inr (.inl ())))
def mI(N:Nat)(s1:(List Int)):Option Int:=bd (α:=(Unit ⊕ Int)) (iter (lc N s1) N 0) <| Sum.elim (fun _=>some (-1)) (fun p=>some p)
theorem xj{N s1 res}(hF:mI N s1=some res)(w:World){v5}(hs4:bi (eI .i64) 1 w v5 s1):Pure Tryz.prog 119 [v5,.func (.func 251) #[] #[]] w (.int .i64 res):=by
 obtain⟨A2,c3,rfl,jy,hs4⟩:=hs4.form;refine We 19 Tryz.func119 (St.start w) fun R hR=>?_;obtain⟨o2,eK,hF⟩:=al hF;refine b_ ?_;refine W.fQ [] [] ((.inl ())=o2) (.nil) (fun K3 kU=>?_) ?_
 ·refine a_ ?_;refine jg eK (fun a=>[(8,.int .i64 a)]) (fun a=>[]) (fY 0 1 7) fun v6 k5 t5 bC hZ K6 ol=>?_;refine a_ ?_;refine Wc bC (fun ip bC=>?_) (fun ip bC=>?_)
  ·obtain⟨x7,Tb,bC⟩:=al bC;obtain⟨r8,sy,bC⟩:=al bC;refine a_ ?_;refine kG abI (.pl rfl) (v1 rfl) (fun wz hw=>(CX sy wz).calls hw) ?_;rintro _ -;refine a_ ?_;refine Wc bC (fun jh bC=>?_) (fun jh bC=>?_)
   ·obtain rfl:=oi bC;obtain rfl:=fy hZ;obtain rfl:=oi hF;refine a_ ?_;exact rP
   ·obtain⟨Fv,bC⟩:=bx bC;refine a_ ?_;exact g1 ol (oj bC hZ)
  ·refine a_ ?_;exact h0 kU (oj bC hZ)
 ·rintro rfl;obtain rfl:=oi hF;refine a_ ?_;exact rP
def ld(N:Nat)(s1:(List Int)):Option Bool:=bd (mI N s1) fun r6=>some (decide (0≤r6))
theorem u0{N s1 res}(hF:ld N s1=some res)(w:World){v5}(hs4:bi (eI .i64) 1 w v5 s1):Pure Tryz.prog 79 [v5,.func (.func 251) #[] #[]] w (.bool res):=by
 obtain⟨A2,c3,rfl,jy,hs4⟩:=hs4.form;refine We 9 Tryz.func79 (St.start w) fun R hR=>?_;obtain⟨r6,Du,hF⟩:=al hF;refine a_ ?_;refine kP S9 (v2 rfl rfl) (fun wz hw=>xj Du wz (hs4.mono hw)) ?_;obtain rfl:=oi hF;refine a_ ?_;exact rP
def kN(N:Nat)(a1:cW)(s2:(List Int)):Option Bool:=bd (ld N s2) fun r8=>some (!r8)
theorem qE{N a1 s2 res}(hF:kN N a1 s2=some res)(w:World){v6}(hs5:bi (eI .i64) 1 w v6 s2):Pure Tryz.prog 250 [.agg (kB a1).toArray,v6] w (.bool res):=by
 obtain⟨A3,c4,rfl,PZ,hs5⟩:=hs5.form;refine We 8 Tryz.func250 (St.start w) fun R hR=>?_;refine a_ ?_;refine WL.step (WO.il (.pl rfl) rfl fun b7=>?_);obtain⟨r8,sy,hF⟩:=al hF;refine a_ ?_;refine kP WM (v2 rfl rfl) (fun wz hw=>u0 sy wz (hs5.mono hw)) ?_;obtain rfl:=oi hF;refine a_ ?_;exact rP
def rB(N:Nat)(s2:(List Int)):Int→Option (Int ⊕(Unit ⊕ Bool))|i8=>cond (decide (i8 < ((s2).length:Int))) (ck (bB (i8 - 1)) <| bd (ix s2 (i8 - 1)) fun eW=>bd (ix s2 i8) fun dM=>cond (decide (dM≤eW)) (some (.inr (.inr false))) (ck (bB (i8+1)) <| some (.inl (i8+1)))) (some (.inr (.inl ())))
def qG(N:Nat)(x1:jk)(s2:(List Int)):Option Bool:=bd (α:=(Unit ⊕ Bool)) (iter (rB N s2) N 1) <| Sum.elim (fun _=>bd (kN N x1.many s2) fun gU=>some gU) (fun p=>some p)
theorem FG{N x1 s2 res}(hF:qG N x1 s2=some res)(w:World){v6}(hs5:bi (eI .i64) 1 w v6 s2):Pure Tryz.prog 256 [.agg (pR x1).toArray,v6] w (.bool res):=by
 obtain⟨A3,c4,rfl,PZ,hs5⟩:=hs5.form;refine We 26 Tryz.func256 (St.start w) fun R hR=>?_;refine a_ ?_;refine WL.step (WO.il (.pl rfl) rfl fun b7=>?_);obtain⟨o2,eK,hF⟩:=al hF;refine b_ ?_;refine W.fQ [] [aw b7 202 (pR x1)] ((.inl ())=o2) (m_ 1 2) (fun K3 kU=>?_) ?_
 ·refine a_ ?_;refine jg eK (fun a=>[(5,.int .i64 a)]) (fun a=>[aw b7 202 (pR x1)]) (m_ 1 2) fun i8 k5 t5 bC hZ K6 ol=>?_;refine a_ ?_;refine Wc bC (fun ip bC=>?_) (fun ip bC=>?_)
  ·refine b_ ?_;refine iS ?_;refine b_ ?_;refine W.iI (by kernel_rfl) (by kernel_rfl) fun R11 YM=>?_;refine Dq ym ?_;refine Dq ym ?_;obtain⟨Fv,bC⟩:=bx bC;refine WD.q (Y.sub (.pl rfl) (.pl rfl) (nj (Fv))) rfl ?_;obtain⟨eW,EH,bC⟩:=al bC;refine WD.q (Y.mT Tryz.underlying29 bh hs5 (.pl rfl) (.pl rfl) (ai (EH))) rfl ?_;refine WD.q (Y.pE (enc:=(eI .i64)) (v:=.int .i64 eW) (j:=0) Tryz.underlying3 rfl hs5 (.pl rfl) (EH) rfl rfl) rfl ?_;refine Dq ym ?_;refine Dq ym ?_;obtain⟨dM,yh,bC⟩:=al bC;refine WD.q (Y.mT Tryz.underlying29 bh hs5 (.pl rfl) (.pl rfl) (ai (yh))) rfl ?_;refine WD.q (Y.pE (enc:=(eI .i64)) (v:=.int .i64 dM) (j:=0) Tryz.underlying3 rfl hs5 (.pl rfl) (yh) rfl rfl) rfl ?_;refine Dq yj ?_;refine WD.next YM (lE 1 2 5 21) ?_;refine Wc bC (fun Bm bC=>?_) (fun Bm bC=>?_)
   ·obtain rfl:=oi bC;obtain rfl:=fy hZ;obtain rfl:=oi hF;refine a_ ?_;exact rP
   ·obtain⟨aeL,bC⟩:=bx bC;refine a_ ?_;exact g1 ol (oj bC hZ)
  ·refine a_ ?_;exact h0 kU (oj bC hZ)
 ·rintro rfl;refine a_ ?_;refine WL.q (Y.Eo (ft:=198) Tryz.underlying202 rfl Dz aeJ (.pl rfl) (i':=0) rfl) rfl ?_;refine WL.q (Y.UV Tryz.underlying198 Dz (.pl rfl)) rfl ?_;obtain⟨gU,k8,hF⟩:=al hF;refine a_ ?_;refine kP LL (v2 rfl rfl) (fun wz hw=>qE k8 wz (hs5.mono hw)) ?_;obtain rfl:=oi hF;refine a_ ?_;exact rP
def wF(N:Nat)(jI:Int)(s2:(List Int)):Option Int:=bd (ql N jI) fun r7=>cond (decide (r7=0)) (some 1) (cond (decide (50 < ((s2).length:Int))) (some 2) (bd (α:=Bool) (cond (decide (r7=197)) (bd (lp N (cW.mk) s2) fun r9=>some (!r9)) (cond (decide (r7=200)) (bd (kN N (cW.mk) s2) fun jw=>some (!jw)) (cond (decide (r7=201)) (bd (kN N (cW.mk) s2) fun fa=>some (!fa)) (cond (decide (r7=202)) (bd (qG N (jk.mk (cW.mk)) s2) fun jV=>some (!jV)) (cond (decide (r7=203)) (bd (lp N (cW.mk) s2) fun gU=>some (!gU)) (none)))))) <| fun v8=>cond v8 (some 3) (some 0)))
theorem Kh{N jI s2 res}(hF:wF N jI s2=some res)(w:World){v6}(hs5:bi (eI .i64) 1 w v6 s2):Pure Tryz.prog 106 [.int .i64 jI,v6] w (.int .i64 res):=by
 obtain⟨A3,c4,rfl,PZ,hs5⟩:=hs5.form;refine We 20 Tryz.func106 (St.start w) fun R hR=>?_;obtain⟨r7,Bi,hF⟩:=al hF;refine a_ ?_;refine kP PO (v1 rfl) (fun wz hw=>Bp Bi wz) ?_;refine a_ ?_;refine WL.q (Y.Wx Tryz.underlying140 (.pl rfl)) rfl ?_;refine a_ ?_;refine Wc hF (fun fT hF=>?_) (fun fT hF=>?_)
 ·obtain rfl:=oi hF;refine a_ ?_;exact rP
 ·refine a_ ?_;refine Wc hF (fun yV hF=>?_) (fun yV hF=>?_)
  ·obtain rfl:=oi hF;refine a_ ?_;exact rP
  ·obtain⟨PC,cj,hF⟩:=al hF;refine W.gh (fun a=>[(15,.bool a)]) (fun a=>[]) (fun a=>a=PC) (.nil) (fun Ie mG=>?_) ?_
   ·refine a_ ?_;refine gq (decide (r7=197)) (fun EE=>?_) (fun EE=>?_)
    ·replace cj:=km EE cj;obtain⟨r9,Bj,cj⟩:=al cj;refine kI NM Tm (aD.vF (k:=197) (of_decide_eq_true EE) rfl (.pl rfl)) (v1 rfl) (fun wz hw=>(ux Bj wz (hs5.mono hw)).calls hw) ?_;rintro _ -;refine a_ ?_;exact h1 mG (oi cj)
    ·replace cj:=ko EE cj;refine gq (decide (r7=200)) (fun EF=>?_) (fun EF=>?_)
     ·replace cj:=km EF cj;obtain⟨jw,qD,cj⟩:=al cj;refine kI NP LL (aD.vF (k:=200) (of_decide_eq_true EF) rfl (.pl rfl)) (v1 rfl) (fun wz hw=>(qE qD wz (hs5.mono hw)).calls hw) ?_;rintro _ -;refine a_ ?_;exact h1 mG (oi cj)
     ·replace cj:=ko EF cj;refine gq (decide (r7=201)) (fun CY=>?_) (fun CY=>?_)
      ·replace cj:=km CY cj;obtain⟨fa,kz,cj⟩:=al cj;refine kI NR LL (aD.vF (k:=201) (of_decide_eq_true CY) rfl (.pl rfl)) (v1 rfl) (fun wz hw=>(qE kz wz (hs5.mono hw)).calls hw) ?_;rintro _ -;refine a_ ?_;exact h1 mG (oi cj)
      ·replace cj:=ko CY cj;refine gq (decide (r7=202)) (fun CZ=>?_) (fun CZ=>?_)
       ·replace cj:=km CZ cj;obtain⟨jV,yi,cj⟩:=al cj;refine kI NT abM (aD.vF (k:=202) (of_decide_eq_true CZ) rfl (.pl rfl)) (v1 rfl) (fun wz hw=>(FG yi wz (hs5.mono hw)).calls hw) ?_;rintro _ -;refine a_ ?_;exact h1 mG (oi cj)
       ·replace cj:=ko CZ cj;refine gq (decide (r7=203)) (fun C0=>?_) (fun C0=>?_)
        ·replace cj:=km C0 cj;obtain⟨gU,k8,cj⟩:=al cj;refine kI NV Tm (aD.vF (k:=203) (of_decide_eq_true C0) rfl (.pl rfl)) (v1 rfl) (fun wz hw=>(ux k8 wz (hs5.mono hw)).calls hw) ?_;rintro _ -;refine a_ ?_;exact h1 mG (oi cj)
        ·replace cj:=ko C0 cj;exact nomatch cj
   ·rintro v8 rfl;refine Wc hF (fun qy hF=>?_) (fun qy hF=>?_)
    ·obtain rfl:=oi hF;refine a_ ?_;exact rP
    ·obtain rfl:=oi hF;refine a_ ?_;exact rP
theorem ig{xs}(hb:eY 8 xs.length=true)(w:World){v}(h:bi (eI .i64) 1 w v xs):Made Tryz.prog 107 [v] w (fun g:Option Addr×Nat=>.slice g.1 xs.length g.2) (fun g=>[cR (eI .i64) 1 g.1 g.2 3 xs]) (fun _=>True):=by
 obtain⟨A1,c1,rfl,hc1,hs⟩:=h.form
 refine W.enter (n:=8) Tryz.func107 rfl rfl Sub.refl (by simp) (St.start w) fun R hR=>?_
 refine W.mR fun Q1 wG=>?_
 refine WL.q (Y.assign (.pl rfl)) rfl ?_
 refine WL.next wG (.cons (i:=0) rfl (.nil)) ?_
 refine W.seq fun K2 P2=>?_
 refine W.mR fun Q3 P3=>?_
 refine WL.q (Y.move (.pl rfl)) rfl ?_
 refine WL.q (Y.aaI Tryz.underlying29 (.pl rfl)) rfl ?_
 refine WL.next P3 (.cons (i:=0) rfl (.cons (i:=4) rfl (.nil))) ?_
 refine W.cond (.pl rfl) (fun hC=>?_) (fun hC=>?_)
 ·refine W.mR fun Q4 P4=>?_
  refine WL.q (Y.assign (.pl rfl)) rfl ?_
  refine WL.next P4 (.cons (i:=2) rfl (.nil)) ?_
  have hx:xs= []:=by
   cases xs with
   |nil=>rfl
   |cons a r=>
    have:=(hs.Lq (idx:=0) ⟨Int.le_refl _,by simp⟩).1
    rw[Option.isNone_iff_eq_none]at hC
    rw[hC]at this;cases this
  subst hx
  refine W.lr (fn:=Tryz.f107) (vs:=[.slice none 0 0]) Tryz.results107 ⟨.tmp rfl,trivial⟩ (fun _ _ h=>h) (fun w hw=>?_)
  exact hR _ _ ⟨(none,0),trivial,rfl,St.qp hw (eI .i64) 1 3⟩
 ·refine W.skip ?_
  refine W.go P2 (.cons (i:=0) rfl (.nil)) ?_
  obtain⟨a1,rfl⟩: ∃a,A1=some a:=by cases A1 with
   |none=>cases hC
   |some a=>exact⟨a,rfl⟩
  refine W.mR fun Q5 hQ5=>?_
  refine WL.step (WO.cC (enc:=(eI .i64)) (ys:=[]) Tryz.underlying29 ut (.nil) rfl (fun _=>rfl) rfl rfl (by decide) (by decide) rfl fun b=>?_)
  refine WL.q (Y.move (.pl rfl)) rfl ?_
  refine WL.step (WO.SV (enc:=(eI .i64)) (ys:=xs) (xs:=[]) Tryz.underlying29 M6 (fun _=>rfl) AR (.pl rfl) rfl (.pl rfl) (i:=0) rfl (fun w hw=>hs.mono hw) (by simpa using hb) rfl fun A c=>?_)
  refine WL.q (Y.assign (.pl rfl)) rfl ?_
  refine WL.next hQ5 (.cons (i:=2) rfl (.nil)) ?_
  refine W.lr (fn:=Tryz.f107) (vs:=[.slice A xs.length c]) Tryz.results107 ⟨.tmp rfl,trivial⟩ (fun _ _ h=>h) (fun w hw=>?_)
  exact hR _ _ ⟨(A,c),trivial,rfl,hw⟩
def mW(N:Nat)(a1:js)(s4:(List Int))(li:Int)(nP:Int):Option ((List Int)×Int):=cond (decide (li=1)) (some (([nP]:List Int),0)) (bd (ix s4 0) fun x9=>some (s4,x9))
theorem B'{N a1 s4 li nP A2 c3 res}(hF:mW N a1 s4 li nP=some res){w0 w T}(hw:St w0.heap.size w0 (cR (eI .i64) 1 A2 c3 3 s4::T) w):Calls Tryz.prog 248 (List.toArray [.agg (z7 a1).toArray,.slice A2 (s4).length c3,.int .i64 li,.int .i64 nP]) w (fun e w'=>∃g:(Option Addr×Nat),(True)∧e= .returned (.tuple #[.slice g.1 (res.1).length g.2,.int .i64 res.2,.int .i64 0])∧St w0.heap.size w0 (cR (eI .i64) 1 g.1 g.2 3 res.1::T) w'):=by
 refine We 19 Tryz.func248 hw fun R hR=>?_;refine a_ ?_;refine WL.step (WO.il (.pl rfl) rfl fun b7=>?_);refine a_ ?_;refine Wc hF (fun ju hF=>?_) (fun ju hF=>?_)
 ·refine a_ ?_;refine WL.step (WO.cC (enc:=(eI .i64)) (ys:=([nP]:List Int)) Tryz.underlying29 ut (.cons (.pl rfl) (.nil)) rfl (fun _=>rfl) rfl rfl (by decide) (by decide) rfl fun b8=>?_);obtain rfl:=oi hF;refine a_ ?_;exact rG ((some (Addr.mk b8 0 none)),(([nP]:List Int)).length)
 ·refine b_ ?_;refine W.iI (by kernel_rfl) (by kernel_rfl) fun R6 J6=>?_;refine Dq ym ?_;refine Dq ym ?_;obtain⟨x9,Gp,hF⟩:=al hF;refine WD.q (Y.mU Tryz.underlying29 bh (i:=1) rfl (.pl rfl) rfl (.pl rfl) (ai (Gp))) rfl ?_;refine WD.q (Y.gD (enc:=(eI .i64)) (v:=.int .i64 x9) (a:=x9) (idx:=0) (j:=0) Tryz.underlying3 rfl (fun _=>rfl) (i:=1) rfl (.pl rfl) (aI (Gp)) rfl rfl) rfl ?_;refine Dq ya ?_;refine Dq ya ?_;refine Dq ya ?_;refine WD.next J6 (fY 8 9 10) ?_;obtain rfl:=oi hF;exact rG (A2,c3)
def oB(N:Nat)(a1:cW)(s4:(List Int))(LN:Int):Option ((List Int)×Int):=cond (decide (((s4).length:Int)=50)) (some ([],2)) (ck (eY 8 ((s4).length+(([LN]:List Int)).length)) <| some ((s4++([LN]:List Int)),0))
theorem yZ{N a1 s4 LN A2 c3 res}(hF:oB N a1 s4 LN=some res){w0 w T}(hw:St w0.heap.size w0 (cR (eI .i64) 1 A2 c3 3 s4::T) w):Calls Tryz.prog 253 (List.toArray [.agg (kB a1).toArray,.slice A2 (s4).length c3,.int .i64 LN]) w (fun e w'=>∃g:(Option Addr×Nat),(True)∧e= .returned (.tuple #[.slice g.1 (res.1).length g.2,.int .i64 0,.int .i64 res.2])∧St w0.heap.size w0 (cR (eI .i64) 1 g.1 g.2 3 res.1::T) w'):=by
 refine We 16 Tryz.func253 hw fun R hR=>?_;refine a_ ?_;refine WL.step (WO.il (.pl rfl) rfl fun b6=>?_);refine a_ ?_;refine Wc hF (fun ju hF=>?_) (fun ju hF=>?_)
 ·obtain rfl:=oi hF;refine a_ ?_;exact rG (none,0)
 ·refine a_ ?_;refine WL.step (WO.cC (enc:=(eI .i64)) (ys:=([LN]:List Int)) Tryz.underlying29 ut (.cons (.pl rfl) (.nil)) rfl (fun _=>rfl) rfl rfl (by decide) (by decide) rfl fun b7=>?_);obtain⟨Gq,hF⟩:=bx hF;refine WL.step (WO.fH (enc:=(eI .i64)) Tryz.underlying29 M6 (fun _=>rfl) AR (.pl rfl) rfl (.pl rfl) (i:=2) rfl (m2:=0) rfl (Gq) rfl fun A8 c9=>?_);obtain rfl:=oi hF;refine a_ ?_;exact rG (A8,c9)
def pI(N:Nat)(q1:jk)(s4:(List Int))(li:Int)(nP:Int):Option ((List Int)×Int×Int):=cond (decide (li=3)) (bd (oB N q1.many s4 nP) fun r8=>some (r8.1,0,r8.2)) (cond (decide (((s4).length:Int)=0)) (some (s4,(-1),0)) (ck (pB (s4).length 1 ((s4).length:Int)) <| bd (ix s4 0) fun eD=>some ((s4.drop (1:Int).toNat),eD,0)))
theorem EI{N q1 s4 li nP A2 c3 res}(hF:pI N q1 s4 li nP=some res){w0 w T}(hw:St w0.heap.size w0 (cR (eI .i64) 1 A2 c3 3 s4::T) w):Calls Tryz.prog 252 (List.toArray [.agg (pR q1).toArray,.slice A2 (s4).length c3,.int .i64 li,.int .i64 nP]) w (fun e w'=>∃g:(Option Nat×Option Addr×Nat),(True)∧e= .returned (.tuple #[.slice g.2.1 (res.1).length g.2.2,.int .i64 res.2.1,.int .i64 res.2.2])∧St w0.heap.size w0 (cV g.1 (eI .i64) 1 g.2.1 g.2.2 res.1::T) w'):=by
 refine We 32 Tryz.func252 hw fun R hR=>?_;refine a_ ?_;refine WL.step (WO.il (.pl rfl) rfl fun b7=>?_);refine a_ ?_;refine Wc hF (fun ju hF=>?_) (fun ju hF=>?_)
 ·refine a_ ?_;refine WL.q (Y.Eo (ft:=198) Tryz.underlying200 rfl Dz aeH (.pl rfl) (i':=0) rfl) rfl ?_;refine WL.q (Y.UV Tryz.underlying198 Dz (.pl rfl)) rfl ?_;obtain⟨r8,sy,hF⟩:=al hF;refine a_ ?_;refine kC Tn (v3 rfl rfl rfl) (fun _ hw=>yZ sy (sw hw)) ?_;rintro⟨A9,c10⟩ -;obtain rfl:=oi hF;refine a_ ?_;refine W.lr (fn:=Tryz.f252) (vs:=[.slice A9 (r8.1).length c10,.int .i64 0,.int .i64 r8.2]) Tryz.results252 ⟨.tmp rfl,⟨.tmp rfl,⟨.tmp rfl,trivial⟩⟩⟩ (fun _ _ h=>h) (fun wz hw=>?_);exact hR _ _ ⟨((IJ A9),A9,c10),trivial,rfl,((St.O' (enc:=(eI .i64)) (sz:=1) (A':=A9) (cap':=c10) (ys:=r8.1) (fun _=>rfl) hw (i:=0) rfl (fun wz h=>h)).cY 2 [0] rfl)⟩
 ·refine a_ ?_;refine Wc hF (fun wt hF=>?_) (fun wt hF=>?_)
  ·obtain rfl:=oi hF;refine a_ ?_;refine W.lr (fn:=Tryz.f252) (vs:=[.slice A2 (s4).length c3,.int .i64 (-1),.int .i64 0]) Tryz.results252 ⟨.tmp rfl,⟨.tmp rfl,⟨.tmp rfl,trivial⟩⟩⟩ (fun _ _ h=>h) (fun wz hw=>?_);exact hR _ _ ⟨((IJ A2),A2,c3),trivial,rfl,((St.O' (enc:=(eI .i64)) (sz:=1) (A':=A2) (cap':=c3) (ys:=s4) (fun _=>rfl) hw (i:=1) rfl (fun wz h=>h)).cY 2 [1] rfl)⟩
  ·refine b_ ?_;refine W.iI (by kernel_rfl) (by kernel_rfl) fun R9 Ki=>?_;refine Dq ym ?_;obtain⟨zA,hF⟩:=bx hF;refine WD.q (Y.SU Tryz.underlying29 bh (i:=1) rfl (.pl rfl) rfl (.pl rfl) (zA)) rfl ?_;refine Dq ym ?_;obtain⟨eD,wm,hF⟩:=al hF;refine WD.q (Y.mU Tryz.underlying29 bh (i:=1) rfl (.pl rfl) rfl (.pl rfl) (ai (wm))) rfl ?_;refine WD.q (Y.gD (enc:=(eI .i64)) (v:=.int .i64 eD) (a:=eD) (idx:=0) (j:=0) Tryz.underlying3 rfl (fun _=>rfl) (i:=1) rfl (.pl rfl) (aI (wm)) rfl rfl) rfl ?_;refine Dq ya ?_;refine Dq ya ?_;refine Dq ya ?_;refine WD.next Ki (fY 8 9 10) ?_;obtain rfl:=oi hF;refine W.lr (fn:=Tryz.f252) (vs:=[.slice (kY A2 c3 (1:Int).toNat 1) ((s4.drop (1:Int).toNat)).length (c3 - (1:Int).toNat),.int .i64 eD,.int .i64 0]) Tryz.results252 ⟨.tmp rfl,⟨.tmp rfl,⟨.tmp rfl,trivial⟩⟩⟩ (fun _ _ h=>h) (fun wz hw=>?_);exact hR _ _ ⟨((IJ A2),(kY A2 c3 (1:Int).toNat 1),(c3 - (1:Int).toNat)),trivial,rfl,((St.O' (enc:=(eI .i64)) (sz:=1) (A':=(kY A2 c3 (1:Int).toNat 1)) (cap':=(c3 - (1:Int).toNat)) (ys:=(s4.drop (1:Int).toNat)) (fun _=>rfl) hw (i:=1) rfl (fun wz h=>bi.Lt h (AG (zA)).1)).cY 2 [1] rfl)⟩
def pJ(N:Nat)(k1:jk)(s4:(List Int))(li:Int)(nP:Int):Option ((List Int)×Int×Int):=cond (decide (li=5)) (bd (oB N k1.many s4 nP) fun r8=>some (r8.1,0,r8.2)) (cond (decide (((s4).length:Int)=0)) (some (s4,(-1),0)) (ck (bB (((s4).length:Int) - 1)) <| ck (pB (s4).length 0 (((s4).length:Int) - 1)) <| ck (bB (((s4).length:Int) - 1)) <| bd (ix s4 (((s4).length:Int) - 1)) fun jT=>some ((s4.take (((s4).length:Int) - 1).toNat),jT,0)))
theorem EJ{N k1 s4 li nP A2 c3 res}(hF:pJ N k1 s4 li nP=some res){w0 w T}(hw:St w0.heap.size w0 (cR (eI .i64) 1 A2 c3 3 s4::T) w):Calls Tryz.prog 254 (List.toArray [.agg (pR k1).toArray,.slice A2 (s4).length c3,.int .i64 li,.int .i64 nP]) w (fun e w'=>∃g:(Option Addr×Nat),(True)∧e= .returned (.tuple #[.slice g.1 (res.1).length g.2,.int .i64 res.2.1,.int .i64 res.2.2])∧St w0.heap.size w0 (cR (eI .i64) 1 g.1 g.2 3 res.1::T) w'):=by
 refine We 38 Tryz.func254 hw fun R hR=>?_;refine a_ ?_;refine WL.step (WO.il (.pl rfl) rfl fun b7=>?_);refine a_ ?_;refine Wc hF (fun ju hF=>?_) (fun ju hF=>?_)
 ·refine a_ ?_;refine WL.q (Y.Eo (ft:=198) Tryz.underlying201 rfl Dz aeI (.pl rfl) (i':=0) rfl) rfl ?_;refine WL.q (Y.UV Tryz.underlying198 Dz (.pl rfl)) rfl ?_;obtain⟨r8,sy,hF⟩:=al hF;refine a_ ?_;refine kC Tn (v3 rfl rfl rfl) (fun _ hw=>yZ sy (sw hw)) ?_;rintro⟨A9,c10⟩ -;obtain rfl:=oi hF;refine a_ ?_;exact rG (A9,c10)
 ·refine a_ ?_;refine Wc hF (fun wt hF=>?_) (fun wt hF=>?_)
  ·obtain rfl:=oi hF;refine a_ ?_;exact rG (A2,c3)
  ·refine W.iI (by kernel_rfl) (by kernel_rfl) fun R9 Ki=>?_;refine Dq ym ?_;refine Dq ym ?_;obtain⟨zA,hF⟩:=bx hF;refine WD.q (Y.sub (.pl rfl) (.pl rfl) (nj (zA))) rfl ?_;obtain⟨aeL,hF⟩:=bx hF;refine WD.q (Y.Lu Tryz.underlying29 bh (i:=1) rfl (.pl rfl) rfl (.pl rfl) (aeL)) rfl ?_;refine Dq ym ?_;refine Dq ym ?_;obtain⟨YV,hF⟩:=bx hF;refine WD.q (Y.sub (.pl rfl) (.pl rfl) (nj (YV))) rfl ?_;obtain⟨jT,sr,hF⟩:=al hF;refine WD.q (Y.mU Tryz.underlying29 bh (i:=1) rfl (.pl rfl) rfl (.pl rfl) (ai (sr))) rfl ?_;refine WD.q (Y.gD (enc:=(eI .i64)) (v:=.int .i64 jT) (a:=jT) (idx:=(((s4).length:Int) - 1)) (j:=0) Tryz.underlying3 rfl (fun _=>rfl) (i:=1) rfl (.pl rfl) (aI (sr)) rfl rfl) rfl ?_;refine Dq ya ?_;refine Dq ya ?_;refine Dq ya ?_;refine WD.next Ki (fY 8 9 10) ?_;obtain rfl:=oi hF;refine W.lr (fn:=Tryz.f254) (vs:=[.slice A2 ((s4.take (((s4).length:Int) - 1).toNat)).length c3,.int .i64 jT,.int .i64 0]) Tryz.results254 ⟨.tmp rfl,⟨.tmp rfl,⟨.tmp rfl,trivial⟩⟩⟩ (fun _ _ h=>h) (fun wz hw=>?_);exact hR _ _ ⟨(A2,c3),trivial,rfl,((St.aaH (enc:=(eI .i64)) (sz:=1) (j:=(((s4).length:Int) - 1).toNat) hw (fun _=>rfl) (i:=1) rfl).cY 2 [1] rfl)⟩
def cmp_isNaN_int(N:Nat)(x1:Int):Option Unit:=some ()
theorem qH{N x1 res}(hF:cmp_isNaN_int N x1=some res)(w:World):Pure Tryz.prog 148 [.int .i64 x1] w (.bool (!(decide (x1=x1)))):=by
 refine We 6 Tryz.func148 (St.start w) fun R hR=>?_;obtain rfl:=oi hF;refine a_ ?_;exact rP
def cmp_Less_int(N:Nat)(x1:Int)(y2:Int):Option Unit:=bd (cmp_isNaN_int N x1) fun r3=>bd ((cond ((!(decide (x1=x1)))==true) (cmp_isNaN_int N y2) (some ()))) fun r4=>some ()
theorem Kj{N x1 y2 res}(hF:cmp_Less_int N x1 y2=some res)(w:World):Pure Tryz.prog 219 [.int .i64 x1,.int .i64 y2] w (.bool (((!(decide (x1=x1)))&&(!(!(decide (y2=y2)))))||(decide (x1 < y2)))):=by
 refine We 17 Tryz.func219 (St.start w) fun R hR=>?_;obtain⟨r3,Gb,hF⟩:=al hF;refine a_ ?_;refine kP HD (v1 rfl) (fun wz hw=>qH Gb wz) ?_;obtain⟨r4,Pr,hF⟩:=al hF;refine a_ ?_;refine WL.gP (.pl rfl rfl rfl) HD (fun hg=>(.cons (.gd (hg) rfl) (.nil))) rfl (fun hg wz hw=>qH (fq hg Pr) wz) ?_;obtain rfl:=oi hF;refine a_ ?_;exact rP
def u6(N:Nat)(x1:Int):Option Unit:=some ()
theorem xo{N x1 res}(hF:u6 N x1=some res)(w:World):Pure Tryz.prog 260 [.int .i64 x1] w (.bool (!(decide (x1=x1)))):=by
 refine We 6 Tryz.func260 (St.start w) fun R hR=>?_;obtain rfl:=oi hF;refine a_ ?_;exact rP
def oC(N:Nat)(x1:(List Int))(kO:Int):(Int×Int)→Option ((Int×Int) ⊕ Int)|(i8,j9)=>cond (decide (i8 < j9)) (ck (bB (i8+j9)) <| bd (ix x1 (IntKind.i64.wrap (kx .u64 (IntKind.u64.wrap (i8+j9)) 1))) fun dM=>bd (cmp_Less_int N dM kO) fun jV=>cond (((!(decide (dM=dM)))&&(!(!(decide (kO=kO)))))||(decide (dM < kO))) (ck (bB ((IntKind.i64.wrap (kx .u64 (IntKind.u64.wrap (i8+j9)) 1))+1)) <| some (.inl (((IntKind.i64.wrap (kx .u64 (IntKind.u64.wrap (i8+j9)) 1))+1),j9))) (some (.inl (i8,(IntKind.i64.wrap (kx .u64 (IntKind.u64.wrap (i8+j9)) 1)))))) (some (.inr i8))
def jE(N:Nat)(x1:(List Int))(kO:Int):Option (Int×Bool):=bd (α:=Int) (iter (oC N x1 kO) N (0,((x1).length:Int))) <| fun i7=>bd ((cond ((decide (i7 < ((x1).length:Int)))==true) (ix x1 i7) (some 0))) fun jT=>bd ((cond (((decide (i7 < ((x1).length:Int)))==true)&&((decide (jT=kO))==false)) (ix x1 i7) (some 0))) fun jJ=>bd ((cond (((decide (i7 < ((x1).length:Int)))==true)&&((decide (jT=kO))==false)) (u6 N jJ) (some ()))) fun r16=>bd ((cond ((((decide (i7 < ((x1).length:Int)))==true)&&((decide (jT=kO))==false))&&((!(decide (jJ=jJ)))==true)) (u6 N kO) (some ()))) fun rL=>some (i7,((decide (i7 < ((x1).length:Int)))&&((decide (jT=kO))||((!(decide (jJ=jJ)))&&(!(decide (kO=kO)))))))
theorem wH{N x1 kO res}(hF:jE N x1 kO=some res)(w:World){v5}(hs4:bi (eI .i64) 1 w v5 x1):Pure Tryz.prog 257 [v5,.int .i64 kO] w (.tuple #[.int .i64 res.1,.bool res.2]):=by
 obtain⟨A2,c3,rfl,jy,hs4⟩:=hs4.form;refine We 54 Tryz.func257 (St.start w) fun R hR=>?_;obtain⟨o4,fU,hF⟩:=al hF;refine b_ ?_;refine W.gh (fun a=>[(7,.int .i64 a)]) (fun a=>[]) (fun a=>a=o4) (fY 0 1 6) (fun K5 ws=>?_) ?_
 ·refine a_ ?_;refine xP fU (fun a b=>[(7,.int .i64 a),(8,.int .i64 b)]) (fun a b=>[]) (fY 0 1 6) fun i8 j9 k6 t6 bF iE K7 lF=>?_;refine a_ ?_;refine Wc bF (fun iL bF=>?_) (fun iL bF=>?_)
  ·obtain⟨Gq,bF⟩:=bx bF;obtain⟨dM,yh,bF⟩:=al bF;obtain⟨jV,yi,bF⟩:=al bF;refine a_ ?_;refine kP abG (v2 rfl rfl) (fun wz hw=>Kj yi wz) ?_;refine a_ ?_;refine Wc bF (fun jh bF=>?_) (fun jh bF=>?_)
   ·obtain⟨YV,bF⟩:=bx bF;refine a_ ?_;exact g2 lF (oj bF iE)
   ·refine a_ ?_;exact g2 lF (oj bF iE)
  ·refine a_ ?_;exact h1 ws (oj bF iE)
 ·rintro i7 rfl;obtain⟨jT,sr,hF⟩:=al hF;obtain⟨jJ,rC,hF⟩:=al hF;obtain⟨r16,mF,hF⟩:=al hF;refine a_ ?_;refine WL.gP (.gd rfl rfl rfl) Tp (fun hg=>(.cons (.gd (hg) rfl) (.nil))) rfl (fun hg wz hw=>xo (fq hg mF) wz) ?_;obtain⟨rL,Bh,hF⟩:=al hF;refine a_ ?_;refine WL.gP (.gd rfl rfl rfl) Tp (fun hg=>(.cons (.gd (hg) rfl) (.nil))) rfl (fun hg wz hw=>xo (fq hg Bh) wz) ?_;refine WL.g (.gd rfl rfl rfl) (fun hg=>Y.and (.gd (hg) rfl) (fun h2=>.gd (uO hg (SH h2)) rfl)) rfl ?_;refine WL.g (.pl rfl rfl rfl) (fun hg=>Y.or (.gd (hg) rfl) (fun h2=>.gd (uO hg (JC h2)) rfl)) rfl ?_;obtain rfl:=oi hF;refine a_ ?_;exact rP
def ahk:Go.Shelf.Ren:=⟨fun x=>match x with|21=>258|27=>261|28=>262|35=>263|39=>264|n=>n,fun x=>match x with|22=>29|3=>3|4=>4|0=>0|n=>n,fun x=>x⟩
theorem aeM:Lays2.n21 Tryz.prog ahk where
 mixed:=by kernel_rfl
 f21:=Tryz.func258.trans (congrArg some (by kernel_rfl))
 f27:=Tryz.func261.trans (congrArg some (by kernel_rfl))
 f28:=Tryz.func262.trans (congrArg some (by kernel_rfl))
 f35:=Tryz.func263.trans (congrArg some (by kernel_rfl))
 f39:=Tryz.func264.trans (congrArg some (by kernel_rfl))
 t0:=Tryz.underlying0
 a0:=Tryz.isAgg0
 z0:=Tryz.sizeOf0
 v0:=Tryz.zeroValue0
 t3:=Tryz.underlying3
 a3:=Tryz.isAgg3
 z3:=Tryz.sizeOf3
 v3:=Tryz.zeroValue3
 t4:=Tryz.underlying4
 a4:=Tryz.isAgg4
 z4:=Tryz.sizeOf4
 v4:=Tryz.zeroValue4
 t22:=Tryz.underlying29
 a22:=Tryz.isAgg29
 z22:=Tryz.sizeOf29
 v22:=Tryz.zeroValue29
 i3:=by kernel_rfl
theorem EK{N:Nat}{mN:(List Int)}{W6:Int}{Tt:(List Int)}{nG:Option Addr}{lP:Nat}{AI6:Option Addr}{cI7:Nat}{res:(List Int)}(hF:kL N mN W6 Tt=some res){w0 w:World}{T:List Chunk}(hw:St w0.heap.size w0 (cR (eI .i64) 1 nG lP 3 mN::cR (eI .i64) 1 AI6 cI7 3 Tt::T) w):
  Calls Tryz.prog 258 (List.toArray [.slice nG (mN).length lP,.int .i64 W6,.slice AI6 (Tt).length cI7]) w (fun e w'=>∃g:(Option Addr×Nat),(True)∧e= .returned (.slice g.1 (res).length g.2)∧St w0.heap.size w0 (cR (eI .i64) 1 g.1 g.2 3 res::T) w'):=Pe aeM hF hw
def ahl:Go.Shelf.Ren:=⟨fun x=>match x with|23=>259|n=>n,fun x=>match x with|22=>29|3=>3|4=>4|0=>0|n=>n,fun x=>x⟩
theorem aeN:Lays2.n23 Tryz.prog ahl where
 mixed:=by kernel_rfl
 f23:=Tryz.func259.trans (congrArg some (by kernel_rfl))
 t0:=Tryz.underlying0
 a0:=Tryz.isAgg0
 z0:=Tryz.sizeOf0
 v0:=Tryz.zeroValue0
 t3:=Tryz.underlying3
 a3:=Tryz.isAgg3
 z3:=Tryz.sizeOf3
 v3:=Tryz.zeroValue3
 t4:=Tryz.underlying4
 a4:=Tryz.isAgg4
 z4:=Tryz.sizeOf4
 v4:=Tryz.zeroValue4
 t22:=Tryz.underlying29
 a22:=Tryz.isAgg29
 z22:=Tryz.sizeOf29
 v22:=Tryz.zeroValue29
 i3:=by kernel_rfl
theorem EL{N:Nat}{mN:(List Int)}{W6:Int}{Tt:Int}{nG:Option Addr}{lP:Nat}{res:(List Int)}(hF:slices_Delete_int N mN W6 Tt=some res){w0 w:World}{T:List Chunk}(hw:St w0.heap.size w0 (cR (eI .i64) 1 nG lP 3 mN::T) w):
  Calls Tryz.prog 259 (List.toArray [.slice nG (mN).length lP,.int .i64 W6,.int .i64 Tt]) w (fun e w'=>∃g:(Option Addr×Nat),(True)∧e= .returned (.slice g.1 (res).length g.2)∧St w0.heap.size w0 (cR (eI .i64) 1 g.1 g.2 3 res::T) w'):=Pg aeN hF hw
def rQ(N:Nat)(a1:jk)(s4:(List Int))(li:Int)(nP:Int):Option ((List Int)×Int×Int):=bd (jE N s4 nP) fun r8=>cond (((decide (li=7))&&(!r8.2))&&(decide (((s4).length:Int)=50))) (some ([],0,2)) (cond ((decide (li=7))&&(!r8.2)) (bd (kL N s4 r8.1 ([nP]:List Int)) fun jw=>some (jw,1,0)) (cond ((decide (li=7))||(!r8.2)) (some (s4,0,0)) (cond (decide (li=8)) (ck (bB (r8.1+1)) <| bd (slices_Delete_int N s4 r8.1 (r8.1+1)) fun oD=>some (oD,1,0)) (some (s4,1,0)))))
theorem Gr{N a1 s4 li nP A2 c3 res}(hF:rQ N a1 s4 li nP=some res){w0 w T}(hw:St w0.heap.size w0 (cR (eI .i64) 1 A2 c3 3 s4::T) w):Calls Tryz.prog 255 (List.toArray [.agg (pR a1).toArray,.slice A2 (s4).length c3,.int .i64 li,.int .i64 nP]) w (fun e w'=>∃g:(Option Addr×Nat),(True)∧e= .returned (.tuple #[.slice g.1 (res.1).length g.2,.int .i64 res.2.1,.int .i64 res.2.2])∧St w0.heap.size w0 (cR (eI .i64) 1 g.1 g.2 3 res.1::T) w'):=by
 refine We 60 Tryz.func255 hw fun R hR=>?_;refine a_ ?_;refine WL.step (WO.il (.pl rfl) rfl fun b7=>?_);obtain⟨r8,sy,hF⟩:=al hF;refine a_ ?_;refine kP abN (v2 rfl rfl) (fun wz hw=>wH sy wz (so hw)) ?_;refine a_ ?_;refine Wc hF (fun fT hF=>?_) (fun fT hF=>?_)
 ·obtain rfl:=oi hF;refine a_ ?_;exact rG (none,0)
 ·refine a_ ?_;refine Wc hF (fun yV hF=>?_) (fun yV hF=>?_)
  ·refine a_ ?_;refine WL.step (WO.cC (enc:=(eI .i64)) (ys:=([nP]:List Int)) Tryz.underlying29 ut (.cons (.pl rfl) (.nil)) rfl (fun _=>rfl) rfl rfl (by decide) (by decide) rfl fun b9=>?_);obtain⟨jw,qD,hF⟩:=al hF;refine kC abO (v3 rfl rfl rfl) (fun _ hw=>EK qD (sw hw)) ?_;rintro⟨aiz,aiA⟩ -;obtain rfl:=oi hF;refine a_ ?_;exact rG (aiz,aiA)
  ·refine a_ ?_;refine Wc hF (fun sB hF=>?_) (fun sB hF=>?_)
   ·obtain rfl:=oi hF;refine a_ ?_;exact rG (A2,c3)
   ·refine a_ ?_;refine Wc hF (fun ji hF=>?_) (fun ji hF=>?_)
    ·obtain⟨YV,hF⟩:=bx hF;obtain⟨oD,Br,hF⟩:=al hF;refine a_ ?_;refine kC abP (v3 rfl rfl rfl) (fun _ hw=>EL Br (sw hw)) ?_;rintro⟨aiB,aiC⟩ -;obtain rfl:=oi hF;refine a_ ?_;exact rG (aiB,aiC)
    ·obtain rfl:=oi hF;refine a_ ?_;exact rG (A2,c3)
def oE(N:Nat)(a1:js)(s2:(List Int))(x7:Int)(x8:Int):Option ((List Int)×Int×Int):=bd (ix s2 0) fun eW=>cond (decide (eW=1000)) (some ([],0,2)) (ck (bB (eW+1)) <| some (([(eW+1)]:List Int),eW,0))
theorem DD{N a1 s2 x7 x8 res}(hF:oE N a1 s2 x7 x8=some res)(w:World){v6}(hs5:bi (eI .i64) 1 w v6 s2):Made Tryz.prog 265 [.agg (z7 a1).toArray,v6,.int .i64 x7,.int .i64 x8] w (fun g:(Option Addr×Nat)=>.tuple #[.slice g.1 (res.1).length g.2,.int .i64 res.2.1,.int .i64 res.2.2]) (fun g=>[cR (eI .i64) 1 g.1 g.2 3 res.1]) (fun g=>True):=by
 obtain⟨A3,c4,rfl,PZ,hs5⟩:=hs5.form;refine We 23 Tryz.func265 (St.start w) fun R hR=>?_;refine a_ ?_;refine WL.step (WO.il (.pl rfl) rfl fun b9=>?_);obtain⟨eW,EH,hF⟩:=al hF;refine a_ ?_;refine Wc hF (fun ju hF=>?_) (fun ju hF=>?_)
 ·obtain rfl:=oi hF;refine a_ ?_;exact rG (none,0)
 ·refine b_ ?_;refine W.xL 10 (by kernel_rfl) fun K6 ol=>?_;refine Xp 0 rfl (fun _ _=>ym) ?_;refine Xt 1 rfl (Y.mT Tryz.underlying29 bh hs5 (.pl rfl) (.pl rfl) (ai (EH))) ?_;refine Xt 2 rfl (Y.pE (enc:=(eI .i64)) (v:=.int .i64 eW) (j:=0) Tryz.underlying3 rfl hs5 (.pl rfl) (EH) rfl rfl) ?_;obtain⟨zA,hF⟩:=bx hF;refine Xp 3 rfl (fun _ _=>Y.add (.pl rfl) (.pl rfl) (nj (zA))) ?_;refine Xp 5 rfl (fun _ _=>ym) ?_;refine Xt 6 rfl (Y.mT Tryz.underlying29 bh hs5 (.pl rfl) (.pl rfl) (ai (EH))) ?_;refine Xt 7 rfl (Y.pE (enc:=(eI .i64)) (v:=.int .i64 eW) (j:=0) Tryz.underlying3 rfl hs5 (.pl rfl) (EH) rfl rfl) ?_;refine Xo 4 rfl (WO.cC (enc:=(eI .i64)) (ys:=([(eW+1)]:List Int)) Tryz.underlying29 ut (.cons (.pl rfl) (.nil)) rfl (fun _=>rfl) rfl rfl (by decide) (by decide) rfl fun na=>?_);refine Xp 8 rfl (fun _ _=>ya) ?_;refine Xp 9 rfl (fun _ _=>ya) ?_;refine Xs rfl (WO.q (Y.assign (.pl rfl)) rfl ?_) (fun _ hw=>St.tail [_] hw);refine WA.done (by kernel_rfl) ?_;refine KK.next ol (fY 8 9 10) ?_;obtain rfl:=oi hF;exact rG ((some (Addr.mk na 0 none)),(([(eW+1)]:List Int)).length)
def nh(N:Nat)(jI:Int)(s2:(List Int))(yJ:Int)(EM:Int):Option ((List Int)×Int×Int):=bd (wF N jI s2) fun r9=>cond (!(decide (r9=0))) (some ([],0,r9)) (bd (jH N jI yJ) fun jw=>bd ((cond ((!jw)==false) (cQ N yJ EM) (some false))) fun fa=>cond ((!jw)||(!fa)) (some ([],0,3)) (bd (α:=((List Int)×Int×Int)) (bd (ql N jI) fun kV=>cond (decide (kV=197)) (ck (eY 8 (s2).length) <| bd (mW N (js.mk (cW.mk)) s2 yJ EM) fun fZ=>some (fZ.1,fZ.2,0)) (cond (decide (kV=200)) (ck (eY 8 (s2).length) <| bd (pI N (jk.mk (cW.mk)) s2 yJ EM) fun rR=>some (rR.1,rR.2.1,rR.2.2)) (cond (decide (kV=201)) (ck (eY 8 (s2).length) <| bd (pJ N (jk.mk (cW.mk)) s2 yJ EM) fun mc=>some (mc.1,mc.2.1,mc.2.2)) (cond (decide (kV=202)) (ck (eY 8 (s2).length) <| bd (rQ N (jk.mk (cW.mk)) s2 yJ EM) fun Fx=>some (Fx.1,Fx.2.1,Fx.2.2)) (cond (decide (kV=203)) (ck (eY 8 (s2).length) <| bd (oE N (js.mk (cW.mk)) s2 yJ EM) fun y_=>some (y_.1,y_.2.1,y_.2.2)) (none)))))) <| fun(P5,aaT,e17)=>ck (eY 8 (P5).length) <| some (P5,aaT,e17)))
theorem DE{N jI s2 yJ EM res}(hF:nh N jI s2 yJ EM=some res)(w:World){v6}(hs5:bi (eI .i64) 1 w v6 s2):Made Tryz.prog 66 [.int .i64 jI,v6,.int .i64 yJ,.int .i64 EM] w (fun g:(Option Addr×Nat)=>.tuple #[.slice g.1 (res.1).length g.2,.int .i64 res.2.1,.int .i64 res.2.2]) (fun g=>[cR (eI .i64) 1 g.1 g.2 3 res.1]) (fun g=>True):=by
 obtain⟨A3,c4,rfl,PZ,hs5⟩:=hs5.form;refine We 49 Tryz.func66 (St.start w) fun R hR=>?_;obtain⟨r9,Bj,hF⟩:=al hF;refine a_ ?_;refine kP abB (v2 rfl rfl) (fun wz hw=>Kh Bj wz (hs5.mono hw)) ?_;refine a_ ?_;refine Wc hF (fun fT hF=>?_) (fun fT hF=>?_)
 ·obtain rfl:=oi hF;refine a_ ?_;exact rG (none,0)
 ·obtain⟨jw,qD,hF⟩:=al hF;refine a_ ?_;refine kP F9 (v2 rfl rfl) (fun wz hw=>ow qD wz) ?_;obtain⟨fa,kz,hF⟩:=al hF;refine a_ ?_;refine WL.gP (.pl rfl rfl rfl) F_ (fun hg=>(.cons (.gd (hg) rfl) (.cons (.gd (hg) rfl) (.nil)))) rfl (fun hg wz hw=>lm (fq hg kz) wz) ?_;refine a_ ?_;refine Wc hF (fun ip hF=>?_) (fun ip hF=>?_)
  ·obtain rfl:=oi hF;refine a_ ?_;exact rG (none,0)
  ·obtain⟨sA,bk,hF⟩:=al hF;refine b_ ?_;refine W.aaL (fun a b c d f g=>[(12,.slice f (a).length g),(13,.int .i64 b),(14,.int .i64 c)]) (fun a b c d f g=>[cV d (eI .i64) 1 f g a]) (fun a b c d f g=>(a,b,c)=sA) (.nil) (fun zZ gr=>?_) ?_
   ·refine W.rq 16 (by kernel_rfl) ?_;refine Xp 0 rfl (fun _ _=>ym) ?_;refine Xp 2 rfl (fun _ _=>ym) ?_;refine Xp 4 rfl (fun _ _=>ym) ?_;refine Xp 5 rfl (fun _ _=>ym) ?_;obtain⟨kV,Bs,bk⟩:=al bk;refine Xo 1 rfl (WO.jc PO (.cons (.pl rfl) (.nil)) rfl (fun wz hw=>Bp (Bs) wz) ?_);refine gq (decide (kV=197)) (fun CY=>?_) (fun CY=>?_)
    ·replace bk:=km CY bk;refine Xp 6 rfl (fun _ _=>Y.fn (f:=.method "alibi/object.step") (.cons (aD.vF (k:=197) (of_decide_eq_true CY) rfl (.pl rfl)) (.nil))) ?_;refine Xp 7 rfl (fun _ _=>Y.Lr Sk (.pl rfl)) ?_;refine Xp 8 rfl (fun _ _=>ym) ?_;obtain⟨zC,bk⟩:=bx bk;refine Xo 3 rfl (WO.wg AI (.cons (.pl rfl) (.nil)) rfl (fun wz hw=>ig (zC) wz (hs5.mono hw)) ?_);rintro⟨Dv,c21⟩ -;obtain⟨fZ,nI,bk⟩:=al bk;refine Xo 9 rfl (WO.Hr (γ:=(Option Addr×Nat)) (u:=.agg #[]) (v:=.agg #[]) (fun g=>.tuple #[.slice g.1 (fZ.1).length g.2,.int .i64 fZ.2,.int .i64 0]) (fun g=>[cR (eI .i64) 1 g.1 g.2 3 fZ.1]) (fun g=>True) PT abH (aD.vF (k:=197) (of_decide_eq_true CY) rfl (.pl rfl)) (.cons (.pl rfl) (.cons (.pl rfl) (.cons (.pl rfl) (.nil)))) rfl (fun wz hw=>B' (T:=[]) (nI) (hw.pick [0] rfl)) ?_) (fun _ hw=>St.tail [_] hw);rintro⟨z6,c24⟩ -;refine Xp 10 rfl (fun _ _=>ym) ?_;refine Xp 11 rfl (fun _ _=>yx) ?_;refine Xp 12 rfl (fun _ _=>yx) ?_;refine Xp 13 rfl (fun _ _=>yx) ?_;refine Xp 14 rfl (fun _ _=>ya) ?_;refine Xp 15 rfl (fun _ _=>ya) ?_;refine Xs rfl (WO.q (Y.assign (.pl rfl)) rfl ?_) (fun _ hw=>St.tail [_] hw);refine WA.done (by kernel_rfl) ?_;exact W.Ho gr fZ.1 fZ.2 0 (IJ z6) z6 c24 (oi bk) kr kr (fun wz hw=>(St.O' (enc:=(eI .i64)) (sz:=1) (A':=z6) (cap':=c24) (ys:=fZ.1) (fun _=>rfl) hw (i:=0) rfl (fun wz h=>h)).pick [0] rfl)
    ·replace bk:=ko CY bk;refine gq (decide (kV=200)) (fun CZ=>?_) (fun CZ=>?_)
     ·replace bk:=km CZ bk;refine Xp 6 rfl (fun _ _=>Y.fn (f:=.method "alibi/object.step") (.cons (aD.vF (k:=200) (of_decide_eq_true CZ) rfl (.pl rfl)) (.nil))) ?_;refine Xp 7 rfl (fun _ _=>Y.Lr Sl (.pl rfl)) ?_;refine Xp 8 rfl (fun _ _=>ym) ?_;obtain⟨ui,bk⟩:=bx bk;refine Xo 3 rfl (WO.wg AI (.cons (.pl rfl) (.nil)) rfl (fun wz hw=>ig (ui) wz (hs5.mono hw)) ?_);rintro⟨DF,DG⟩ -;obtain⟨rR,IX,bk⟩:=al bk;refine Xo 9 rfl (WO.Hr (γ:=(Option Nat×Option Addr×Nat)) (u:=.agg #[]) (v:=.agg #[]) (fun g=>.tuple #[.slice g.2.1 (rR.1).length g.2.2,.int .i64 rR.2.1,.int .i64 rR.2.2]) (fun g=>[cV g.1 (eI .i64) 1 g.2.1 g.2.2 rR.1]) (fun g=>True) PU abJ (aD.vF (k:=200) (of_decide_eq_true CZ) rfl (.pl rfl)) (.cons (.pl rfl) (.cons (.pl rfl) (.cons (.pl rfl) (.nil)))) rfl (fun wz hw=>EI (T:=[]) (IX) (hw.pick [0] rfl)) ?_) (fun _ hw=>St.tail [_] hw);rintro⟨o29,Kk,c31⟩ -;refine Xp 10 rfl (fun _ _=>ym) ?_;refine Xp 11 rfl (fun _ _=>yx) ?_;refine Xp 12 rfl (fun _ _=>yx) ?_;refine Xp 13 rfl (fun _ _=>yx) ?_;refine Xp 14 rfl (fun _ _=>ya) ?_;refine Xp 15 rfl (fun _ _=>ya) ?_;refine Xs rfl (WO.q (Y.assign (.pl rfl)) rfl ?_) (fun _ hw=>St.tail [_] hw);refine WA.done (by kernel_rfl) ?_;refine a_ ?_;exact h6 gr (oi bk)
     ·replace bk:=ko CZ bk;refine gq (decide (kV=201)) (fun C0=>?_) (fun C0=>?_)
      ·replace bk:=km C0 bk;refine Xp 6 rfl (fun _ _=>Y.fn (f:=.method "alibi/object.step") (.cons (aD.vF (k:=201) (of_decide_eq_true C0) rfl (.pl rfl)) (.nil))) ?_;refine Xp 7 rfl (fun _ _=>Y.Lr Sn (.pl rfl)) ?_;refine Xp 8 rfl (fun _ _=>ym) ?_;obtain⟨Gs,bk⟩:=bx bk;refine Xo 3 rfl (WO.wg AI (.cons (.pl rfl) (.nil)) rfl (fun wz hw=>ig (Gs) wz (hs5.mono hw)) ?_);rintro⟨J8,Na⟩ -;obtain⟨mc,IY,bk⟩:=al bk;refine Xo 9 rfl (WO.Hr (γ:=(Option Addr×Nat)) (u:=.agg #[]) (v:=.agg #[]) (fun g=>.tuple #[.slice g.1 (mc.1).length g.2,.int .i64 mc.2.1,.int .i64 mc.2.2]) (fun g=>[cR (eI .i64) 1 g.1 g.2 3 mc.1]) (fun g=>True) PV abK (aD.vF (k:=201) (of_decide_eq_true C0) rfl (.pl rfl)) (.cons (.pl rfl) (.cons (.pl rfl) (.cons (.pl rfl) (.nil)))) rfl (fun wz hw=>EJ (T:=[]) (IY) (hw.pick [0] rfl)) ?_) (fun _ hw=>St.tail [_] hw);rintro⟨Gt,c37⟩ -;refine Xp 10 rfl (fun _ _=>ym) ?_;refine Xp 11 rfl (fun _ _=>yx) ?_;refine Xp 12 rfl (fun _ _=>yx) ?_;refine Xp 13 rfl (fun _ _=>yx) ?_;refine Xp 14 rfl (fun _ _=>ya) ?_;refine Xp 15 rfl (fun _ _=>ya) ?_;refine Xs rfl (WO.q (Y.assign (.pl rfl)) rfl ?_) (fun _ hw=>St.tail [_] hw);refine WA.done (by kernel_rfl) ?_;exact W.Ho gr mc.1 mc.2.1 mc.2.2 (IJ Gt) Gt c37 (oi bk) kr kr (fun wz hw=>(St.O' (enc:=(eI .i64)) (sz:=1) (A':=Gt) (cap':=c37) (ys:=mc.1) (fun _=>rfl) hw (i:=0) rfl (fun wz h=>h)).pick [0] rfl)
      ·replace bk:=ko C0 bk;refine gq (decide (kV=202)) (fun P6=>?_) (fun P6=>?_)
       ·replace bk:=km P6 bk;refine Xp 6 rfl (fun _ _=>Y.fn (f:=.method "alibi/object.step") (.cons (aD.vF (k:=202) (of_decide_eq_true P6) rfl (.pl rfl)) (.nil))) ?_;refine Xp 7 rfl (fun _ _=>Y.Lr Ss (.pl rfl)) ?_;refine Xp 8 rfl (fun _ _=>ym) ?_;obtain⟨aeO,bk⟩:=bx bk;refine Xo 3 rfl (WO.wg AI (.cons (.pl rfl) (.nil)) rfl (fun wz hw=>ig (aeO) wz (hs5.mono hw)) ?_);rintro⟨A39,c40⟩ -;obtain⟨Fx,aiD,bk⟩:=al bk;refine Xo 9 rfl (WO.Hr (γ:=(Option Addr×Nat)) (u:=.agg #[]) (v:=.agg #[]) (fun g=>.tuple #[.slice g.1 (Fx.1).length g.2,.int .i64 Fx.2.1,.int .i64 Fx.2.2]) (fun g=>[cR (eI .i64) 1 g.1 g.2 3 Fx.1]) (fun g=>True) PW abL (aD.vF (k:=202) (of_decide_eq_true P6) rfl (.pl rfl)) (.cons (.pl rfl) (.cons (.pl rfl) (.cons (.pl rfl) (.nil)))) rfl (fun wz hw=>Gr (T:=[]) (aiD) (hw.pick [0] rfl)) ?_) (fun _ hw=>St.tail [_] hw);rintro⟨Tu,Tv⟩ -;refine Xp 10 rfl (fun _ _=>ym) ?_;refine Xp 11 rfl (fun _ _=>yx) ?_;refine Xp 12 rfl (fun _ _=>yx) ?_;refine Xp 13 rfl (fun _ _=>yx) ?_;refine Xp 14 rfl (fun _ _=>ya) ?_;refine Xp 15 rfl (fun _ _=>ya) ?_;refine Xs rfl (WO.q (Y.assign (.pl rfl)) rfl ?_) (fun _ hw=>St.tail [_] hw);refine WA.done (by kernel_rfl) ?_;exact W.Ho gr Fx.1 Fx.2.1 Fx.2.2 (IJ Tu) Tu Tv (oi bk) kr kr (fun wz hw=>(St.O' (enc:=(eI .i64)) (sz:=1) (A':=Tu) (cap':=Tv) (ys:=Fx.1) (fun _=>rfl) hw (i:=0) rfl (fun wz h=>h)).pick [0] rfl)
       ·replace bk:=ko P6 bk;refine gq (decide (kV=203)) (fun P7=>?_) (fun P7=>?_)
        ·replace bk:=km P7 bk;refine Xp 6 rfl (fun _ _=>Y.fn (f:=.method "alibi/object.step") (.cons (aD.vF (k:=203) (of_decide_eq_true P7) rfl (.pl rfl)) (.nil))) ?_;refine Xp 7 rfl (fun _ _=>Y.Lr Su (.pl rfl)) ?_;refine Xp 8 rfl (fun _ _=>ym) ?_;obtain⟨Vb,bk⟩:=bx bk;refine Xo 3 rfl (WO.wg AI (.cons (.pl rfl) (.nil)) rfl (fun wz hw=>ig (Vb) wz (hs5.mono hw)) ?_);rintro⟨A45,c46⟩ -;obtain⟨y_,YW,bk⟩:=al bk;refine Xo 9 rfl (WO.Hr (γ:=(Option Addr×Nat)) (u:=.agg #[]) (v:=.agg #[]) (fun g=>.tuple #[.slice g.1 (y_.1).length g.2,.int .i64 y_.2.1,.int .i64 y_.2.2]) (fun g=>[cR (eI .i64) 1 g.1 g.2 3 y_.1,cR (eI .i64) 1 A45 c46 3 s2]) (fun g=>True) PX abQ (aD.vF (k:=203) (of_decide_eq_true P7) rfl (.pl rfl)) (.cons (.pl rfl) (.cons (.pl rfl) (.cons (.pl rfl) (.nil)))) rfl (fun wz hw=>(DD (YW) wz (bi.ofRow (fun _=>rfl) hw (i:=0) rfl)).calls hw) ?_) (fun _ hw=>St.tail [_] hw);rintro⟨Gu,c49⟩ -;refine Xp 10 rfl (fun _ _=>ym) ?_;refine Xp 11 rfl (fun _ _=>yx) ?_;refine Xp 12 rfl (fun _ _=>yx) ?_;refine Xp 13 rfl (fun _ _=>yx) ?_;refine Xp 14 rfl (fun _ _=>ya) ?_;refine Xp 15 rfl (fun _ _=>ya) ?_;refine Xs rfl (WO.q (Y.assign (.pl rfl)) rfl ?_) (fun _ hw=>St.tail [_,_] hw);refine WA.done (by kernel_rfl) ?_;exact W.Ho gr y_.1 y_.2.1 y_.2.2 (IJ Gu) Gu c49 (oi bk) kr kr (fun wz hw=>(St.O' (enc:=(eI .i64)) (sz:=1) (A':=Gu) (cap':=c49) (ys:=y_.1) (fun _=>rfl) hw (i:=0) rfl (fun wz h=>h)).pick [0] rfl)
        ·replace bk:=ko P7 bk;exact nomatch bk
   ·rintro P5 aaT e17 o12 fM c14 rfl;obtain⟨P8,hF⟩:=bx hF;refine a_ ?_;refine kM AI (v1 rfl) (fun wz hw=>ig P8 wz (bi.ofV (enc:=(eI .i64)) (sz:=1) hw (i:=0) rfl)) ?_;rintro⟨A51,c52⟩ -;obtain rfl:=oi hF;refine a_ ?_;exact rG (A51,c52)
def ob(N:Nat)(self:(List Int)→(List Call)→Rel→(List (List Int))→Int→(List Step)→(List (ByteArray×Bool))→Option ((List (List Int))×Int×(List Step)×(List (ByteArray×Bool))×Bool))(bO:(List Int))(bX:(List Call))(cO:Rel)(cc:(List (List Int)))(ct:Int)(dy:(List Step))(di:(List (ByteArray×Bool)))(i21:Int):Option ((List (List Int))×Int×(List Step)×(List (ByteArray×Bool))×Bool):=bd (ix bX i21) fun aG=>bd ((cond ((decide ((uI .u16 (kx .u16 ct (IntKind.u64.wrap i21)) 1)=1))==false) (ax 12 0 cO.after i21) (some 0))) fun x24=>cond ((decide ((uI .u16 (kx .u16 ct (IntKind.u64.wrap i21)) 1)=1))||(!(decide ((uI .u16 x24 ct)=0)))) (some (cc,ct,dy,di,false)) (bd (ix cc aG.aj) fun x25=>bd (ix bO aG.aj) fun z8=>bd (nh N z8 x25 aG.kind aG.arg) fun ma=>cond ((!(decide (ma.2.2=0)))||((!(decide (aG.aY=(-1))))&&(!(decide (ma.2.1=aG.res))))) (some (cc,ct,dy,di,false)) (ck (eY 16 ((dy).length+(([(Step.mk i21 ma.2.1)]:List Step)).length)) <| bd (self bO bX cO (cc.set aG.aj.toNat ma.1) (pa .u16 ct (mz .u16 1 (IntKind.u64.wrap i21))) (dy++([(Step.mk i21 ma.2.1)]:List Step)) di) fun eF=>cond eF.2.2.2.2 (some (eF.1,eF.2.1,eF.2.2.1,eF.2.2.2.1,true)) (bd (ix eF.1 aG.aj) fun x38=>ck (bB (((eF.2.2.1).length:Int) - 1)) <| ck (pB (eF.2.2.1).length 0 (((eF.2.2.1).length:Int) - 1)) <| some ((eF.1.set aG.aj.toNat x25),(Cg .u16 eF.2.1 (mz .u16 1 (IntKind.u64.wrap i21))),(eF.2.2.1.take (((eF.2.2.1).length:Int) - 1).toNat),eF.2.2.2.1,false))))
theorem C1{N self}(ih:∀{bO bX cO cc ct dy di b1 A3 c4 A7 c8 cg c12 fO iq c17 eL res} (hF:self bO bX cO cc ct dy di=some res) {w0 w T} (hw:St w0.heap.size w0 (aw b1 217 (Value.slice A3 (bO).length c4::(Value.slice A7 (bX).length c8::((cD cO)++(Value.slice cg (cc).length c12::(Value.int .u16 ct::(Value.slice iq (dy).length c17::(Value.map (some eL)::[])))))))::cN eo (eQ (eI .i64) 1 3) 1 cg c12 29 fO cc::cR cx 2 iq c17 128 dy::nE Value.bool (some eL) di::T) w) (hs5:bi (eI .i64) 1 w0 (.slice A3 (bO).length c4) bO) (jU:bi aC 7 w0 (.slice A7 (bX).length c8) bX),Calls Tryz.prog 120 (List.toArray [.pointer (some ⟨b1,0,none⟩)]) w (fun e w'=>∃g:(List Hd×Option Addr×Nat),(True)∧e= .returned (.bool res.2.2.2.2)∧St w0.heap.size w0 (aw b1 217 (Value.slice A3 (bO).length c4::(Value.slice A7 (bX).length c8::((cD cO)++(Value.slice cg (res.1).length c12::(Value.int .u16 res.2.1::(Value.slice g.2.1 (res.2.2.1).length g.2.2::(Value.map (some eL)::[])))))))::cN eo (eQ (eI .i64) 1 3) 1 cg c12 29 g.1 res.1::cR cx 2 g.2.1 g.2.2 128 res.2.2.1::nE Value.bool (some eL) res.2.2.2.1::T) w')){bO bX cO cc ct dy di i21 b1 A3 c4 A7 c8 cg c12 fO iq c17 eL res}(hF:ob N self bO bX cO cc ct dy di i21=some res){w0 w T}(hw:St w0.heap.size w0 (aw b1 217 (Value.slice A3 (bO).length c4::(Value.slice A7 (bX).length c8::((cD cO)++(Value.slice cg (cc).length c12::(Value.int .u16 ct::(Value.slice iq (dy).length c17::(Value.map (some eL)::[])))))))::cN eo (eQ (eI .i64) 1 3) 1 cg c12 29 fO cc::cR cx 2 iq c17 128 dy::nE Value.bool (some eL) di::T) w)(hs5:bi (eI .i64) 1 w0 (.slice A3 (bO).length c4) bO)(jU:bi aC 7 w0 (.slice A7 (bX).length c8) bX):Calls Tryz.prog 157 (List.toArray [.pointer (some ⟨b1,0,none⟩),.int .i64 i21]) w (fun e w'=>∃g:(List Hd×Option Addr×Nat),(True)∧e= .returned (.bool res.2.2.2.2)∧St w0.heap.size w0 (aw b1 217 (Value.slice A3 (bO).length c4::(Value.slice A7 (bX).length c8::((cD cO)++(Value.slice cg (res.1).length c12::(Value.int .u16 res.2.1::(Value.slice g.2.1 (res.2.2.1).length g.2.2::(Value.map (some eL)::[])))))))::cN eo (eQ (eI .i64) 1 3) 1 cg c12 29 g.1 res.1::cR cx 2 g.2.1 g.2.2 128 res.2.2.1::nE Value.bool (some eL) res.2.2.2.1::T) w'):=by
 refine We 144 Tryz.func157 hw fun R hR=>?_;obtain⟨aG,dt,hF⟩:=al hF;refine a_ ?_;refine mA fun J7=>?_;refine b_ ?_;refine iS ?_;refine W.iI (by kernel_rfl) (by kernel_rfl) fun R4 hR4=>?_;refine Dq ym ?_;refine Dq yc ?_;refine Dq yf ?_;refine Dq rK ?_;refine Dq ym ?_;refine WD.q (Y.conv Tryz.underlying3 Tryz.underlying176 (.pl rfl)) rfl ?_;refine WD.q (Y.shr (.pl rfl) (.pl rfl) (II rfl _)) rfl ?_;refine WD.q (Y.uO (.pl rfl) (.pl rfl)) rfl ?_;refine Dq ye ?_;refine Dq ym ?_;refine Dg sf ?_;refine Dg sf ?_;refine Dg AZ ?_;refine Dg O4 ?_;refine WD.g (.pl rfl rfl rfl) (fun hg=>Y.fieldAddr (off:=1) (ft:=167) Tryz.underlying169 rfl PN (.gd (hg) rfl)) rfl ?_;obtain⟨x24,u7,hF⟩:=al hF;refine WD.g (.pl rfl rfl rfl) (fun hg=>Y.OE Tryz.underlying167 uY (.gd (hg) rfl) (.gd (hg) rfl) (uH (fq hg u7))) rfl ?_;refine WD.g (.pl rfl rfl rfl) (fun hg=>Y.lW (v:=.int .u16 x24) Tryz.underlying166 rfl (.gd (hg) rfl) (i:=1) rfl (Di (pre:=(Value.slice A3 (bO).length c4::(Value.slice A7 (bX).length c8::(Value.int .i64 cO.n::[])))) (off:=3) (post:=(Value.slice cg (cc).length c12::(Value.int .u16 ct::(Value.slice iq (dy).length c17::(Value.map (some eL)::[]))))) (a:=cO.after) (enc:=(eI .u16)) (d:=0) (n:=12) (sz:=1) (j:=0) (fun _=>rfl) rfl (qV (fq hg u7)) (qU (fq hg u7)) rfl)) rfl ?_;refine Dg sf ?_;refine Dg AZ ?_;refine Dg O4 ?_;refine Dg O5 ?_;refine WD.g (.pl rfl rfl rfl) (fun hg=>Y.uO (.gd (hg) rfl) (.gd (hg) rfl)) rfl ?_;refine Dg aeh ?_;refine Dq yo ?_;refine WD.next hR4 (lE 0 1 5 40) ?_;refine Wc hF (fun fT hF=>?_) (fun fT hF=>?_)
 ·obtain rfl:=oi hF;refine a_ ?_;exact rG (fO,iq,c17)
 ·refine b_ ?_;refine W.iI (by kernel_rfl) (by kernel_rfl) fun R7 hR7=>?_;refine Dq ym ?_;refine Dq yc ?_;refine Dq yf ?_;refine Dq rK ?_;refine Dq yf ?_;refine Dq fj ?_;obtain⟨x25,uV,hF⟩:=al hF;refine WD.q (Y.xl Tryz.underlying70 ly (i:=2) rfl (.pl rfl) rfl (.pl rfl) (ai (uV))) rfl ?_;refine WD.q (Y.cu (enc:=eo) (h0:=((none,0):Hd)) (v:=.slice (fO.getD aG.aj.toNat ((none,0):Hd)).1 (x25).length (fO.getD aG.aj.toNat ((none,0):Hd)).2) (a:=x25) (idx:=aG.aj) (j:=0) Tryz.underlying29 rfl yF (i:=2) rfl (.pl rfl) (aI (uV)) rfl rfl) rfl ?_;refine Dq ya ?_;refine WD.next hR7 (lE 0 1 5 6) ?_;refine W.xL 20 (by kernel_rfl) fun K8 ng=>?_;refine Xp 0 rfl (fun _ _=>ym) ?_;refine Xp 1 rfl (fun _ _=>yc) ?_;refine Xp 2 rfl (fun _ _=>yf) ?_;refine Xt 3 rfl (rK) ?_;refine Xp 4 rfl (fun _ _=>yf) ?_;refine Xt 5 rfl (fj) ?_;obtain⟨z8,EO,hF⟩:=al hF;refine Xt 6 rfl (Y.mT Tryz.underlying29 bh hs5 (.pl rfl) (.pl rfl) (ai (EO))) ?_;refine Xt 7 rfl (Y.pE (enc:=(eI .i64)) (v:=.int .i64 z8) (j:=0) Tryz.underlying3 rfl hs5 (.pl rfl) (EO) rfl rfl) ?_;refine Xp 8 rfl (fun _ _=>ym) ?_;refine Xp 9 rfl (fun _ _=>yf) ?_;refine Xt 10 rfl (fj) ?_;refine Xp 11 rfl (fun _ _=>yf) ?_;refine Xt 12 rfl (fj) ?_;obtain⟨ma,Ey,hF⟩:=al hF;refine Xo 13 rfl (WO.wg W2 (.cons (.pl rfl) (.cons (.pl rfl) (.cons (.pl rfl) (.cons (.pl rfl) (.nil))))) rfl (fun wz hw=>DE (Ey) wz (bi.inN (pc:=(eI .i64)) (OV:=1) (E2:=3) (h0:=((none,0):Hd)) (fun _=>rfl) hw (i:=2) rfl (uV) (.head _))) ?_);rintro⟨PD,M5⟩ -;refine Xp 14 rfl (fun _ _=>ym) ?_;refine Xp 15 rfl (fun _ _=>yx) ?_;refine Xp 16 rfl (fun _ _=>yx) ?_;refine Xp 17 rfl (fun _ _=>yx) ?_;refine Xp 18 rfl (fun _ _=>ya) ?_;refine Xp 19 rfl (fun _ _=>ya) ?_;refine Xs rfl (WO.q (Y.assign (.pl rfl)) rfl ?_) (fun _ hw=>St.tail [_] hw);refine WA.done (by kernel_rfl) ?_;refine KK.next ng (O8 0 1 5 6 7 8 9) ?_;refine a_ ?_;refine WL.g (.pl rfl rfl rfl) (fun hg=>Y.and (.gd (hg) rfl) (fun h2=>.gd (uO hg (SH h2)) rfl)) rfl ?_;refine a_ ?_;refine Wc hF (fun sB hF=>?_) (fun sB hF=>?_)
  ·obtain rfl:=oi hF;refine a_ ?_;exact rG (fO,iq,c17)
  ·refine b_ ?_;refine W.zq 8 (by kernel_rfl) (by kernel_rfl) fun Q13 aiE=>?_;refine Sq ym ?_;refine Sq yc ?_;refine Sq yf ?_;refine Sq O6 ?_;refine Sq yf ?_;refine Sq rK ?_;refine Sq ym ?_;refine WS.q (Y.xl Tryz.underlying70 ly (i:=3) rfl (.pl rfl) rfl (.pl rfl) (ai (uV))) rfl ?_;refine WS.tail ?_;refine WL.AX (cp.hole (h0:=((none,0):Hd)) (i:=3) rfl (aI (uV))) ?_;refine WL.step (WO.JT (enc:=eo) (bN:=(eQ (eI .i64) 1 3)) (h0:=((none,0):Hd)) (h':=((PD,M5):Hd)) (a:=x25) (a':=ma.1) (idx:=aG.aj) (j:=0) ly (.pl rfl) (.pl rfl) rfl yF (i:=1) rfl (aI (uV)) rfl (by decide) rfl (.Oe 6 [1,0,2,3,4,5] rfl) ?_);refine a_ ?_;refine xQ aiE ?_;refine a_ ?_;refine WL.step (WO.dC (cs':=(Value.slice A3 (bO).length c4::(Value.slice A7 (bX).length c8::((cD cO)++(Value.slice cg (cc).length c12::(Value.int .u16 (pa .u16 ct (mz .u16 1 (IntKind.u64.wrap i21)))::(Value.slice iq (dy).length c17::(Value.map (some eL)::[])))))))) uY (.pl rfl) (.pl rfl) rfl (i:=3) rfl (iQ (m:=19) (by decide) rfl) (rfl) ?_);refine a_ ?_;refine WL.q (Y.build (cs:=(cx (Step.mk i21 ma.2.1)).toArray) PS (.cons (.pl rfl) (.cons (.pl rfl) (.nil))) (bH ⟨rfl,⟨rfl,trivial⟩⟩) rfl) rfl ?_;refine WL.step (WO.cC (enc:=cx) (ys:=([(Step.mk i21 ma.2.1)]:List Step)) Tryz.underlying32 U8 (.cons (.pl rfl) (.nil)) rfl vK rfl rfl (by decide) (by decide) rfl fun WN=>?_);obtain⟨Vc,hF⟩:=bx hF;refine WL.step (WO.fH (enc:=cx) Tryz.underlying32 U9 vK HC (.pl rfl) rfl (.pl rfl) (i:=5) rfl (m2:=0) rfl (Vc) rfl fun Tw PR=>?_);refine a_ ?_;refine WL.step (WO.dC (cs':=(Value.slice A3 (bO).length c4::(Value.slice A7 (bX).length c8::((cD cO)++(Value.slice cg (cc).length c12::(Value.int .u16 (pa .u16 ct (mz .u16 1 (IntKind.u64.wrap i21)))::(Value.slice Tw ((dy++([(Step.mk i21 ma.2.1)]:List Step))).length PR::(Value.map (some eL)::[])))))))) Dy (.pl rfl) (.pl rfl) rfl (i:=4) rfl (iQ (m:=19) (by decide) rfl) (rfl) ?_);obtain⟨eF,EP,hF⟩:=al hF;refine a_ ?_;refine WL.step (WO.call (γ:=(List Hd×Option Addr×Nat)) (fun g=>.bool eF.2.2.2.2) (fun g=>(aw b1 217 (Value.slice A3 (bO).length c4::(Value.slice A7 (bX).length c8::((cD cO)++(Value.slice cg (eF.1).length c12::(Value.int .u16 eF.2.1::(Value.slice g.2.1 (eF.2.2.1).length g.2.2::(Value.map (some eL)::[])))))))::cN eo (eQ (eI .i64) 1 3) 1 cg c12 29 g.1 eF.1::cR cx 2 g.2.1 g.2.2 128 eF.2.2.1::nE Value.bool (some eL) eF.2.2.2.1::cR cx 2 (some ⟨WN,0,none⟩) (([(Step.mk i21 ma.2.1)]:List Step)).length 128 ([(Step.mk i21 ma.2.1)]:List Step)::cR (eI .i64) 1 (fO.getD aG.aj.toNat ((none,0):Hd)).1 (fO.getD aG.aj.toNat ((none,0):Hd)).2 3 x25::aw J7 162 (aC aG)::T)) (fun g=>True) Tj (.cons (.pl rfl) (.nil)) rfl (fun wz hw=>ih (T:=(cR cx 2 (some ⟨WN,0,none⟩) (([(Step.mk i21 ma.2.1)]:List Step)).length 128 ([(Step.mk i21 ma.2.1)]:List Step)::cR (eI .i64) 1 (fO.getD aG.aj.toNat ((none,0):Hd)).1 (fO.getD aG.aj.toNat ((none,0):Hd)).2 3 x25::aw J7 162 (aC aG)::T)) (b1:=b1) (A3:=A3) (c4:=c4) (A7:=A7) (c8:=c8) (cg:=cg) (c12:=c12) (fO:=(fO.set aG.aj.toNat ((PD,M5):Hd))) (iq:=Tw) (c17:=PR) (eL:=eL) (EP) (St.dZ (L:=(aw b1 217 (Value.slice A3 (bO).length c4::(Value.slice A7 (bX).length c8::((cD cO)++(Value.slice cg (cc).length c12::(Value.int .u16 (pa .u16 ct (mz .u16 1 (IntKind.u64.wrap i21)))::(Value.slice Tw ((dy++([(Step.mk i21 ma.2.1)]:List Step))).length PR::(Value.map (some eL)::[])))))))::cN eo (eQ (eI .i64) 1 3) 1 cg c12 29 (fO.set aG.aj.toNat ((PD,M5):Hd)) (cc.set aG.aj.toNat ma.1)::cR cx 2 Tw PR 128 (dy++([(Step.mk i21 ma.2.1)]:List Step))::nE Value.bool (some eL) di::cR cx 2 (some ⟨WN,0,none⟩) (([(Step.mk i21 ma.2.1)]:List Step)).length 128 ([(Step.mk i21 ma.2.1)]:List Step)::cR (eI .i64) 1 (fO.getD aG.aj.toNat ((none,0):Hd)).1 (fO.getD aG.aj.toNat ((none,0):Hd)).2 3 x25::aw J7 162 (aC aG)::T)) (hw.cY 7 [4,1,5,6,0,2,3] rfl) (by simp only[List.length_set,List.nil_append,List.cons_append])) hs5 jU) ?_);rintro⟨YX,Gt,c37⟩ -;refine a_ ?_;refine Wc hF (fun qr hF=>?_) (fun qr hF=>?_)
   ·obtain rfl:=oi hF;refine a_ ?_;exact rG (YX,Gt,c37)
   ·refine b_ ?_;refine W.zq 8 (by kernel_rfl) (by kernel_rfl) fun Q20 aiF=>?_;refine Sq ym ?_;refine Sq yc ?_;refine Sq yf ?_;refine Sq fj ?_;refine Sq yf ?_;refine Sq yb6 ?_;refine Sq ym ?_;obtain⟨x38,YY,hF⟩:=al hF;refine WS.q (Y.xl Tryz.underlying70 ly (i:=1) rfl (.pl rfl) rfl (.pl rfl) (ai (YY))) rfl ?_;refine WS.tail ?_;refine WL.AX (cp.hole (h0:=((none,0):Hd)) (i:=1) rfl (aI (YY))) ?_;refine WL.step (WO.JT (enc:=eo) (bN:=(eQ (eI .i64) 1 3)) (h0:=((none,0):Hd)) (h':=(((fO.getD aG.aj.toNat ((none,0):Hd)).1,(fO.getD aG.aj.toNat ((none,0):Hd)).2):Hd)) (a:=x38) (a':=x25) (idx:=aG.aj) (j:=0) ly (.pl rfl) (.pl rfl) rfl yF (i:=1) rfl (aI (YY)) rfl (by decide) rfl (.Oe 7 [5,0,1,2,3,4,6] rfl) ?_);refine a_ ?_;refine xQ aiF ?_;refine a_ ?_;refine WL.q (Y.aic (.pl rfl) (.pl rfl)) rfl ?_;refine a_ ?_;refine WL.step (WO.dC (cs':=(Value.slice A3 (bO).length c4::(Value.slice A7 (bX).length c8::((cD cO)++(Value.slice cg (eF.1).length c12::(Value.int .u16 (Cg .u16 eF.2.1 (mz .u16 1 (IntKind.u64.wrap i21)))::(Value.slice Gt (eF.2.2.1).length c37::(Value.map (some eL)::[])))))))) uY (.pl rfl) (.pl rfl) rfl (i:=2) rfl (iQ (m:=19) (by decide) rfl) (rfl) ?_);refine b_ ?_;refine W.zq 14 (by kernel_rfl) (by kernel_rfl) fun Q22 YZ=>?_;refine Sq ym ?_;refine Sq ym ?_;refine Sq yc ?_;refine Sq yf ?_;refine Sq O6 ?_;refine Sq ym ?_;refine Sq yc ?_;refine Sq yf ?_;refine Sq O6 ?_;refine Sq yw ?_;obtain⟨aeP,hF⟩:=bx hF;refine WS.q (Y.sub (.pl rfl) (.pl rfl) (nj (aeP))) rfl ?_;obtain⟨U4,hF⟩:=bx hF;refine WS.q (Y.Lu Tryz.underlying32 PM (i:=3) rfl (.pl rfl) rfl (.pl rfl) (U4)) rfl ?_;refine Sq yc ?_;refine Sq yf ?_;refine WS.tail ?_;refine WL.step (WO.dC (cs':=(Value.slice A3 (bO).length c4::(Value.slice A7 (bX).length c8::((cD cO)++(Value.slice cg (eF.1).length c12::(Value.int .u16 (Cg .u16 eF.2.1 (mz .u16 1 (IntKind.u64.wrap i21)))::(Value.slice Gt ((eF.2.2.1.take (((eF.2.2.1).length:Int) - 1).toNat)).length c37::(Value.map (some eL)::[])))))))) Dy (.pl rfl) (.pl rfl) rfl (i:=2) rfl (iQ (m:=19) (by decide) rfl) (rfl) ?_);refine a_ ?_;refine xQ YZ ?_;obtain rfl:=oi hF;refine a_ ?_;refine W.lr (fn:=Tryz.f157) (vs:=[.bool false]) Tryz.results157 ⟨.tmp rfl,trivial⟩ (fun _ _ h=>h) (fun wz hw=>?_);exact hR _ _ ⟨((YX.set aG.aj.toNat (((fO.getD aG.aj.toNat ((none,0):Hd)).1,(fO.getD aG.aj.toNat ((none,0):Hd)).2):Hd)),Gt,c37),trivial,rfl,(St.dZ (L:=(aw b1 217 (Value.slice A3 (bO).length c4::(Value.slice A7 (bX).length c8::((cD cO)++(Value.slice cg (eF.1).length c12::(Value.int .u16 (Cg .u16 eF.2.1 (mz .u16 1 (IntKind.u64.wrap i21)))::(Value.slice Gt ((eF.2.2.1.take (((eF.2.2.1).length:Int) - 1).toNat)).length c37::(Value.map (some eL)::[])))))))::cN eo (eQ (eI .i64) 1 3) 1 cg c12 29 (YX.set aG.aj.toNat (((fO.getD aG.aj.toNat ((none,0):Hd)).1,(fO.getD aG.aj.toNat ((none,0):Hd)).2):Hd)) (eF.1.set aG.aj.toNat x25)::cR cx 2 Gt c37 128 (eF.2.2.1.take (((eF.2.2.1).length:Int) - 1).toNat)::nE Value.bool (some eL) eF.2.2.2.1::T)) ((St.aaH (enc:=cx) (sz:=2) (j:=(((eF.2.2.1).length:Int) - 1).toNat) hw vK (i:=3) rfl).cY 7 [2,0,3,4] rfl) (by simp only[List.length_set,List.nil_append,List.cons_append]))⟩
def qI(N:Nat)(self:(List Int)→(List Call)→Rel→(List (List Int))→Int→(List Step)→(List (ByteArray×Bool))→Option ((List (List Int))×Int×(List Step)×(List (ByteArray×Bool))×Bool))(bX:(List Call))(bO:(List Int))(cO:Rel):((List (List Int))×Int×(List Step)×(List (ByteArray×Bool))×Int)→Option (((List (List Int))×Int×(List Step)×(List (ByteArray×Bool))×Int) ⊕(((List (List Int))×Int×(List Step)×(List (ByteArray×Bool))) ⊕((List (List Int))×Int×(List Step)×(List (ByteArray×Bool))×Bool)))|(IZ,I0,HF,I1,v37)=>cond (decide (v37 < ((bX).length:Int))) (bd (ob N self bO bX cO IZ I0 HF I1 v37) fun tZ=>cond tZ.2.2.2.2 (some (.inr (.inr (tZ.1,tZ.2.1,tZ.2.2.1,tZ.2.2.2.1,true)))) (ck (bB (v37+1)) <| some (.inl (tZ.1,tZ.2.1,tZ.2.2.1,tZ.2.2.2.1,(v37+1))))) (some (.inr (.inl (IZ,I0,HF,I1))))
def oc(N:Nat)(self:(List Int)→(List Call)→Rel→(List (List Int))→Int→(List Step)→(List (ByteArray×Bool))→Option ((List (List Int))×Int×(List Step)×(List (ByteArray×Bool))×Bool))(bO:(List Int))(bX:(List Call))(cO:Rel)(cc:(List (List Int)))(ct:Int)(dy:(List Step))(di:(List (ByteArray×Bool))):Option ((List (List Int))×Int×(List Step)×(List (ByteArray×Bool))×Bool):=bd (lJ N bO bX cO cc ct dy di) fun uy=>cond uy (some (cc,ct,dy,di,true)) (bd (pH N bO bX cO cc ct dy di) fun fZ=>cond ((n_ di fZ).getD false) (some (cc,ct,dy,di,false)) (bd (α:=(((List (List Int))×Int×(List Step)×(List (ByteArray×Bool))) ⊕((List (List Int))×Int×(List Step)×(List (ByteArray×Bool))×Bool))) (iter (qI N self bX bO cO) N (cc,ct,dy,di,0)) <| Sum.elim (fun(P9,P_,aaU,P')=>some (P9,P_,aaU,(Ap P' fZ true),false)) (fun p=>some p)))
def mO(N:Nat):Nat→(List Int)→(List Call)→Rel→(List (List Int))→Int→(List Step)→(List (ByteArray×Bool))→Option ((List (List Int))×Int×(List Step)×(List (ByteArray×Bool))×Bool)|0=>fun _ _ _ _ _ _ _=>none|M+1=>oc N (mO N M)
theorem C2{N self}(ih:∀{bO bX cO cc ct dy di b1 A3 c4 A7 c8 cg c12 fO iq c17 eL res} (hF:self bO bX cO cc ct dy di=some res) {w0 w T} (hw:St w0.heap.size w0 (aw b1 217 (Value.slice A3 (bO).length c4::(Value.slice A7 (bX).length c8::((cD cO)++(Value.slice cg (cc).length c12::(Value.int .u16 ct::(Value.slice iq (dy).length c17::(Value.map (some eL)::[])))))))::cN eo (eQ (eI .i64) 1 3) 1 cg c12 29 fO cc::cR cx 2 iq c17 128 dy::nE Value.bool (some eL) di::T) w) (hs5:bi (eI .i64) 1 w0 (.slice A3 (bO).length c4) bO) (jU:bi aC 7 w0 (.slice A7 (bX).length c8) bX),Calls Tryz.prog 120 (List.toArray [.pointer (some ⟨b1,0,none⟩)]) w (fun e w'=>∃g:(List Hd×Option Addr×Nat),(True)∧e= .returned (.bool res.2.2.2.2)∧St w0.heap.size w0 (aw b1 217 (Value.slice A3 (bO).length c4::(Value.slice A7 (bX).length c8::((cD cO)++(Value.slice cg (res.1).length c12::(Value.int .u16 res.2.1::(Value.slice g.2.1 (res.2.2.1).length g.2.2::(Value.map (some eL)::[])))))))::cN eo (eQ (eI .i64) 1 3) 1 cg c12 29 g.1 res.1::cR cx 2 g.2.1 g.2.2 128 res.2.2.1::nE Value.bool (some eL) res.2.2.2.1::T) w')){bO bX cO cc ct dy di b1 A3 c4 A7 c8 cg c12 fO iq c17 eL res}(hF:oc N self bO bX cO cc ct dy di=some res){w0 w T}(hw:St w0.heap.size w0 (aw b1 217 (Value.slice A3 (bO).length c4::(Value.slice A7 (bX).length c8::((cD cO)++(Value.slice cg (cc).length c12::(Value.int .u16 ct::(Value.slice iq (dy).length c17::(Value.map (some eL)::[])))))))::cN eo (eQ (eI .i64) 1 3) 1 cg c12 29 fO cc::cR cx 2 iq c17 128 dy::nE Value.bool (some eL) di::T) w)(hs5:bi (eI .i64) 1 w0 (.slice A3 (bO).length c4) bO)(jU:bi aC 7 w0 (.slice A7 (bX).length c8) bX):Calls Tryz.prog 120 (List.toArray [.pointer (some ⟨b1,0,none⟩)]) w (fun e w'=>∃g:(List Hd×Option Addr×Nat),(True)∧e= .returned (.bool res.2.2.2.2)∧St w0.heap.size w0 (aw b1 217 (Value.slice A3 (bO).length c4::(Value.slice A7 (bX).length c8::((cD cO)++(Value.slice cg (res.1).length c12::(Value.int .u16 res.2.1::(Value.slice g.2.1 (res.2.2.1).length g.2.2::(Value.map (some eL)::[])))))))::cN eo (eQ (eI .i64) 1 3) 1 cg c12 29 g.1 res.1::cR cx 2 g.2.1 g.2.2 128 res.2.2.1::nE Value.bool (some eL) res.2.2.2.1::T) w'):=by
 refine We 32 Tryz.func120 hw fun R hR=>?_;obtain⟨uy,Bt,hF⟩:=al hF;refine a_ ?_;refine kC abD (v1 rfl) (fun _ hw=>Au Bt (sw hw) hs5 jU) ?_;rintro _ -;refine a_ ?_;refine Wc hF (fun ju hF=>?_) (fun ju hF=>?_)
 ·obtain rfl:=oi hF;refine a_ ?_;exact rG (fO,iq,c17)
 ·obtain⟨fZ,nI,hF⟩:=al hF;refine a_ ?_;refine kC abE (v1 rfl) (fun _ hw=>EG nI (sw hw) hs5 jU) ?_;rintro _ -;refine a_ ?_;refine WL.q (Y.n_ (f:=Value.bool) (dv:=false) Tryz.underlying215 Tryz.underlying9 U7 (.pl rfl) (.pl rfl) (i:=3) rfl) rfl ?_;refine a_ ?_;refine Wc hF (fun ip hF=>?_) (fun ip hF=>?_)
  ·obtain rfl:=oi hF;refine a_ ?_;exact rG (fO,iq,c17)
  ·obtain⟨sA,bk,hF⟩:=al hF;refine b_ ?_;refine W.aaM (fun a b c d f g h=>[]) (fun a b c d f g h=>(aw b1 217 (Value.slice A3 (bO).length c4::(Value.slice A7 (bX).length c8::((cD cO)++(Value.slice cg (a).length c12::(Value.int .u16 b::(Value.slice g (c).length h::(Value.map (some eL)::[])))))))::cN eo (eQ (eI .i64) 1 3) 1 cg c12 29 f a::cR cx 2 g h 128 c::nE Value.bool (some eL) d::T)) (fun a b c d f g h=>(.inl (a,b,c,d))=sA) (m_ 0 3) (fun zZ gr=>?_) ?_
   ·refine a_ ?_;refine air bk (fun a b c d f g h i=>[(20,.int .i64 f)]) (fun a b c d f g h i=>(aw b1 217 (Value.slice A3 (bO).length c4::(Value.slice A7 (bX).length c8::((cD cO)++(Value.slice cg (a).length c12::(Value.int .u16 b::(Value.slice h (c).length i::(Value.map (some eL)::[])))))))::cN eo (eQ (eI .i64) 1 3) 1 cg c12 29 g a::cR cx 2 h i 128 c::nE Value.bool (some eL) d::T)) (fY 0 3 19) fun IZ I0 HF I1 v37 aeQ J8 Na k14 t14 ef C3 Tz uj=>?_;refine a_ ?_;refine Wc ef (fun qr ef=>?_) (fun qr ef=>?_)
    ·obtain⟨tZ,I2,ef⟩:=al ef;refine a_ ?_;refine kC abF (v2 rfl rfl) (fun _ hw=>C1 ih (b1:=b1) (A3:=A3) (c4:=c4) (A7:=A7) (c8:=c8) (cg:=cg) (c12:=c12) (fO:=aeQ) (iq:=J8) (c17:=Na) (eL:=eL) I2 (sw hw) hs5 jU) ?_;rintro⟨Y0,A40,c41⟩ -;refine a_ ?_;refine Wc ef (fun uU ef=>?_) (fun uU ef=>?_)
     ·obtain rfl:=oi ef;obtain rfl:=fy C3;obtain rfl:=oi hF;refine a_ ?_;exact rG (Y0,A40,c41)
     ·obtain⟨aeR,ef⟩:=bx ef;refine a_ ?_;exact g8 uj (oj ef C3)
    ·refine a_ ?_;exact h7 gr (oj ef C3)
   ·rintro P9 P_ aaU P' Y1 DF DG rfl;refine a_ ?_;refine WL.step (WO.ahe (f:=Value.bool) (a:=true) Tryz.underlying215 Tryz.underlying9 (.pl rfl) (.pl rfl) (.pl rfl) (i:=3) rfl ?_);obtain rfl:=oi hF;refine a_ ?_;exact rG (Y1,DF,DG)
theorem EQ{N:Nat}{M:Nat}: ∀{bO:(List Int)} {bX:(List Call)} {cO:Rel} {cc:(List (List Int))} {ct:Int} {dy:(List Step)} {di:(List (ByteArray×Bool))} {b1:Nat} {A3:Option Addr} {c4:Nat} {A7:Option Addr} {c8:Nat} {cg:Option Addr} {c12:Nat} {fO:List Hd} {iq:Option Addr} {c17:Nat} {eL:Nat} {res:((List (List Int))×Int×(List Step)×(List (ByteArray×Bool))×Bool)} (hF:mO N M bO bX cO cc ct dy di=some res) {w0 w:World} {T:List Chunk} (hw:St w0.heap.size w0 (aw b1 217 (Value.slice A3 (bO).length c4::(Value.slice A7 (bX).length c8::((cD cO)++(Value.slice cg (cc).length c12::(Value.int .u16 ct::(Value.slice iq (dy).length c17::(Value.map (some eL)::[])))))))::cN eo (eQ (eI .i64) 1 3) 1 cg c12 29 fO cc::cR cx 2 iq c17 128 dy::nE Value.bool (some eL) di::T) w) (hs5:bi (eI .i64) 1 w0 (.slice A3 (bO).length c4) bO) (jU:bi aC 7 w0 (.slice A7 (bX).length c8) bX),
  Calls Tryz.prog 120 (List.toArray [.pointer (some ⟨b1,0,none⟩)]) w (fun e w'=>∃g:(List Hd×Option Addr×Nat),(True)∧e= .returned (.bool res.2.2.2.2)∧St w0.heap.size w0 (aw b1 217 (Value.slice A3 (bO).length c4::(Value.slice A7 (bX).length c8::((cD cO)++(Value.slice cg (res.1).length c12::(Value.int .u16 res.2.1::(Value.slice g.2.1 (res.2.2.1).length g.2.2::(Value.map (some eL)::[])))))))::cN eo (eQ (eI .i64) 1 3) 1 cg c12 29 g.1 res.1::cR cx 2 g.2.1 g.2.2 128 res.2.2.1::nE Value.bool (some eL) res.2.2.2.1::T) w'):=by
 induction M with
 |zero=>exact fun hF=>nomatch (show(none:Option _)=some _ from hF)
 |succ M ih=>exact fun hF=>C2 ih hF
theorem uz{xs}(hb:eY 16 xs.length=true)(w:World){v}(h:bi cx 2 w v xs):Made Tryz.prog 121 [v] w (fun g:Option Addr×Nat=>.slice g.1 xs.length g.2) (fun g=>[cR cx 2 g.1 g.2 128 xs]) (fun _=>True):=by
 obtain⟨A1,c1,rfl,hc1,hs⟩:=h.form
 refine W.enter (n:=8) Tryz.func121 rfl rfl Sub.refl (by simp) (St.start w) fun R hR=>?_
 refine W.mR fun Q1 wG=>?_
 refine WL.q (Y.assign (.pl rfl)) rfl ?_
 refine WL.next wG (.cons (i:=0) rfl (.nil)) ?_
 refine W.seq fun K2 P2=>?_
 refine W.mR fun Q3 P3=>?_
 refine WL.q (Y.move (.pl rfl)) rfl ?_
 refine WL.q (Y.aaI Tryz.underlying32 (.pl rfl)) rfl ?_
 refine WL.next P3 (.cons (i:=0) rfl (.cons (i:=4) rfl (.nil))) ?_
 refine W.cond (.pl rfl) (fun hC=>?_) (fun hC=>?_)
 ·refine W.mR fun Q4 P4=>?_
  refine WL.q (Y.assign (.pl rfl)) rfl ?_
  refine WL.next P4 (.cons (i:=2) rfl (.nil)) ?_
  have hx:xs= []:=by
   cases xs with
   |nil=>rfl
   |cons a r=>
    have:=(hs.Lq (idx:=0) ⟨Int.le_refl _,by simp⟩).1
    rw[Option.isNone_iff_eq_none]at hC
    rw[hC]at this;cases this
  subst hx
  refine W.lr (fn:=Tryz.f121) (vs:=[.slice none 0 0]) Tryz.results121 ⟨.tmp rfl,trivial⟩ (fun _ _ h=>h) (fun w hw=>?_)
  exact hR _ _ ⟨(none,0),trivial,rfl,St.qp hw cx 2 128⟩
 ·refine W.skip ?_
  refine W.go P2 (.cons (i:=0) rfl (.nil)) ?_
  obtain⟨a1,rfl⟩: ∃a,A1=some a:=by cases A1 with
   |none=>cases hC
   |some a=>exact⟨a,rfl⟩
  refine W.mR fun Q5 hQ5=>?_
  refine WL.step (WO.cC (enc:=cx) (ys:=[]) Tryz.underlying32 U8 (.nil) rfl vK rfl rfl (by decide) (by decide) rfl fun b=>?_)
  refine WL.q (Y.move (.pl rfl)) rfl ?_
  refine WL.step (WO.SV (enc:=cx) (ys:=xs) (xs:=[]) Tryz.underlying32 U9 vK HC (.pl rfl) rfl (.pl rfl) (i:=0) rfl (fun w hw=>hs.mono hw) (by simpa using hb) rfl fun A c=>?_)
  refine WL.q (Y.assign (.pl rfl)) rfl ?_
  refine WL.next hQ5 (.cons (i:=2) rfl (.nil)) ?_
  refine W.lr (fn:=Tryz.f121) (vs:=[.slice A xs.length c]) Tryz.results121 ⟨.tmp rfl,trivial⟩ (fun _ _ h=>h) (fun w hw=>?_)
  exact hR _ _ ⟨(A,c),trivial,rfl,hw⟩
def sJ(N:Nat)(bn:(List Int)):((List (List Int))×Int)→Option (((List (List Int))×Int) ⊕(List (List Int)))|(lz,v23)=>cond (decide (v23 < ((bn).length:Int))) (bd (ix bn v23) fun x24=>bd (sH N x24) fun oo=>ck (eY 24 ((lz).length+(([oo.1]:List (List Int))).length)) <| ck (bB (v23+1)) <| some (.inl ((lz++([oo.1]:List (List Int))),(v23+1)))) (some (.inr lz))
def md(N:Nat)(bn:(List Int))(bX:(List Call))(vL:Rel):Option ((List Step)×Bool):=bd (α:=(List (List Int))) (iter (sJ N bn) N ([],0)) <| fun Qa=>bd (mO N N bn bX vL Qa 0 ([]:(List Step)) ([]:List (ByteArray×Bool))) fun Bu=>cond (!Bu.2.2.2.2) (some ([],false)) (ck (eY 16 (Bu.2.2.1).length) <| some (Bu.2.2.1,true))
theorem sK{N bn bX vL res}(hF:md N bn bX vL=some res)(w:World){v5}(hs4:bi (eI .i64) 1 w v5 bn){v10}(jU:bi aC 7 w v10 bX):Made Tryz.prog 83 [v5,v10,.agg (cD vL).toArray] w (fun g:(Option Addr×Nat)=>.tuple #[.slice g.1 (res.1).length g.2,.bool res.2]) (fun g=>[cR cx 2 g.1 g.2 128 res.1]) (fun g=>True):=by
 obtain⟨A2,c3,rfl,jy,hs4⟩:=hs4.form;obtain⟨A7,c8,rfl,IO,jU⟩:=jU.form;refine We 49 Tryz.func83 (St.start w) fun R hR=>?_;refine a_ ?_;refine WL.step (WO.il (.pl rfl) rfl fun na=>?_);refine a_ ?_;refine WL.step (WO.aeq Value.bool rfl fun yY=>?_);refine WL.q (Y.OP (cs:=(Value.slice A2 (bn).length c3::(Value.slice A7 (bX).length c8::((cD vL)++(Value.slice none 0 0::(Value.int .u16 0::(Value.slice none 0 0::(Value.map (some yY)::[]))))))).toArray) YS (.cons (.pl rfl) (.cons (.pl rfl) (.cons (.pl rfl) (.cons (.pl rfl) (.nil))))) (by kernel_rfl)) rfl ?_;refine WL.step (WO.il (.pl rfl) rfl fun gK=>?_);obtain⟨o3,ff,hF⟩:=al hF;refine b_ ?_;refine W.s7 (fun a b c d=>[]) (fun a b c d=>[aw gK 217 (Value.slice A2 (bn).length c3::(Value.slice A7 (bX).length c8::((cD vL)++(Value.slice b (a).length c::(Value.int .u16 0::(Value.slice none 0 0::(Value.map (some yY)::[]))))))),cN eo (eQ (eI .i64) 1 3) 1 b c 29 d a,nE Value.bool (some yY) ([]:List (ByteArray×Bool))]) (fun a b c d=>a=o3) (mM 8) (fun K4 mb=>?_) ?_
 ·refine a_ ?_;refine Er ff (fun a b c d f=>[(21,.int .i64 b)]) (fun a b c d f=>[aw gK 217 (Value.slice A2 (bn).length c3::(Value.slice A7 (bX).length c8::((cD vL)++(Value.slice c (a).length d::(Value.int .u16 0::(Value.slice none 0 0::(Value.map (some yY)::[]))))))),cN eo (eQ (eI .i64) 1 3) 1 c d 29 f a,nE Value.bool (some yY) ([]:List (ByteArray×Bool))]) (fY 8 19 20) fun lz v23 vH c20 Qb k6 t6 bF iE K7 lF=>?_;refine a_ ?_;refine Wc bF (fun iL bF=>?_) (fun iL bF=>?_)
  ·obtain⟨x24,u7,bF⟩:=al bF;obtain⟨oo,ER,bF⟩:=al bF;refine a_ ?_;refine kM W1 (v1 rfl) (fun wz hw=>Cq ER wz) ?_;rintro⟨DF,DG⟩ -;refine a_ ?_;refine WL.step (WO.vC (enc:=eo) (bN:=(eQ (eI .i64) 1 3)) (hs:=([((DF,DG):Hd)]:List Hd)) (xs:=([oo.1]:List (List Int))) Tryz.underlying70 aeF (.cons (.pl rfl) (.nil)) rfl rfl rfl rfl rfl yF (by decide) (by decide) (.pick [0,1,2,3] rfl) rfl fun b28=>?_);obtain⟨Qd,bF⟩:=bx bF;refine WL.step (WO.xO (enc:=eo) (bN:=(eQ (eI .i64) 1 3)) (hs:=Qb) Tryz.underlying70 aeG yF aaO (.pl rfl) rfl (.pl rfl) (i:=1) rfl (Qd) rfl fun A29 c30=>?_);refine a_ ?_;refine WL.step (WO.dC (cs':=(Value.slice A2 (bn).length c3::(Value.slice A7 (bX).length c8::((cD vL)++(Value.slice A29 ((lz++([oo.1]:List (List Int)))).length c30::(Value.int .u16 0::(Value.slice none 0 0::(Value.map (some yY)::[])))))))) LJ (.pl rfl) (.pl rfl) rfl (i:=1) rfl (iQ (m:=19) (by decide) rfl) (rfl) ?_);obtain⟨Gs,bF⟩:=bx bF;refine a_ ?_;exact g5 lF (oj bF iE)
  ·refine a_ ?_;exact h4 mb (oj bF iE)
 ·rintro Qa A15 c16 alk rfl;obtain⟨Bu,I3,hF⟩:=al hF;refine a_ ?_;refine kC Tj (v1 rfl) (fun _ hw=>EQ I3 ((St.qp (hw) cx 2 128).pick [1,2,0,3] rfl) hs4 jU) ?_;rintro⟨aiG,Qe,Qf⟩ -;refine a_ ?_;refine Wc hF (fun qr hF=>?_) (fun qr hF=>?_)
  ·obtain rfl:=oi hF;refine a_ ?_;exact rG (none,0)
  ·obtain⟨Y2,hF⟩:=bx hF;refine a_ ?_;refine kM abC (v1 rfl) (fun wz hw=>uz Y2 wz (so hw)) ?_;rintro⟨Ig,Ih⟩ -;obtain rfl:=oi hF;refine a_ ?_;exact rG (Ig,Ih)
def ku(N:Nat)(bn:(List Int))(l6:(List Event)):Option ((List Step)×Bool×Int):=bd (gW N bn l6) fun fa=>cond (!(decide (fa.2=0))) (some ([],false,fa.2)) (bd (uJ N fa.1) fun oD=>bd (md N bn fa.1 (Rel.mk oD.1 oD.2.1)) fun r16=>some (r16.1,r16.2,0))
theorem DH{N bn l6 res}(hF:ku N bn l6=some res)(w:World){v5}(hs4:bi (eI .i64) 1 w v5 bn){v10}(jU:bi az 4 w v10 l6):Made Tryz.prog 51 [v5,v10] w (fun g:(Option Addr×Nat)=>.tuple #[.slice g.1 (res.1).length g.2,.bool res.2.1,.int .i64 res.2.2]) (fun g=>[cR cx 2 g.1 g.2 128 res.1]) (fun g=>True):=by
 obtain⟨A2,c3,rfl,jy,hs4⟩:=hs4.form;obtain⟨A7,c8,rfl,IO,jU⟩:=jU.form;refine We 36 Tryz.func51 (St.start w) fun R hR=>?_;obtain⟨fa,kz,hF⟩:=al hF;refine a_ ?_;refine kM PP (v2 rfl rfl) (fun wz hw=>wA kz wz (hs4.mono hw) (jU.mono hw)) ?_;rintro⟨vI,c13⟩ -;refine a_ ?_;refine Wc hF (fun fT hF=>?_) (fun fT hF=>?_)
 ·obtain rfl:=oi hF;refine a_ ?_;exact rG (none,0)
 ·obtain⟨oD,Br,hF⟩:=al hF;refine a_ ?_;refine kP aeE (v1 rfl) (fun wz hw=>IW Br wz (so hw)) ?_;refine a_ ?_;refine mA fun ir=>?_;obtain⟨r16,mF,hF⟩:=al hF;refine a_ ?_;refine kM PQ (v3 rfl rfl rfl) (fun wz hw=>sK mF wz (hs4.mono hw) (so hw)) ?_;rintro⟨l_,c18⟩ -;obtain rfl:=oi hF;refine a_ ?_;exact rG (l_,c18)
end Go.Proofs.YtjdkkabcenohcaaGreatDoor
