/- Search: what Find computes, and the walks. -/
import Derived.Test.YtjdkkabcenohcaaGreatDoorAuto
import Derived.Test.YtjdkkabcenohcaaGreatDoorV1
set_option linter.unusedVariables false
set_option linter.defProp false
set_option linter.unusedSimpArgs false
set_option linter.unusedSectionVars false
set_option maxRecDepth 100000
namespace Go.Proofs.YtjdkkabcenohcaaGreatDoor
open Go.RowKit
attribute [local irreducible] Yd ap eu
structure Rel where
 n:Int
 after:List Int
deriving DecidableEq
def Rel.z:Rel:=⟨0,[]⟩
def bg(x:Rel):List Value:=(Value.int .i64 x.n::((gj 12 (eI .u16) 0) x.after++[]))
theorem TJ: ∀x,∀v∈bg x,v.oneCell'=true:=fun x=>(bt rfl (yb ((SK q7) _) jQ))
structure bn where
deriving DecidableEq
def bn.z:bn:=⟨⟩
def fw(x:bn):List Value:=[]
structure Step where
 call:Int
 res:Int
deriving DecidableEq
def Step.z:Step:=⟨0,0⟩
def bw(x:Step):List Value:=(Value.int .i64 x.call::(Value.int .i64 x.res::[]))
theorem qV(x:Step):(bw x).length=2:=rfl
theorem Cq: ∀x,∀v∈bw x,v.oneCell'=true:=fun x=>(bt rfl (bt rfl jQ))
structure d8 where
 many:bn
deriving DecidableEq
def d8.z:d8:=⟨bn.z⟩
def jX(x:d8):List Value:=(fw x.many++[])
structure el where
 single:bn
deriving DecidableEq
def el.z:el:=⟨bn.z⟩
def qC(x:el):List Value:=(fw x.single++[])
theorem Cr:Tryz.prog.cellsOf 32=0+1:=by kernel_rfl
theorem HY:Tryz.prog.cellsOf 70=0+1:=by kernel_rfl
theorem Fy:Tryz.prog.cellsOf 128=1+1:=by kernel_rfl
theorem nn:Tryz.prog.cellsOf 166=0+1:=by kernel_rfl
theorem Fz:Tryz.prog.cellsOf 167=11+1:=by kernel_rfl
theorem MJ:Tryz.prog.cellsOf 169=12+1:=by kernel_rfl
theorem MK:Tryz.prog.cellsOf 215=0+1:=by kernel_rfl
def TK:=gg Tryz.func36
def FA:=gg Tryz.func65
def TL:=gg Tryz.func66
def FB:=gg Tryz.func81
def TM:=gg Tryz.func82
def FC:=gg Tryz.func83
def Qg:=gg Tryz.func106
def qW:=gg Tryz.func107
def HZ:=gg Tryz.func120
def Qh:=gg Tryz.func121
def H0:=gg Tryz.func148
def Qi:=gg Tryz.func155
def Qj:=gg Tryz.func156
def Qk:=gg Tryz.func157
def Ql:=gg Tryz.func219
def H1:=gg Tryz.func246
def H2:=gg Tryz.func247
def Qm:=gg Tryz.func248
def Cs:=gg Tryz.func249
def Ct:=gg Tryz.func250
def Qn:=gg Tryz.func251
def Qo:=gg Tryz.func252
def H3:=gg Tryz.func253
def Qp:=gg Tryz.func254
def Qq:=gg Tryz.func255
def Qs:=gg Tryz.func256
def Qt:=gg Tryz.func257
def Qu:=gg Tryz.func258
def Qv:=gg Tryz.func259
def H4:=gg Tryz.func260
def Qw:=gg Tryz.func265
theorem Ji: ∃i,Tryz.prog.info? 4=some i∧i.zero=some (Value.bool false):=⟨_,rfl,by kernel_rfl⟩
theorem Qx: ∃i,Tryz.prog.info? 162=some i∧i.zero=some (Value.agg #[(Value.int .i64 0),(Value.int .i64 0),(Value.int .i64 0),(Value.int .i64 0),(Value.int .i64 0),(Value.int .i64 0),(Value.int .i64 0)]):=⟨_,rfl,by kernel_rfl⟩
theorem Qy: ∃i,Tryz.prog.info? 169=some i∧i.zero=some (Value.agg #[(Value.int .i64 0),(Value.int .u16 0),(Value.int .u16 0),(Value.int .u16 0),(Value.int .u16 0),(Value.int .u16 0),(Value.int .u16 0),(Value.int .u16 0),(Value.int .u16 0),(Value.int .u16 0),(Value.int .u16 0),(Value.int .u16 0),(Value.int .u16 0)]):=⟨_,rfl,by kernel_rfl⟩
theorem Qz: ∃i,Tryz.prog.info? 197=some i∧i.zero=some (Value.agg #[]):=⟨_,rfl,by kernel_rfl⟩
theorem QA: ∃i,Tryz.prog.info? 200=some i∧i.zero=some (Value.agg #[]):=⟨_,rfl,by kernel_rfl⟩
theorem QB: ∃i,Tryz.prog.info? 201=some i∧i.zero=some (Value.agg #[]):=⟨_,rfl,by kernel_rfl⟩
theorem QC: ∃i,Tryz.prog.info? 202=some i∧i.zero=some (Value.agg #[]):=⟨_,rfl,by kernel_rfl⟩
theorem QD: ∃i,Tryz.prog.info? 203=some i∧i.zero=some (Value.agg #[]):=⟨_,rfl,by kernel_rfl⟩
@[reducible,instance] def aa0:=ZI.mk Qy
@[reducible,instance] def aa1:=CT.mk MJ
instance:ON bg:=⟨TJ⟩
@[reducible,instance] def aa2:=UT.mk Tryz.underlying162
instance:EN ak 7:=⟨fX⟩
instance:ON ak:=⟨HJ⟩
@[reducible,instance] def z162:=ZI.mk Qx
instance:FT Tryz.prog 162 6 6 3:=⟨_,Tryz.underlying162,rfl⟩
instance:FT Tryz.prog 162 5 5 3:=⟨_,Tryz.underlying162,rfl⟩
@[reducible,instance] def c167:=CT.mk Fz
instance:FT Tryz.prog 169 1 1 167:=⟨_,Tryz.underlying169,rfl⟩
@[reducible,instance] def aa3:=UT.mk Tryz.underlying167
@[reducible,instance] def aa4:=CT.mk nn
@[reducible,instance] def aa5:=UT.mk Tryz.underlying176
@[reducible,instance] def aa6:=UT.mk Tryz.underlying169
instance:FT Tryz.prog 217 1 1 58:=⟨_,Tryz.underlying217,rfl⟩
instance:FT Tryz.prog 217 4 16 166:=⟨_,Tryz.underlying217,rfl⟩
@[reducible,instance] def aa7:=UT.mk Tryz.underlying166
@[reducible,instance] def c70:=CT.mk HY
instance:FT Tryz.prog 217 3 15 70:=⟨_,Tryz.underlying217,rfl⟩
@[reducible,instance] def u70:=UT.mk Tryz.underlying70
@[reducible,instance] def u5:=UT.mk Tryz.underlying5
instance:FT Tryz.prog 217 2 2 169:=⟨_,Tryz.underlying217,rfl⟩
instance:FT Tryz.prog 162 1 1 3:=⟨_,Tryz.underlying162,rfl⟩
instance:FT Tryz.prog 217 0 0 29:=⟨_,Tryz.underlying217,rfl⟩
instance:FT Tryz.prog 162 2 2 3:=⟨_,Tryz.underlying162,rfl⟩
instance:FT Tryz.prog 162 3 3 3:=⟨_,Tryz.underlying162,rfl⟩
@[reducible,instance] def FD:=CT.mk Cr
instance:FT Tryz.prog 217 5 17 32:=⟨_,Tryz.underlying217,rfl⟩
@[reducible,instance] def u32:=UT.mk Tryz.underlying32
@[reducible,instance] def aa8:=CT.mk MK
instance:FT Tryz.prog 217 6 18 215:=⟨_,Tryz.underlying217,rfl⟩
@[reducible,instance] def aa9:=UT.mk Tryz.underlying215
instance:EN bw 2:=⟨qV⟩
theorem TN: ∃i,Tryz.prog.info? 5=some i∧i.zero=some (Value.int .u8 0)∧i.size=1:=⟨_,rfl,by kernel_rfl,by kernel_rfl⟩
theorem Zj: ∃i,Tryz.prog.info? 29=some i∧i.zero=some (Value.slice none 0 0)∧i.size=1:=⟨_,rfl,by kernel_rfl,by kernel_rfl⟩
theorem OV: ∃i,Tryz.prog.info? 128=some i∧i.zero=some (Value.agg #[(Value.int .i64 0),(Value.int .i64 0)])∧i.size=2:=⟨_,rfl,by kernel_rfl,by kernel_rfl⟩
theorem Xw: ∃i z,Tryz.prog.info? 5=some i∧i.zero=some z∧i.size=1∧i.bytes=1∧z.cells.size=1∧0 < 1:=⟨_,(Value.int .u8 0),rfl,by kernel_rfl,by kernel_rfl,by kernel_rfl,by kernel_rfl,by decide⟩
theorem Zk: ∃i z,Tryz.prog.info? 29=some i∧i.zero=some z∧i.size=1∧i.bytes=24∧z.cells.size=1∧0 < 1:=⟨_,(Value.slice none 0 0),rfl,by kernel_rfl,by kernel_rfl,by kernel_rfl,by kernel_rfl,by decide⟩
theorem OW: ∃i z,Tryz.prog.info? 128=some i∧i.zero=some z∧i.size=2∧i.bytes=16∧z.cells.size=2∧0 < 2:=⟨_,(Value.agg #[(Value.int .i64 0),(Value.int .i64 0)]),rfl,by kernel_rfl,by kernel_rfl,by kernel_rfl,by kernel_rfl,by decide⟩
theorem ML:Shape Tryz.prog 128 [(0,1),(1,1)] #[(Value.int .i64 0),(Value.int .i64 0)]:=⟨_,_,Value.agg #[(Value.int .i64 0),(Value.int .i64 0)],Tryz.underlying128,rfl,by kernel_rfl,rfl,by kernel_rfl,by decide⟩
theorem vu:Shape Tryz.prog 169 [(0,1),(1,12)] #[(Value.int .i64 0),(Value.int .u16 0),(Value.int .u16 0),(Value.int .u16 0),(Value.int .u16 0),(Value.int .u16 0),(Value.int .u16 0),(Value.int .u16 0),(Value.int .u16 0),(Value.int .u16 0),(Value.int .u16 0),(Value.int .u16 0),(Value.int .u16 0)]:=⟨_,_,Value.agg #[(Value.int .i64 0),(Value.int .u16 0),(Value.int .u16 0),(Value.int .u16 0),(Value.int .u16 0),(Value.int .u16 0),(Value.int .u16 0),(Value.int .u16 0),(Value.int .u16 0),(Value.int .u16 0),(Value.int .u16 0),(Value.int .u16 0),(Value.int .u16 0)],Tryz.underlying169,rfl,by kernel_rfl,rfl,by kernel_rfl,by decide⟩
theorem MM:Shape Tryz.prog 217 [(0,1),(1,1),(2,13),(15,1),(16,1),(17,1),(18,1)] #[(Value.slice none 0 0),(Value.slice none 0 0),(Value.int .i64 0),(Value.int .u16 0),(Value.int .u16 0),(Value.int .u16 0),(Value.int .u16 0),(Value.int .u16 0),(Value.int .u16 0),(Value.int .u16 0),(Value.int .u16 0),(Value.int .u16 0),(Value.int .u16 0),(Value.int .u16 0),(Value.int .u16 0),(Value.slice none 0 0),(Value.int .u16 0),(Value.slice none 0 0),(Value.map none)]:=⟨_,_,Value.agg #[(Value.slice none 0 0),(Value.slice none 0 0),(Value.int .i64 0),(Value.int .u16 0),(Value.int .u16 0),(Value.int .u16 0),(Value.int .u16 0),(Value.int .u16 0),(Value.int .u16 0),(Value.int .u16 0),(Value.int .u16 0),(Value.int .u16 0),(Value.int .u16 0),(Value.int .u16 0),(Value.int .u16 0),(Value.slice none 0 0),(Value.int .u16 0),(Value.slice none 0 0),(Value.map none)],Tryz.underlying217,rfl,by kernel_rfl,rfl,by kernel_rfl,by decide⟩
theorem uE: ∃i,Tryz.prog.info? 198=some i∧i.size=0:=⟨_,rfl,by kernel_rfl⟩
theorem TP:Tryz.prog.cellsOf 200=0:=by kernel_rfl
theorem TQ:Tryz.prog.cellsOf 201=0:=by kernel_rfl
theorem TR:Tryz.prog.cellsOf 202=0:=by kernel_rfl
theorem DS: ∀w,(method (Tryz.prog.types.size+Made.depth) 197 (.agg #[]) "alibi/object.start").run Tryz.prog w= .ok (246,.agg #[]) w:=fun w=>by kernel_rfl
theorem FE: ∀w,(method (Tryz.prog.types.size+Made.depth) 197 (.agg #[]) "alibi/object.step").run Tryz.prog w= .ok (248,.agg #[]) w:=fun w=>by kernel_rfl
theorem G0: ∀w,(nilAhead (Tryz.prog.types.size+Made.depth) 197 (.agg #[]) "alibi/object.step").run Tryz.prog w= .ok (some false) w:=fun w=>by kernel_rfl
theorem DT: ∀w,(method (Tryz.prog.types.size+Made.depth) 197 (.agg #[]) "alibi/object.valid").run Tryz.prog w= .ok (247,.agg #[]) w:=fun w=>by kernel_rfl
theorem DU: ∀w,(method (Tryz.prog.types.size+Made.depth) 200 (.agg #[]) "alibi/object.start").run Tryz.prog w= .ok (249,.agg #[]) w:=fun w=>by kernel_rfl
theorem FF: ∀w,(method (Tryz.prog.types.size+Made.depth) 200 (.agg #[]) "alibi/object.step").run Tryz.prog w= .ok (252,.agg #[]) w:=fun w=>by kernel_rfl
theorem G1: ∀w,(nilAhead (Tryz.prog.types.size+Made.depth) 200 (.agg #[]) "alibi/object.step").run Tryz.prog w= .ok (some false) w:=fun w=>by kernel_rfl
theorem DV: ∀w,(method (Tryz.prog.types.size+Made.depth) 200 (.agg #[]) "alibi/object.valid").run Tryz.prog w= .ok (250,.agg #[]) w:=fun w=>by kernel_rfl
theorem DW: ∀w,(method (Tryz.prog.types.size+Made.depth) 201 (.agg #[]) "alibi/object.start").run Tryz.prog w= .ok (249,.agg #[]) w:=fun w=>by kernel_rfl
theorem FG: ∀w,(method (Tryz.prog.types.size+Made.depth) 201 (.agg #[]) "alibi/object.step").run Tryz.prog w= .ok (254,.agg #[]) w:=fun w=>by kernel_rfl
theorem G2: ∀w,(nilAhead (Tryz.prog.types.size+Made.depth) 201 (.agg #[]) "alibi/object.step").run Tryz.prog w= .ok (some false) w:=fun w=>by kernel_rfl
theorem DX: ∀w,(method (Tryz.prog.types.size+Made.depth) 201 (.agg #[]) "alibi/object.valid").run Tryz.prog w= .ok (250,.agg #[]) w:=fun w=>by kernel_rfl
theorem DY: ∀w,(method (Tryz.prog.types.size+Made.depth) 202 (.agg #[]) "alibi/object.start").run Tryz.prog w= .ok (249,.agg #[]) w:=fun w=>by kernel_rfl
theorem FH: ∀w,(method (Tryz.prog.types.size+Made.depth) 202 (.agg #[]) "alibi/object.step").run Tryz.prog w= .ok (255,.agg #[]) w:=fun w=>by kernel_rfl
theorem G3: ∀w,(nilAhead (Tryz.prog.types.size+Made.depth) 202 (.agg #[]) "alibi/object.step").run Tryz.prog w= .ok (some false) w:=fun w=>by kernel_rfl
theorem DZ: ∀w,(method (Tryz.prog.types.size+Made.depth) 202 (.agg #[]) "alibi/object.valid").run Tryz.prog w= .ok (256,.agg #[]) w:=fun w=>by kernel_rfl
theorem D0: ∀w,(method (Tryz.prog.types.size+Made.depth) 203 (.agg #[]) "alibi/object.start").run Tryz.prog w= .ok (246,.agg #[]) w:=fun w=>by kernel_rfl
theorem FI: ∀w,(method (Tryz.prog.types.size+Made.depth) 203 (.agg #[]) "alibi/object.step").run Tryz.prog w= .ok (265,.agg #[]) w:=fun w=>by kernel_rfl
theorem G4: ∀w,(nilAhead (Tryz.prog.types.size+Made.depth) 203 (.agg #[]) "alibi/object.step").run Tryz.prog w= .ok (some false) w:=fun w=>by kernel_rfl
theorem D1: ∀w,(method (Tryz.prog.types.size+Made.depth) 203 (.agg #[]) "alibi/object.valid").run Tryz.prog w= .ok (247,.agg #[]) w:=fun w=>by kernel_rfl
def dm(N:Nat)(bv:(List Int))(l6:(List Event)):Option ((List Call)×Int):=bd (bk N bv l6) fun dr=>cond (!(decide (dr.2.2=0))) (some ([],dr.2.2)) (cond (decide (9 < ((dr.1).length:Int))) (some ([],2)) (some (dr.1,0)))
theorem og{N bv l6 res}(hF:dm N bv l6=some res)(w:World){v5}(hs4:aP (eI .i64) 1 w v5 bv){v10}(gD:aP aR 4 w v10 l6):Made Tryz.prog 81 [v5,v10] w (fun g:(Option Addr×Nat)=>.tuple #[.slice g.1 (res.1).length g.2,.int .i64 res.2]) (fun g=>[cR ak 7 g.1 g.2 162 res.1]) (fun g=>True):=by
 obtain⟨A2,c3,rfl,g9,hs4⟩:=hs4.form;obtain⟨A7,c8,rfl,Fi,gD⟩:=gD.form;refine We 25 Tryz.func81 (St.start w) fun R hR=>?_;obtain⟨dr,kz,hF⟩:=aj hF;refine a_ ?_;refine kM rh (v2 rfl rfl) (fun wz hw=>eY kz wz (hs4.mono hw) (gD.mono hw)) ?_;rintro⟨pQ,c13⟩ -;refine a_ ?_;refine Wc hF (fun dG hF=>?_) (fun dG hF=>?_)
 ·obtain rfl:=oi hF;refine a_ ?_;exact rG (none,0)
 ·refine a_ ?_;refine Wc hF (fun uw hF=>?_) (fun uw hF=>?_)
  ·obtain rfl:=oi hF;refine a_ ?_;exact rG (none,0)
  ·obtain rfl:=oi hF;refine a_ ?_;exact rG (pQ,c13)
def mx(N:Nat)(l1:(List Call))(cw:Call)(v10:Int):((List Int)×Int)→Option (((List Int)×Int) ⊕(List Int))|(eo,cW)=>cond (decide (cW < ((l1).length:Int))) (bd (ix l1 cW) fun bC=>cond ((!(decide (cw.au=(-1))))&&(decide (cw.au < bC.from_))) (bd (ax 12 0 eo v10) fun cJ=>bd (ax 12 0 eo v10) fun ux=>ck (aQ (cW+1)) <| some (.inl ((eN 12 0 eo v10 (jw .u16 cJ (gZ .u16 1 (IntKind.u64.wrap cW)))),(cW+1)))) (ck (aQ (cW+1)) <| some (.inl (eo,(cW+1))))) (some (.inr eo))
def mz(N:Nat)(l1:(List Call)):((List Int)×Int)→Option (((List Int)×Int) ⊕(List Int))|(rx,v10)=>cond (decide (v10 < ((l1).length:Int))) (bd (α:=(List Int)) (bd (ix l1 v10) fun cw=>iter (mx N l1 cw v10) N (rx,0)) <| fun uF=>ck (aQ (v10+1)) <| some (.inl (uF,(v10+1)))) (some (.inr rx))
def mU(N:Nat)(l1:(List Call)):Option (Int×(List Int)×Int):=cond (decide (12 < ((l1).length:Int))) (some (0,[],2)) (bd (α:=(List Int)) (iter (mz N l1) N ([],0)) <| fun xg=>some (((l1).length:Int),xg,0))
theorem z8{N l1 res}(hF:mU N l1=some res)(w:World){v5}(hs4:aP ak 7 w v5 l1):Pure Tryz.prog 82 [v5] w (.tuple #[.agg (bg (Rel.mk res.1 res.2.1)).toArray,.int .i64 res.2.2]):=by
 obtain⟨A2,c3,rfl,g9,hs4⟩:=hs4.form;refine We 53 Tryz.func82 (St.start w) fun R hR=>?_;refine a_ ?_;refine mA fun b6=>?_;refine a_ ?_;refine Wc hF (fun mI hF=>?_) (fun mI hF=>?_)
 ·refine a_ ?_;refine WL.q (Y.build (cs:=(bg (Rel.mk 0 [])).toArray) vu (.nil) (aX trivial) rfl) rfl ?_;obtain rfl:=oi hF;refine a_ ?_;exact rP
 ·refine a_ ?_;refine WL.q (Y.build (cs:=(bg (Rel.mk ((l1).length:Int) [])).toArray) vu (.cons (.pl rfl) (.nil)) (aX ⟨rfl,trivial⟩) rfl) rfl ?_;refine mA fun b7=>?_;obtain⟨o7,bD,hF⟩:=aj hF;refine b_ ?_;refine W.eh (fun a=>[]) (fun a=>[al b6 169 (bg (Rel.mk 0 [])),al b7 169 (bg (Rel.mk ((l1).length:Int) a))]) (fun a=>a=o7) (mD 2 4) (fun K8 nK=>?_) ?_
  ·refine a_ ?_;refine ve bD (fun a b=>[(18,.int .i64 b)]) (fun a b=>[al b6 169 (bg (Rel.mk 0 [])),al b7 169 (bg (Rel.mk ((l1).length:Int) a))]) (qu 0 2 4 16 17) fun rx v10 H5 t10 bl vv HQ lQ=>?_;refine a_ ?_;refine Wc bl (fun jx bl=>?_) (fun jx bl=>?_)
   ·obtain⟨o15,bF,bl⟩:=aj bl;refine b_ ?_;refine W.eh (fun a=>[]) (fun a=>[al b6 169 (bg (Rel.mk 0 [])),al b7 169 (bg (Rel.mk ((l1).length:Int) a))]) (fun a=>a=o15) (wX 0 2 4 16 17 18) (fun OP tc=>?_) ?_
    ·obtain⟨cw,ob,bF⟩:=aj bF;refine a_ ?_;refine mA fun pS=>?_;refine a_ ?_;refine ve bF (fun a b=>[(25,.int .i64 b)]) (fun a b=>[al b6 169 (bg (Rel.mk 0 [])),al b7 169 (bg (Rel.mk ((l1).length:Int) a)),al pS 162 (ak cw)]) (S1 0 2 4 5 6 16 17 18 23 24) fun eo cW k19 t19 kA MN K20 TS=>?_;refine a_ ?_;refine Wc kA (fun rm kA=>?_) (fun rm kA=>?_)
     ·obtain⟨bC,xh,kA⟩:=aj kA;refine a_ ?_;refine mA fun Bn=>?_;refine a_ ?_;refine Wc kA (fun zU kA=>?_) (fun zU kA=>?_)
      ·obtain⟨cJ,np,kA⟩:=aj kA;refine a_ ?_;refine WL.q (Y.lq (v:=.int .u16 cJ) Tryz.underlying166 rfl (.pl rfl) (i:=2) rfl (ue (pre:=(Value.int .i64 ((l1).length:Int)::[])) (off:=1) (post:=[]) (a:=eo) (enc:=(eI .u16)) (d:=0) (n:=12) (sz:=1) (j:=0) (fun _=>rfl) rfl (kY (np)) (kV (np)) rfl)) rfl ?_;obtain⟨ux,qd,kA⟩:=aj kA;refine a_ ?_;refine WL.step (WO.dD (cs':=(bg (Rel.mk ((l1).length:Int) (eN 12 0 eo v10 (jw .u16 cJ (gZ .u16 1 (IntKind.u64.wrap cW))))))) nn (.pl rfl) (.pl rfl) rfl (i:=2) rfl (kX (m:=13) (yh (off:=1) (sz:=1) (j:=0) (kY (qd)) (by decide)) rfl) (o5 (pre:=(Value.int .i64 ((l1).length:Int)::[])) (off:=1) (post:=[]) (a:=eo) (enc:=(eI .u16)) (d:=0) (n:=12) (sz:=1) (j:=0) (x:=ux) (x':=(jw .u16 cJ (gZ .u16 1 (IntKind.u64.wrap cW)))) (fun _=>rfl) rfl (mQ (qd)) (kV (qd)) (by decide) rfl rfl) ?_);obtain⟨xb,kA⟩:=aW kA;refine a_ ?_;exact g2 TS (oj kA MN)
      ·obtain⟨zR,kA⟩:=aW kA;refine a_ ?_;exact g2 TS (oj kA MN)
     ·refine a_ ?_;exact h1 tc (oj kA MN)
    ·rintro uF rfl;obtain⟨Jd,bl⟩:=aW bl;refine a_ ?_;exact g2 lQ (oj bl vv)
   ·refine a_ ?_;exact h1 nK (oj bl vv)
  ·rintro xg rfl;obtain rfl:=oi hF;refine a_ ?_;exact rP
def km(N:Nat)(eP:Int):Option Int:=cond (decide (eP=1)) (some 197) (cond (decide (eP=2)) (some 200) (cond (decide (eP=3)) (some 201) (cond (decide (eP=4)) (some 202) (cond (decide (eP=5)) (some 203) (some 0)))))
theorem ry{N eP res}(hF:km N eP=some res)(w:World):Pure Tryz.prog 65 [.int .i64 eP] w ((um res)):=by
 refine We 24 Tryz.func65 (St.start w) fun R hR=>?_;refine a_ ?_;refine Wc hF (fun dG hF=>?_) (fun dG hF=>?_)
 ·refine a_ ?_;refine WL.q (Y.wY Tryz.underlying197 Qz (by kernel_rfl)) rfl ?_;refine WL.q (Y.Ky Tryz.underlying197 rfl (.pl rfl)) rfl ?_;obtain rfl:=oi hF;refine a_ ?_;exact rP
 ·refine a_ ?_;refine Wc hF (fun uw hF=>?_) (fun uw hF=>?_)
  ·refine a_ ?_;refine WL.q (Y.wY Tryz.underlying200 QA (by kernel_rfl)) rfl ?_;refine WL.q (Y.Ky Tryz.underlying200 rfl (.pl rfl)) rfl ?_;obtain rfl:=oi hF;refine a_ ?_;exact rP
  ·refine a_ ?_;refine Wc hF (fun m_ hF=>?_) (fun m_ hF=>?_)
   ·refine a_ ?_;refine WL.q (Y.wY Tryz.underlying201 QB (by kernel_rfl)) rfl ?_;refine WL.q (Y.Ky Tryz.underlying201 rfl (.pl rfl)) rfl ?_;obtain rfl:=oi hF;refine a_ ?_;exact rP
   ·refine a_ ?_;refine Wc hF (fun jx hF=>?_) (fun jx hF=>?_)
    ·refine a_ ?_;refine WL.q (Y.wY Tryz.underlying202 QC (by kernel_rfl)) rfl ?_;refine WL.q (Y.Ky Tryz.underlying202 rfl (.pl rfl)) rfl ?_;obtain rfl:=oi hF;refine a_ ?_;exact rP
    ·refine a_ ?_;refine Wc hF (fun nj hF=>?_) (fun nj hF=>?_)
     ·refine a_ ?_;refine WL.q (Y.wY Tryz.underlying203 QD (by kernel_rfl)) rfl ?_;refine WL.q (Y.Ky Tryz.underlying203 rfl (.pl rfl)) rfl ?_;obtain rfl:=oi hF;refine a_ ?_;exact rP
     ·obtain rfl:=oi hF;refine a_ ?_;exact rP
def ll(N:Nat)(a1:bn):Option Unit:=some ()
theorem mK{N a1 res}(hF:ll N a1=some res)(w:World):Made Tryz.prog 246 [.agg (fw a1).toArray] w (fun g:Option Addr=>.slice g (([0]:List Int)).length (([0]:List Int)).length) (fun g=>[cR (eI .i64) 1 g (([0]:List Int)).length 3 ([0]:List Int)]) (fun g=>True):=by
 refine We 4 Tryz.func246 (St.start w) fun R hR=>?_;refine a_ ?_;refine WL.step (WO.fg (.pl rfl) rfl fun b2=>?_);refine a_ ?_;refine WL.step (WO.bA (enc:=(eI .i64)) (ys:=([0]:List Int)) Tryz.underlying29 qv (.cons (.pl rfl) (.nil)) rfl (fun _=>rfl) rfl rfl (by decide) (by decide) rfl fun b3=>?_);obtain rfl:=oi hF;refine a_ ?_;exact rG (some (Addr.mk b3 0 none))
def jJ(N:Nat)(a1:bn):Option Unit:=some ()
theorem kB{N a1 res}(hF:jJ N a1=some res)(w:World):Pure Tryz.prog 249 [.agg (fw a1).toArray] w (.slice none 0 0):=by
 refine We 3 Tryz.func249 (St.start w) fun R hR=>?_;refine a_ ?_;refine WL.step (WO.fg (.pl rfl) rfl fun b2=>?_);obtain rfl:=oi hF;refine a_ ?_;exact rP
def oh(N:Nat)(eP:Int):Option ((List Int)×Int):=bd (km N eP) fun r2=>cond (decide (r2=0)) (some ([],1)) (bd (α:=(List Int)) (cond (decide (r2=197)) (bd (ll N (bn.mk)) fun r6=>some ([0]:List Int)) (cond (decide (r2=200)) (bd (jJ N (bn.mk)) fun r8=>some []) (cond (decide (r2=201)) (bd (jJ N (bn.mk)) fun r9=>some []) (cond (decide (r2=202)) (bd (jJ N (bn.mk)) fun ex=>some []) (cond (decide (r2=203)) (bd (ll N (bn.mk)) fun dr=>some ([0]:List Int)) (none)))))) <| fun v5=>some (v5,0))
theorem Bt{N eP res}(hF:oh N eP=some res)(w:World):Made Tryz.prog 36 [.int .i64 eP] w (fun g:(Option Addr×Nat)=>.tuple #[.slice g.1 (res.1).length g.2,.int .i64 res.2]) (fun g=>[cR (eI .i64) 1 g.1 g.2 3 res.1]) (fun g=>True):=by
 refine We 11 Tryz.func36 (St.start w) fun R hR=>?_;obtain⟨r2,hr2,hF⟩:=aj hF;refine a_ ?_;refine kP FA (v1 rfl) (fun wz hw=>ry hr2 wz) ?_;refine a_ ?_;refine WL.q (Y.Kz Tryz.underlying140 (.pl rfl)) rfl ?_;refine a_ ?_;refine Wc hF (fun dG hF=>?_) (fun dG hF=>?_)
 ·obtain rfl:=oi hF;refine a_ ?_;exact rG (none,0)
 ·obtain⟨o7,bD,hF⟩:=aj hF;refine c_ ?_;refine W.jI (fun a b c=>[(2,.slice b (a).length c),(3,.int .i64 0)]) (fun a b c=>[cR (eI .i64) 1 b c 3 a]) (fun a b c=>a=o7) (.nil) (fun K8 nK=>?_) ?_
  ·refine a_ ?_;refine dl (decide (r2=197)) (fun OX=>?_) (fun OX=>?_)
   ·replace bD:=fJ OX bD;obtain⟨r6,uv,bD⟩:=aj bD;refine kI DS H1 (ap.nJ (k:=197) (of_decide_eq_true OX) rfl (.pl rfl)) v0 (fun wz hw=>(mK uv wz).calls hw) ?_;rintro A7 -;refine a_ ?_;exact h3 nK (oi bD)
   ·replace bD:=fK OX bD;refine dl (decide (r2=200)) (fun Jj=>?_) (fun Jj=>?_)
    ·replace bD:=fJ Jj bD;obtain⟨r8,lM,bD⟩:=aj bD;refine kI DU Cs (ap.nJ (k:=200) (of_decide_eq_true Jj) rfl (.pl rfl)) v0 (fun wz hw=>(kB lM wz).calls hw) ?_;rintro _ -;refine a_ ?_;exact h3 nK (oi bD)
    ·replace bD:=fK Jj bD;refine dl (decide (r2=201)) (fun Jk=>?_) (fun Jk=>?_)
     ·replace bD:=fJ Jk bD;obtain⟨r9,pO,bD⟩:=aj bD;refine kI DW Cs (ap.nJ (k:=201) (of_decide_eq_true Jk) rfl (.pl rfl)) v0 (fun wz hw=>(kB pO wz).calls hw) ?_;rintro _ -;refine a_ ?_;exact h3 nK (oi bD)
     ·replace bD:=fK Jk bD;refine dl (decide (r2=202)) (fun vw=>?_) (fun vw=>?_)
      ·replace bD:=fJ vw bD;obtain⟨ex,kD,bD⟩:=aj bD;refine kI DY Cs (ap.nJ (k:=202) (of_decide_eq_true vw) rfl (.pl rfl)) v0 (fun wz hw=>(kB kD wz).calls hw) ?_;rintro _ -;refine a_ ?_;exact h3 nK (oi bD)
      ·replace bD:=fK vw bD;refine dl (decide (r2=203)) (fun vx=>?_) (fun vx=>?_)
       ·replace bD:=fJ vx bD;obtain⟨dr,kz,bD⟩:=aj bD;refine kI D0 H1 (ap.nJ (k:=203) (of_decide_eq_true vx) rfl (.pl rfl)) v0 (fun wz hw=>(mK kz wz).calls hw) ?_;rintro pQ -;refine a_ ?_;exact h3 nK (oi bD)
       ·replace bD:=fK vx bD;exact nomatch bD
  ·rintro v5 A3 c4 rfl;obtain rfl:=oi hF;exact rG (A3,c4)
def ij(N:Nat)(aL:(List Call))(aY:Int):Int→Option (Int ⊕(Unit ⊕ Bool))|v21=>cond (decide (v21 < ((aL).length:Int))) (bd (ix aL v21) fun ce=>cond ((!(decide (ce.au=(-1))))&&(decide ((mR .u16 (fq .u16 aY (IntKind.u64.wrap v21)) 1)=0))) (some (.inr (.inr false))) (ck (aQ (v21+1)) <| some (.inl (v21+1)))) (some (.inr (.inl ())))
def gh(N:Nat)(aU:(List Int))(aL:(List Call))(bi:Rel)(aO:(List (List Int)))(aY:Int)(bz:(List Step))(br:(List (ByteArray×Bool))):Option Bool:=bd (α:=(Unit ⊕ Bool)) (iter (ij N aL aY) N 0) <| Sum.elim (fun _=>some true) (fun p=>some p)
theorem qO{N aU aL bi aO aY bz br b1 A3 c4 A7 c8 bH c12 cr dH c17 bZ res}(hF:gh N aU aL bi aO aY bz br=some res){w0 w T}(hw:St w0.heap.size w0 (al b1 217 (Value.slice A3 (aU).length c4::(Value.slice A7 (aL).length c8::((bg bi)++(Value.slice bH (aO).length c12::(Value.int .u16 aY::(Value.slice dH (bz).length c17::(Value.map (some bZ)::[])))))))::cN cQ (dB (eI .i64) 1 3) 1 bH c12 29 cr aO::cR bw 2 dH c17 128 bz::iz Value.bool (some bZ) br::T) w)(hs5:aP (eI .i64) 1 w0 (.slice A3 (aU).length c4) aU)(gD:aP ak 7 w0 (.slice A7 (aL).length c8) aL):Calls Tryz.prog 155 (List.toArray [.pointer (some ⟨b1,0,none⟩)]) w (fun e w'=>∃g:Unit,(True)∧e= .returned (.bool res)∧St w0.heap.size w0 (al b1 217 (Value.slice A3 (aU).length c4::(Value.slice A7 (aL).length c8::((bg bi)++(Value.slice bH (aO).length c12::(Value.int .u16 aY::(Value.slice dH (bz).length c17::(Value.map (some bZ)::[])))))))::cN cQ (dB (eI .i64) 1 3) 1 bH c12 29 cr aO::cR bw 2 dH c17 128 bz::iz Value.bool (some bZ) br::T) w'):=by
 refine We 30 Tryz.func155 hw fun R hR=>?_;obtain⟨o2,bS,hF⟩:=aj hF;refine b_ ?_;refine W.dR [] ((al b1 217 (Value.slice A3 (aU).length c4::(Value.slice A7 (aL).length c8::((bg bi)++(Value.slice bH (aO).length c12::(Value.int .u16 aY::(Value.slice dH (bz).length c17::(Value.map (some bZ)::[])))))))::cN cQ (dB (eI .i64) 1 3) 1 bH c12 29 cr aO::cR bw 2 dH c17 128 bz::iz Value.bool (some bZ) br::T)) ((.inl ())=o2) (.nil) (fun K3 d5=>?_) ?_
 ·refine a_ ?_;refine gl bS (fun a=>[(10,.int .i64 a)]) (fun a=>(al b1 217 (Value.slice A3 (aU).length c4::(Value.slice A7 (aL).length c8::((bg bi)++(Value.slice bH (aO).length c12::(Value.int .u16 aY::(Value.slice dH (bz).length c17::(Value.map (some bZ)::[])))))))::cN cQ (dB (eI .i64) 1 3) 1 bH c12 29 cr aO::cR bw 2 dH c17 128 bz::iz Value.bool (some bZ) br::T)) (gx 0 8 9) fun v21 k5 t5 aD cU K6 io=>?_;refine a_ ?_;refine Wc aD (fun eO aD=>?_) (fun eO aD=>?_)
  ·obtain⟨ce,tf,aD⟩:=aj aD;refine a_ ?_;refine mA fun Bp=>?_;refine a_ ?_;refine Wc aD (fun iB aD=>?_) (fun iB aD=>?_)
   ·obtain rfl:=oi aD;obtain rfl:=dC cU;obtain rfl:=oi hF;refine a_ ?_;exact rG ()
   ·obtain⟨z_,aD⟩:=aW aD;refine a_ ?_;exact g1 io (oj aD cU)
  ·refine a_ ?_;exact h0 d5 (oj aD cU)
 ·rintro rfl;obtain rfl:=oi hF;refine a_ ?_;exact rG ()
def jY(N:Nat)(x32:(List Int)):((List Int)×Int)→Option (((List Int)×Int) ⊕(List Int))|(H6,v40)=>cond (decide (v40 < ((x32).length:Int))) (bd (ix x32 v40) fun Dw=>ck (dh 1 ((H6).length+(([(IntKind.u8.wrap Dw),(IntKind.u8.wrap (fq .i64 Dw 8))]:List Int)).length)) <| ck (aQ (v40+1)) <| some (.inl ((H6++([(IntKind.u8.wrap Dw),(IntKind.u8.wrap (fq .i64 Dw 8))]:List Int)),(v40+1)))) (some (.inr H6))
def jZ(N:Nat)(aO:(List (List Int))):((List Int)×Int)→Option (((List Int)×Int) ⊕(List Int))|(OY,v28)=>cond (decide (v28 < ((aO).length:Int))) (bd (α:=(List Int)) (bd (ix aO v28) fun x32=>ck (dh 1 ((OY).length+(([(IntKind.u8.wrap ((x32).length:Int))]:List Int)).length)) <| iter (jY N x32) N ((OY++([(IntKind.u8.wrap ((x32).length:Int))]:List Int)),0)) <| fun Xx=>ck (aQ (v28+1)) <| some (.inl (Xx,(v28+1)))) (some (.inr OY))
def jK(N:Nat)(aU:(List Int))(aL:(List Call))(bi:Rel)(aO:(List (List Int)))(aY:Int)(bz:(List Step))(br:(List (ByteArray×Bool))):Option ByteArray:=bd (α:=(List Int)) (iter (jZ N aO) N (([(IntKind.u8.wrap aY),(IntKind.u8.wrap (fq .u16 aY 8))]:List Int),0)) <| fun Dx=>some (qc Dx)
theorem vy{N aU aL bi aO aY bz br b1 A3 c4 A7 c8 bH c12 cr dH c17 bZ res}(hF:jK N aU aL bi aO aY bz br=some res){w0 w T}(hw:St w0.heap.size w0 (al b1 217 (Value.slice A3 (aU).length c4::(Value.slice A7 (aL).length c8::((bg bi)++(Value.slice bH (aO).length c12::(Value.int .u16 aY::(Value.slice dH (bz).length c17::(Value.map (some bZ)::[])))))))::cN cQ (dB (eI .i64) 1 3) 1 bH c12 29 cr aO::cR bw 2 dH c17 128 bz::iz Value.bool (some bZ) br::T) w)(hs5:aP (eI .i64) 1 w0 (.slice A3 (aU).length c4) aU)(gD:aP ak 7 w0 (.slice A7 (aL).length c8) aL):Calls Tryz.prog 156 (List.toArray [.pointer (some ⟨b1,0,none⟩)]) w (fun e w'=>∃g:Unit,(True)∧e= .returned (.string res)∧St w0.heap.size w0 (al b1 217 (Value.slice A3 (aU).length c4::(Value.slice A7 (aL).length c8::((bg bi)++(Value.slice bH (aO).length c12::(Value.int .u16 aY::(Value.slice dH (bz).length c17::(Value.map (some bZ)::[])))))))::cN cQ (dB (eI .i64) 1 3) 1 bH c12 29 cr aO::cR bw 2 dH c17 128 bz::iz Value.bool (some bZ) br::T) w'):=by
 refine We 53 Tryz.func156 hw fun R hR=>?_;refine b_ ?_;refine W.s7 11 (by kernel_rfl) (by kernel_rfl) fun Q2 FJ=>?_;refine Sq ym ?_;refine Sq yc ?_;refine Sq yf ?_;refine Sq lH ?_;refine WS.q (Y.conv Tryz.underlying166 Tryz.underlying5 (.pl rfl)) rfl ?_;refine Sq ym ?_;refine Sq yc ?_;refine Sq yf ?_;refine Sq lH ?_;refine WS.q (Y.shr (.pl rfl) (.pl rfl) (by decide)) rfl ?_;refine WS.q (Y.conv Tryz.underlying166 Tryz.underlying5 (.pl rfl)) rfl ?_;refine WS.tail ?_;refine WL.step (WO.bA (enc:=(eI .u8)) (ys:=([(IntKind.u8.wrap aY),(IntKind.u8.wrap (fq .u16 aY 8))]:List Int)) Tryz.underlying49 TN (.cons (.pl rfl) (.cons (.pl rfl) (.nil))) rfl (fun _=>rfl) rfl rfl (by decide) (by decide) rfl fun FK=>?_);refine a_ ?_;refine xQ FJ ?_;obtain⟨o3,ey,hF⟩:=aj hF;refine W.jI (fun a b c=>[(3,.slice b (a).length c)]) (fun a b c=>(al b1 217 (Value.slice A3 (aU).length c4::(Value.slice A7 (aL).length c8::((bg bi)++(Value.slice bH (aO).length c12::(Value.int .u16 aY::(Value.slice dH (bz).length c17::(Value.map (some bZ)::[])))))))::cN cQ (dB (eI .i64) 1 3) 1 bH c12 29 cr aO::cR bw 2 dH c17 128 bz::iz Value.bool (some bZ) br::cR (eI .u8) 1 b c 5 a::T)) (fun a b c=>a=o3) (.nil) (fun K4 ko=>?_) ?_
 ·refine a_ ?_;refine s_ ey (fun a b c d=>[(3,.slice c (a).length d),(25,.int .i64 b)]) (fun a b c d=>(al b1 217 (Value.slice A3 (aU).length c4::(Value.slice A7 (aL).length c8::((bg bi)++(Value.slice bH (aO).length c12::(Value.int .u16 aY::(Value.slice dH (bz).length c17::(Value.map (some bZ)::[])))))))::cN cQ (dB (eI .i64) 1 3) 1 bH c12 29 cr aO::cR bw 2 dH c17 128 bz::iz Value.bool (some bZ) br::cR (eI .u8) 1 c d 5 a::T)) (mD 23 24) fun OY v28 A25 c26 k6 t6 aJ ec K7 jb=>?_;refine a_ ?_;refine Wc aJ (fun iI aJ=>?_) (fun iI aJ=>?_)
  ·obtain⟨lN,aA,aJ⟩:=aj aJ;refine b_ ?_;refine W.jI (fun a b c=>[(3,.slice b (a).length c)]) (fun a b c=>(al b1 217 (Value.slice A3 (aU).length c4::(Value.slice A7 (aL).length c8::((bg bi)++(Value.slice bH (aO).length c12::(Value.int .u16 aY::(Value.slice dH (bz).length c17::(Value.map (some bZ)::[])))))))::cN cQ (dB (eI .i64) 1 3) 1 bH c12 29 cr aO::cR bw 2 dH c17 128 bz::iz Value.bool (some bZ) br::cR (eI .u8) 1 b c 5 a::T)) (fun a b c=>a=lN) (gx 23 24 25) (fun rk di=>?_) ?_
   ·obtain⟨x32,FL,aA⟩:=aj aA;refine a_ ?_;refine WL.q (Y.AX Tryz.underlying70 je (i:=1) rfl (.pl rfl) rfl (.pl rfl) (aK (FL))) rfl ?_;refine WL.q (Y.mT (enc:=cQ) (h0:=((none,0):Hd)) (v:=.slice (cr.getD v28.toNat ((none,0):Hd)).1 (x32).length (cr.getD v28.toNat ((none,0):Hd)).2) (a:=x32) (idx:=v28) (j:=0) Tryz.underlying29 rfl yu (i:=1) rfl (.pl rfl) (bx (FL)) rfl rfl) rfl ?_;refine a_ ?_;refine WL.step (WO.bA (enc:=(eI .u8)) (ys:=([(IntKind.u8.wrap ((x32).length:Int))]:List Int)) Tryz.underlying49 TN (.cons (.pl rfl) (.nil)) rfl (fun _=>rfl) rfl rfl (by decide) (by decide) rfl fun b33=>?_);obtain⟨MD,aA⟩:=aW aA;refine WL.step (WO.d4 (enc:=(eI .u8)) Tryz.underlying49 Xw (fun _=>rfl) q7 (.pl rfl) rfl (.pl rfl) (i:=5) rfl (m2:=0) rfl (MD) rfl fun A34 c35=>?_);refine a_ ?_;refine s_ aA (fun a b c d=>[(3,.slice c (a).length d),(37,.int .i64 b)]) (fun a b c d=>(al b1 217 (Value.slice A3 (aU).length c4::(Value.slice A7 (aL).length c8::((bg bi)++(Value.slice bH (aO).length c12::(Value.int .u16 aY::(Value.slice dH (bz).length c17::(Value.map (some bZ)::[])))))))::cN cQ (dB (eI .i64) 1 3) 1 bH c12 29 cr aO::cR bw 2 dH c17 128 bz::iz Value.bool (some bZ) br::cR (eI .u8) 1 c d 5 a::T)) (qu 23 24 25 35 36) fun H6 v40 A37 c38 k16 t16 rz TT K17 MA=>?_;refine a_ ?_;refine Wc rz (fun rA rz=>?_) (fun rA rz=>?_)
    ·obtain⟨Dw,TU,rz⟩:=aj rz;refine a_ ?_;refine WL.q (Y.wEl (enc:=(eI .i64)) (sz:=1) Tryz.underlying29 bp (fun wz hw=>(aP.SQ (jS:=(eI .i64)) (Hy:=1) (E2:=3) (h0:=((none,0):Hd)) (fun _=>rfl) hw (i:=1) rfl (FL) (.head _))) (.pl rfl) (.pl rfl) (aK (TU))) rfl ?_;refine WL.q (Y.Wa (enc:=(eI .i64)) (v:=.int .i64 Dw) (j:=0) Tryz.underlying3 rfl (fun wz hw=>(aP.SQ (jS:=(eI .i64)) (Hy:=1) (E2:=3) (h0:=((none,0):Hd)) (fun _=>rfl) hw (i:=1) rfl (FL) (.head _))) (.pl rfl) (TU) rfl rfl) rfl ?_;refine a_ ?_;refine WL.step (WO.bA (enc:=(eI .u8)) (ys:=([(IntKind.u8.wrap Dw),(IntKind.u8.wrap (fq .i64 Dw 8))]:List Int)) Tryz.underlying49 TN (.cons (.pl rfl) (.cons (.pl rfl) (.nil))) rfl (fun _=>rfl) rfl rfl (by decide) (by decide) rfl fun b42=>?_);obtain⟨TV,rz⟩:=aW rz;refine WL.step (WO.d4 (enc:=(eI .u8)) Tryz.underlying49 Xw (fun _=>rfl) q7 (.pl rfl) rfl (.pl rfl) (i:=5) rfl (m2:=0) rfl (TV) rfl fun A43 c44=>?_);obtain⟨aa_,rz⟩:=aW rz;refine a_ ?_;exact g4 MA (oj rz TT)
    ·refine a_ ?_;exact h3 di (oj rz TT)
   ·rintro Xx Xy Xz rfl;obtain⟨aa',aJ⟩:=aW aJ;refine a_ ?_;exact g4 jb (oj aJ ec)
  ·refine a_ ?_;exact h3 ko (oj aJ ec)
 ·rintro Dx XA XB rfl;refine a_ ?_;refine WL.q (Y.qc (xs:=Dx) Tryz.underlying49 Tryz.underlying5 Tryz.underlying9 (.pl rfl) rfl (i:=4) rfl) rfl ?_;obtain rfl:=oi hF;refine a_ ?_;exact rG ()
def fT(N:Nat)(a1:bn)(s2:(List Int)):Option Bool:=bd ((cond ((decide (((s2).length:Int)=1))==true) (ix s2 0) (some 0))) fun x8=>bd ((cond (((decide (((s2).length:Int)=1))&&(decide (0≤x8)))==true) (ix s2 0) (some 0))) fun x9=>some (((decide (((s2).length:Int)=1))&&(decide (0≤x8)))&&(decide (x9≤1000)))
theorem mL{N a1 s2 res}(hF:fT N a1 s2=some res)(w:World){v6}(hs5:aP (eI .i64) 1 w v6 s2):Pure Tryz.prog 247 [.agg (fw a1).toArray,v6] w (.bool res):=by
 obtain⟨A3,c4,rfl,FM,hs5⟩:=hs5.form;refine We 20 Tryz.func247 (St.start w) fun R hR=>?_;refine a_ ?_;refine WL.step (WO.fg (.pl rfl) rfl fun b7=>?_);obtain⟨x8,HM,hF⟩:=aj hF;obtain⟨x9,TW,hF⟩:=aj hF;obtain rfl:=oi hF;refine a_ ?_;exact rP
def oQ(N:Nat)(n1:Int):Option Unit:=some ()
theorem tz{N n1 res}(hF:oQ N n1=some res)(w:World):Pure Tryz.prog 251 [.int .i64 n1] w (.bool ((decide (n1 < 1))||(decide (1000 < n1)))):=by
 refine We 9 Tryz.func251 (St.start w) fun R hR=>?_;obtain rfl:=oi hF;refine a_ ?_;exact rP
def fO(N:Nat)(s1:(List Int)):Int→Option (Int ⊕(Unit ⊕ Int))|v6=>cond (decide (v6 < ((s1).length:Int))) (bd (ix s1 v6) fun x7=>bd (oQ N x7) fun r8=>cond ((decide (x7 < 1))||(decide (1000 < x7))) (some (.inr (.inr v6))) (ck (aQ (v6+1)) <| some (.inl (v6+1)))) (some (.inr (.inl ())))
def hD(N:Nat)(s1:(List Int)):Option Int:=bd (α:=(Unit ⊕ Int)) (iter (fO N s1) N 0) <| Sum.elim (fun _=>some (-1)) (fun p=>some p)
theorem oM{N s1 res}(hF:hD N s1=some res)(w:World){v5}(hs4:aP (eI .i64) 1 w v5 s1):Pure Tryz.prog 119 [v5,.func (.func 251) #[] #[]] w (.int .i64 res):=by
 obtain⟨A2,c3,rfl,g9,hs4⟩:=hs4.form;refine We 19 Tryz.func119 (St.start w) fun R hR=>?_;obtain⟨o2,bS,hF⟩:=aj hF;refine b_ ?_;refine W.dR [] [] ((.inl ())=o2) (.nil) (fun K3 d5=>?_) ?_
 ·refine a_ ?_;refine gl bS (fun a=>[(8,.int .i64 a)]) (fun a=>[]) (gx 0 1 7) fun v6 k5 t5 aD cU K6 io=>?_;refine a_ ?_;refine Wc aD (fun eO aD=>?_) (fun eO aD=>?_)
  ·obtain⟨x7,HN,aD⟩:=aj aD;obtain⟨r8,lM,aD⟩:=aj aD;refine a_ ?_;refine kG Qn (.pl rfl) (v1 rfl) (fun wz hw=>(tz lM wz).calls hw) ?_;rintro _ -;refine a_ ?_;refine Wc aD (fun iB aD=>?_) (fun iB aD=>?_)
   ·obtain rfl:=oi aD;obtain rfl:=dC cU;obtain rfl:=oi hF;refine a_ ?_;exact rP
   ·obtain⟨wc,aD⟩:=aW aD;refine a_ ?_;exact g1 io (oj aD cU)
  ·refine a_ ?_;exact h0 d5 (oj aD cU)
 ·rintro rfl;obtain rfl:=oi hF;refine a_ ?_;exact rP
def fP(N:Nat)(s1:(List Int)):Option Bool:=bd (hD N s1) fun r6=>some (decide (0≤r6))
theorem nq{N s1 res}(hF:fP N s1=some res)(w:World){v5}(hs4:aP (eI .i64) 1 w v5 s1):Pure Tryz.prog 79 [v5,.func (.func 251) #[] #[]] w (.bool res):=by
 obtain⟨A2,c3,rfl,g9,hs4⟩:=hs4.form;refine We 9 Tryz.func79 (St.start w) fun R hR=>?_;obtain⟨r6,uv,hF⟩:=aj hF;refine a_ ?_;refine kP HK (v2 rfl rfl) (fun wz hw=>oM uv wz (hs4.mono hw)) ?_;obtain rfl:=oi hF;refine a_ ?_;exact rP
def fG(N:Nat)(a1:bn)(s2:(List Int)):Option Bool:=bd (fP N s2) fun r8=>some (!r8)
theorem kE{N a1 s2 res}(hF:fG N a1 s2=some res)(w:World){v6}(hs5:aP (eI .i64) 1 w v6 s2):Pure Tryz.prog 250 [.agg (fw a1).toArray,v6] w (.bool res):=by
 obtain⟨A3,c4,rfl,FM,hs5⟩:=hs5.form;refine We 8 Tryz.func250 (St.start w) fun R hR=>?_;refine a_ ?_;refine WL.step (WO.fg (.pl rfl) rfl fun b7=>?_);obtain⟨r8,lM,hF⟩:=aj hF;refine a_ ?_;refine kP KM (v2 rfl rfl) (fun wz hw=>nq lM wz (hs5.mono hw)) ?_;obtain rfl:=oi hF;refine a_ ?_;exact rP
def lm(N:Nat)(s2:(List Int)):Int→Option (Int ⊕(Unit ⊕ Bool))|i8=>cond (decide (i8 < ((s2).length:Int))) (ck (aQ (i8 - 1)) <| bd (ix s2 (i8 - 1)) fun pT=>bd (ix s2 i8) fun dS=>cond (decide (dS≤pT)) (some (.inr (.inr false))) (ck (aQ (i8+1)) <| some (.inl (i8+1)))) (some (.inr (.inl ())))
def kF(N:Nat)(x1:d8)(s2:(List Int)):Option Bool:=bd (α:=(Unit ⊕ Bool)) (iter (lm N s2) N 1) <| Sum.elim (fun _=>bd (fG N x1.many s2) fun fv=>some fv) (fun p=>some p)
theorem wD{N x1 s2 res}(hF:kF N x1 s2=some res)(w:World){v6}(hs5:aP (eI .i64) 1 w v6 s2):Pure Tryz.prog 256 [.agg (jX x1).toArray,v6] w (.bool res):=by
 obtain⟨A3,c4,rfl,FM,hs5⟩:=hs5.form;refine We 26 Tryz.func256 (St.start w) fun R hR=>?_;refine a_ ?_;refine WL.step (WO.fg (.pl rfl) rfl fun b7=>?_);obtain⟨o2,bS,hF⟩:=aj hF;refine b_ ?_;refine W.dR [] [al b7 202 (jX x1)] ((.inl ())=o2) (mD 1 2) (fun K3 d5=>?_) ?_
 ·refine a_ ?_;refine gl bS (fun a=>[(5,.int .i64 a)]) (fun a=>[al b7 202 (jX x1)]) (mD 1 2) fun i8 k5 t5 aD cU K6 io=>?_;refine a_ ?_;refine Wc aD (fun eO aD=>?_) (fun eO aD=>?_)
  ·refine b_ ?_;refine iS ?_;refine b_ ?_;refine W.mw (by kernel_rfl) (by kernel_rfl) fun R11 Mz=>?_;refine Dq ym ?_;refine Dq ym ?_;obtain⟨wc,aD⟩:=aW aD;refine WD.q (Y.sub (.pl rfl) (.pl rfl) (jP (wc))) rfl ?_;obtain⟨pT,vz,aD⟩:=aj aD;refine WD.q (Y.u_ Tryz.underlying29 bp hs5 (.pl rfl) (.pl rfl) (aK (vz))) rfl ?_;refine WD.q (Y.sv (enc:=(eI .i64)) (v:=.int .i64 pT) (j:=0) Tryz.underlying3 rfl hs5 (.pl rfl) (vz) rfl rfl) rfl ?_;refine Dq ym ?_;refine Dq ym ?_;obtain⟨dS,po,aD⟩:=aj aD;refine WD.q (Y.u_ Tryz.underlying29 bp hs5 (.pl rfl) (.pl rfl) (aK (po))) rfl ?_;refine WD.q (Y.sv (enc:=(eI .i64)) (v:=.int .i64 dS) (j:=0) Tryz.underlying3 rfl hs5 (.pl rfl) (po) rfl rfl) rfl ?_;refine Dq yj ?_;refine WD.next Mz (lI 1 2 5 21) ?_;refine Wc aD (fun vo aD=>?_) (fun vo aD=>?_)
   ·obtain rfl:=oi aD;obtain rfl:=dC cU;obtain rfl:=oi hF;refine a_ ?_;exact rP
   ·obtain⟨TX,aD⟩:=aW aD;refine a_ ?_;exact g1 io (oj aD cU)
  ·refine a_ ?_;exact h0 d5 (oj aD cU)
 ·rintro rfl;refine a_ ?_;refine WL.q (Y.vd (ft:=198) Tryz.underlying202 rfl uE TR (.pl rfl) (i':=0) rfl) rfl ?_;refine WL.q (Y.I8 Tryz.underlying198 uE (.pl rfl)) rfl ?_;obtain⟨fv,jW,hF⟩:=aj hF;refine a_ ?_;refine kP Ct (v2 rfl rfl) (fun wz hw=>kE jW wz (hs5.mono hw)) ?_;obtain rfl:=oi hF;refine a_ ?_;exact rP
def ol(N:Nat)(eP:Int)(s2:(List Int)):Option Int:=bd (km N eP) fun r7=>cond (decide (r7=0)) (some 1) (cond (decide (50 < ((s2).length:Int))) (some 2) (bd (α:=Bool) (cond (decide (r7=197)) (bd (fT N (bn.mk) s2) fun r9=>some (!r9)) (cond (decide (r7=200)) (bd (fG N (bn.mk) s2) fun ex=>some (!ex)) (cond (decide (r7=201)) (bd (fG N (bn.mk) s2) fun dr=>some (!dr)) (cond (decide (r7=202)) (bd (kF N (d8.mk (bn.mk)) s2) fun wk=>some (!wk)) (cond (decide (r7=203)) (bd (fT N (bn.mk) s2) fun fv=>some (!fv)) (none)))))) <| fun v8=>cond v8 (some 3) (some 0)))
theorem Bu{N eP s2 res}(hF:ol N eP s2=some res)(w:World){v6}(hs5:aP (eI .i64) 1 w v6 s2):Pure Tryz.prog 106 [.int .i64 eP,v6] w (.int .i64 res):=by
 obtain⟨A3,c4,rfl,FM,hs5⟩:=hs5.form;refine We 20 Tryz.func106 (St.start w) fun R hR=>?_;obtain⟨r7,pN,hF⟩:=aj hF;refine a_ ?_;refine kP FA (v1 rfl) (fun wz hw=>ry pN wz) ?_;refine a_ ?_;refine WL.q (Y.Kz Tryz.underlying140 (.pl rfl)) rfl ?_;refine a_ ?_;refine Wc hF (fun dG hF=>?_) (fun dG hF=>?_)
 ·obtain rfl:=oi hF;refine a_ ?_;exact rP
 ·refine a_ ?_;refine Wc hF (fun uw hF=>?_) (fun uw hF=>?_)
  ·obtain rfl:=oi hF;refine a_ ?_;exact rP
  ·obtain⟨Fm,bl,hF⟩:=aj hF;refine W.eh (fun a=>[(15,.bool a)]) (fun a=>[]) (fun a=>a=Fm) (.nil) (fun HQ lQ=>?_) ?_
   ·refine a_ ?_;refine dl (decide (r7=197)) (fun vw=>?_) (fun vw=>?_)
    ·replace bl:=fJ vw bl;obtain⟨r9,pO,bl⟩:=aj bl;refine kI DT H2 (ap.nJ (k:=197) (of_decide_eq_true vw) rfl (.pl rfl)) (v1 rfl) (fun wz hw=>(mL pO wz (hs5.mono hw)).calls hw) ?_;rintro _ -;refine a_ ?_;exact h1 lQ (oi bl)
    ·replace bl:=fK vw bl;refine dl (decide (r7=200)) (fun vx=>?_) (fun vx=>?_)
     ·replace bl:=fJ vx bl;obtain⟨ex,kD,bl⟩:=aj bl;refine kI DV Ct (ap.nJ (k:=200) (of_decide_eq_true vx) rfl (.pl rfl)) (v1 rfl) (fun wz hw=>(kE kD wz (hs5.mono hw)).calls hw) ?_;rintro _ -;refine a_ ?_;exact h1 lQ (oi bl)
     ·replace bl:=fK vx bl;refine dl (decide (r7=201)) (fun tR=>?_) (fun tR=>?_)
      ·replace bl:=fJ tR bl;obtain⟨dr,kz,bl⟩:=aj bl;refine kI DX Ct (ap.nJ (k:=201) (of_decide_eq_true tR) rfl (.pl rfl)) (v1 rfl) (fun wz hw=>(kE kz wz (hs5.mono hw)).calls hw) ?_;rintro _ -;refine a_ ?_;exact h1 lQ (oi bl)
      ·replace bl:=fK tR bl;refine dl (decide (r7=202)) (fun tT=>?_) (fun tT=>?_)
       ·replace bl:=fJ tT bl;obtain⟨wk,FN,bl⟩:=aj bl;refine kI DZ Qs (ap.nJ (k:=202) (of_decide_eq_true tT) rfl (.pl rfl)) (v1 rfl) (fun wz hw=>(wD FN wz (hs5.mono hw)).calls hw) ?_;rintro _ -;refine a_ ?_;exact h1 lQ (oi bl)
       ·replace bl:=fK tT bl;refine dl (decide (r7=203)) (fun tU=>?_) (fun tU=>?_)
        ·replace bl:=fJ tU bl;obtain⟨fv,jW,bl⟩:=aj bl;refine kI D1 H2 (ap.nJ (k:=203) (of_decide_eq_true tU) rfl (.pl rfl)) (v1 rfl) (fun wz hw=>(mL jW wz (hs5.mono hw)).calls hw) ?_;rintro _ -;refine a_ ?_;exact h1 lQ (oi bl)
        ·replace bl:=fK tU bl;exact nomatch bl
   ·rintro v8 rfl;refine Wc hF (fun nj hF=>?_) (fun nj hF=>?_)
    ·obtain rfl:=oi hF;refine a_ ?_;exact rP
    ·obtain rfl:=oi hF;refine a_ ?_;exact rP
theorem dy{xs}(hb:dh 8 xs.length=true)(w:World){v}(h:aP (eI .i64) 1 w v xs):Made Tryz.prog 107 [v] w (fun g:Option Addr×Nat=>.slice g.1 xs.length g.2) (fun g=>[cR (eI .i64) 1 g.1 g.2 3 xs]) (fun _=>True):=by
 obtain⟨A1,c1,rfl,hc1,hs⟩:=h.form
 refine W.enter (n:=8) Tryz.func107 rfl rfl Sub.refl (by simp) (St.start w) fun R hR=>?_
 refine W.mv fun Q1 xi=>?_
 refine WL.q (Y.assign (.pl rfl)) rfl ?_
 refine WL.next xi (.cons (i:=0) rfl (.nil)) ?_
 refine W.seq fun K2 K'=>?_
 refine W.mv fun Q3 La=>?_
 refine WL.q (Y.move (.pl rfl)) rfl ?_
 refine WL.q (Y.Ot Tryz.underlying29 (.pl rfl)) rfl ?_
 refine WL.next La (.cons (i:=0) rfl (.cons (i:=4) rfl (.nil))) ?_
 refine W.cond (.pl rfl) (fun hC=>?_) (fun hC=>?_)
 ·refine W.mv fun Q4 Lb=>?_
  refine WL.q (Y.assign (.pl rfl)) rfl ?_
  refine WL.next Lb (.cons (i:=2) rfl (.nil)) ?_
  have hx:xs= []:=by
   cases xs with
   |nil=>rfl
   |cons a r=>
    have:=(hs.Ca (idx:=0) ⟨Int.le_refl _,by simp⟩).1
    rw[Option.isNone_iff_eq_none]at hC
    rw[hC]at this;cases this
  subst hx
  refine W.ii (fn:=Tryz.f107) (vs:=[.slice none 0 0]) Tryz.results107 ⟨.tmp rfl,trivial⟩ (fun _ _ h=>h) (fun w hw=>?_)
  exact hR _ _ ⟨(none,0),trivial,rfl,St.kw hw (eI .i64) 1 3⟩
 ·refine W.skip ?_
  refine W.go K' (.cons (i:=0) rfl (.nil)) ?_
  obtain⟨a1,rfl⟩: ∃a,A1=some a:=by cases A1 with
   |none=>cases hC
   |some a=>exact⟨a,rfl⟩
  refine W.mv fun Q5 TY=>?_
  refine WL.step (WO.bA (enc:=(eI .i64)) (ys:=[]) Tryz.underlying29 qv (.nil) rfl (fun _=>rfl) rfl rfl (by decide) (by decide) rfl fun b=>?_)
  refine WL.q (Y.move (.pl rfl)) rfl ?_
  refine WL.step (WO.Hw (enc:=(eI .i64)) (ys:=xs) (xs:=[]) Tryz.underlying29 Dn (fun _=>rfl) q7 (.pl rfl) rfl (.pl rfl) (i:=0) rfl (fun w hw=>hs.mono hw) (by simpa using hb) rfl fun A c=>?_)
  refine WL.q (Y.assign (.pl rfl)) rfl ?_
  refine WL.next TY (.cons (i:=2) rfl (.nil)) ?_
  refine W.ii (fn:=Tryz.f107) (vs:=[.slice A xs.length c]) Tryz.results107 ⟨.tmp rfl,trivial⟩ (fun _ _ h=>h) (fun w hw=>?_)
  exact hR _ _ ⟨(A,c),trivial,rfl,hw⟩
def ik(N:Nat)(a1:el)(s4:(List Int))(fR:Int)(iJ:Int):Option ((List Int)×Int):=cond (decide (fR=1)) (some (([iJ]:List Int),0)) (bd (ix s4 0) fun x9=>some (s4,x9))
theorem sk{N a1 s4 fR iJ A2 c3 res}(hF:ik N a1 s4 fR iJ=some res){w0 w T}(hw:St w0.heap.size w0 (cR (eI .i64) 1 A2 c3 3 s4::T) w):Calls Tryz.prog 248 (List.toArray [.agg (qC a1).toArray,.slice A2 (s4).length c3,.int .i64 fR,.int .i64 iJ]) w (fun e w'=>∃g:(Option Addr×Nat),(True)∧e= .returned (.tuple #[.slice g.1 (res.1).length g.2,.int .i64 res.2,.int .i64 0])∧St w0.heap.size w0 (cR (eI .i64) 1 g.1 g.2 3 res.1::T) w'):=by
 refine We 19 Tryz.func248 hw fun R hR=>?_;refine a_ ?_;refine WL.step (WO.fg (.pl rfl) rfl fun b7=>?_);refine a_ ?_;refine Wc hF (fun mI hF=>?_) (fun mI hF=>?_)
 ·refine a_ ?_;refine WL.step (WO.bA (enc:=(eI .i64)) (ys:=([iJ]:List Int)) Tryz.underlying29 qv (.cons (.pl rfl) (.nil)) rfl (fun _=>rfl) rfl rfl (by decide) (by decide) rfl fun b8=>?_);obtain rfl:=oi hF;refine a_ ?_;exact rG ((some (Addr.mk b8 0 none)),(([iJ]:List Int)).length)
 ·refine b_ ?_;refine W.mw (by kernel_rfl) (by kernel_rfl) fun R6 Tm=>?_;refine Dq ym ?_;refine Dq ym ?_;obtain⟨x9,TW,hF⟩:=aj hF;refine WD.q (Y.jh Tryz.underlying29 bp (i:=1) rfl (.pl rfl) rfl (.pl rfl) (aK (TW))) rfl ?_;refine WD.q (Y.gc (enc:=(eI .i64)) (v:=.int .i64 x9) (a:=x9) (idx:=0) (j:=0) Tryz.underlying3 rfl (fun _=>rfl) (i:=1) rfl (.pl rfl) (bx (TW)) rfl rfl) rfl ?_;refine Dq ya ?_;refine Dq ya ?_;refine Dq ya ?_;refine WD.next Tm (gx 8 9 10) ?_;obtain rfl:=oi hF;exact rG (A2,c3)
def jj(N:Nat)(a1:bn)(s4:(List Int))(Cu:Int):Option ((List Int)×Int):=cond (decide (((s4).length:Int)=50)) (some ([],2)) (ck (dh 8 ((s4).length+(([Cu]:List Int)).length)) <| some ((s4++([Cu]:List Int)),0))
theorem pU{N a1 s4 Cu A2 c3 res}(hF:jj N a1 s4 Cu=some res){w0 w T}(hw:St w0.heap.size w0 (cR (eI .i64) 1 A2 c3 3 s4::T) w):Calls Tryz.prog 253 (List.toArray [.agg (fw a1).toArray,.slice A2 (s4).length c3,.int .i64 Cu]) w (fun e w'=>∃g:(Option Addr×Nat),(True)∧e= .returned (.tuple #[.slice g.1 (res.1).length g.2,.int .i64 0,.int .i64 res.2])∧St w0.heap.size w0 (cR (eI .i64) 1 g.1 g.2 3 res.1::T) w'):=by
 refine We 16 Tryz.func253 hw fun R hR=>?_;refine a_ ?_;refine WL.step (WO.fg (.pl rfl) rfl fun b6=>?_);refine a_ ?_;refine Wc hF (fun mI hF=>?_) (fun mI hF=>?_)
 ·obtain rfl:=oi hF;refine a_ ?_;exact rG (none,0)
 ·refine a_ ?_;refine WL.step (WO.bA (enc:=(eI .i64)) (ys:=([Cu]:List Int)) Tryz.underlying29 qv (.cons (.pl rfl) (.nil)) rfl (fun _=>rfl) rfl rfl (by decide) (by decide) rfl fun b7=>?_);obtain⟨z',hF⟩:=aW hF;refine WL.step (WO.d4 (enc:=(eI .i64)) Tryz.underlying29 Dn (fun _=>rfl) q7 (.pl rfl) rfl (.pl rfl) (i:=2) rfl (m2:=0) rfl (z') rfl fun A8 c9=>?_);obtain rfl:=oi hF;refine a_ ?_;exact rG (A8,c9)
def jL(N:Nat)(q1:d8)(s4:(List Int))(fR:Int)(iJ:Int):Option ((List Int)×Int×Int):=cond (decide (fR=3)) (bd (jj N q1.many s4 iJ) fun r8=>some (r8.1,0,r8.2)) (cond (decide (((s4).length:Int)=0)) (some (s4,(-1),0)) (ck (nH (s4).length 1 ((s4).length:Int)) <| bd (ix s4 0) fun cw=>some ((s4.drop (1:Int).toNat),cw,0)))
theorem vA{N q1 s4 fR iJ A2 c3 res}(hF:jL N q1 s4 fR iJ=some res){w0 w T}(hw:St w0.heap.size w0 (cR (eI .i64) 1 A2 c3 3 s4::T) w):Calls Tryz.prog 252 (List.toArray [.agg (jX q1).toArray,.slice A2 (s4).length c3,.int .i64 fR,.int .i64 iJ]) w (fun e w'=>∃g:(Option Nat×Option Addr×Nat),(True)∧e= .returned (.tuple #[.slice g.2.1 (res.1).length g.2.2,.int .i64 res.2.1,.int .i64 res.2.2])∧St w0.heap.size w0 (cV g.1 (eI .i64) 1 g.2.1 g.2.2 res.1::T) w'):=by
 refine We 32 Tryz.func252 hw fun R hR=>?_;refine a_ ?_;refine WL.step (WO.fg (.pl rfl) rfl fun b7=>?_);refine a_ ?_;refine Wc hF (fun mI hF=>?_) (fun mI hF=>?_)
 ·refine a_ ?_;refine WL.q (Y.vd (ft:=198) Tryz.underlying200 rfl uE TP (.pl rfl) (i':=0) rfl) rfl ?_;refine WL.q (Y.I8 Tryz.underlying198 uE (.pl rfl)) rfl ?_;obtain⟨r8,lM,hF⟩:=aj hF;refine a_ ?_;refine kC H3 (v3 rfl rfl rfl) (fun _ hw=>pU lM (sw hw)) ?_;rintro⟨A9,c10⟩ -;obtain rfl:=oi hF;refine a_ ?_;refine W.ii (fn:=Tryz.f252) (vs:=[.slice A9 (r8.1).length c10,.int .i64 0,.int .i64 r8.2]) Tryz.results252 ⟨.tmp rfl,⟨.tmp rfl,⟨.tmp rfl,trivial⟩⟩⟩ (fun _ _ h=>h) (fun wz hw=>?_);exact hR _ _ ⟨((zP A9),A9,c10),trivial,rfl,((St.EW (enc:=(eI .i64)) (sz:=1) (A':=A9) (cap':=c10) (ys:=r8.1) (fun _=>rfl) hw (i:=0) rfl (fun wz h=>h)).eU 2 [0] rfl)⟩
 ·refine a_ ?_;refine Wc hF (fun w9 hF=>?_) (fun w9 hF=>?_)
  ·obtain rfl:=oi hF;refine a_ ?_;refine W.ii (fn:=Tryz.f252) (vs:=[.slice A2 (s4).length c3,.int .i64 (-1),.int .i64 0]) Tryz.results252 ⟨.tmp rfl,⟨.tmp rfl,⟨.tmp rfl,trivial⟩⟩⟩ (fun _ _ h=>h) (fun wz hw=>?_);exact hR _ _ ⟨((zP A2),A2,c3),trivial,rfl,((St.EW (enc:=(eI .i64)) (sz:=1) (A':=A2) (cap':=c3) (ys:=s4) (fun _=>rfl) hw (i:=1) rfl (fun wz h=>h)).eU 2 [1] rfl)⟩
  ·refine b_ ?_;refine W.mw (by kernel_rfl) (by kernel_rfl) fun R9 TZ=>?_;refine Dq ym ?_;obtain⟨qf,hF⟩:=aW hF;refine WD.q (Y.Hv Tryz.underlying29 bp (i:=1) rfl (.pl rfl) rfl (.pl rfl) (qf)) rfl ?_;refine Dq ym ?_;obtain⟨cw,ob,hF⟩:=aj hF;refine WD.q (Y.jh Tryz.underlying29 bp (i:=1) rfl (.pl rfl) rfl (.pl rfl) (aK (ob))) rfl ?_;refine WD.q (Y.gc (enc:=(eI .i64)) (v:=.int .i64 cw) (a:=cw) (idx:=0) (j:=0) Tryz.underlying3 rfl (fun _=>rfl) (i:=1) rfl (.pl rfl) (bx (ob)) rfl rfl) rfl ?_;refine Dq ya ?_;refine Dq ya ?_;refine Dq ya ?_;refine WD.next TZ (gx 8 9 10) ?_;obtain rfl:=oi hF;refine W.ii (fn:=Tryz.f252) (vs:=[.slice (lF A2 c3 (1:Int).toNat 1) ((s4.drop (1:Int).toNat)).length (c3 - (1:Int).toNat),.int .i64 cw,.int .i64 0]) Tryz.results252 ⟨.tmp rfl,⟨.tmp rfl,⟨.tmp rfl,trivial⟩⟩⟩ (fun _ _ h=>h) (fun wz hw=>?_);exact hR _ _ ⟨((zP A2),(lF A2 c3 (1:Int).toNat 1),(c3 - (1:Int).toNat)),trivial,rfl,((St.EW (enc:=(eI .i64)) (sz:=1) (A':=(lF A2 c3 (1:Int).toNat 1)) (cap':=(c3 - (1:Int).toNat)) (ys:=(s4.drop (1:Int).toNat)) (fun _=>rfl) hw (i:=1) rfl (fun wz h=>aP.Mg h (Cc (qf)).1)).eU 2 [1] rfl)⟩
def jM(N:Nat)(k1:d8)(s4:(List Int))(fR:Int)(iJ:Int):Option ((List Int)×Int×Int):=cond (decide (fR=5)) (bd (jj N k1.many s4 iJ) fun r8=>some (r8.1,0,r8.2)) (cond (decide (((s4).length:Int)=0)) (some (s4,(-1),0)) (ck (aQ (((s4).length:Int) - 1)) <| ck (nH (s4).length 0 (((s4).length:Int) - 1)) <| ck (aQ (((s4).length:Int) - 1)) <| bd (ix s4 (((s4).length:Int) - 1)) fun eW=>some ((s4.take (((s4).length:Int) - 1).toNat),eW,0)))
theorem vB{N k1 s4 fR iJ A2 c3 res}(hF:jM N k1 s4 fR iJ=some res){w0 w T}(hw:St w0.heap.size w0 (cR (eI .i64) 1 A2 c3 3 s4::T) w):Calls Tryz.prog 254 (List.toArray [.agg (jX k1).toArray,.slice A2 (s4).length c3,.int .i64 fR,.int .i64 iJ]) w (fun e w'=>∃g:(Option Addr×Nat),(True)∧e= .returned (.tuple #[.slice g.1 (res.1).length g.2,.int .i64 res.2.1,.int .i64 res.2.2])∧St w0.heap.size w0 (cR (eI .i64) 1 g.1 g.2 3 res.1::T) w'):=by
 refine We 38 Tryz.func254 hw fun R hR=>?_;refine a_ ?_;refine WL.step (WO.fg (.pl rfl) rfl fun b7=>?_);refine a_ ?_;refine Wc hF (fun mI hF=>?_) (fun mI hF=>?_)
 ·refine a_ ?_;refine WL.q (Y.vd (ft:=198) Tryz.underlying201 rfl uE TQ (.pl rfl) (i':=0) rfl) rfl ?_;refine WL.q (Y.I8 Tryz.underlying198 uE (.pl rfl)) rfl ?_;obtain⟨r8,lM,hF⟩:=aj hF;refine a_ ?_;refine kC H3 (v3 rfl rfl rfl) (fun _ hw=>pU lM (sw hw)) ?_;rintro⟨A9,c10⟩ -;obtain rfl:=oi hF;refine a_ ?_;exact rG (A9,c10)
 ·refine a_ ?_;refine Wc hF (fun w9 hF=>?_) (fun w9 hF=>?_)
  ·obtain rfl:=oi hF;refine a_ ?_;exact rG (A2,c3)
  ·refine W.mw (by kernel_rfl) (by kernel_rfl) fun R9 TZ=>?_;refine Dq ym ?_;refine Dq ym ?_;obtain⟨qf,hF⟩:=aW hF;refine WD.q (Y.sub (.pl rfl) (.pl rfl) (jP (qf))) rfl ?_;obtain⟨TX,hF⟩:=aW hF;refine WD.q (Y.Cd Tryz.underlying29 bp (i:=1) rfl (.pl rfl) rfl (.pl rfl) (TX)) rfl ?_;refine Dq ym ?_;refine Dq ym ?_;obtain⟨MO,hF⟩:=aW hF;refine WD.q (Y.sub (.pl rfl) (.pl rfl) (jP (MO))) rfl ?_;obtain⟨eW,lL,hF⟩:=aj hF;refine WD.q (Y.jh Tryz.underlying29 bp (i:=1) rfl (.pl rfl) rfl (.pl rfl) (aK (lL))) rfl ?_;refine WD.q (Y.gc (enc:=(eI .i64)) (v:=.int .i64 eW) (a:=eW) (idx:=(((s4).length:Int) - 1)) (j:=0) Tryz.underlying3 rfl (fun _=>rfl) (i:=1) rfl (.pl rfl) (bx (lL)) rfl rfl) rfl ?_;refine Dq ya ?_;refine Dq ya ?_;refine Dq ya ?_;refine WD.next TZ (gx 8 9 10) ?_;obtain rfl:=oi hF;refine W.ii (fn:=Tryz.f254) (vs:=[.slice A2 ((s4.take (((s4).length:Int) - 1).toNat)).length c3,.int .i64 eW,.int .i64 0]) Tryz.results254 ⟨.tmp rfl,⟨.tmp rfl,⟨.tmp rfl,trivial⟩⟩⟩ (fun _ _ h=>h) (fun wz hw=>?_);exact hR _ _ ⟨(A2,c3),trivial,rfl,((St.Oq (enc:=(eI .i64)) (sz:=1) (j:=(((s4).length:Int) - 1).toNat) hw (fun _=>rfl) (i:=1) rfl).eU 2 [1] rfl)⟩
def cmp_isNaN_int(N:Nat)(x1:Int):Option Unit:=some ()
theorem rB{N x1 res}(hF:cmp_isNaN_int N x1=some res)(w:World):Pure Tryz.prog 148 [.int .i64 x1] w (.bool (!(decide (x1=x1)))):=by
 refine We 6 Tryz.func148 (St.start w) fun R hR=>?_;obtain rfl:=oi hF;refine a_ ?_;exact rP
def cmp_Less_int(N:Nat)(x1:Int)(y2:Int):Option Unit:=bd (cmp_isNaN_int N x1) fun r3=>bd ((cond ((!(decide (x1=x1)))==true) (cmp_isNaN_int N y2) (some ()))) fun r4=>some ()
theorem Bv{N x1 y2 res}(hF:cmp_Less_int N x1 y2=some res)(w:World):Pure Tryz.prog 219 [.int .i64 x1,.int .i64 y2] w (.bool (((!(decide (x1=x1)))&&(!(!(decide (y2=y2)))))||(decide (x1 < y2)))):=by
 refine We 17 Tryz.func219 (St.start w) fun R hR=>?_;obtain⟨r3,qy,hF⟩:=aj hF;refine a_ ?_;refine kP H0 (v1 rfl) (fun wz hw=>rB qy wz) ?_;obtain⟨r4,Fe,hF⟩:=aj hF;refine a_ ?_;refine WL.gP (.pl rfl rfl rfl) H0 (fun hg=>(.cons (.gd (hg) rfl) (.nil))) rfl (fun hg wz hw=>rB (eC hg Fe) wz) ?_;obtain rfl:=oi hF;refine a_ ?_;exact rP
def nr(N:Nat)(x1:Int):Option Unit:=some ()
theorem oS{N x1 res}(hF:nr N x1=some res)(w:World):Pure Tryz.prog 260 [.int .i64 x1] w (.bool (!(decide (x1=x1)))):=by
 refine We 6 Tryz.func260 (St.start w) fun R hR=>?_;obtain rfl:=oi hF;refine a_ ?_;exact rP
def jk(N:Nat)(x1:(List Int))(fH:Int):(Int×Int)→Option ((Int×Int) ⊕ Int)|(i8,j9)=>cond (decide (i8 < j9)) (ck (aQ (i8+j9)) <| bd (ix x1 (IntKind.i64.wrap (fq .u64 (IntKind.u64.wrap (i8+j9)) 1))) fun dS=>bd (cmp_Less_int N dS fH) fun wk=>cond (((!(decide (dS=dS)))&&(!(!(decide (fH=fH)))))||(decide (dS < fH))) (ck (aQ ((IntKind.i64.wrap (fq .u64 (IntKind.u64.wrap (i8+j9)) 1))+1)) <| some (.inl (((IntKind.i64.wrap (fq .u64 (IntKind.u64.wrap (i8+j9)) 1))+1),j9))) (some (.inl (i8,(IntKind.i64.wrap (fq .u64 (IntKind.u64.wrap (i8+j9)) 1)))))) (some (.inr i8))
def eH(N:Nat)(x1:(List Int))(fH:Int):Option (Int×Bool):=bd (α:=Int) (iter (jk N x1 fH) N (0,((x1).length:Int))) <| fun i7=>bd ((cond ((decide (i7 < ((x1).length:Int)))==true) (ix x1 i7) (some 0))) fun eW=>bd ((cond (((decide (i7 < ((x1).length:Int)))==true)&&((decide (eW=fH))==false)) (ix x1 i7) (some 0))) fun gF=>bd ((cond (((decide (i7 < ((x1).length:Int)))==true)&&((decide (eW=fH))==false)) (nr N gF) (some ()))) fun r16=>bd ((cond ((((decide (i7 < ((x1).length:Int)))==true)&&((decide (eW=fH))==false))&&((!(decide (gF=gF)))==true)) (nr N fH) (some ()))) fun ur=>some (i7,((decide (i7 < ((x1).length:Int)))&&((decide (eW=fH))||((!(decide (gF=gF)))&&(!(decide (fH=fH)))))))
theorem om{N x1 fH res}(hF:eH N x1 fH=some res)(w:World){v5}(hs4:aP (eI .i64) 1 w v5 x1):Pure Tryz.prog 257 [v5,.int .i64 fH] w (.tuple #[.int .i64 res.1,.bool res.2]):=by
 obtain⟨A2,c3,rfl,g9,hs4⟩:=hs4.form;refine We 54 Tryz.func257 (St.start w) fun R hR=>?_;obtain⟨o4,dc,hF⟩:=aj hF;refine b_ ?_;refine W.eh (fun a=>[(7,.int .i64 a)]) (fun a=>[]) (fun a=>a=o4) (gx 0 1 6) (fun K5 qz=>?_) ?_
 ·refine a_ ?_;refine ve dc (fun a b=>[(7,.int .i64 a),(8,.int .i64 b)]) (fun a b=>[]) (gx 0 1 6) fun i8 j9 k6 t6 aJ ec K7 jb=>?_;refine a_ ?_;refine Wc aJ (fun iI aJ=>?_) (fun iI aJ=>?_)
  ·obtain⟨z',aJ⟩:=aW aJ;obtain⟨dS,po,aJ⟩:=aj aJ;obtain⟨wk,FN,aJ⟩:=aj aJ;refine a_ ?_;refine kP Ql (v2 rfl rfl) (fun wz hw=>Bv FN wz) ?_;refine a_ ?_;refine Wc aJ (fun iB aJ=>?_) (fun iB aJ=>?_)
   ·obtain⟨MO,aJ⟩:=aW aJ;refine a_ ?_;exact g2 jb (oj aJ ec)
   ·refine a_ ?_;exact g2 jb (oj aJ ec)
  ·refine a_ ?_;exact h1 qz (oj aJ ec)
 ·rintro i7 rfl;obtain⟨eW,lL,hF⟩:=aj hF;obtain⟨gF,vC,hF⟩:=aj hF;obtain⟨r16,na,hF⟩:=aj hF;refine a_ ?_;refine WL.gP (.gd rfl rfl rfl) H4 (fun hg=>(.cons (.gd (hg) rfl) (.nil))) rfl (fun hg wz hw=>oS (eC hg na) wz) ?_;obtain⟨ur,Fb,hF⟩:=aj hF;refine a_ ?_;refine WL.gP (.gd rfl rfl rfl) H4 (fun hg=>(.cons (.gd (hg) rfl) (.nil))) rfl (fun hg wz hw=>oS (eC hg Fb) wz) ?_;refine WL.g (.gd rfl rfl rfl) (fun hg=>Y.and (.gd (hg) rfl) (fun h2=>.gd (wM hg (J6 h2)) rfl)) rfl ?_;refine WL.g (.pl rfl rfl rfl) (fun hg=>Y.or (.gd (hg) rfl) (fun h2=>.gd (wM hg (Sz h2)) rfl)) rfl ?_;obtain rfl:=oi hF;refine a_ ?_;exact rP
def Wx:Go.Shelf.Ren:=⟨fun x=>match x with|21=>258|27=>261|28=>262|35=>263|39=>264|n=>n,fun x=>match x with|22=>29|3=>3|4=>4|0=>0|n=>n,fun x=>x⟩
theorem T0:Lays2.n21 Tryz.prog Wx where
 mixed:=by kernel_rfl
 f21:=Tryz.func258.trans (congrArg some (by kernel_rfl))
 f27:=Tryz.func261.trans (congrArg some (by kernel_rfl))
 f28:=Tryz.func262.trans (congrArg some (by kernel_rfl))
 f35:=Tryz.func263.trans (congrArg some (by kernel_rfl))
 f39:=Tryz.func264.trans (congrArg some (by kernel_rfl))
 t0:=Tryz.underlying0
 a0:=Tryz.isAgg0
 z0:=Tryz.sizeOf0
 v0:=Tryz.zeroValue0
 t3:=Tryz.underlying3
 a3:=Tryz.isAgg3
 z3:=Tryz.sizeOf3
 v3:=Tryz.zeroValue3
 t4:=Tryz.underlying4
 a4:=Tryz.isAgg4
 z4:=Tryz.sizeOf4
 v4:=Tryz.zeroValue4
 t22:=Tryz.underlying29
 a22:=Tryz.isAgg29
 z22:=Tryz.sizeOf29
 v22:=Tryz.zeroValue29
 i3:=by kernel_rfl
theorem vD{N:Nat}{h_:(List Int)}{Lc:Int}{H7:(List Int)}{k8:Option Addr}{jV:Nat}{XC:Option Addr}{XD:Nat}{res:(List Int)}(hF:fF N h_ Lc H7=some res){w0 w:World}{T:List Chunk}(hw:St w0.heap.size w0 (cR (eI .i64) 1 k8 jV 3 h_::cR (eI .i64) 1 XC XD 3 H7::T) w):
  Calls Tryz.prog 258 (List.toArray [.slice k8 (h_).length jV,.int .i64 Lc,.slice XC (H7).length XD]) w (fun e w'=>∃g:(Option Addr×Nat),(True)∧e= .returned (.slice g.1 (res).length g.2)∧St w0.heap.size w0 (cR (eI .i64) 1 g.1 g.2 3 res::T) w'):=EZ T0 hF hw
def Wy:Go.Shelf.Ren:=⟨fun x=>match x with|23=>259|n=>n,fun x=>match x with|22=>29|3=>3|4=>4|0=>0|n=>n,fun x=>x⟩
theorem T3:Lays2.n23 Tryz.prog Wy where
 mixed:=by kernel_rfl
 f23:=Tryz.func259.trans (congrArg some (by kernel_rfl))
 t0:=Tryz.underlying0
 a0:=Tryz.isAgg0
 z0:=Tryz.sizeOf0
 v0:=Tryz.zeroValue0
 t3:=Tryz.underlying3
 a3:=Tryz.isAgg3
 z3:=Tryz.sizeOf3
 v3:=Tryz.zeroValue3
 t4:=Tryz.underlying4
 a4:=Tryz.isAgg4
 z4:=Tryz.sizeOf4
 v4:=Tryz.zeroValue4
 t22:=Tryz.underlying29
 a22:=Tryz.isAgg29
 z22:=Tryz.sizeOf29
 v22:=Tryz.zeroValue29
 i3:=by kernel_rfl
theorem vE{N:Nat}{h_:(List Int)}{Lc:Int}{H7:Int}{k8:Option Addr}{jV:Nat}{res:(List Int)}(hF:slices_Delete_int N h_ Lc H7=some res){w0 w:World}{T:List Chunk}(hw:St w0.heap.size w0 (cR (eI .i64) 1 k8 jV 3 h_::T) w):
  Calls Tryz.prog 259 (List.toArray [.slice k8 (h_).length jV,.int .i64 Lc,.int .i64 H7]) w (fun e w'=>∃g:(Option Addr×Nat),(True)∧e= .returned (.slice g.1 (res).length g.2)∧St w0.heap.size w0 (cR (eI .i64) 1 g.1 g.2 3 res::T) w'):=E0 T3 hF hw
def lu(N:Nat)(a1:d8)(s4:(List Int))(fR:Int)(iJ:Int):Option ((List Int)×Int×Int):=bd (eH N s4 iJ) fun r8=>cond (((decide (fR=7))&&(!r8.2))&&(decide (((s4).length:Int)=50))) (some ([],0,2)) (cond ((decide (fR=7))&&(!r8.2)) (bd (fF N s4 r8.1 ([iJ]:List Int)) fun ex=>some (ex,1,0)) (cond ((decide (fR=7))||(!r8.2)) (some (s4,0,0)) (cond (decide (fR=8)) (ck (aQ (r8.1+1)) <| bd (slices_Delete_int N s4 r8.1 (r8.1+1)) fun kp=>some (kp,1,0)) (some (s4,1,0)))))
theorem xj{N a1 s4 fR iJ A2 c3 res}(hF:lu N a1 s4 fR iJ=some res){w0 w T}(hw:St w0.heap.size w0 (cR (eI .i64) 1 A2 c3 3 s4::T) w):Calls Tryz.prog 255 (List.toArray [.agg (jX a1).toArray,.slice A2 (s4).length c3,.int .i64 fR,.int .i64 iJ]) w (fun e w'=>∃g:(Option Addr×Nat),(True)∧e= .returned (.tuple #[.slice g.1 (res.1).length g.2,.int .i64 res.2.1,.int .i64 res.2.2])∧St w0.heap.size w0 (cR (eI .i64) 1 g.1 g.2 3 res.1::T) w'):=by
 refine We 60 Tryz.func255 hw fun R hR=>?_;refine a_ ?_;refine WL.step (WO.fg (.pl rfl) rfl fun b7=>?_);obtain⟨r8,lM,hF⟩:=aj hF;refine a_ ?_;refine kP Qt (v2 rfl rfl) (fun wz hw=>om lM wz (so hw)) ?_;refine a_ ?_;refine Wc hF (fun dG hF=>?_) (fun dG hF=>?_)
 ·obtain rfl:=oi hF;refine a_ ?_;exact rG (none,0)
 ·refine a_ ?_;refine Wc hF (fun uw hF=>?_) (fun uw hF=>?_)
  ·refine a_ ?_;refine WL.step (WO.bA (enc:=(eI .i64)) (ys:=([iJ]:List Int)) Tryz.underlying29 qv (.cons (.pl rfl) (.nil)) rfl (fun _=>rfl) rfl rfl (by decide) (by decide) rfl fun b9=>?_);obtain⟨ex,kD,hF⟩:=aj hF;refine kC Qu (v3 rfl rfl rfl) (fun _ hw=>vD kD (sw hw)) ?_;rintro⟨Zl,Zm⟩ -;obtain rfl:=oi hF;refine a_ ?_;exact rG (Zl,Zm)
  ·refine a_ ?_;refine Wc hF (fun m_ hF=>?_) (fun m_ hF=>?_)
   ·obtain rfl:=oi hF;refine a_ ?_;exact rG (A2,c3)
   ·refine a_ ?_;refine Wc hF (fun jx hF=>?_) (fun jx hF=>?_)
    ·obtain⟨MO,hF⟩:=aW hF;obtain⟨kp,vF,hF⟩:=aj hF;refine a_ ?_;refine kC Qv (v3 rfl rfl rfl) (fun _ hw=>vE vF (sw hw)) ?_;rintro⟨Zp,Zq⟩ -;obtain rfl:=oi hF;refine a_ ?_;exact rG (Zp,Zq)
    ·obtain rfl:=oi hF;refine a_ ?_;exact rG (A2,c3)
def jl(N:Nat)(a1:el)(s2:(List Int))(x7:Int)(x8:Int):Option ((List Int)×Int×Int):=bd (ix s2 0) fun pT=>cond (decide (pT=1000)) (some ([],0,2)) (ck (aQ (pT+1)) <| some (([(pT+1)]:List Int),pT,0))
theorem uG{N a1 s2 x7 x8 res}(hF:jl N a1 s2 x7 x8=some res)(w:World){v6}(hs5:aP (eI .i64) 1 w v6 s2):Made Tryz.prog 265 [.agg (qC a1).toArray,v6,.int .i64 x7,.int .i64 x8] w (fun g:(Option Addr×Nat)=>.tuple #[.slice g.1 (res.1).length g.2,.int .i64 res.2.1,.int .i64 res.2.2]) (fun g=>[cR (eI .i64) 1 g.1 g.2 3 res.1]) (fun g=>True):=by
 obtain⟨A3,c4,rfl,FM,hs5⟩:=hs5.form;refine We 23 Tryz.func265 (St.start w) fun R hR=>?_;refine a_ ?_;refine WL.step (WO.fg (.pl rfl) rfl fun b9=>?_);obtain⟨pT,vz,hF⟩:=aj hF;refine a_ ?_;refine Wc hF (fun mI hF=>?_) (fun mI hF=>?_)
 ·obtain rfl:=oi hF;refine a_ ?_;exact rG (none,0)
 ·refine b_ ?_;refine W.IY 10 (by kernel_rfl) fun K6 io=>?_;refine Xp 0 rfl (fun _ _=>ym) ?_;refine Xt 1 rfl (Y.u_ Tryz.underlying29 bp hs5 (.pl rfl) (.pl rfl) (aK (vz))) ?_;refine Xt 2 rfl (Y.sv (enc:=(eI .i64)) (v:=.int .i64 pT) (j:=0) Tryz.underlying3 rfl hs5 (.pl rfl) (vz) rfl rfl) ?_;obtain⟨qf,hF⟩:=aW hF;refine Xp 3 rfl (fun _ _=>Y.add (.pl rfl) (.pl rfl) (jP (qf))) ?_;refine Xp 5 rfl (fun _ _=>ym) ?_;refine Xt 6 rfl (Y.u_ Tryz.underlying29 bp hs5 (.pl rfl) (.pl rfl) (aK (vz))) ?_;refine Xt 7 rfl (Y.sv (enc:=(eI .i64)) (v:=.int .i64 pT) (j:=0) Tryz.underlying3 rfl hs5 (.pl rfl) (vz) rfl rfl) ?_;refine Xo 4 rfl (WO.bA (enc:=(eI .i64)) (ys:=([(pT+1)]:List Int)) Tryz.underlying29 qv (.cons (.pl rfl) (.nil)) rfl (fun _=>rfl) rfl rfl (by decide) (by decide) rfl fun iE=>?_);refine Xp 8 rfl (fun _ _=>ya) ?_;refine Xp 9 rfl (fun _ _=>ya) ?_;refine Xs rfl (WO.q (Y.assign (.pl rfl)) rfl ?_) (fun _ hw=>St.tail [_] hw);refine WA.done (by kernel_rfl) ?_;refine KK.next io (gx 8 9 10) ?_;obtain rfl:=oi hF;exact rG ((some (Addr.mk iE 0 none)),(([(pT+1)]:List Int)).length)
def jy(N:Nat)(eP:Int)(s2:(List Int))(pK:Int)(vG:Int):Option ((List Int)×Int×Int):=bd (ol N eP s2) fun r9=>cond (!(decide (r9=0))) (some ([],0,r9)) (bd (iD N eP pK) fun ex=>bd ((cond ((!ex)==false) (bK N pK vG) (some false))) fun dr=>cond ((!ex)||(!dr)) (some ([],0,3)) (bd (α:=((List Int)×Int×Int)) (bd (km N eP) fun ip=>cond (decide (ip=197)) (ck (dh 8 (s2).length) <| bd (ik N (el.mk (bn.mk)) s2 pK vG) fun gz=>some (gz.1,gz.2,0)) (cond (decide (ip=200)) (ck (dh 8 (s2).length) <| bd (jL N (d8.mk (bn.mk)) s2 pK vG) fun rC=>some (rC.1,rC.2.1,rC.2.2)) (cond (decide (ip=201)) (ck (dh 8 (s2).length) <| bd (jM N (d8.mk (bn.mk)) s2 pK vG) fun gG=>some (gG.1,gG.2.1,gG.2.2)) (cond (decide (ip=202)) (ck (dh 8 (s2).length) <| bd (lu N (d8.mk (bn.mk)) s2 pK vG) fun wm=>some (wm.1,wm.2.1,wm.2.2)) (cond (decide (ip=203)) (ck (dh 8 (s2).length) <| bd (jl N (el.mk (bn.mk)) s2 pK vG) fun pV=>some (pV.1,pV.2.1,pV.2.2)) (none)))))) <| fun(FP,OZ,XE)=>ck (dh 8 (FP).length) <| some (FP,OZ,XE)))
theorem Cv{N eP s2 pK vG res}(hF:jy N eP s2 pK vG=some res)(w:World){v6}(hs5:aP (eI .i64) 1 w v6 s2):Made Tryz.prog 66 [.int .i64 eP,v6,.int .i64 pK,.int .i64 vG] w (fun g:(Option Addr×Nat)=>.tuple #[.slice g.1 (res.1).length g.2,.int .i64 res.2.1,.int .i64 res.2.2]) (fun g=>[cR (eI .i64) 1 g.1 g.2 3 res.1]) (fun g=>True):=by
 obtain⟨A3,c4,rfl,FM,hs5⟩:=hs5.form;refine We 49 Tryz.func66 (St.start w) fun R hR=>?_;obtain⟨r9,pO,hF⟩:=aj hF;refine a_ ?_;refine kP Qg (v2 rfl rfl) (fun wz hw=>Bu pO wz (hs5.mono hw)) ?_;refine a_ ?_;refine Wc hF (fun dG hF=>?_) (fun dG hF=>?_)
 ·obtain rfl:=oi hF;refine a_ ?_;exact rG (none,0)
 ·obtain⟨ex,kD,hF⟩:=aj hF;refine a_ ?_;refine kP KI (v2 rfl rfl) (fun wz hw=>sF kD wz) ?_;obtain⟨dr,kz,hF⟩:=aj hF;refine a_ ?_;refine WL.gP (.pl rfl rfl rfl) KJ (fun hg=>(.cons (.gd (hg) rfl) (.cons (.gd (hg) rfl) (.nil)))) rfl (fun hg wz hw=>oP (eC hg kz) wz) ?_;refine a_ ?_;refine Wc hF (fun eO hF=>?_) (fun eO hF=>?_)
  ·obtain rfl:=oi hF;refine a_ ?_;exact rG (none,0)
  ·obtain⟨lN,aA,hF⟩:=aj hF;refine b_ ?_;refine W.Ow (fun a b c d f g=>[(12,.slice f (a).length g),(13,.int .i64 b),(14,.int .i64 c)]) (fun a b c d f g=>[cV d (eI .i64) 1 f g a]) (fun a b c d f g=>(a,b,c)=lN) (.nil) (fun rk di=>?_) ?_
   ·refine W.zM 16 (by kernel_rfl) ?_;refine Xp 0 rfl (fun _ _=>ym) ?_;refine Xp 2 rfl (fun _ _=>ym) ?_;refine Xp 4 rfl (fun _ _=>ym) ?_;refine Xp 5 rfl (fun _ _=>ym) ?_;obtain⟨ip,vH,aA⟩:=aj aA;refine Xo 1 rfl (WO.qE FA (.cons (.pl rfl) (.nil)) rfl (fun wz hw=>ry (vH) wz) ?_);refine dl (decide (ip=197)) (fun tR=>?_) (fun tR=>?_)
    ·replace aA:=fJ tR aA;refine Xp 6 rfl (fun _ _=>Y.fn (f:=.method "alibi/object.step") (.cons (ap.nJ (k:=197) (of_decide_eq_true tR) rfl (.pl rfl)) (.nil))) ?_;refine Xp 7 rfl (fun _ _=>Y.Cb G0 (.pl rfl)) ?_;refine Xp 8 rfl (fun _ _=>ym) ?_;obtain⟨vI,aA⟩:=aW aA;refine Xo 3 rfl (WO.pE qW (.cons (.pl rfl) (.nil)) rfl (fun wz hw=>dy (vI) wz (hs5.mono hw)) ?_);rintro⟨KQ,c21⟩ -;obtain⟨gz,vk,aA⟩:=aj aA;refine Xo 9 rfl (WO.yy (γ:=(Option Addr×Nat)) (u:=.agg #[]) (v:=.agg #[]) (fun g=>.tuple #[.slice g.1 (gz.1).length g.2,.int .i64 gz.2,.int .i64 0]) (fun g=>[cR (eI .i64) 1 g.1 g.2 3 gz.1]) (fun g=>True) FE Qm (ap.nJ (k:=197) (of_decide_eq_true tR) rfl (.pl rfl)) (.cons (.pl rfl) (.cons (.pl rfl) (.cons (.pl rfl) (.nil)))) rfl (fun wz hw=>sk (T:=[]) (vk) (hw.pick [0] rfl)) ?_) (fun _ hw=>St.tail [_] hw);rintro⟨wh,c24⟩ -;refine Xp 10 rfl (fun _ _=>ym) ?_;refine Xp 11 rfl (fun _ _=>yx) ?_;refine Xp 12 rfl (fun _ _=>yx) ?_;refine Xp 13 rfl (fun _ _=>yx) ?_;refine Xp 14 rfl (fun _ _=>ya) ?_;refine Xp 15 rfl (fun _ _=>ya) ?_;refine Xs rfl (WO.q (Y.assign (.pl rfl)) rfl ?_) (fun _ hw=>St.tail [_] hw);refine WA.done (by kernel_rfl) ?_;exact W.yk di gz.1 gz.2 0 (zP wh) wh c24 (oi aA) kr kr (fun wz hw=>(St.EW (enc:=(eI .i64)) (sz:=1) (A':=wh) (cap':=c24) (ys:=gz.1) (fun _=>rfl) hw (i:=0) rfl (fun wz h=>h)).pick [0] rfl)
    ·replace aA:=fK tR aA;refine dl (decide (ip=200)) (fun tT=>?_) (fun tT=>?_)
     ·replace aA:=fJ tT aA;refine Xp 6 rfl (fun _ _=>Y.fn (f:=.method "alibi/object.step") (.cons (ap.nJ (k:=200) (of_decide_eq_true tT) rfl (.pl rfl)) (.nil))) ?_;refine Xp 7 rfl (fun _ _=>Y.Cb G1 (.pl rfl)) ?_;refine Xp 8 rfl (fun _ _=>ym) ?_;obtain⟨vJ,aA⟩:=aW aA;refine Xo 3 rfl (WO.pE qW (.cons (.pl rfl) (.nil)) rfl (fun wz hw=>dy (vJ) wz (hs5.mono hw)) ?_);rintro⟨FQ,FR⟩ -;obtain⟨rC,MP,aA⟩:=aj aA;refine Xo 9 rfl (WO.yy (γ:=(Option Nat×Option Addr×Nat)) (u:=.agg #[]) (v:=.agg #[]) (fun g=>.tuple #[.slice g.2.1 (rC.1).length g.2.2,.int .i64 rC.2.1,.int .i64 rC.2.2]) (fun g=>[cV g.1 (eI .i64) 1 g.2.1 g.2.2 rC.1]) (fun g=>True) FF Qo (ap.nJ (k:=200) (of_decide_eq_true tT) rfl (.pl rfl)) (.cons (.pl rfl) (.cons (.pl rfl) (.cons (.pl rfl) (.nil)))) rfl (fun wz hw=>vA (T:=[]) (MP) (hw.pick [0] rfl)) ?_) (fun _ hw=>St.tail [_] hw);rintro⟨XF,A30,c31⟩ -;refine Xp 10 rfl (fun _ _=>ym) ?_;refine Xp 11 rfl (fun _ _=>yx) ?_;refine Xp 12 rfl (fun _ _=>yx) ?_;refine Xp 13 rfl (fun _ _=>yx) ?_;refine Xp 14 rfl (fun _ _=>ya) ?_;refine Xp 15 rfl (fun _ _=>ya) ?_;refine Xs rfl (WO.q (Y.assign (.pl rfl)) rfl ?_) (fun _ hw=>St.tail [_] hw);refine WA.done (by kernel_rfl) ?_;refine a_ ?_;exact h6 di (oi aA)
     ·replace aA:=fK tT aA;refine dl (decide (ip=201)) (fun tU=>?_) (fun tU=>?_)
      ·replace aA:=fJ tU aA;refine Xp 6 rfl (fun _ _=>Y.fn (f:=.method "alibi/object.step") (.cons (ap.nJ (k:=201) (of_decide_eq_true tU) rfl (.pl rfl)) (.nil))) ?_;refine Xp 7 rfl (fun _ _=>Y.Cb G2 (.pl rfl)) ?_;refine Xp 8 rfl (fun _ _=>ym) ?_;obtain⟨T4,aA⟩:=aW aA;refine Xo 3 rfl (WO.pE qW (.cons (.pl rfl) (.nil)) rfl (fun wz hw=>dy (T4) wz (hs5.mono hw)) ?_);rintro⟨Fp,HR⟩ -;obtain⟨gG,Aa,aA⟩:=aj aA;refine Xo 9 rfl (WO.yy (γ:=(Option Addr×Nat)) (u:=.agg #[]) (v:=.agg #[]) (fun g=>.tuple #[.slice g.1 (gG.1).length g.2,.int .i64 gG.2.1,.int .i64 gG.2.2]) (fun g=>[cR (eI .i64) 1 g.1 g.2 3 gG.1]) (fun g=>True) FG Qp (ap.nJ (k:=201) (of_decide_eq_true tU) rfl (.pl rfl)) (.cons (.pl rfl) (.cons (.pl rfl) (.cons (.pl rfl) (.nil)))) rfl (fun wz hw=>vB (T:=[]) (Aa) (hw.pick [0] rfl)) ?_) (fun _ hw=>St.tail [_] hw);rintro⟨xk,c37⟩ -;refine Xp 10 rfl (fun _ _=>ym) ?_;refine Xp 11 rfl (fun _ _=>yx) ?_;refine Xp 12 rfl (fun _ _=>yx) ?_;refine Xp 13 rfl (fun _ _=>yx) ?_;refine Xp 14 rfl (fun _ _=>ya) ?_;refine Xp 15 rfl (fun _ _=>ya) ?_;refine Xs rfl (WO.q (Y.assign (.pl rfl)) rfl ?_) (fun _ hw=>St.tail [_] hw);refine WA.done (by kernel_rfl) ?_;exact W.yk di gG.1 gG.2.1 gG.2.2 (zP xk) xk c37 (oi aA) kr kr (fun wz hw=>(St.EW (enc:=(eI .i64)) (sz:=1) (A':=xk) (cap':=c37) (ys:=gG.1) (fun _=>rfl) hw (i:=0) rfl (fun wz h=>h)).pick [0] rfl)
      ·replace aA:=fK tU aA;refine dl (decide (ip=202)) (fun FS=>?_) (fun FS=>?_)
       ·replace aA:=fJ FS aA;refine Xp 6 rfl (fun _ _=>Y.fn (f:=.method "alibi/object.step") (.cons (ap.nJ (k:=202) (of_decide_eq_true FS) rfl (.pl rfl)) (.nil))) ?_;refine Xp 7 rfl (fun _ _=>Y.Cb G3 (.pl rfl)) ?_;refine Xp 8 rfl (fun _ _=>ym) ?_;obtain⟨T5,aA⟩:=aW aA;refine Xo 3 rfl (WO.pE qW (.cons (.pl rfl) (.nil)) rfl (fun wz hw=>dy (T5) wz (hs5.mono hw)) ?_);rintro⟨XG,c40⟩ -;obtain⟨wm,Zr,aA⟩:=aj aA;refine Xo 9 rfl (WO.yy (γ:=(Option Addr×Nat)) (u:=.agg #[]) (v:=.agg #[]) (fun g=>.tuple #[.slice g.1 (wm.1).length g.2,.int .i64 wm.2.1,.int .i64 wm.2.2]) (fun g=>[cR (eI .i64) 1 g.1 g.2 3 wm.1]) (fun g=>True) FH Qq (ap.nJ (k:=202) (of_decide_eq_true FS) rfl (.pl rfl)) (.cons (.pl rfl) (.cons (.pl rfl) (.cons (.pl rfl) (.nil)))) rfl (fun wz hw=>xj (T:=[]) (Zr) (hw.pick [0] rfl)) ?_) (fun _ hw=>St.tail [_] hw);rintro⟨O0,T6⟩ -;refine Xp 10 rfl (fun _ _=>ym) ?_;refine Xp 11 rfl (fun _ _=>yx) ?_;refine Xp 12 rfl (fun _ _=>yx) ?_;refine Xp 13 rfl (fun _ _=>yx) ?_;refine Xp 14 rfl (fun _ _=>ya) ?_;refine Xp 15 rfl (fun _ _=>ya) ?_;refine Xs rfl (WO.q (Y.assign (.pl rfl)) rfl ?_) (fun _ hw=>St.tail [_] hw);refine WA.done (by kernel_rfl) ?_;exact W.yk di wm.1 wm.2.1 wm.2.2 (zP O0) O0 T6 (oi aA) kr kr (fun wz hw=>(St.EW (enc:=(eI .i64)) (sz:=1) (A':=O0) (cap':=T6) (ys:=wm.1) (fun _=>rfl) hw (i:=0) rfl (fun wz h=>h)).pick [0] rfl)
       ·replace aA:=fK FS aA;refine dl (decide (ip=203)) (fun FU=>?_) (fun FU=>?_)
        ·replace aA:=fJ FU aA;refine Xp 6 rfl (fun _ _=>Y.fn (f:=.method "alibi/object.step") (.cons (ap.nJ (k:=203) (of_decide_eq_true FU) rfl (.pl rfl)) (.nil))) ?_;refine Xp 7 rfl (fun _ _=>Y.Cb G4 (.pl rfl)) ?_;refine Xp 8 rfl (fun _ _=>ym) ?_;obtain⟨Jl,aA⟩:=aW aA;refine Xo 3 rfl (WO.pE qW (.cons (.pl rfl) (.nil)) rfl (fun wz hw=>dy (Jl) wz (hs5.mono hw)) ?_);rintro⟨XH,c46⟩ -;obtain⟨pV,MQ,aA⟩:=aj aA;refine Xo 9 rfl (WO.yy (γ:=(Option Addr×Nat)) (u:=.agg #[]) (v:=.agg #[]) (fun g=>.tuple #[.slice g.1 (pV.1).length g.2,.int .i64 pV.2.1,.int .i64 pV.2.2]) (fun g=>[cR (eI .i64) 1 g.1 g.2 3 pV.1,cR (eI .i64) 1 XH c46 3 s2]) (fun g=>True) FI Qw (ap.nJ (k:=203) (of_decide_eq_true FU) rfl (.pl rfl)) (.cons (.pl rfl) (.cons (.pl rfl) (.cons (.pl rfl) (.nil)))) rfl (fun wz hw=>(uG (MQ) wz (aP.ofRow (fun _=>rfl) hw (i:=0) rfl)).calls hw) ?_) (fun _ hw=>St.tail [_] hw);rintro⟨Bw,c49⟩ -;refine Xp 10 rfl (fun _ _=>ym) ?_;refine Xp 11 rfl (fun _ _=>yx) ?_;refine Xp 12 rfl (fun _ _=>yx) ?_;refine Xp 13 rfl (fun _ _=>yx) ?_;refine Xp 14 rfl (fun _ _=>ya) ?_;refine Xp 15 rfl (fun _ _=>ya) ?_;refine Xs rfl (WO.q (Y.assign (.pl rfl)) rfl ?_) (fun _ hw=>St.tail [_,_] hw);refine WA.done (by kernel_rfl) ?_;exact W.yk di pV.1 pV.2.1 pV.2.2 (zP Bw) Bw c49 (oi aA) kr kr (fun wz hw=>(St.EW (enc:=(eI .i64)) (sz:=1) (A':=Bw) (cap':=c49) (ys:=pV.1) (fun _=>rfl) hw (i:=0) rfl (fun wz h=>h)).pick [0] rfl)
        ·replace aA:=fK FU aA;exact nomatch aA
   ·rintro FP OZ XE Xk zo c14 rfl;obtain⟨MR,hF⟩:=aW hF;refine a_ ?_;refine kM qW (v1 rfl) (fun wz hw=>dy MR wz (aP.ofV (enc:=(eI .i64)) (sz:=1) hw (i:=0) rfl)) ?_;rintro⟨T7,T8⟩ -;obtain rfl:=oi hF;refine a_ ?_;exact rG (T7,T8)
def iW(N:Nat)(self:(List Int)→(List Call)→Rel→(List (List Int))→Int→(List Step)→(List (ByteArray×Bool))→Option ((List (List Int))×Int×(List Step)×(List (ByteArray×Bool))×Bool))(aU:(List Int))(aL:(List Call))(bi:Rel)(aO:(List (List Int)))(aY:Int)(bz:(List Step))(br:(List (ByteArray×Bool)))(i21:Int):Option ((List (List Int))×Int×(List Step)×(List (ByteArray×Bool))×Bool):=bd (ix aL i21) fun ce=>bd ((cond ((decide ((mR .u16 (fq .u16 aY (IntKind.u64.wrap i21)) 1)=1))==false) (ax 12 0 bi.after i21) (some 0))) fun x24=>cond ((decide ((mR .u16 (fq .u16 aY (IntKind.u64.wrap i21)) 1)=1))||(!(decide ((mR .u16 x24 aY)=0)))) (some (aO,aY,bz,br,false)) (bd (ix aO ce.aB) fun x25=>bd (ix aU ce.aB) fun Bz=>bd (jy N Bz x25 ce.kind ce.arg) fun iG=>cond ((!(decide (iG.2.2=0)))||((!(decide (ce.au=(-1))))&&(!(decide (iG.2.1=ce.res))))) (some (aO,aY,bz,br,false)) (ck (dh 16 ((bz).length+(([(Step.mk i21 iG.2.1)]:List Step)).length)) <| bd (self aU aL bi (aO.set ce.aB.toNat iG.1) (jw .u16 aY (gZ .u16 1 (IntKind.u64.wrap i21))) (bz++([(Step.mk i21 iG.2.1)]:List Step)) br) fun e7=>cond e7.2.2.2.2 (some (e7.1,e7.2.1,e7.2.2.1,e7.2.2.2.1,true)) (bd (ix e7.1 ce.aB) fun x38=>ck (aQ (((e7.2.2.1).length:Int) - 1)) <| ck (nH (e7.2.2.1).length 0 (((e7.2.2.1).length:Int) - 1)) <| some ((e7.1.set ce.aB.toNat x25),(su .u16 e7.2.1 (gZ .u16 1 (IntKind.u64.wrap i21))),(e7.2.2.1.take (((e7.2.2.1).length:Int) - 1).toNat),e7.2.2.2.1,false))))
theorem tV{N self}(ih:∀{aU aL bi aO aY bz br b1 A3 c4 A7 c8 bH c12 cr dH c17 bZ res} (hF:self aU aL bi aO aY bz br=some res) {w0 w T} (hw:St w0.heap.size w0 (al b1 217 (Value.slice A3 (aU).length c4::(Value.slice A7 (aL).length c8::((bg bi)++(Value.slice bH (aO).length c12::(Value.int .u16 aY::(Value.slice dH (bz).length c17::(Value.map (some bZ)::[])))))))::cN cQ (dB (eI .i64) 1 3) 1 bH c12 29 cr aO::cR bw 2 dH c17 128 bz::iz Value.bool (some bZ) br::T) w) (hs5:aP (eI .i64) 1 w0 (.slice A3 (aU).length c4) aU) (gD:aP ak 7 w0 (.slice A7 (aL).length c8) aL),Calls Tryz.prog 120 (List.toArray [.pointer (some ⟨b1,0,none⟩)]) w (fun e w'=>∃g:(List Hd×Option Addr×Nat),(True)∧e= .returned (.bool res.2.2.2.2)∧St w0.heap.size w0 (al b1 217 (Value.slice A3 (aU).length c4::(Value.slice A7 (aL).length c8::((bg bi)++(Value.slice bH (res.1).length c12::(Value.int .u16 res.2.1::(Value.slice g.2.1 (res.2.2.1).length g.2.2::(Value.map (some bZ)::[])))))))::cN cQ (dB (eI .i64) 1 3) 1 bH c12 29 g.1 res.1::cR bw 2 g.2.1 g.2.2 128 res.2.2.1::iz Value.bool (some bZ) res.2.2.2.1::T) w')){aU aL bi aO aY bz br i21 b1 A3 c4 A7 c8 bH c12 cr dH c17 bZ res}(hF:iW N self aU aL bi aO aY bz br i21=some res){w0 w T}(hw:St w0.heap.size w0 (al b1 217 (Value.slice A3 (aU).length c4::(Value.slice A7 (aL).length c8::((bg bi)++(Value.slice bH (aO).length c12::(Value.int .u16 aY::(Value.slice dH (bz).length c17::(Value.map (some bZ)::[])))))))::cN cQ (dB (eI .i64) 1 3) 1 bH c12 29 cr aO::cR bw 2 dH c17 128 bz::iz Value.bool (some bZ) br::T) w)(hs5:aP (eI .i64) 1 w0 (.slice A3 (aU).length c4) aU)(gD:aP ak 7 w0 (.slice A7 (aL).length c8) aL):Calls Tryz.prog 157 (List.toArray [.pointer (some ⟨b1,0,none⟩),.int .i64 i21]) w (fun e w'=>∃g:(List Hd×Option Addr×Nat),(True)∧e= .returned (.bool res.2.2.2.2)∧St w0.heap.size w0 (al b1 217 (Value.slice A3 (aU).length c4::(Value.slice A7 (aL).length c8::((bg bi)++(Value.slice bH (res.1).length c12::(Value.int .u16 res.2.1::(Value.slice g.2.1 (res.2.2.1).length g.2.2::(Value.map (some bZ)::[])))))))::cN cQ (dB (eI .i64) 1 3) 1 bH c12 29 g.1 res.1::cR bw 2 g.2.1 g.2.2 128 res.2.2.1::iz Value.bool (some bZ) res.2.2.2.1::T) w'):=by
 refine We 144 Tryz.func157 hw fun R hR=>?_;obtain⟨ce,tf,hF⟩:=aj hF;refine a_ ?_;refine mA fun Bp=>?_;refine b_ ?_;refine iS ?_;refine W.mw (by kernel_rfl) (by kernel_rfl) fun R4 T9=>?_;refine Dq ym ?_;refine Dq yc ?_;refine Dq yf ?_;refine Dq sA ?_;refine Dq ym ?_;refine WD.q (Y.conv Tryz.underlying3 Tryz.underlying176 (.pl rfl)) rfl ?_;refine WD.q (Y.shr (.pl rfl) (.pl rfl) (zK rfl _)) rfl ?_;refine WD.q (Y.wM (.pl rfl) (.pl rfl)) rfl ?_;refine Dq ye ?_;refine Dq ym ?_;refine Dg zl ?_;refine Dg zl ?_;refine Dg Df ?_;refine Dg HF ?_;refine WD.g (.pl rfl rfl rfl) (fun hg=>Y.fieldAddr (off:=1) (ft:=167) Tryz.underlying169 rfl Fz (.gd (hg) rfl)) rfl ?_;obtain⟨x24,rD,hF⟩:=aj hF;refine WD.g (.pl rfl rfl rfl) (fun hg=>Y.Ex Tryz.underlying167 nn (.gd (hg) rfl) (.gd (hg) rfl) (mQ (eC hg rD))) rfl ?_;refine WD.g (.pl rfl rfl rfl) (fun hg=>Y.lq (v:=.int .u16 x24) Tryz.underlying166 rfl (.gd (hg) rfl) (i:=1) rfl (ue (pre:=(Value.slice A3 (aU).length c4::(Value.slice A7 (aL).length c8::(Value.int .i64 bi.n::[])))) (off:=3) (post:=(Value.slice bH (aO).length c12::(Value.int .u16 aY::(Value.slice dH (bz).length c17::(Value.map (some bZ)::[]))))) (a:=bi.after) (enc:=(eI .u16)) (d:=0) (n:=12) (sz:=1) (j:=0) (fun _=>rfl) rfl (kY (eC hg rD)) (kV (eC hg rD)) rfl)) rfl ?_;refine Dg zl ?_;refine Dg Df ?_;refine Dg HF ?_;refine Dg ET ?_;refine WD.g (.pl rfl rfl rfl) (fun hg=>Y.wM (.gd (hg) rfl) (.gd (hg) rfl)) rfl ?_;refine Dg SY ?_;refine Dq yo ?_;refine WD.next T9 (lI 0 1 5 40) ?_;refine Wc hF (fun dG hF=>?_) (fun dG hF=>?_)
 ·obtain rfl:=oi hF;refine a_ ?_;exact rG (cr,dH,c17)
 ·refine b_ ?_;refine W.mw (by kernel_rfl) (by kernel_rfl) fun R7 hR7=>?_;refine Dq ym ?_;refine Dq yc ?_;refine Dq yf ?_;refine Dq sA ?_;refine Dq yf ?_;refine Dq lH ?_;obtain⟨x25,nh,hF⟩:=aj hF;refine WD.q (Y.AX Tryz.underlying70 je (i:=2) rfl (.pl rfl) rfl (.pl rfl) (aK (nh))) rfl ?_;refine WD.q (Y.mT (enc:=cQ) (h0:=((none,0):Hd)) (v:=.slice (cr.getD ce.aB.toNat ((none,0):Hd)).1 (x25).length (cr.getD ce.aB.toNat ((none,0):Hd)).2) (a:=x25) (idx:=ce.aB) (j:=0) Tryz.underlying29 rfl yu (i:=2) rfl (.pl rfl) (bx (nh)) rfl rfl) rfl ?_;refine Dq ya ?_;refine WD.next hR7 (lI 0 1 5 6) ?_;refine W.IY 20 (by kernel_rfl) fun K8 nK=>?_;refine Xp 0 rfl (fun _ _=>ym) ?_;refine Xp 1 rfl (fun _ _=>yc) ?_;refine Xp 2 rfl (fun _ _=>yf) ?_;refine Xt 3 rfl (sA) ?_;refine Xp 4 rfl (fun _ _=>yf) ?_;refine Xt 5 rfl (lH) ?_;obtain⟨Bz,FV,hF⟩:=aj hF;refine Xt 6 rfl (Y.u_ Tryz.underlying29 bp hs5 (.pl rfl) (.pl rfl) (aK (FV))) ?_;refine Xt 7 rfl (Y.sv (enc:=(eI .i64)) (v:=.int .i64 Bz) (j:=0) Tryz.underlying3 rfl hs5 (.pl rfl) (FV) rfl rfl) ?_;refine Xp 8 rfl (fun _ _=>ym) ?_;refine Xp 9 rfl (fun _ _=>yf) ?_;refine Xt 10 rfl (lH) ?_;refine Xp 11 rfl (fun _ _=>yf) ?_;refine Xt 12 rfl (lH) ?_;obtain⟨iG,zY,hF⟩:=aj hF;refine Xo 13 rfl (WO.pE TL (.cons (.pl rfl) (.cons (.pl rfl) (.cons (.pl rfl) (.cons (.pl rfl) (.nil))))) rfl (fun wz hw=>Cv (zY) wz (aP.SQ (jS:=(eI .i64)) (Hy:=1) (E2:=3) (h0:=((none,0):Hd)) (fun _=>rfl) hw (i:=2) rfl (nh) (.head _))) ?_);rintro⟨KO,HL⟩ -;refine Xp 14 rfl (fun _ _=>ym) ?_;refine Xp 15 rfl (fun _ _=>yx) ?_;refine Xp 16 rfl (fun _ _=>yx) ?_;refine Xp 17 rfl (fun _ _=>yx) ?_;refine Xp 18 rfl (fun _ _=>ya) ?_;refine Xp 19 rfl (fun _ _=>ya) ?_;refine Xs rfl (WO.q (Y.assign (.pl rfl)) rfl ?_) (fun _ hw=>St.tail [_] hw);refine WA.done (by kernel_rfl) ?_;refine KK.next nK (HG 0 1 5 6 7 8 9) ?_;refine a_ ?_;refine WL.g (.pl rfl rfl rfl) (fun hg=>Y.and (.gd (hg) rfl) (fun h2=>.gd (wM hg (J6 h2)) rfl)) rfl ?_;refine a_ ?_;refine Wc hF (fun m_ hF=>?_) (fun m_ hF=>?_)
  ·obtain rfl:=oi hF;refine a_ ?_;exact rG (cr,dH,c17)
  ·refine b_ ?_;refine W.s7 8 (by kernel_rfl) (by kernel_rfl) fun Q13 Zs=>?_;refine Sq ym ?_;refine Sq yc ?_;refine Sq yf ?_;refine Sq Kw ?_;refine Sq yf ?_;refine Sq sA ?_;refine Sq ym ?_;refine WS.q (Y.AX Tryz.underlying70 je (i:=3) rfl (.pl rfl) rfl (.pl rfl) (aK (nh))) rfl ?_;refine WS.tail ?_;refine WL.AW (bc.hole (h0:=((none,0):Hd)) (i:=3) rfl (bx (nh))) ?_;refine WL.step (WO.EP (enc:=cQ) (bb:=(dB (eI .i64) 1 3)) (h0:=((none,0):Hd)) (h':=((KO,HL):Hd)) (a:=x25) (a':=iG.1) (idx:=ce.aB) (j:=0) je (.pl rfl) (.pl rfl) rfl yu (i:=1) rfl (bx (nh)) rfl (by decide) rfl (.Oy 6 [1,0,2,3,4,5] rfl) ?_);refine a_ ?_;refine xQ Zs ?_;refine a_ ?_;refine WL.step (WO.dD (cs':=(Value.slice A3 (aU).length c4::(Value.slice A7 (aL).length c8::((bg bi)++(Value.slice bH (aO).length c12::(Value.int .u16 (jw .u16 aY (gZ .u16 1 (IntKind.u64.wrap i21)))::(Value.slice dH (bz).length c17::(Value.map (some bZ)::[])))))))) nn (.pl rfl) (.pl rfl) rfl (i:=3) rfl (kX (m:=19) (by decide) rfl) (rfl) ?_);refine a_ ?_;refine WL.q (Y.build (cs:=(bw (Step.mk i21 iG.2.1)).toArray) ML (.cons (.pl rfl) (.cons (.pl rfl) (.nil))) (aX ⟨rfl,⟨rfl,trivial⟩⟩) rfl) rfl ?_;refine WL.step (WO.bA (enc:=bw) (ys:=([(Step.mk i21 iG.2.1)]:List Step)) Tryz.underlying32 OV (.cons (.pl rfl) (.nil)) rfl qV rfl rfl (by decide) (by decide) rfl fun KP=>?_);obtain⟨T_,hF⟩:=aW hF;refine WL.step (WO.d4 (enc:=bw) Tryz.underlying32 OW qV Cq (.pl rfl) rfl (.pl rfl) (i:=5) rfl (m2:=0) rfl (T_) rfl fun H8 FD=>?_);refine a_ ?_;refine WL.step (WO.dD (cs':=(Value.slice A3 (aU).length c4::(Value.slice A7 (aL).length c8::((bg bi)++(Value.slice bH (aO).length c12::(Value.int .u16 (jw .u16 aY (gZ .u16 1 (IntKind.u64.wrap i21)))::(Value.slice H8 ((bz++([(Step.mk i21 iG.2.1)]:List Step))).length FD::(Value.map (some bZ)::[])))))))) Cr (.pl rfl) (.pl rfl) rfl (i:=4) rfl (kX (m:=19) (by decide) rfl) (rfl) ?_);obtain⟨e7,MS,hF⟩:=aj hF;refine a_ ?_;refine WL.step (WO.call (γ:=(List Hd×Option Addr×Nat)) (fun g=>.bool e7.2.2.2.2) (fun g=>(al b1 217 (Value.slice A3 (aU).length c4::(Value.slice A7 (aL).length c8::((bg bi)++(Value.slice bH (e7.1).length c12::(Value.int .u16 e7.2.1::(Value.slice g.2.1 (e7.2.2.1).length g.2.2::(Value.map (some bZ)::[])))))))::cN cQ (dB (eI .i64) 1 3) 1 bH c12 29 g.1 e7.1::cR bw 2 g.2.1 g.2.2 128 e7.2.2.1::iz Value.bool (some bZ) e7.2.2.2.1::cR bw 2 (some ⟨KP,0,none⟩) (([(Step.mk i21 iG.2.1)]:List Step)).length 128 ([(Step.mk i21 iG.2.1)]:List Step)::cR (eI .i64) 1 (cr.getD ce.aB.toNat ((none,0):Hd)).1 (cr.getD ce.aB.toNat ((none,0):Hd)).2 3 x25::al Bp 162 (ak ce)::T)) (fun g=>True) HZ (.cons (.pl rfl) (.nil)) rfl (fun wz hw=>ih (T:=(cR bw 2 (some ⟨KP,0,none⟩) (([(Step.mk i21 iG.2.1)]:List Step)).length 128 ([(Step.mk i21 iG.2.1)]:List Step)::cR (eI .i64) 1 (cr.getD ce.aB.toNat ((none,0):Hd)).1 (cr.getD ce.aB.toNat ((none,0):Hd)).2 3 x25::al Bp 162 (ak ce)::T)) (b1:=b1) (A3:=A3) (c4:=c4) (A7:=A7) (c8:=c8) (bH:=bH) (c12:=c12) (cr:=(cr.set ce.aB.toNat ((KO,HL):Hd))) (dH:=H8) (c17:=FD) (bZ:=bZ) (MS) (St.fL (L:=(al b1 217 (Value.slice A3 (aU).length c4::(Value.slice A7 (aL).length c8::((bg bi)++(Value.slice bH (aO).length c12::(Value.int .u16 (jw .u16 aY (gZ .u16 1 (IntKind.u64.wrap i21)))::(Value.slice H8 ((bz++([(Step.mk i21 iG.2.1)]:List Step))).length FD::(Value.map (some bZ)::[])))))))::cN cQ (dB (eI .i64) 1 3) 1 bH c12 29 (cr.set ce.aB.toNat ((KO,HL):Hd)) (aO.set ce.aB.toNat iG.1)::cR bw 2 H8 FD 128 (bz++([(Step.mk i21 iG.2.1)]:List Step))::iz Value.bool (some bZ) br::cR bw 2 (some ⟨KP,0,none⟩) (([(Step.mk i21 iG.2.1)]:List Step)).length 128 ([(Step.mk i21 iG.2.1)]:List Step)::cR (eI .i64) 1 (cr.getD ce.aB.toNat ((none,0):Hd)).1 (cr.getD ce.aB.toNat ((none,0):Hd)).2 3 x25::al Bp 162 (ak ce)::T)) (hw.eU 7 [4,1,5,6,0,2,3] rfl) (by simp only[List.length_set,List.nil_append,List.cons_append])) hs5 gD) ?_);rintro⟨MT,xk,c37⟩ -;refine a_ ?_;refine Wc hF (fun m9 hF=>?_) (fun m9 hF=>?_)
   ·obtain rfl:=oi hF;refine a_ ?_;exact rG (MT,xk,c37)
   ·refine b_ ?_;refine W.s7 8 (by kernel_rfl) (by kernel_rfl) fun Q20 Zt=>?_;refine Sq ym ?_;refine Sq yc ?_;refine Sq yf ?_;refine Sq lH ?_;refine Sq yf ?_;refine Sq yb6 ?_;refine Sq ym ?_;obtain⟨x38,MU,hF⟩:=aj hF;refine WS.q (Y.AX Tryz.underlying70 je (i:=1) rfl (.pl rfl) rfl (.pl rfl) (aK (MU))) rfl ?_;refine WS.tail ?_;refine WL.AW (bc.hole (h0:=((none,0):Hd)) (i:=1) rfl (bx (MU))) ?_;refine WL.step (WO.EP (enc:=cQ) (bb:=(dB (eI .i64) 1 3)) (h0:=((none,0):Hd)) (h':=(((cr.getD ce.aB.toNat ((none,0):Hd)).1,(cr.getD ce.aB.toNat ((none,0):Hd)).2):Hd)) (a:=x38) (a':=x25) (idx:=ce.aB) (j:=0) je (.pl rfl) (.pl rfl) rfl yu (i:=1) rfl (bx (MU)) rfl (by decide) rfl (.Oy 7 [5,0,1,2,3,4,6] rfl) ?_);refine a_ ?_;refine xQ Zt ?_;refine a_ ?_;refine WL.q (Y.YU (.pl rfl) (.pl rfl)) rfl ?_;refine a_ ?_;refine WL.step (WO.dD (cs':=(Value.slice A3 (aU).length c4::(Value.slice A7 (aL).length c8::((bg bi)++(Value.slice bH (e7.1).length c12::(Value.int .u16 (su .u16 e7.2.1 (gZ .u16 1 (IntKind.u64.wrap i21)))::(Value.slice xk (e7.2.2.1).length c37::(Value.map (some bZ)::[])))))))) nn (.pl rfl) (.pl rfl) rfl (i:=2) rfl (kX (m:=19) (by decide) rfl) (rfl) ?_);refine b_ ?_;refine W.s7 14 (by kernel_rfl) (by kernel_rfl) fun Q22 Zu=>?_;refine Sq ym ?_;refine Sq ym ?_;refine Sq yc ?_;refine Sq yf ?_;refine Sq Kw ?_;refine Sq ym ?_;refine Sq yc ?_;refine Sq yf ?_;refine Sq Kw ?_;refine Sq yw ?_;obtain⟨Ua,hF⟩:=aW hF;refine WS.q (Y.sub (.pl rfl) (.pl rfl) (jP (Ua))) rfl ?_;obtain⟨Tw,hF⟩:=aW hF;refine WS.q (Y.Cd Tryz.underlying32 Fy (i:=3) rfl (.pl rfl) rfl (.pl rfl) (Tw)) rfl ?_;refine Sq yc ?_;refine Sq yf ?_;refine WS.tail ?_;refine WL.step (WO.dD (cs':=(Value.slice A3 (aU).length c4::(Value.slice A7 (aL).length c8::((bg bi)++(Value.slice bH (e7.1).length c12::(Value.int .u16 (su .u16 e7.2.1 (gZ .u16 1 (IntKind.u64.wrap i21)))::(Value.slice xk ((e7.2.2.1.take (((e7.2.2.1).length:Int) - 1).toNat)).length c37::(Value.map (some bZ)::[])))))))) Cr (.pl rfl) (.pl rfl) rfl (i:=2) rfl (kX (m:=19) (by decide) rfl) (rfl) ?_);refine a_ ?_;refine xQ Zu ?_;obtain rfl:=oi hF;refine a_ ?_;refine W.ii (fn:=Tryz.f157) (vs:=[.bool false]) Tryz.results157 ⟨.tmp rfl,trivial⟩ (fun _ _ h=>h) (fun wz hw=>?_);exact hR _ _ ⟨((MT.set ce.aB.toNat (((cr.getD ce.aB.toNat ((none,0):Hd)).1,(cr.getD ce.aB.toNat ((none,0):Hd)).2):Hd)),xk,c37),trivial,rfl,(St.fL (L:=(al b1 217 (Value.slice A3 (aU).length c4::(Value.slice A7 (aL).length c8::((bg bi)++(Value.slice bH (e7.1).length c12::(Value.int .u16 (su .u16 e7.2.1 (gZ .u16 1 (IntKind.u64.wrap i21)))::(Value.slice xk ((e7.2.2.1.take (((e7.2.2.1).length:Int) - 1).toNat)).length c37::(Value.map (some bZ)::[])))))))::cN cQ (dB (eI .i64) 1 3) 1 bH c12 29 (MT.set ce.aB.toNat (((cr.getD ce.aB.toNat ((none,0):Hd)).1,(cr.getD ce.aB.toNat ((none,0):Hd)).2):Hd)) (e7.1.set ce.aB.toNat x25)::cR bw 2 xk c37 128 (e7.2.2.1.take (((e7.2.2.1).length:Int) - 1).toNat)::iz Value.bool (some bZ) e7.2.2.2.1::T)) ((St.Oq (enc:=bw) (sz:=2) (j:=(((e7.2.2.1).length:Int) - 1).toNat) hw qV (i:=3) rfl).eU 7 [2,0,3,4] rfl) (by simp only[List.length_set,List.nil_append,List.cons_append]))⟩
def kH(N:Nat)(self:(List Int)→(List Call)→Rel→(List (List Int))→Int→(List Step)→(List (ByteArray×Bool))→Option ((List (List Int))×Int×(List Step)×(List (ByteArray×Bool))×Bool))(aL:(List Call))(aU:(List Int))(bi:Rel):((List (List Int))×Int×(List Step)×(List (ByteArray×Bool))×Int)→Option (((List (List Int))×Int×(List Step)×(List (ByteArray×Bool))×Int) ⊕(((List (List Int))×Int×(List Step)×(List (ByteArray×Bool))) ⊕((List (List Int))×Int×(List Step)×(List (ByteArray×Bool))×Bool)))|(Ab,Ad,yK,Ae,v37)=>cond (decide (v37 < ((aL).length:Int))) (bd (iW N self aU aL bi Ab Ad yK Ae v37) fun oo=>cond oo.2.2.2.2 (some (.inr (.inr (oo.1,oo.2.1,oo.2.2.1,oo.2.2.2.1,true)))) (ck (aQ (v37+1)) <| some (.inl (oo.1,oo.2.1,oo.2.2.1,oo.2.2.2.1,(v37+1))))) (some (.inr (.inl (Ab,Ad,yK,Ae))))
def iY(N:Nat)(self:(List Int)→(List Call)→Rel→(List (List Int))→Int→(List Step)→(List (ByteArray×Bool))→Option ((List (List Int))×Int×(List Step)×(List (ByteArray×Bool))×Bool))(aU:(List Int))(aL:(List Call))(bi:Rel)(aO:(List (List Int)))(aY:Int)(bz:(List Step))(br:(List (ByteArray×Bool))):Option ((List (List Int))×Int×(List Step)×(List (ByteArray×Bool))×Bool):=bd (gh N aU aL bi aO aY bz br) fun sK=>cond sK (some (aO,aY,bz,br,true)) (bd (jK N aU aL bi aO aY bz br) fun gz=>cond ((iV br gz).getD false) (some (aO,aY,bz,br,false)) (bd (α:=(((List (List Int))×Int×(List Step)×(List (ByteArray×Bool))) ⊕((List (List Int))×Int×(List Step)×(List (ByteArray×Bool))×Bool))) (iter (kH N self aL aU bi) N (aO,aY,bz,br,0)) <| Sum.elim (fun(FW,FX,O3,FY)=>some (FW,FX,O3,(qK FY gz true),false)) (fun p=>some p)))
def ic(N:Nat):Nat→(List Int)→(List Call)→Rel→(List (List Int))→Int→(List Step)→(List (ByteArray×Bool))→Option ((List (List Int))×Int×(List Step)×(List (ByteArray×Bool))×Bool)|0=>fun _ _ _ _ _ _ _=>none|M+1=>iY N (ic N M)
theorem tW{N self}(ih:∀{aU aL bi aO aY bz br b1 A3 c4 A7 c8 bH c12 cr dH c17 bZ res} (hF:self aU aL bi aO aY bz br=some res) {w0 w T} (hw:St w0.heap.size w0 (al b1 217 (Value.slice A3 (aU).length c4::(Value.slice A7 (aL).length c8::((bg bi)++(Value.slice bH (aO).length c12::(Value.int .u16 aY::(Value.slice dH (bz).length c17::(Value.map (some bZ)::[])))))))::cN cQ (dB (eI .i64) 1 3) 1 bH c12 29 cr aO::cR bw 2 dH c17 128 bz::iz Value.bool (some bZ) br::T) w) (hs5:aP (eI .i64) 1 w0 (.slice A3 (aU).length c4) aU) (gD:aP ak 7 w0 (.slice A7 (aL).length c8) aL),Calls Tryz.prog 120 (List.toArray [.pointer (some ⟨b1,0,none⟩)]) w (fun e w'=>∃g:(List Hd×Option Addr×Nat),(True)∧e= .returned (.bool res.2.2.2.2)∧St w0.heap.size w0 (al b1 217 (Value.slice A3 (aU).length c4::(Value.slice A7 (aL).length c8::((bg bi)++(Value.slice bH (res.1).length c12::(Value.int .u16 res.2.1::(Value.slice g.2.1 (res.2.2.1).length g.2.2::(Value.map (some bZ)::[])))))))::cN cQ (dB (eI .i64) 1 3) 1 bH c12 29 g.1 res.1::cR bw 2 g.2.1 g.2.2 128 res.2.2.1::iz Value.bool (some bZ) res.2.2.2.1::T) w')){aU aL bi aO aY bz br b1 A3 c4 A7 c8 bH c12 cr dH c17 bZ res}(hF:iY N self aU aL bi aO aY bz br=some res){w0 w T}(hw:St w0.heap.size w0 (al b1 217 (Value.slice A3 (aU).length c4::(Value.slice A7 (aL).length c8::((bg bi)++(Value.slice bH (aO).length c12::(Value.int .u16 aY::(Value.slice dH (bz).length c17::(Value.map (some bZ)::[])))))))::cN cQ (dB (eI .i64) 1 3) 1 bH c12 29 cr aO::cR bw 2 dH c17 128 bz::iz Value.bool (some bZ) br::T) w)(hs5:aP (eI .i64) 1 w0 (.slice A3 (aU).length c4) aU)(gD:aP ak 7 w0 (.slice A7 (aL).length c8) aL):Calls Tryz.prog 120 (List.toArray [.pointer (some ⟨b1,0,none⟩)]) w (fun e w'=>∃g:(List Hd×Option Addr×Nat),(True)∧e= .returned (.bool res.2.2.2.2)∧St w0.heap.size w0 (al b1 217 (Value.slice A3 (aU).length c4::(Value.slice A7 (aL).length c8::((bg bi)++(Value.slice bH (res.1).length c12::(Value.int .u16 res.2.1::(Value.slice g.2.1 (res.2.2.1).length g.2.2::(Value.map (some bZ)::[])))))))::cN cQ (dB (eI .i64) 1 3) 1 bH c12 29 g.1 res.1::cR bw 2 g.2.1 g.2.2 128 res.2.2.1::iz Value.bool (some bZ) res.2.2.2.1::T) w'):=by
 refine We 32 Tryz.func120 hw fun R hR=>?_;obtain⟨sK,Af,hF⟩:=aj hF;refine a_ ?_;refine kC Qi (v1 rfl) (fun _ hw=>qO Af (sw hw) hs5 gD) ?_;rintro _ -;refine a_ ?_;refine Wc hF (fun mI hF=>?_) (fun mI hF=>?_)
 ·obtain rfl:=oi hF;refine a_ ?_;exact rG (cr,dH,c17)
 ·obtain⟨gz,vk,hF⟩:=aj hF;refine a_ ?_;refine kC Qj (v1 rfl) (fun _ hw=>vy vk (sw hw) hs5 gD) ?_;rintro _ -;refine a_ ?_;refine WL.q (Y.iV (f:=Value.bool) (dv:=false) Tryz.underlying215 Tryz.underlying9 Ji (.pl rfl) (.pl rfl) (i:=3) rfl) rfl ?_;refine a_ ?_;refine Wc hF (fun eO hF=>?_) (fun eO hF=>?_)
  ·obtain rfl:=oi hF;refine a_ ?_;exact rG (cr,dH,c17)
  ·obtain⟨lN,aA,hF⟩:=aj hF;refine b_ ?_;refine W.Ox (fun a b c d f g h=>[]) (fun a b c d f g h=>(al b1 217 (Value.slice A3 (aU).length c4::(Value.slice A7 (aL).length c8::((bg bi)++(Value.slice bH (a).length c12::(Value.int .u16 b::(Value.slice g (c).length h::(Value.map (some bZ)::[])))))))::cN cQ (dB (eI .i64) 1 3) 1 bH c12 29 f a::cR bw 2 g h 128 c::iz Value.bool (some bZ) d::T)) (fun a b c d f g h=>(.inl (a,b,c,d))=lN) (mD 0 3) (fun rk di=>?_) ?_
   ·refine a_ ?_;refine Y8 aA (fun a b c d f g h i=>[(20,.int .i64 f)]) (fun a b c d f g h i=>(al b1 217 (Value.slice A3 (aU).length c4::(Value.slice A7 (aL).length c8::((bg bi)++(Value.slice bH (a).length c12::(Value.int .u16 b::(Value.slice h (c).length i::(Value.map (some bZ)::[])))))))::cN cQ (dB (eI .i64) 1 3) 1 bH c12 29 g a::cR bw 2 h i 128 c::iz Value.bool (some bZ) d::T)) (gx 0 3 19) fun Ab Ad yK Ae v37 Ub Fp HR XI t14 bN tX Ld oq=>?_;refine a_ ?_;refine Wc bN (fun m9 bN=>?_) (fun m9 bN=>?_)
    ·obtain⟨oo,FZ,bN⟩:=aj bN;refine a_ ?_;refine kC Qk (v2 rfl rfl) (fun _ hw=>tV ih (b1:=b1) (A3:=A3) (c4:=c4) (A7:=A7) (c8:=c8) (bH:=bH) (c12:=c12) (cr:=Ub) (dH:=Fp) (c17:=HR) (bZ:=bZ) FZ (sw hw) hs5 gD) ?_;rintro⟨MV,Uc,Ud⟩ -;refine a_ ?_;refine Wc bN (fun vi bN=>?_) (fun vi bN=>?_)
     ·obtain rfl:=oi bN;obtain rfl:=dC tX;obtain rfl:=oi hF;refine a_ ?_;exact rG (MV,Uc,Ud)
     ·obtain⟨Ue,bN⟩:=aW bN;refine a_ ?_;exact g8 oq (oj bN tX)
    ·refine a_ ?_;exact h7 di (oj bN tX)
   ·rintro FW FX O3 FY Zv FQ FR rfl;refine a_ ?_;refine WL.step (WO.Wr (f:=Value.bool) (a:=true) Tryz.underlying215 Tryz.underlying9 (.pl rfl) (.pl rfl) (.pl rfl) (i:=3) rfl ?_);obtain rfl:=oi hF;refine a_ ?_;exact rG (Zv,FQ,FR)
theorem vK{N:Nat}{M:Nat}: ∀{aU:(List Int)} {aL:(List Call)} {bi:Rel} {aO:(List (List Int))} {aY:Int} {bz:(List Step)} {br:(List (ByteArray×Bool))} {b1:Nat} {A3:Option Addr} {c4:Nat} {A7:Option Addr} {c8:Nat} {bH:Option Addr} {c12:Nat} {cr:List Hd} {dH:Option Addr} {c17:Nat} {bZ:Nat} {res:((List (List Int))×Int×(List Step)×(List (ByteArray×Bool))×Bool)} (hF:ic N M aU aL bi aO aY bz br=some res) {w0 w:World} {T:List Chunk} (hw:St w0.heap.size w0 (al b1 217 (Value.slice A3 (aU).length c4::(Value.slice A7 (aL).length c8::((bg bi)++(Value.slice bH (aO).length c12::(Value.int .u16 aY::(Value.slice dH (bz).length c17::(Value.map (some bZ)::[])))))))::cN cQ (dB (eI .i64) 1 3) 1 bH c12 29 cr aO::cR bw 2 dH c17 128 bz::iz Value.bool (some bZ) br::T) w) (hs5:aP (eI .i64) 1 w0 (.slice A3 (aU).length c4) aU) (gD:aP ak 7 w0 (.slice A7 (aL).length c8) aL),
  Calls Tryz.prog 120 (List.toArray [.pointer (some ⟨b1,0,none⟩)]) w (fun e w'=>∃g:(List Hd×Option Addr×Nat),(True)∧e= .returned (.bool res.2.2.2.2)∧St w0.heap.size w0 (al b1 217 (Value.slice A3 (aU).length c4::(Value.slice A7 (aL).length c8::((bg bi)++(Value.slice bH (res.1).length c12::(Value.int .u16 res.2.1::(Value.slice g.2.1 (res.2.2.1).length g.2.2::(Value.map (some bZ)::[])))))))::cN cQ (dB (eI .i64) 1 3) 1 bH c12 29 g.1 res.1::cR bw 2 g.2.1 g.2.2 128 res.2.2.1::iz Value.bool (some bZ) res.2.2.2.1::T) w'):=by
 induction M with
 |zero=>exact fun hF=>nomatch (show(none:Option _)=some _ from hF)
 |succ M ih=>exact fun hF=>tW ih hF
theorem mM{xs}(hb:dh 16 xs.length=true)(w:World){v}(h:aP bw 2 w v xs):Made Tryz.prog 121 [v] w (fun g:Option Addr×Nat=>.slice g.1 xs.length g.2) (fun g=>[cR bw 2 g.1 g.2 128 xs]) (fun _=>True):=by
 obtain⟨A1,c1,rfl,hc1,hs⟩:=h.form
 refine W.enter (n:=8) Tryz.func121 rfl rfl Sub.refl (by simp) (St.start w) fun R hR=>?_
 refine W.mv fun Q1 xi=>?_
 refine WL.q (Y.assign (.pl rfl)) rfl ?_
 refine WL.next xi (.cons (i:=0) rfl (.nil)) ?_
 refine W.seq fun K2 K'=>?_
 refine W.mv fun Q3 La=>?_
 refine WL.q (Y.move (.pl rfl)) rfl ?_
 refine WL.q (Y.Ot Tryz.underlying32 (.pl rfl)) rfl ?_
 refine WL.next La (.cons (i:=0) rfl (.cons (i:=4) rfl (.nil))) ?_
 refine W.cond (.pl rfl) (fun hC=>?_) (fun hC=>?_)
 ·refine W.mv fun Q4 Lb=>?_
  refine WL.q (Y.assign (.pl rfl)) rfl ?_
  refine WL.next Lb (.cons (i:=2) rfl (.nil)) ?_
  have hx:xs= []:=by
   cases xs with
   |nil=>rfl
   |cons a r=>
    have:=(hs.Ca (idx:=0) ⟨Int.le_refl _,by simp⟩).1
    rw[Option.isNone_iff_eq_none]at hC
    rw[hC]at this;cases this
  subst hx
  refine W.ii (fn:=Tryz.f121) (vs:=[.slice none 0 0]) Tryz.results121 ⟨.tmp rfl,trivial⟩ (fun _ _ h=>h) (fun w hw=>?_)
  exact hR _ _ ⟨(none,0),trivial,rfl,St.kw hw bw 2 128⟩
 ·refine W.skip ?_
  refine W.go K' (.cons (i:=0) rfl (.nil)) ?_
  obtain⟨a1,rfl⟩: ∃a,A1=some a:=by cases A1 with
   |none=>cases hC
   |some a=>exact⟨a,rfl⟩
  refine W.mv fun Q5 TY=>?_
  refine WL.step (WO.bA (enc:=bw) (ys:=[]) Tryz.underlying32 OV (.nil) rfl qV rfl rfl (by decide) (by decide) rfl fun b=>?_)
  refine WL.q (Y.move (.pl rfl)) rfl ?_
  refine WL.step (WO.Hw (enc:=bw) (ys:=xs) (xs:=[]) Tryz.underlying32 OW qV Cq (.pl rfl) rfl (.pl rfl) (i:=0) rfl (fun w hw=>hs.mono hw) (by simpa using hb) rfl fun A c=>?_)
  refine WL.q (Y.assign (.pl rfl)) rfl ?_
  refine WL.next TY (.cons (i:=2) rfl (.nil)) ?_
  refine W.ii (fn:=Tryz.f121) (vs:=[.slice A xs.length c]) Tryz.results121 ⟨.tmp rfl,trivial⟩ (fun _ _ h=>h) (fun w hw=>?_)
  exact hR _ _ ⟨(A,c),trivial,rfl,hw⟩
def lS(N:Nat)(bv:(List Int)):((List (List Int))×Int)→Option (((List (List Int))×Int) ⊕(List (List Int)))|(rE,v23)=>cond (decide (v23 < ((bv).length:Int))) (bd (ix bv v23) fun x24=>bd (oh N x24) fun pW=>ck (dh 24 ((rE).length+(([pW.1]:List (List Int))).length)) <| ck (aQ (v23+1)) <| some (.inl ((rE++([pW.1]:List (List Int))),(v23+1)))) (some (.inr rE))
def gH(N:Nat)(bv:(List Int))(aL:(List Call))(nL:Rel):Option ((List Step)×Bool):=bd (α:=(List (List Int))) (iter (lS N bv) N ([],0)) <| fun F0=>bd (ic N N bv aL nL F0 0 ([]:(List Step)) ([]:List (ByteArray×Bool))) fun wn=>cond (!wn.2.2.2.2) (some ([],false)) (ck (dh 16 (wn.2.2.1).length) <| some (wn.2.2.1,true))
theorem lT{N bv aL nL res}(hF:gH N bv aL nL=some res)(w:World){v5}(hs4:aP (eI .i64) 1 w v5 bv){v10}(gD:aP ak 7 w v10 aL):Made Tryz.prog 83 [v5,v10,.agg (bg nL).toArray] w (fun g:(Option Addr×Nat)=>.tuple #[.slice g.1 (res.1).length g.2,.bool res.2]) (fun g=>[cR bw 2 g.1 g.2 128 res.1]) (fun g=>True):=by
 obtain⟨A2,c3,rfl,g9,hs4⟩:=hs4.form;obtain⟨A7,c8,rfl,Fi,gD⟩:=gD.form;refine We 49 Tryz.func83 (St.start w) fun R hR=>?_;refine a_ ?_;refine WL.step (WO.fg (.pl rfl) rfl fun iE=>?_);refine a_ ?_;refine WL.step (WO.Tb Value.bool rfl fun pS=>?_);refine WL.q (Y.Kl (cs:=(Value.slice A2 (bv).length c3::(Value.slice A7 (aL).length c8::((bg nL)++(Value.slice none 0 0::(Value.int .u16 0::(Value.slice none 0 0::(Value.map (some pS)::[]))))))).toArray) MM (.cons (.pl rfl) (.cons (.pl rfl) (.cons (.pl rfl) (.cons (.pl rfl) (.nil))))) (by kernel_rfl)) rfl ?_;refine WL.step (WO.fg (.pl rfl) rfl fun gr=>?_);obtain⟨o3,ey,hF⟩:=aj hF;refine b_ ?_;refine W.u' (fun a b c d=>[]) (fun a b c d=>[al gr 217 (Value.slice A2 (bv).length c3::(Value.slice A7 (aL).length c8::((bg nL)++(Value.slice b (a).length c::(Value.int .u16 0::(Value.slice none 0 0::(Value.map (some pS)::[]))))))),cN cQ (dB (eI .i64) 1 3) 1 b c 29 d a,iz Value.bool (some pS) ([]:List (ByteArray×Bool))]) (fun a b c d=>a=o3) (lr 8) (fun K4 ko=>?_) ?_
 ·refine a_ ?_;refine Mm ey (fun a b c d f=>[(21,.int .i64 b)]) (fun a b c d f=>[al gr 217 (Value.slice A2 (bv).length c3::(Value.slice A7 (aL).length c8::((bg nL)++(Value.slice c (a).length d::(Value.int .u16 0::(Value.slice none 0 0::(Value.map (some pS)::[]))))))),cN cQ (dB (eI .i64) 1 3) 1 c d 29 f a,iz Value.bool (some pS) ([]:List (ByteArray×Bool))]) (gx 8 19 20) fun rE v23 OM c20 Zw k6 t6 aJ ec K7 jb=>?_;refine a_ ?_;refine Wc aJ (fun iI aJ=>?_) (fun iI aJ=>?_)
  ·obtain⟨x24,rD,aJ⟩:=aj aJ;obtain⟨pW,F2,aJ⟩:=aj aJ;refine a_ ?_;refine kM TK (v1 rfl) (fun wz hw=>Bt F2 wz) ?_;rintro⟨FQ,FR⟩ -;refine a_ ?_;refine WL.step (WO.yr (enc:=cQ) (bb:=(dB (eI .i64) 1 3)) (hs:=([((FQ,FR):Hd)]:List Hd)) (xs:=([pW.1]:List (List Int))) Tryz.underlying70 Zj (.cons (.pl rfl) (.nil)) rfl rfl rfl rfl rfl yu (by decide) (by decide) (.pick [0,1,2,3] rfl) rfl fun b28=>?_);obtain⟨Uf,aJ⟩:=aW aJ;refine WL.step (WO.Ce (enc:=cQ) (bb:=(dB (eI .i64) 1 3)) (hs:=Zw) Tryz.underlying70 Zk yu Wm (.pl rfl) rfl (.pl rfl) (i:=1) rfl (Uf) rfl fun Xy Xz=>?_);refine a_ ?_;refine WL.step (WO.dD (cs':=(Value.slice A2 (bv).length c3::(Value.slice A7 (aL).length c8::((bg nL)++(Value.slice Xy ((rE++([pW.1]:List (List Int)))).length Xz::(Value.int .u16 0::(Value.slice none 0 0::(Value.map (some pS)::[])))))))) HY (.pl rfl) (.pl rfl) rfl (i:=1) rfl (kX (m:=19) (by decide) rfl) (rfl) ?_);obtain⟨T4,aJ⟩:=aW aJ;refine a_ ?_;exact g5 jb (oj aJ ec)
  ·refine a_ ?_;exact h4 ko (oj aJ ec)
 ·rintro F0 Tr c16 aba rfl;obtain⟨wn,F3,hF⟩:=aj hF;refine a_ ?_;refine kC HZ (v1 rfl) (fun _ hw=>vK F3 ((St.kw (hw) bw 2 128).pick [1,2,0,3] rfl) hs4 gD) ?_;rintro⟨abb,XJ,XK⟩ -;refine a_ ?_;refine Wc hF (fun m9 hF=>?_) (fun m9 hF=>?_)
  ·obtain rfl:=oi hF;refine a_ ?_;exact rG (none,0)
  ·obtain⟨Ug,hF⟩:=aW hF;refine a_ ?_;refine kM Qh (v1 rfl) (fun wz hw=>mM Ug wz (so hw)) ?_;rintro⟨Tu,Tv⟩ -;obtain rfl:=oi hF;refine a_ ?_;exact rG (Tu,Tv)
def dw(N:Nat)(bv:(List Int))(l6:(List Event)):Option ((List Step)×Bool×Int):=bd (dm N bv l6) fun dr=>cond (!(decide (dr.2=0))) (some ([],false,dr.2)) (bd (mU N dr.1) fun kp=>bd (gH N bv dr.1 (Rel.mk kp.1 kp.2.1)) fun r16=>some (r16.1,r16.2,0))
theorem uH{N bv l6 res}(hF:dw N bv l6=some res)(w:World){v5}(hs4:aP (eI .i64) 1 w v5 bv){v10}(gD:aP aR 4 w v10 l6):Made Tryz.prog 51 [v5,v10] w (fun g:(Option Addr×Nat)=>.tuple #[.slice g.1 (res.1).length g.2,.bool res.2.1,.int .i64 res.2.2]) (fun g=>[cR bw 2 g.1 g.2 128 res.1]) (fun g=>True):=by
 obtain⟨A2,c3,rfl,g9,hs4⟩:=hs4.form;obtain⟨A7,c8,rfl,Fi,gD⟩:=gD.form;refine We 36 Tryz.func51 (St.start w) fun R hR=>?_;obtain⟨dr,kz,hF⟩:=aj hF;refine a_ ?_;refine kM FB (v2 rfl rfl) (fun wz hw=>og kz wz (hs4.mono hw) (gD.mono hw)) ?_;rintro⟨pQ,c13⟩ -;refine a_ ?_;refine Wc hF (fun dG hF=>?_) (fun dG hF=>?_)
 ·obtain rfl:=oi hF;refine a_ ?_;exact rG (none,0)
 ·obtain⟨kp,vF,hF⟩:=aj hF;refine a_ ?_;refine kP TM (v1 rfl) (fun wz hw=>z8 vF wz (so hw)) ?_;refine a_ ?_;refine mA fun dI=>?_;obtain⟨r16,na,hF⟩:=aj hF;refine a_ ?_;refine kM FC (v3 rfl rfl rfl) (fun wz hw=>lT na wz (hs4.mono hw) (so hw)) ?_;rintro⟨Bo,c18⟩ -;obtain rfl:=oi hF;refine a_ ?_;exact rG (Bo,c18)
end Go.Proofs.YtjdkkabcenohcaaGreatDoor
