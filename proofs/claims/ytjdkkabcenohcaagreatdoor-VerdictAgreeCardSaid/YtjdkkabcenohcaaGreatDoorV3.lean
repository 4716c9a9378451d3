/- Seq: what Find and Quiet compute, and the walks. -/
import Derived.Test.YtjdkkabcenohcaaGreatDoorAuto
import Derived.Test.YtjdkkabcenohcaaGreatDoorV2
set_option linter.unusedVariables false
set_option linter.defProp false
set_option linter.unusedSimpArgs false
set_option linter.unusedSectionVars false
set_option maxRecDepth 100000
namespace Go.Proofs.YtjdkkabcenohcaaGreatDoor
open Go.RowKit
attribute [local irreducible] Yd ap eu
instance:FT Tryz.prog 162 0 0 3:=⟨_,Tryz.underlying162,rfl⟩
def Uw:=gg Tryz.func84
def Ux:=gg Tryz.func85
def nv(N:Nat)(e_:(List Call))(cw:Call)(v10:Int):((List Int)×Int)→Option (((List Int)×Int) ⊕(List Int))|(eo,cW)=>cond (decide (cW < ((e_).length:Int))) (bd (ix e_ cW) fun bC=>cond ((decide (cw.who=bC.who))&&(decide (v10 < cW))) (bd (ax 12 0 eo v10) fun cJ=>bd (ax 12 0 eo v10) fun ux=>ck (aQ (cW+1)) <| some (.inl ((eN 12 0 eo v10 (jw .u16 cJ (gZ .u16 1 (IntKind.u64.wrap cW)))),(cW+1)))) (ck (aQ (cW+1)) <| some (.inl (eo,(cW+1))))) (some (.inr eo))
def nw(N:Nat)(e_:(List Call)):((List Int)×Int)→Option (((List Int)×Int) ⊕(List Int))|(rx,v10)=>cond (decide (v10 < ((e_).length:Int))) (bd (α:=(List Int)) (bd (ix e_ v10) fun cw=>iter (nv N e_ cw v10) N (rx,0)) <| fun uF=>ck (aQ (v10+1)) <| some (.inl (uF,(v10+1)))) (some (.inr rx))
def ot(N:Nat)(e_:(List Call)):Option (List Int):=bd (α:=(List Int)) (iter (nw N e_) N ([],0)) <| fun xg=>some xg
theorem BI{N e_ res}(hF:ot N e_=some res)(w:World){v5}(hs4:aP ak 7 w v5 e_):Pure Tryz.prog 84 [v5] w (.agg (bg (Rel.mk ((e_).length:Int) res)).toArray):=by
 obtain⟨A2,c3,rfl,g9,hs4⟩:=hs4.form;refine We 48 Tryz.func84 (St.start w) fun R hR=>?_;refine a_ ?_;refine mA fun b6=>?_;refine a_ ?_;refine WL.q (Y.build (cs:=(bg (Rel.mk ((e_).length:Int) [])).toArray) vu (.cons (.pl rfl) (.nil)) (aX ⟨rfl,trivial⟩) rfl) rfl ?_;refine mA fun b7=>?_;obtain⟨o3,ey,hF⟩:=aj hF;refine b_ ?_;refine W.eh (fun a=>[]) (fun a=>[al b6 169 (bg (Rel.mk 0 [])),al b7 169 (bg (Rel.mk ((e_).length:Int) a))]) (fun a=>a=o3) (mD 2 3) (fun K4 ko=>?_) ?_
 ·refine a_ ?_;refine ve ey (fun a b=>[(13,.int .i64 b)]) (fun a b=>[al b6 169 (bg (Rel.mk 0 [])),al b7 169 (bg (Rel.mk ((e_).length:Int) a))]) (qu 0 2 3 11 12) fun rx v10 k6 t6 aJ ec K7 jb=>?_;refine a_ ?_;refine Wc aJ (fun iI aJ=>?_) (fun iI aJ=>?_)
  ·obtain⟨lN,aA,aJ⟩:=aj aJ;refine b_ ?_;refine W.eh (fun a=>[]) (fun a=>[al b6 169 (bg (Rel.mk 0 [])),al b7 169 (bg (Rel.mk ((e_).length:Int) a))]) (fun a=>a=lN) (wX 0 2 3 11 12 13) (fun rk di=>?_) ?_
   ·obtain⟨cw,ob,aA⟩:=aj aA;refine a_ ?_;refine mA fun pS=>?_;refine a_ ?_;refine ve aA (fun a b=>[(20,.int .i64 b)]) (fun a b=>[al b6 169 (bg (Rel.mk 0 [])),al b7 169 (bg (Rel.mk ((e_).length:Int) a)),al pS 162 (ak cw)]) (S1 0 2 3 4 5 11 12 13 18 19) fun eo cW Tp t15 bF ni OP tc=>?_;refine a_ ?_;refine Wc bF (fun pg bF=>?_) (fun pg bF=>?_)
    ·obtain⟨bC,xh,bF⟩:=aj bF;refine a_ ?_;refine mA fun Bn=>?_;refine a_ ?_;refine Wc bF (fun rm bF=>?_) (fun rm bF=>?_)
     ·obtain⟨cJ,np,bF⟩:=aj bF;refine a_ ?_;refine WL.q (Y.lq (v:=.int .u16 cJ) Tryz.underlying166 rfl (.pl rfl) (i:=2) rfl (ue (pre:=(Value.int .i64 ((e_).length:Int)::[])) (off:=1) (post:=[]) (a:=eo) (enc:=(eI .u16)) (d:=0) (n:=12) (sz:=1) (j:=0) (fun _=>rfl) rfl (kY (np)) (kV (np)) rfl)) rfl ?_;obtain⟨ux,qd,bF⟩:=aj bF;refine a_ ?_;refine WL.step (WO.dD (cs':=(bg (Rel.mk ((e_).length:Int) (eN 12 0 eo v10 (jw .u16 cJ (gZ .u16 1 (IntKind.u64.wrap cW))))))) nn (.pl rfl) (.pl rfl) rfl (i:=2) rfl (kX (m:=13) (yh (off:=1) (sz:=1) (j:=0) (kY (qd)) (by decide)) rfl) (o5 (pre:=(Value.int .i64 ((e_).length:Int)::[])) (off:=1) (post:=[]) (a:=eo) (enc:=(eI .u16)) (d:=0) (n:=12) (sz:=1) (j:=0) (x:=ux) (x':=(jw .u16 cJ (gZ .u16 1 (IntKind.u64.wrap cW)))) (fun _=>rfl) rfl (mQ (qd)) (kV (qd)) (by decide) rfl rfl) ?_);obtain⟨xb,bF⟩:=aW bF;refine a_ ?_;exact g2 tc (oj bF ni)
     ·obtain⟨zR,bF⟩:=aW bF;refine a_ ?_;exact g2 tc (oj bF ni)
    ·refine a_ ?_;exact h1 di (oj bF ni)
   ·rintro uF rfl;obtain⟨Jd,aJ⟩:=aW aJ;refine a_ ?_;exact g2 jb (oj aJ ec)
  ·refine a_ ?_;exact h1 ko (oj aJ ec)
 ·rintro xg rfl;obtain rfl:=oi hF;refine a_ ?_;exact rP
def vL(N:Nat)(bv:(List Int))(l6:(List Event)):Option ((List Step)×Bool×Int):=bd (dm N bv l6) fun dr=>cond (!(decide (dr.2=0))) (some ([],false,dr.2)) (bd (ot N dr.1) fun kp=>bd (gH N bv dr.1 (Rel.mk ((dr.1).length:Int) kp)) fun d_=>some (d_.1,d_.2,0))
theorem G7{N bv l6 res}(hF:vL N bv l6=some res)(w:World){v5}(hs4:aP (eI .i64) 1 w v5 bv){v10}(gD:aP aR 4 w v10 l6):Made Tryz.prog 53 [v5,v10] w (fun g:(Option Addr×Nat)=>.tuple #[.slice g.1 (res.1).length g.2,.bool res.2.1,.int .i64 res.2.2]) (fun g=>[cR bw 2 g.1 g.2 128 res.1]) (fun g=>True):=by
 obtain⟨A2,c3,rfl,g9,hs4⟩:=hs4.form;obtain⟨A7,c8,rfl,Fi,gD⟩:=gD.form;refine We 30 Tryz.func53 (St.start w) fun R hR=>?_;obtain⟨dr,kz,hF⟩:=aj hF;refine a_ ?_;refine kM FB (v2 rfl rfl) (fun wz hw=>og kz wz (hs4.mono hw) (gD.mono hw)) ?_;rintro⟨pQ,c13⟩ -;refine a_ ?_;refine Wc hF (fun dG hF=>?_) (fun dG hF=>?_)
 ·obtain rfl:=oi hF;refine a_ ?_;exact rG (none,0)
 ·obtain⟨kp,vF,hF⟩:=aj hF;refine a_ ?_;refine kP Uw (v1 rfl) (fun wz hw=>BI vF wz (so hw)) ?_;obtain⟨d_,m8,hF⟩:=aj hF;refine kM FC (v3 rfl rfl rfl) (fun wz hw=>lT m8 wz (hs4.mono hw) (so hw)) ?_;rintro⟨dH,c17⟩ -;obtain rfl:=oi hF;refine a_ ?_;exact rG (dH,c17)
def qh(N:Nat)(l1:(List Event)):((List Int)×Int×Int×Int)→Option (((List Int)×Int×Int×Int) ⊕(List Int))|(yO,rI,nM,lU)=>cond (decide (lU < ((l1).length:Int))) (bd (ix l1 lU) fun gF=>cond (decide (gF.kind=0)) (ck (aQ (rI - 1)) <| cond (decide ((rI - 1)=0)) (ck (aQ (nM+1)) <| ck (aQ (lU+1)) <| some (.inl (yO,(rI - 1),(nM+1),(lU+1)))) (ck (aQ (lU+1)) <| some (.inl (yO,(rI - 1),nM,(lU+1))))) (ck (dh 8 ((yO).length+(([nM]:List Int)).length)) <| ck (aQ (rI+1)) <| ck (aQ (lU+1)) <| some (.inl ((yO++([nM]:List Int)),(rI+1),nM,(lU+1))))) (some (.inr yO))
def qP(N:Nat)(l1:(List Event)):Option (List Int):=bd (α:=(List Int)) (iter (qh N l1) N ([],0,0,0)) <| fun fh=>some fh
theorem D2{N l1 res}(hF:qP N l1=some res)(w:World){v5}(hs4:aP aR 4 w v5 l1):Made Tryz.prog 85 [v5] w (fun g:(Option Addr×Nat)=>.slice g.1 (res).length g.2) (fun g=>[cR (eI .i64) 1 g.1 g.2 3 res]) (fun g=>True):=by
 obtain⟨A2,c3,rfl,g9,hs4⟩:=hs4.form;refine We 31 Tryz.func85 (St.start w) fun R hR=>?_;obtain⟨o4,dc,hF⟩:=aj hF;refine b_ ?_;refine W.jI (fun a b c=>[(3,.slice b (a).length c)]) (fun a b c=>[cR (eI .i64) 1 b c 3 a]) (fun a b c=>a=o4) (.nil) (fun K5 qz=>?_) ?_
 ·refine a_ ?_;refine S7 dc (fun a b c d f g=>[(3,.slice f (a).length g),(4,.int .i64 b),(5,.int .i64 c),(10,.int .i64 d)]) (fun a b c d f g=>[cR (eI .i64) 1 f g 3 a]) (mD 8 9) fun yO rI nM lU A9 c10 k7 t7 bD Dz K8 nK=>?_;refine a_ ?_;refine Wc bD (fun m_ bD=>?_) (fun m_ bD=>?_)
  ·obtain⟨gF,vC,bD⟩:=aj bD;refine a_ ?_;refine mA fun Bm=>?_;refine a_ ?_;refine Wc bD (fun lO bD=>?_) (fun lO bD=>?_)
   ·obtain⟨Cz,bD⟩:=aW bD;refine a_ ?_;refine Wc bD (fun rA bD=>?_) (fun rA bD=>?_)
    ·obtain⟨Ai,bD⟩:=aW bD;obtain⟨vI,bD⟩:=aW bD;refine a_ ?_;exact g6 nK (oj bD Dz)
    ·obtain⟨xb,bD⟩:=aW bD;refine a_ ?_;exact g6 nK (oj bD Dz)
   ·refine a_ ?_;refine WL.step (WO.bA (enc:=(eI .i64)) (ys:=([nM]:List Int)) Tryz.underlying29 qv (.cons (.pl rfl) (.nil)) rfl (fun _=>rfl) rfl rfl (by decide) (by decide) rfl fun FK=>?_);obtain⟨z_,bD⟩:=aW bD;refine WL.step (WO.d4 (enc:=(eI .i64)) Tryz.underlying29 Dn (fun _=>rfl) q7 (.pl rfl) rfl (.pl rfl) (i:=2) rfl (m2:=0) rfl (z_) rfl fun XA XB=>?_);obtain⟨vJ,bD⟩:=aW bD;obtain⟨Jo,bD⟩:=aW bD;refine a_ ?_;exact g6 nK (oj bD Dz)
  ·refine a_ ?_;exact h3 qz (oj bD Dz)
 ·rintro fh A6 c7 rfl;obtain rfl:=oi hF;refine a_ ?_;exact rG (A6,c7)
def qi(N:Nat)(d_:(List Int))(v20:Int):((List Int)×Int)→Option (((List Int)×Int) ⊕(List Int))|(md,v23)=>cond (decide (v23 < ((d_).length:Int))) (bd (ix d_ v20) fun x24=>bd (ix d_ v23) fun x25=>cond (decide (x24 < x25)) (bd (ax 12 0 md v20) fun Bz=>bd (ax 12 0 md v20) fun XM=>ck (aQ (v23+1)) <| some (.inl ((eN 12 0 md v20 (jw .u16 Bz (gZ .u16 1 (IntKind.u64.wrap v23)))),(v23+1)))) (ck (aQ (v23+1)) <| some (.inl (md,(v23+1))))) (some (.inr md))
def qj(N:Nat)(d_:(List Int)):((List Int)×Int)→Option (((List Int)×Int) ⊕(List Int))|(CA,v20)=>cond (decide (v20 < ((d_).length:Int))) (bd (α:=(List Int)) (iter (qi N d_ v20) N (CA,0)) <| fun H'=>ck (aQ (v20+1)) <| some (.inl (H',(v20+1)))) (some (.inr CA))
def sL(N:Nat)(bv:(List Int))(l6:(List Event)):Option ((List Step)×Bool×Int):=bd (dm N bv l6) fun dr=>cond (!(decide (dr.2=0))) (some ([],false,dr.2)) (bd (qP N l6) fun d_=>bd (α:=(List Int)) (iter (qj N d_) N ([],0)) <| fun Ia=>bd (gH N bv dr.1 (Rel.mk ((dr.1).length:Int) Ia)) fun jE=>some (jE.1,jE.2,0))
theorem F9{N bv l6 res}(hF:sL N bv l6=some res)(w:World){v5}(hs4:aP (eI .i64) 1 w v5 bv){v10}(gD:aP aR 4 w v10 l6):Made Tryz.prog 54 [v5,v10] w (fun g:(Option Addr×Nat)=>.tuple #[.slice g.1 (res.1).length g.2,.bool res.2.1,.int .i64 res.2.2]) (fun g=>[cR bw 2 g.1 g.2 128 res.1]) (fun g=>True):=by
 obtain⟨A2,c3,rfl,g9,hs4⟩:=hs4.form;obtain⟨A7,c8,rfl,Fi,gD⟩:=gD.form;refine We 69 Tryz.func54 (St.start w) fun R hR=>?_;obtain⟨dr,kz,hF⟩:=aj hF;refine a_ ?_;refine kM FB (v2 rfl rfl) (fun wz hw=>og kz wz (hs4.mono hw) (gD.mono hw)) ?_;rintro⟨pQ,c13⟩ -;refine a_ ?_;refine Wc hF (fun dG hF=>?_) (fun dG hF=>?_)
 ·obtain rfl:=oi hF;refine a_ ?_;exact rG (none,0)
 ·refine a_ ?_;refine WL.q (Y.build (cs:=(bg (Rel.mk ((dr.1).length:Int) [])).toArray) vu (.cons (.pl rfl) (.nil)) (aX ⟨rfl,trivial⟩) rfl) rfl ?_;refine mA fun gr=>?_;obtain⟨d_,m8,hF⟩:=aj hF;refine a_ ?_;refine kM Ux (v1 rfl) (fun wz hw=>D2 m8 wz (gD.mono hw)) ?_;rintro⟨dH,c17⟩ -;obtain⟨o9,mG,hF⟩:=aj hF;refine b_ ?_;refine W.eh (fun a=>[]) (fun a=>[cR ak 7 pQ c13 162 dr.1,al gr 169 (bg (Rel.mk ((dr.1).length:Int) a))]) (fun a=>a=o9) (gx 0 7 9) (fun Xi w7=>?_) ?_
  ·refine a_ ?_;refine ve mG (fun a b=>[(31,.int .i64 b)]) (fun a b=>[cR ak 7 pQ c13 162 dr.1,al gr 169 (bg (Rel.mk ((dr.1).length:Int) a)),cR (eI .i64) 1 dH c17 3 d_]) (qu 0 7 9 10 30) fun CA v20 k12 t12 rq Uy Xl Fj=>?_;refine a_ ?_;refine Wc rq (fun lO rq=>?_) (fun lO rq=>?_)
   ·obtain⟨Uz,dJ,rq⟩:=aj rq;refine b_ ?_;refine W.eh (fun a=>[]) (fun a=>[cR ak 7 pQ c13 162 dr.1,al gr 169 (bg (Rel.mk ((dr.1).length:Int) a)),cR (eI .i64) 1 dH c17 3 d_]) (fun a=>a=Uz) (wX 0 7 9 10 30 31) (fun K18 Aj=>?_) ?_
    ·refine a_ ?_;refine ve dJ (fun a b=>[(36,.int .i64 b)]) (fun a b=>[cR ak 7 pQ c13 162 dr.1,al gr 169 (bg (Rel.mk ((dr.1).length:Int) a)),cR (eI .i64) 1 dH c17 3 d_]) (ks8 0 7 9 10 11 30 31 35) fun md v23 k21 t21 bP Ak Tt qe=>?_;refine a_ ?_;refine Wc bP (fun rn bP=>?_) (fun rn bP=>?_)
     ·refine b_ ?_;refine iS ?_;refine b_ ?_;refine W.mw (by kernel_rfl) (by kernel_rfl) fun R28 Zy=>?_;refine Dq ym ?_;refine Dq ym ?_;obtain⟨x24,rD,bP⟩:=aj bP;refine WD.q (Y.jh Tryz.underlying29 bp (i:=2) rfl (.pl rfl) rfl (.pl rfl) (aK (rD))) rfl ?_;refine WD.q (Y.gc (enc:=(eI .i64)) (v:=.int .i64 x24) (a:=x24) (idx:=v20) (j:=0) Tryz.underlying3 rfl (fun _=>rfl) (i:=2) rfl (.pl rfl) (bx (rD)) rfl rfl) rfl ?_;refine Dq ym ?_;refine Dq ym ?_;obtain⟨x25,nh,bP⟩:=aj bP;refine WD.q (Y.jh Tryz.underlying29 bp (i:=2) rfl (.pl rfl) rfl (.pl rfl) (aK (nh))) rfl ?_;refine WD.q (Y.gc (enc:=(eI .i64)) (v:=.int .i64 x25) (a:=x25) (idx:=v23) (j:=0) Tryz.underlying3 rfl (fun _=>rfl) (i:=2) rfl (.pl rfl) (bx (nh)) rfl rfl) rfl ?_;refine Dq yl ?_;refine WD.next Zy (EU 0 7 9 10 11 12 30 31 35 36 47) ?_;refine Wc bP (fun Zz bP=>?_) (fun Zz bP=>?_)
      ·obtain⟨Bz,FV,bP⟩:=aj bP;refine a_ ?_;refine WL.q (Y.lq (v:=.int .u16 Bz) Tryz.underlying166 rfl (.pl rfl) (i:=1) rfl (ue (pre:=(Value.int .i64 ((dr.1).length:Int)::[])) (off:=1) (post:=[]) (a:=md) (enc:=(eI .u16)) (d:=0) (n:=12) (sz:=1) (j:=0) (fun _=>rfl) rfl (kY (FV)) (kV (FV)) rfl)) rfl ?_;obtain⟨XM,M4,bP⟩:=aj bP;refine a_ ?_;refine WL.step (WO.dD (cs':=(bg (Rel.mk ((dr.1).length:Int) (eN 12 0 md v20 (jw .u16 Bz (gZ .u16 1 (IntKind.u64.wrap v23))))))) nn (.pl rfl) (.pl rfl) rfl (i:=1) rfl (kX (m:=13) (yh (off:=1) (sz:=1) (j:=0) (kY (M4)) (by decide)) rfl) (o5 (pre:=(Value.int .i64 ((dr.1).length:Int)::[])) (off:=1) (post:=[]) (a:=md) (enc:=(eI .u16)) (d:=0) (n:=12) (sz:=1) (j:=0) (x:=XM) (x':=(jw .u16 Bz (gZ .u16 1 (IntKind.u64.wrap v23)))) (fun _=>rfl) rfl (mQ (M4)) (kV (M4)) (by decide) rfl rfl) ?_);obtain⟨CB,bP⟩:=aW bP;refine a_ ?_;exact g2 qe (oj bP Ak)
      ·obtain⟨Jp,bP⟩:=aW bP;refine a_ ?_;exact g2 qe (oj bP Ak)
     ·refine a_ ?_;exact h1 Aj (oj bP Ak)
    ·rintro H' rfl;obtain⟨UA,rq⟩:=aW rq;refine a_ ?_;exact g2 Fj (oj rq Uy)
   ·refine a_ ?_;exact h1 w7 (oj rq Uy)
  ·rintro Ia rfl;obtain⟨jE,vq,hF⟩:=aj hF;refine a_ ?_;refine kM FC (v3 rfl rfl rfl) (fun wz hw=>lT vq wz (hs4.mono hw) (so hw)) ?_;rintro⟨A32,c33⟩ -;obtain rfl:=oi hF;refine a_ ?_;exact rG (A32,c33)
end Go.Proofs.YtjdkkabcenohcaaGreatDoor
