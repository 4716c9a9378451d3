/- The laws: what their code computes, and the walks. -/
import Derived.Test.YtjdkkabcenohcaaGreatDoorAuto
import Derived.Test.YtjdkkabcenohcaaGreatDoorV9
set_option linter.unusedVariables false
set_option linter.defProp false
set_option linter.unusedSimpArgs false
set_option linter.unusedSectionVars false
set_option maxRecDepth 100000
namespace Go.Proofs.YtjdkkabcenohcaaGreatDoor
open Go.RowKit
attribute [local irreducible] Yd ap eu
def PB:=gg Tryz.func9
def aaK:=gg Tryz.func10
def LM:=gg Tryz.func11
def aaL:=gg Tryz.func12
def LN:=gg Tryz.func13
def LO:=gg Tryz.func14
def VO:=gg Tryz.func33
def cD(N:Nat):Option Bool:=bd (jD N (⟨#[116,104,105,110,103,115,32,114,101,103,10,48,32,48,32,119,114,105,116,101,32,53,10,48,32,48,32,101,110,100,32,48,10,49,32,48,32,114,101,97,100,10,49,32,48,32,101,110,100,32,48,10]⟩:ByteArray)) fun r1=>some (decide (r1=(⟨#[99,97,108,108,115,32,50,10,116,105,109,101,32,110,10,112,101,111,112,108,101,32,121,10,99,97,108,109,32,110,10,98,97,100,32,53,32,48,32,53,10]⟩:ByteArray)))
theorem l7{N res}(hF:cD N=some res)(w:World)(hG:li w):Pure Tryz.prog 11 [] w (.bool res):=by
 refine We 3 Tryz.func11 (St.start w) fun R hR=>?_;obtain⟨r1,sP,hF⟩:=aj hF;refine a_ ?_;refine kP PB (v1 rfl) (fun wz hw=>uT sP wz (hG.mono hw)) ?_;refine WL.q (Y.E4 Tryz.underlying9 (.pl rfl) (.pl rfl)) rfl ?_;obtain rfl:=oi hF;refine a_ ?_;exact rP
theorem GK:Lays.n99 Tryz.prog Bl where
 mixed:=by kernel_rfl
 f99:=Tryz.func13.trans (congrArg some (by kernel_rfl))
 f206:=Tryz.func31.trans (congrArg some (by kernel_rfl))
 t3:=Tryz.underlying3
 a3:=Tryz.isAgg3
 z3:=Tryz.sizeOf3
 v3:=Tryz.zeroValue3
 t4:=Tryz.underlying4
 a4:=Tryz.isAgg4
 z4:=Tryz.sizeOf4
 v4:=Tryz.zeroValue4
 t9:=Tryz.underlying9
 a9:=Tryz.isAgg9
 z9:=Tryz.sizeOf9
 v9:=Tryz.zeroValue9
theorem oH{N:Nat}{h_ Dp:ByteArray}{res:Bool}(hF:nY N h_ Dp=some res)(w:World):Pure Tryz.prog 13 [.string h_,.string Dp] w (.bool res):=Mp GK hF w
def IC(N:Nat)(s1:ByteArray):Option Bool:=bd (jD N s1) fun r2=>bd (S_ N r2 (⟨#[10]⟩:ByteArray)) fun r3=>bd (cD N) fun r4=>bd ((cond ((!r4)==false) (Zc N r2 (⟨#[10]⟩:ByteArray)) (some false))) fun r5=>cond ((!r4)||(!r5)) (some false) (bd (nY N r2 (⟨#[101,114,114,111,114,32]⟩:ByteArray)) fun r6=>bd ((cond ((r6&&(decide (r3=1)))==false) (nY N r2 (⟨#[99,97,108,108,115,32]⟩:ByteArray)) (some false))) fun r7=>some ((r6&&(decide (r3=1)))||(r7&&(decide (r3≤5)))))
theorem D6:Lays.n103 Tryz.prog Bl where
 mixed:=by kernel_rfl
 f103:=Tryz.func33.trans (congrArg some (by kernel_rfl))
 f206:=Tryz.func31.trans (congrArg some (by kernel_rfl))
 f210:=Tryz.func62.trans (congrArg some (by kernel_rfl))
 t3:=Tryz.underlying3
 a3:=Tryz.isAgg3
 z3:=Tryz.sizeOf3
 v3:=Tryz.zeroValue3
 t4:=Tryz.underlying4
 a4:=Tryz.isAgg4
 z4:=Tryz.sizeOf4
 v4:=Tryz.zeroValue4
 t9:=Tryz.underlying9
 a9:=Tryz.isAgg9
 z9:=Tryz.sizeOf9
 v9:=Tryz.zeroValue9
 t24:=Tryz.underlying27
 a24:=Tryz.isAgg27
 z24:=Tryz.sizeOf27
 v24:=Tryz.zeroValue27
theorem vW{N:Nat}{h_ Dp:ByteArray}{res:ByteArray×Bool}(hF:Mq N h_ Dp=some res)(w:World):Pure Tryz.prog 33 [.string h_,.string Dp] w (.tuple #[.string res.1,.bool res.2]):=Mr D6 hF w
def l_(N:Nat)(r3:(List ByteArray))(vX:ByteArray):Int→Option (Int ⊕(Unit ⊕(ByteArray×Bool)))|v6=>cond (decide (v6 < ((r3).length:Int))) (bd (ix r3 v6) fun x7=>ck (I' vX (⟨#[32]⟩:ByteArray)) <| bd (Mq N x7 (vX++(⟨#[32]⟩:ByteArray))) fun r9=>cond r9.2 (some (.inr (.inr (r9.1,true)))) (ck (aQ (v6+1)) <| some (.inl (v6+1)))) (some (.inr (.inl ())))
def eL(N:Nat)(s1:ByteArray)(vX:ByteArray):Option (ByteArray×Bool):=bd (α:=(Unit ⊕(ByteArray×Bool))) (bd (nX N s1 (⟨#[10]⟩:ByteArray)) fun r3=>iter (l_ N r3 vX) N 0) <| Sum.elim (fun _=>some ((⟨#[]⟩:ByteArray),false)) (fun p=>some p)
theorem p7{N s1 vX res}(hF:eL N s1 vX=some res)(w:World)(hG:li w):Pure Tryz.prog 14 [.string s1,.string vX] w (.tuple #[.string res.1,.bool res.2]):=by
 refine We 27 Tryz.func14 (St.start w) fun R hR=>?_;obtain⟨o2,bS,hF⟩:=aj hF;refine b_ ?_;refine W.dR [] [] ((.inl ())=o2) (.nil) (fun K3 d5=>?_) ?_
 ·obtain⟨r3,qy,bS⟩:=aj bS;refine a_ ?_;refine kM Bj (v2 rfl rfl) (fun wz hw=>ky qy wz (hG.mono hw)) ?_;rintro⟨k8,jV⟩ -;refine a_ ?_;refine gl bS (fun a=>[(13,.int .i64 a)]) (fun a=>[cR eS 1 k8 jV 9 r3]) (gx 1 11 12) fun v6 k5 t5 aD cU K6 io=>?_;refine a_ ?_;refine Wc aD (fun eO aD=>?_) (fun eO aD=>?_)
  ·obtain⟨x7,HN,aD⟩:=aj aD;obtain⟨XX,aD⟩:=aW aD;refine a_ ?_;refine WL.q (Y.Za (.pl rfl) (.pl rfl) (XX)) rfl ?_;obtain⟨r9,pO,aD⟩:=aj aD;refine kP VO (v2 rfl rfl) (fun wz hw=>vW pO wz) ?_;refine a_ ?_;refine Wc aD (fun jx aD=>?_) (fun jx aD=>?_)
   ·obtain rfl:=oi aD;obtain rfl:=dC cU;obtain rfl:=oi hF;refine a_ ?_;exact rP
   ·obtain⟨z',aD⟩:=aW aD;refine a_ ?_;exact g1 io (oj aD cU)
  ·refine a_ ?_;exact h0 d5 (oj aD cU)
 ·rintro rfl;obtain rfl:=oi hF;refine a_ ?_;exact rP
def Hg(N:Nat)(s1:ByteArray):Option Bool:=bd (jD N s1) fun r2=>bd (eL N r2 (⟨#[116,105,109,101]⟩:ByteArray)) fun r3=>bd (eL N r2 (⟨#[112,101,111,112,108,101]⟩:ByteArray)) fun r4=>bd (eL N r2 (⟨#[99,97,108,109]⟩:ByteArray)) fun r5=>bd (cD N) fun r6=>cond (((!r6)||(!(r3.2==r4.2)))||(!(r4.2==r5.2))) (some false) (bd (nY N r3.1 (⟨#[121]⟩:ByteArray)) fun r7=>some ((!r7)||((decide (r4.1=(⟨#[121]⟩:ByteArray)))&&(decide (r5.1=(⟨#[121]⟩:ByteArray))))))
def j'(N:Nat)(s1:ByteArray):Option Bool:=bd (jD N s1) fun r2=>bd (eL N r2 (⟨#[116,105,109,101]⟩:ByteArray)) fun r3=>bd (eL N r2 (⟨#[98,97,100]⟩:ByteArray)) fun r4=>bd (cD N) fun r5=>bd ((cond ((((!r5)||(!r3.2))||(!r4.2))==false) (nY N r4.1 (⟨#[101,114,114,111,114]⟩:ByteArray)) (some false))) fun r6=>cond ((((!r5)||(!r3.2))||(!r4.2))||r6) (bd (cD N) fun r7=>some r7) (bd (nY N r3.1 (⟨#[121]⟩:ByteArray)) fun r8=>some (r8==(decide (r4.1=(⟨#[110,111,110,101]⟩:ByteArray)))))
theorem sa{N s1 res}(hF:j' N s1=some res)(w:World)(hG:li w):Pure Tryz.prog 4 [.string s1] w (.bool res):=by
 refine We 40 Tryz.func4 (St.start w) fun R hR=>?_;obtain⟨r2,hr2,hF⟩:=aj hF;refine a_ ?_;refine kP PB (v1 rfl) (fun wz hw=>uT hr2 wz (hG.mono hw)) ?_;obtain⟨r3,qy,hF⟩:=aj hF;refine a_ ?_;refine kP LO (v2 rfl rfl) (fun wz hw=>p7 qy wz (hG.mono hw)) ?_;obtain⟨r4,Fe,hF⟩:=aj hF;refine a_ ?_;refine kP LO (v2 rfl rfl) (fun wz hw=>p7 Fe wz (hG.mono hw)) ?_;obtain⟨r5,U2,hF⟩:=aj hF;refine a_ ?_;refine kP LM v0 (fun wz hw=>l7 U2 wz (hG.mono hw)) ?_;obtain⟨r6,uv,hF⟩:=aj hF;refine a_ ?_;refine WL.gP (.pl rfl rfl rfl) LN (fun hg=>(.cons (.gd (hg) rfl) (.cons (.pl rfl) (.nil)))) rfl (fun hg wz hw=>oH (eC hg uv) wz) ?_;refine a_ ?_;refine Wc hF (fun w9 hF=>?_) (fun w9 hF=>?_)
 ·obtain⟨r7,pN,hF⟩:=aj hF;refine a_ ?_;refine kP LM v0 (fun wz hw=>l7 pN wz (hG.mono hw)) ?_;obtain rfl:=oi hF;refine a_ ?_;exact rP
 ·obtain⟨r8,lM,hF⟩:=aj hF;refine a_ ?_;refine kP LN (v2 rfl rfl) (fun wz hw=>oH lM wz) ?_;refine a_ ?_;refine WL.q (Y.E4 Tryz.underlying9 (.pl rfl) (.pl rfl)) rfl ?_;refine WL.q (Y.YV Tryz.underlying4 (.pl rfl) (.pl rfl)) rfl ?_;obtain rfl:=oi hF;refine a_ ?_;exact rP
end Go.Proofs.YtjdkkabcenohcaaGreatDoor
