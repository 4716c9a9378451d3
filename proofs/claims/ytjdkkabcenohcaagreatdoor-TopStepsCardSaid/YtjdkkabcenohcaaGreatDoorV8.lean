import Derived.Test.YtjdkkabcenohcaaGreatDoorAuto
import Derived.Test.YtjdkkabcenohcaaGreatDoorV7
import Derived.Test.YtjdkkabcenohcaaGreatDoorMapR
set_option linter.unusedVariables false
set_option linter.defProp false
set_option linter.unusedSimpArgs false
set_option linter.unusedSectionVars false
set_option maxRecDepth 100000
namespace Go.Proofs.YtjdkkabcenohcaaGreatDoor
open Go.RowKit
attribute [local irreducible] Yd aD ik
theorem Zt:Tryz.prog.cellsOf 277=7+1:=by kernel_rfl
def Xl:=gg Tryz.func51
def afq:=gg Tryz.func97
def afr:=gg Tryz.func98
def acx:=gg Tryz.func138
def TM:=gg Tryz.func139
def acy:=gg Tryz.func140
def acz:=gg Tryz.func141
def acA:=gg Tryz.func142
def acB:=gg Tryz.func164
def acC:=gg Tryz.func165
def acD:=gg Tryz.func197
theorem acE: ∃i,Tryz.prog.info? 277=some i∧i.zero=some (Value.agg #[(Value.bool false),(Value.bool false),(Value.bool false),(Value.bool false),(Value.bool false),(Value.bool false),(Value.bool false),(Value.bool false)]):=⟨_,rfl,by kernel_rfl⟩
instance:FT Tryz.prog 248 1 1 29:=⟨_,Tryz.underlying248,rfl⟩
instance:FT Tryz.prog 248 2 2 29:=⟨_,Tryz.underlying248,rfl⟩
@[reducible,instance] def alM:=UT.mk Tryz.underlying189
instance:FT Tryz.prog 248 0 0 58:=⟨_,Tryz.underlying248,rfl⟩
@[reducible,instance] def alN:=ZI.mk acE
@[reducible,instance] def alO:=UT.mk Tryz.underlying277
theorem Zu:Shape Tryz.prog 248 [(0,1),(1,1),(2,1)] #[(Value.slice none 0 0),(Value.slice none 0 0),(Value.slice none 0 0)]:=⟨_,_,Value.agg #[(Value.slice none 0 0),(Value.slice none 0 0),(Value.slice none 0 0)],Tryz.underlying248,rfl,by kernel_rfl,rfl,by kernel_rfl,by decide⟩
theorem Zv: ∃i zv,Tryz.prog.info? 277=some i∧i.zero=some zv∧zv.cells= #[(Value.bool false),(Value.bool false),(Value.bool false),(Value.bool false),(Value.bool false),(Value.bool false),(Value.bool false),(Value.bool false)]:=⟨_,(Value.agg #[(Value.bool false),(Value.bool false),(Value.bool false),(Value.bool false),(Value.bool false),(Value.bool false),(Value.bool false),(Value.bool false)]),rfl,by kernel_rfl,rfl⟩
def wW(N:Nat)(r7:((List Call)×Int×Int)):((List Int)×Int×(List (Int×Bool))×Int)→Option (((List Int)×Int×(List (Int×Bool))×Int) ⊕((List Int)×Int×(List (Int×Bool))))|(vP,KB,Ot,v22)=>cond (decide (v22 < ((r7.1).length:Int))) (bd (ix r7.1 v22) fun dX=>cond (decide (dX.aY=(-1))) (ck (eY 8 ((vP).length+(([v22]:List Int)).length)) <| ck (bB (v22+1)) <| some (.inl ((vP++([v22]:List Int)),KB,Ot,(v22+1)))) (ck (bB (v22+1)) <| some (.inl (vP,(max KB dX.res),(kX Ot dX.res true),(v22+1))))) (some (.inr (vP,KB,Ot)))
def wX(N:Nat)(GM:Int)(KC:(List (Int×Bool))):((List Int)×Int)→Option (((List Int)×Int) ⊕(List Int))|(vQ,GN)=>cond (decide (GN < (GM+1))) (cond (!((gz KC GN).getD false)) (ck (eY 8 ((vQ).length+(([GN]:List Int)).length)) <| ck (bB (GN+1)) <| some (.inl ((vQ++([GN]:List Int)),(GN+1)))) (ck (bB (GN+1)) <| some (.inl (vQ,(GN+1))))) (some (.inr vQ))
def jM(N:Nat)(l1:(List Event)):Option (Bool×(List Call)×(List Int)×(List Int)×Int):=bd (cB N ([5]:List Int) l1) fun r7=>cond (!(decide (r7.2.2=0))) (some (false,[],[],[],r7.2.2)) (bd (α:=((List Int)×Int×(List (Int×Bool)))) (iter (wW N r7) N ([],(-1),([]:List (Int×Bool)),0)) <| fun(sR,GM,KC)=>bd (α:=(List Int)) (ck (bB (GM+1)) <| iter (wX N GM KC) N ([],0)) <| fun Nn=>some (true,r7.1,sR,Nn,0))
theorem KD{N l1 res}(hF:jM N l1=some res)(w:World){v5}(hs4:bi az 4 w v5 l1):Made Tryz.prog 97 [v5] w (fun g:(Option Nat×Option Addr×Nat×Option Addr×Nat×Option Addr×Nat)=>.tuple #[.pointer (ptO g.1),.int .i64 res.2.2.2.2]) (fun g=>[cBo g.1 248 (Value.slice g.2.1 (res.2.1).length g.2.2.1::(Value.slice g.2.2.2.1 (res.2.2.1).length g.2.2.2.2.1::(Value.slice g.2.2.2.2.2.1 (res.2.2.2.1).length g.2.2.2.2.2.2::[]))),cR aC 7 g.2.1 g.2.2.1 162 res.2.1,cR (eI .i64) 1 g.2.2.2.1 g.2.2.2.2.1 3 res.2.2.1,cR (eI .i64) 1 g.2.2.2.2.2.1 g.2.2.2.2.2.2 3 res.2.2.2.1]) (fun g=>res.1=(g.1).isSome):=by
 obtain⟨A2,c3,rfl,jy,hs4⟩:=hs4.form;refine We 76 Tryz.func97 (St.start w) fun R hR=>?_;refine a_ ?_;refine WL.step (WO.cC (enc:=(eI .i64)) (ys:=([5]:List Int)) Tryz.underlying29 ut (.cons (.pl rfl) (.nil)) rfl (fun _=>rfl) rfl rfl (by decide) (by decide) rfl fun b6=>?_);obtain⟨r7,Bi,hF⟩:=al hF;refine a_ ?_;refine kM yT (v2 rfl rfl) (fun wz hw=>jj Bi wz (so hw) (hs4.mono hw)) ?_;rintro⟨A8,c9⟩ -;refine a_ ?_;refine Wc hF (fun fT hF=>?_) (fun fT hF=>?_)
 ·obtain rfl:=oi hF;refine a_ ?_;refine W.lr (fn:=Tryz.f97) (vs:=[.pointer none,.int .i64 r7.2.2]) Tryz.results97 ⟨.tmp rfl,⟨.tmp rfl,trivial⟩⟩ (fun _ _ h=>h) (fun wz hw=>?_);exact hR _ _ ⟨(none,none,0,none,0,none,0),rfl,rfl,((St.qp (St.qp (St.qp (St.UR (hw.pick [] rfl) 248 (Value.slice none 0 0::(Value.slice none 0 0::(Value.slice none 0 0::[])))) aC 7 162) (eI .i64) 1 3) (eI .i64) 1 3).pick [3,2,1,0] rfl)⟩
 ·refine a_ ?_;refine WL.q (Y.build (cs:=(Value.slice A8 (r7.1).length c9::(Value.slice none 0 0::(Value.slice none 0 0::[]))).toArray) Zu (.cons (.pl rfl) (.nil)) (bH ⟨rfl,trivial⟩) rfl) rfl ?_;refine WL.step (WO.il (.pl rfl) rfl fun qW=>?_);refine a_ ?_;refine WL.step (WO.UM Value.bool rfl fun rS=>?_);obtain⟨PC,cj,hF⟩:=al hF;refine b_ ?_;refine W.ag8 (fun a b c d f=>[(8,.int .i64 b)]) (fun a b c d f=>[aw qW 248 (Value.slice A8 (r7.1).length c9::(Value.slice d (a).length f::(Value.slice none 0 0::[]))),cR aC 7 A8 c9 162 r7.1,cR (eI .i64) 1 d f 3 a,cM Value.bool (some rS) c]) (fun a b c d f=>(a,b,c)=PC) (m_ 7 9) (fun Ie mG=>?_) ?_
  ·refine a_ ?_;refine aen cj (fun a b c d f g=>[(8,.int .i64 b),(29,.int .i64 d)]) (fun a b c d f g=>[aw qW 248 (Value.slice A8 (r7.1).length c9::(Value.slice f (a).length g::(Value.slice none 0 0::[]))),cR aC 7 A8 c9 162 r7.1,cR (eI .i64) 1 f g 3 a,cM Value.bool (some rS) c]) (lE 7 9 27 28) fun vP KB Ot v22 l_ c18 k13 t13 fA IP K14 Ex=>?_;refine a_ ?_;refine Wc fA (fun qy fA=>?_) (fun qy fA=>?_)
   ·obtain⟨dX,ru,fA⟩:=al fA;refine a_ ?_;refine mA fun Ke=>?_;refine a_ ?_;refine Wc fA (fun su fA=>?_) (fun su fA=>?_)
    ·refine a_ ?_;refine WL.step (WO.cC (enc:=(eI .i64)) (ys:=([v22]:List Int)) Tryz.underlying29 ut (.cons (.pl rfl) (.nil)) rfl (fun _=>rfl) rfl rfl (by decide) (by decide) rfl fun qm=>?_);obtain⟨zH,fA⟩:=bx fA;refine WL.step (WO.fH (enc:=(eI .i64)) Tryz.underlying29 M6 (fun _=>rfl) AR (.pl rfl) rfl (.pl rfl) (i:=4) rfl (m2:=0) rfl (zH) rfl fun DF DG=>?_);refine a_ ?_;refine WL.step (WO.dC (cs':=(Value.slice A8 (r7.1).length c9::(Value.slice DF ((vP++([v22]:List Int))).length DG::(Value.slice none 0 0::[])))) ly (.pl rfl) (.pl rfl) rfl (i:=2) rfl (iQ (m:=3) (by decide) rfl) (rfl) ?_);obtain⟨EV,fA⟩:=bx fA;refine a_ ?_;exact g6 Ex (oj fA IP)
    ·refine a_ ?_;refine WL.step (WO.Yx (f:=Value.bool) (a:=true) Tryz.underlying219 Tryz.underlying3 (.pl rfl) (.pl rfl) (.pl rfl) (i:=4) rfl ?_);obtain⟨Gy,fA⟩:=bx fA;refine a_ ?_;exact g6 Ex (oj fA IP)
   ·refine a_ ?_;exact h5 mG (oj fA IP)
  ·rintro sR GM KC vI c13 rfl;obtain⟨o27,kD,hF⟩:=al hF;refine W.pF (fun a b c=>[]) (fun a b c=>[aw qW 248 (Value.slice A8 (r7.1).length c9::(Value.slice vI (sR).length c13::(Value.slice b (a).length c::[]))),cR aC 7 A8 c9 162 r7.1,cR (eI .i64) 1 vI c13 3 sR,cR (eI .i64) 1 b c 3 a]) (fun a b c=>a=o27) (mM 7) (fun K28 LV=>?_) ?_
   ·obtain⟨QI,kD⟩:=bx kD;refine a_ ?_;refine Ba kD (fun a b c d=>[(57,.int .i64 b)]) (fun a b c d=>[aw qW 248 (Value.slice A8 (r7.1).length c9::(Value.slice vI (sR).length c13::(Value.slice c (a).length d::[]))),cR aC 7 A8 c9 162 r7.1,cR (eI .i64) 1 vI c13 3 sR,cR (eI .i64) 1 c d 3 a,cM Value.bool (some rS) KC]) (fY 7 9 56) fun vQ GN Qe Qf k30 t30 mK LW K31 Vk=>?_;refine a_ ?_;refine Wc mK (fun Qq mK=>?_) (fun Qq mK=>?_)
    ·refine a_ ?_;refine WL.q (Y.gz (f:=Value.bool) (dv:=false) Tryz.underlying219 Tryz.underlying3 U7 (.pl rfl) (.pl rfl) (i:=4) rfl) rfl ?_;refine a_ ?_;refine Wc mK (fun ai3 mK=>?_) (fun ai3 mK=>?_)
     ·refine a_ ?_;refine WL.step (WO.cC (enc:=(eI .i64)) (ys:=([GN]:List Int)) Tryz.underlying29 ut (.cons (.pl rfl) (.nil)) rfl (fun _=>rfl) rfl rfl (by decide) (by decide) rfl fun Tq=>?_);obtain⟨aeR,mK⟩:=bx mK;refine WL.step (WO.fH (enc:=(eI .i64)) Tryz.underlying29 M6 (fun _=>rfl) AR (.pl rfl) rfl (.pl rfl) (i:=4) rfl (m2:=0) rfl (aeR) rfl fun A40 c41=>?_);refine a_ ?_;refine WL.step (WO.dC (cs':=(Value.slice A8 (r7.1).length c9::(Value.slice vI (sR).length c13::(Value.slice A40 ((vQ++([GN]:List Int))).length c41::[])))) ly (.pl rfl) (.pl rfl) rfl (i:=1) rfl (iQ (m:=3) (by decide) rfl) (rfl) ?_);obtain⟨Zw,mK⟩:=bx mK;refine a_ ?_;exact g4 Vk (oj mK LW)
     ·obtain⟨Vb,mK⟩:=bx mK;refine a_ ?_;exact g4 Vk (oj mK LW)
    ·refine a_ ?_;exact h3 LV (oj mK LW)
   ·rintro Nn Tw PR rfl;obtain rfl:=oi hF;refine a_ ?_;refine W.lr (fn:=Tryz.f97) (vs:=[.pointer (some ⟨qW,0,none⟩),.int .i64 0]) Tryz.results97 ⟨.tmp rfl,⟨.tmp rfl,trivial⟩⟩ (fun _ _ h=>h) (fun wz hw=>?_);exact hR _ _ ⟨((some qW),A8,c9,vI,c13,Tw,PR),rfl,rfl,(hw.pick [0,1,2,3] rfl)⟩
def pK(N:Nat)(x1:Call)(bX:(List Call))(yr:(List Int))(vR:(List Int))(TN:Int)(Xm:Int):Option Bool:=bd ((cond ((!(decide (x1.aY=(-1))))==true) (ix bX TN) (some Call.z))) fun U=>some (((!(decide (x1.aY=(-1))))&&(decide (x1.aY < U.from_)))&&(decide (Xm≤x1.res)))
theorem E4{N x1 bX yr vR TN Xm b2 b3 A4 c5 A7 c8 dW c11 yY ir res}(hF:pK N x1 bX yr vR TN Xm=some res){w0 w T}(hw:St w0.heap.size w0 (aw b2 189 [.pointer (some ⟨b3,0,none⟩)]::aw b3 248 (Value.slice A4 (bX).length c5::(Value.slice A7 (yr).length c8::(Value.slice dW (vR).length c11::[])))::cR aC 7 A4 c5 162 bX::cR (eI .i64) 1 A7 c8 3 yr::cR (eI .i64) 1 dW c11 3 vR::aw yY 3 [.int .i64 TN]::aw ir 3 [.int .i64 Xm]::T) w):Calls Tryz.prog 165 (List.toArray [.agg (aC x1).toArray,.pointer (some ⟨b2,0,none⟩),.pointer (some ⟨yY,0,none⟩),.pointer (some ⟨ir,0,none⟩)]) w (fun e w'=>∃g:Unit,(True)∧e= .returned (.bool res)∧St w0.heap.size w0 (aw b2 189 [.pointer (some ⟨b3,0,none⟩)]::aw b3 248 (Value.slice A4 (bX).length c5::(Value.slice A7 (yr).length c8::(Value.slice dW (vR).length c11::[])))::cR aC 7 A4 c5 162 bX::cR (eI .i64) 1 A7 c8 3 yr::cR (eI .i64) 1 dW c11 3 vR::aw yY 3 [.int .i64 TN]::aw ir 3 [.int .i64 Xm]::T) w'):=by
 refine We 28 Tryz.func165 hw fun R hR=>?_;refine a_ ?_;refine WL.step (WO.il (.pl rfl) rfl fun nH=>?_);refine b_ ?_;refine W.iI (by kernel_rfl) (by kernel_rfl) fun R2 hR2=>?_;refine Dq yf ?_;refine Dq fj ?_;refine Dq yn ?_;refine Dq ym ?_;refine Dg qj ?_;refine Dg lM ?_;refine Dg aie ?_;refine Dg AZ ?_;refine Dg O4 ?_;refine Dg aif ?_;refine Dg aig ?_;obtain⟨U,aX,hF⟩:=al hF;refine WD.g (.pl rfl rfl rfl) (fun hg=>Y.mU Tryz.underlying58 nF (i:=3) rfl (.gd (hg) rfl) rfl (.gd (hg) rfl) (ai (fq hg aX))) rfl ?_;refine WD.g (.pl rfl rfl rfl) (fun hg=>Y.gQ (off:=5) (ft:=3) Tryz.underlying162 rfl bh (i':=3) rfl (ai (fq hg aX)) (.gd (hg) rfl)) rfl ?_;refine WD.g (.pl rfl rfl rfl) (fun hg=>Y.gD (enc:=aC) (v:=.int .i64 U.from_) (a:=U) (idx:=TN) (j:=5) Tryz.underlying3 rfl lw (i:=3) rfl (.gd (hg) rfl) (aI (fq hg aX)) rfl rfl) rfl ?_;refine Dg YC ?_;refine Dq yd ?_;refine Dq ym ?_;refine Dg qj ?_;refine Dg lM ?_;refine Dg aih ?_;refine Dg O7 ?_;refine Dq yd ?_;refine Dq ya ?_;refine WD.next hR2 (mM 5) ?_;obtain rfl:=oi hF;exact rG ()
def ja(N:Nat)(s3:(List Call))(fX:(List Int))(fh:(List Int))(c13:Int)(c15:Int):Int→Option (Int ⊕(Unit ⊕ Int))|jK=>cond (decide (jK < ((s3).length:Int))) (bd (ix s3 jK) fun ap=>bd (pK N ap s3 fX fh c13 c15) fun kV=>cond kV (some (.inr (.inr jK))) (ck (bB (jK+1)) <| some (.inl (jK+1)))) (some (.inr (.inl ())))
def jA(N:Nat)(s3:(List Call))(fX:(List Int))(fh:(List Int))(c13:Int)(c15:Int):Option Int:=bd (α:=(Unit ⊕ Int)) (iter (ja N s3 fX fh c13 c15) N 0) <| Sum.elim (fun _=>some (-1)) (fun p=>some p)
theorem r_{N s3 fX fh c13 c15 A1 c2 b4 b5 A6 c7 A9 c10 na gK res}(hF:jA N s3 fX fh c13 c15=some res){w0 w T}(hw:St w0.heap.size w0 (cR aC 7 A1 c2 162 s3::aw b4 189 [.pointer (some ⟨b5,0,none⟩)]::aw b5 248 (Value.slice A1 (s3).length c2::(Value.slice A6 (fX).length c7::(Value.slice A9 (fh).length c10::[])))::cR (eI .i64) 1 A6 c7 3 fX::cR (eI .i64) 1 A9 c10 3 fh::aw na 3 [.int .i64 c13]::aw gK 3 [.int .i64 c15]::T) w):Calls Tryz.prog 197 (List.toArray [.slice A1 (s3).length c2,.func (.func 165) #[] #[.pointer (some ⟨b4,0,none⟩),.pointer (some ⟨na,0,none⟩),.pointer (some ⟨gK,0,none⟩)]]) w (fun e w'=>∃g:Unit,(True)∧e= .returned (.int .i64 res)∧St w0.heap.size w0 (cR aC 7 A1 c2 162 s3::aw b4 189 [.pointer (some ⟨b5,0,none⟩)]::aw b5 248 (Value.slice A1 (s3).length c2::(Value.slice A6 (fX).length c7::(Value.slice A9 (fh).length c10::[])))::cR (eI .i64) 1 A6 c7 3 fX::cR (eI .i64) 1 A9 c10 3 fh::aw na 3 [.int .i64 c13]::aw gK 3 [.int .i64 c15]::T) w'):=by
 refine We 19 Tryz.func197 hw fun R hR=>?_;obtain⟨o2,eK,hF⟩:=al hF;refine b_ ?_;refine W.fQ [] ((cR aC 7 A1 c2 162 s3::aw b4 189 [.pointer (some ⟨b5,0,none⟩)]::aw b5 248 (Value.slice A1 (s3).length c2::(Value.slice A6 (fX).length c7::(Value.slice A9 (fh).length c10::[])))::cR (eI .i64) 1 A6 c7 3 fX::cR (eI .i64) 1 A9 c10 3 fh::aw na 3 [.int .i64 c13]::aw gK 3 [.int .i64 c15]::T)) ((.inl ())=o2) (.nil) (fun K3 kU=>?_) ?_
 ·refine a_ ?_;refine jg eK (fun a=>[(8,.int .i64 a)]) (fun a=>(cR aC 7 A1 c2 162 s3::aw b4 189 [.pointer (some ⟨b5,0,none⟩)]::aw b5 248 (Value.slice A1 (s3).length c2::(Value.slice A6 (fX).length c7::(Value.slice A9 (fh).length c10::[])))::cR (eI .i64) 1 A6 c7 3 fX::cR (eI .i64) 1 A9 c10 3 fh::aw na 3 [.int .i64 c13]::aw gK 3 [.int .i64 c15]::T)) (fY 0 1 7) fun jK k5 t5 bC hZ K6 ol=>?_;refine a_ ?_;refine Wc bC (fun ip bC=>?_) (fun ip bC=>?_)
  ·obtain⟨ap,dd,bC⟩:=al bC;obtain⟨kV,Bs,bC⟩:=al bC;refine a_ ?_;refine WL.step (WO.Hm (γ:=Unit) (first:=[]) (cap:=[.pointer (some ⟨b4,0,none⟩),.pointer (some ⟨na,0,none⟩),.pointer (some ⟨gK,0,none⟩)]) (fun g=>.bool kV) (fun g=>(aw b4 189 [.pointer (some ⟨b5,0,none⟩)]::aw b5 248 (Value.slice A1 (s3).length c2::(Value.slice A6 (fX).length c7::(Value.slice A9 (fh).length c10::[])))::cR aC 7 A1 c2 162 s3::cR (eI .i64) 1 A6 c7 3 fX::cR (eI .i64) 1 A9 c10 3 fh::aw na 3 [.int .i64 c13]::aw gK 3 [.int .i64 c15]::T)) (fun g=>True) acC (.pl rfl) (.cons (.pl rfl) (.nil)) rfl (fun wz hw=>(by have h:=E4 (T:=(T)) (b2:=b4) (b3:=b5) (A4:=A1) (c5:=c2) (A7:=A6) (c8:=c7) (dW:=A9) (c11:=c10) (yY:=na) (ir:=gK) (Bs) (hw.cY 7 [1,2,0,3,4,5,6] rfl);unfold Calls at h⊢;intro cs;obtain⟨e,w2,fr,h1,h2⟩:=h cs;exact⟨e,w2,fr,h1,h2⟩)) ?_);rintro _ -;refine a_ ?_;refine Wc bC (fun jh bC=>?_) (fun jh bC=>?_)
   ·obtain rfl:=oi bC;obtain rfl:=fy hZ;obtain rfl:=oi hF;refine a_ ?_;exact rG ()
   ·obtain⟨zC,bC⟩:=bx bC;refine a_ ?_;exact g1 ol (oj bC hZ)
  ·refine a_ ?_;exact h0 kU (oj bC hZ)
 ·rintro rfl;obtain rfl:=oi hF;refine a_ ?_;exact rG ()
def jb(N:Nat)(s3:(List Call))(fX:(List Int))(fh:(List Int))(c13:Int)(c15:Int):Option Bool:=bd (jA N s3 fX fh c13 c15) fun r16=>some (decide (0≤r16))
theorem qP{N s3 fX fh c13 c15 A1 c2 b4 b5 A6 c7 A9 c10 na gK res}(hF:jb N s3 fX fh c13 c15=some res){w0 w T}(hw:St w0.heap.size w0 (cR aC 7 A1 c2 162 s3::aw b4 189 [.pointer (some ⟨b5,0,none⟩)]::aw b5 248 (Value.slice A1 (s3).length c2::(Value.slice A6 (fX).length c7::(Value.slice A9 (fh).length c10::[])))::cR (eI .i64) 1 A6 c7 3 fX::cR (eI .i64) 1 A9 c10 3 fh::aw na 3 [.int .i64 c13]::aw gK 3 [.int .i64 c15]::T) w):Calls Tryz.prog 164 (List.toArray [.slice A1 (s3).length c2,.func (.func 165) #[] #[.pointer (some ⟨b4,0,none⟩),.pointer (some ⟨na,0,none⟩),.pointer (some ⟨gK,0,none⟩)]]) w (fun e w'=>∃g:Unit,(True)∧e= .returned (.bool res)∧St w0.heap.size w0 (cR aC 7 A1 c2 162 s3::aw b4 189 [.pointer (some ⟨b5,0,none⟩)]::aw b5 248 (Value.slice A1 (s3).length c2::(Value.slice A6 (fX).length c7::(Value.slice A9 (fh).length c10::[])))::cR (eI .i64) 1 A6 c7 3 fX::cR (eI .i64) 1 A9 c10 3 fh::aw na 3 [.int .i64 c13]::aw gK 3 [.int .i64 c15]::T) w'):=by
 refine We 9 Tryz.func164 hw fun R hR=>?_;obtain⟨r16,mF,hF⟩:=al hF;refine a_ ?_;refine kC acD (v2 rfl rfl) (fun _ hw=>r_ mF (sw hw)) ?_;rintro _ -;obtain rfl:=oi hF;refine a_ ?_;exact rG ()
def rV(N:Nat)(aA:(List Call))(cT:(List Int))(cG:(List Int))(i11:Int)(n12:Int):Option Bool:=bd (jb N aA cT cG i11 n12) fun r16=>some (!r16)
theorem GP{N aA cT cG i11 n12 b1 A2 c3 A5 c6 A8 c9 res}(hF:rV N aA cT cG i11 n12=some res){w0 w T}(hw:St w0.heap.size w0 (aw b1 248 (Value.slice A2 (aA).length c3::(Value.slice A5 (cT).length c6::(Value.slice A8 (cG).length c9::[])))::cR aC 7 A2 c3 162 aA::cR (eI .i64) 1 A5 c6 3 cT::cR (eI .i64) 1 A8 c9 3 cG::T) w):Calls Tryz.prog 138 (List.toArray [.pointer (some ⟨b1,0,none⟩),.int .i64 i11,.int .i64 n12]) w (fun e w'=>∃g:Unit,(True)∧e= .returned (.bool res)∧St w0.heap.size w0 (aw b1 248 (Value.slice A2 (aA).length c3::(Value.slice A5 (cT).length c6::(Value.slice A8 (cG).length c9::[])))::cR aC 7 A2 c3 162 aA::cR (eI .i64) 1 A5 c6 3 cT::cR (eI .i64) 1 A8 c9 3 cG::T) w'):=by
 refine We 14 Tryz.func138 hw fun R hR=>?_;refine a_ ?_;refine WL.step (WO.Eg (.pl rfl) rfl rfl fun yY=>?_);refine WL.step (WO.Eg (.pl rfl) rfl rfl fun gK=>?_);refine WL.step (WO.Eg (.pl rfl) rfl rfl fun ir=>?_);obtain⟨r16,mF,hF⟩:=al hF;refine a_ ?_;refine kC acB (v2 rfl rfl) (fun _ hw=>qP mF (sw hw)) ?_;rintro _ -;obtain rfl:=oi hF;refine a_ ?_;exact rG ()
def mj(N:Nat)(aA:(List Call))(v12:Int)(gG:Call):Int→Option (Int ⊕(Unit ⊕(Int×Int×Int)))|jK=>cond (decide (jK < (((aA.take v12.toNat)).length:Int))) (bd (ix (aA.take v12.toNat) jK) fun ap=>cond (((!(decide (gG.aY=(-1))))&&(!(decide (ap.aY=(-1)))))&&(decide (gG.res=ap.res))) (some (.inr (.inr (2,v12,jK)))) (ck (bB (jK+1)) <| some (.inl (jK+1)))) (some (.inr (.inl ())))
def ml(N:Nat)(aA:(List Call)):Int→Option (Int ⊕(Unit ⊕(Int×Int×Int)))|v12=>cond (decide (v12 < ((aA).length:Int))) (bd (α:=(Unit ⊕(Int×Int×Int))) (bd (ix aA v12) fun gG=>ck (pB (aA).length 0 v12) <| iter (mj N aA v12 gG) N 0) <| Sum.elim (fun _=>ck (bB (v12+1)) <| some (.inl (v12+1))) (fun p=>some (.inr (.inr p)))) (some (.inr (.inl ())))
def mn(N:Nat)(aA:(List Call))(aG:Call)(v21:Int):Int→Option (Int ⊕(Unit ⊕(Int×Int×Int)))|v24=>cond (decide (v24 < ((aA).length:Int))) (bd (ix aA v24) fun x25=>cond ((((!(decide (aG.aY=(-1))))&&(!(decide (x25.aY=(-1)))))&&(decide (aG.aY < x25.from_)))&&(decide (x25.res < aG.res))) (some (.inr (.inr (6,v21,v24)))) (ck (bB (v24+1)) <| some (.inl (v24+1)))) (some (.inr (.inl ())))
def mq(N:Nat)(aA:(List Call)):Int→Option (Int ⊕(Unit ⊕(Int×Int×Int)))|v21=>cond (decide (v21 < ((aA).length:Int))) (bd (α:=(Unit ⊕(Int×Int×Int))) (bd (ix aA v21) fun aG=>iter (mn N aA aG v21) N 0) <| Sum.elim (fun _=>ck (bB (v21+1)) <| some (.inl (v21+1))) (fun p=>some (.inr (.inr p)))) (some (.inr (.inl ())))
def mr(N:Nat)(cG:(List Int))(cT:(List Int))(aA:(List Call)):Int→Option (Int ⊕(Unit ⊕(Int×Int×Int)))|v29=>cond (decide (v29 < ((cG).length:Int))) (bd (ix cG v29) fun ub=>bd (α:=Bool) (bd ((cond ((decide (((cT).length:Int)≤v29))==false) (ix cT v29) (some 0))) fun x32=>cond ((decide (((cT).length:Int)≤v29))==false) (bd (rV N aA cT cG x32 ub) fun Bu=>some ((decide (((cT).length:Int)≤v29))||(!Bu))) (some ((decide (((cT).length:Int)≤v29))||false))) <| fun v31=>cond v31 (some (.inr (.inr (8,ub,0)))) (ck (bB (v29+1)) <| some (.inl (v29+1)))) (some (.inr (.inl ())))
def kQ(N:Nat)(aA:(List Call))(cT:(List Int))(cG:(List Int)):Option (Int×Int×Int):=bd (α:=(Unit ⊕(Int×Int×Int))) (iter (ml N aA) N 0) <| Sum.elim (fun _=>bd (α:=(Unit ⊕(Int×Int×Int))) (iter (mq N aA) N 0) <| Sum.elim (fun _=>bd (α:=(Unit ⊕(Int×Int×Int))) (iter (mr N cG cT aA) N 0) <| Sum.elim (fun _=>some (0,0,0)) (fun p=>some p)) (fun p=>some p)) (fun p=>some p)
theorem E5{N aA cT cG b1 A2 c3 A5 c6 A8 c9 res}(hF:kQ N aA cT cG=some res){w0 w T}(hw:St w0.heap.size w0 (aw b1 248 (Value.slice A2 (aA).length c3::(Value.slice A5 (cT).length c6::(Value.slice A8 (cG).length c9::[])))::cR aC 7 A2 c3 162 aA::cR (eI .i64) 1 A5 c6 3 cT::cR (eI .i64) 1 A8 c9 3 cG::T) w):Calls Tryz.prog 98 (List.toArray [.pointer (some ⟨b1,0,none⟩)]) w (fun e w'=>∃g:Unit,(True)∧e= .returned (.agg (bG (dh.mk res.1 res.2.1 res.2.2)).toArray)∧St w0.heap.size w0 (aw b1 248 (Value.slice A2 (aA).length c3::(Value.slice A5 (cT).length c6::(Value.slice A8 (cG).length c9::[])))::cR aC 7 A2 c3 162 aA::cR (eI .i64) 1 A5 c6 3 cT::cR (eI .i64) 1 A8 c9 3 cG::T) w'):=by
 refine We 136 Tryz.func98 hw fun R hR=>?_;refine a_ ?_;refine mA fun rS=>?_;obtain⟨o2,eK,hF⟩:=al hF;refine b_ ?_;refine W.fQ [] ((aw b1 248 (Value.slice A2 (aA).length c3::(Value.slice A5 (cT).length c6::(Value.slice A8 (cG).length c9::[])))::cR aC 7 A2 c3 162 aA::cR (eI .i64) 1 A5 c6 3 cT::cR (eI .i64) 1 A8 c9 3 cG::aw rS 131 (bG (dh.mk 0 0 0))::T)) ((.inl ())=o2) (m_ 0 2) (fun K3 kU=>?_) ?_
 ·refine a_ ?_;refine jg eK (fun a=>[(18,.int .i64 a)]) (fun a=>(aw b1 248 (Value.slice A2 (aA).length c3::(Value.slice A5 (cT).length c6::(Value.slice A8 (cG).length c9::[])))::cR aC 7 A2 c3 162 aA::cR (eI .i64) 1 A5 c6 3 cT::cR (eI .i64) 1 A8 c9 3 cG::aw rS 131 (bG (dh.mk 0 0 0))::T)) (lE 0 2 16 17) fun v12 k5 t5 bC hZ K6 ol=>?_;refine a_ ?_;refine Wc bC (fun ip bC=>?_) (fun ip bC=>?_)
  ·obtain⟨PC,cj,bC⟩:=al bC;refine b_ ?_;refine W.fQ [] ((aw b1 248 (Value.slice A2 (aA).length c3::(Value.slice A5 (cT).length c6::(Value.slice A8 (cG).length c9::[])))::cR aC 7 A2 c3 162 aA::cR (eI .i64) 1 A5 c6 3 cT::cR (eI .i64) 1 A8 c9 3 cG::aw rS 131 (bG (dh.mk 0 0 0))::T)) ((.inl ())=PC) (wl 0 2 16 17 18) (fun Ie mG=>?_) ?_
   ·obtain⟨gG,x_,cj⟩:=al cj;refine a_ ?_;refine mA fun gK=>?_;obtain⟨I5,cj⟩:=bx cj;refine a_ ?_;refine WL.q (Y.Lu Tryz.underlying58 nF (i:=2) rfl (.pl rfl) rfl (.pl rfl) (I5)) rfl ?_;refine a_ ?_;refine jg cj (fun a=>[(30,.int .i64 a)]) (fun a=>(aw b1 248 (Value.slice A2 (aA).length c3::(Value.slice A5 (cT).length c6::(Value.slice A8 (cG).length c9::[])))::cR aC 7 A2 c3 162 aA::cR (eI .i64) 1 A5 c6 3 cT::cR (eI .i64) 1 A8 c9 3 cG::aw rS 131 (bG (dh.mk 0 0 0))::aw gK 162 (aC gG)::T)) (S4 0 2 3 4 16 17 18 28 29) fun jK k14 t14 ef C3 Tz uj=>?_;refine a_ ?_;refine Wc ef (fun qr ef=>?_) (fun qr ef=>?_)
    ·obtain⟨ap,dd,ef⟩:=al ef;refine a_ ?_;refine WL.q (Y.abo (xs:=aA) Tryz.underlying58 nF (i:=1) rfl (.pl rfl) (.pl rfl) (ai (dd)) (ai (OX (dd))).2) rfl ?_;refine WL.q (Y.wj (enc:=aC) (ds:=(aC ap)) (a:=ap) (idx:=jK) (j:=0) Tryz.underlying162 rfl nF lw (i:=1) rfl (.pl rfl) (aI (OX (dd))) rfl rfl mB) rfl ?_;refine mA fun vG=>?_;refine a_ ?_;refine Wc ef (fun uU ef=>?_) (fun uU ef=>?_)
     ·refine a_ ?_;refine WL.q (Y.build (cs:=(bG (dh.mk 2 v12 jK)).toArray) e_ (.cons (.pl rfl) (.cons (.pl rfl) (.cons (.pl rfl) (.nil)))) (bH ⟨rfl,⟨rfl,⟨rfl,trivial⟩⟩⟩) rfl) rfl ?_;obtain rfl:=oi ef;obtain rfl:=fy C3;obtain rfl:=oi bC;obtain rfl:=fy hZ;obtain rfl:=oi hF;refine a_ ?_;exact rG ()
     ·obtain⟨zC,ef⟩:=bx ef;refine a_ ?_;exact g1 uj (oj ef C3)
    ·refine a_ ?_;exact h0 mG (oj ef C3)
   ·rintro rfl;obtain⟨wu,bC⟩:=bx bC;refine a_ ?_;exact g1 ol (oj bC hZ)
  ·refine a_ ?_;exact h0 kU (oj bC hZ)
 ·rintro rfl;obtain⟨o26,dN,hF⟩:=al hF;refine W.fQ [] ((aw b1 248 (Value.slice A2 (aA).length c3::(Value.slice A5 (cT).length c6::(Value.slice A8 (cG).length c9::[])))::cR aC 7 A2 c3 162 aA::cR (eI .i64) 1 A5 c6 3 cT::cR (eI .i64) 1 A8 c9 3 cG::aw rS 131 (bG (dh.mk 0 0 0))::T)) ((.inl ())=o26) (m_ 0 2) (fun TP ul=>?_) ?_
  ·refine a_ ?_;refine jg dN (fun a=>[(60,.int .i64 a)]) (fun a=>(aw b1 248 (Value.slice A2 (aA).length c3::(Value.slice A5 (cT).length c6::(Value.slice A8 (cG).length c9::[])))::cR aC 7 A2 c3 162 aA::cR (eI .i64) 1 A5 c6 3 cT::cR (eI .i64) 1 A8 c9 3 cG::aw rS 131 (bG (dh.mk 0 0 0))::T)) (lE 0 2 58 59) fun v21 k29 t29 mX Mc K30 Qv=>?_;refine a_ ?_;refine Wc mX (fun YN mX=>?_) (fun YN mX=>?_)
   ·obtain⟨o34,Zx,mX⟩:=al mX;refine b_ ?_;refine W.fQ [] ((aw b1 248 (Value.slice A2 (aA).length c3::(Value.slice A5 (cT).length c6::(Value.slice A8 (cG).length c9::[])))::cR aC 7 A2 c3 162 aA::cR (eI .i64) 1 A5 c6 3 cT::cR (eI .i64) 1 A8 c9 3 cG::aw rS 131 (bG (dh.mk 0 0 0))::T)) ((.inl ())=o34) (wl 0 2 58 59 60) (fun K35 ai4=>?_) ?_
    ·obtain⟨aG,dt,Zx⟩:=al Zx;refine a_ ?_;refine mA fun J7=>?_;refine a_ ?_;refine jg Zx (fun a=>[(70,.int .i64 a)]) (fun a=>(aw b1 248 (Value.slice A2 (aA).length c3::(Value.slice A5 (cT).length c6::(Value.slice A8 (cG).length c9::[])))::cR aC 7 A2 c3 162 aA::cR (eI .i64) 1 A5 c6 3 cT::cR (eI .i64) 1 A8 c9 3 cG::aw rS 131 (bG (dh.mk 0 0 0))::aw J7 162 (aC aG)::T)) (S4 0 2 7 8 58 59 60 68 69) fun v24 k38 t38 yu Zy K39 ai5=>?_;refine a_ ?_;refine Wc yu (fun PF yu=>?_) (fun PF yu=>?_)
     ·obtain⟨x25,uV,yu⟩:=al yu;refine a_ ?_;refine mA fun b26=>?_;refine a_ ?_;refine Wc yu (fun Ze yu=>?_) (fun Ze yu=>?_)
      ·refine a_ ?_;refine WL.q (Y.build (cs:=(bG (dh.mk 6 v21 v24)).toArray) e_ (.cons (.pl rfl) (.cons (.pl rfl) (.cons (.pl rfl) (.nil)))) (bH ⟨rfl,⟨rfl,⟨rfl,trivial⟩⟩⟩) rfl) rfl ?_;obtain rfl:=oi yu;obtain rfl:=fy Zy;obtain rfl:=oi mX;obtain rfl:=fy Mc;obtain rfl:=oi hF;refine a_ ?_;exact rG ()
      ·obtain⟨Ge,yu⟩:=bx yu;refine a_ ?_;exact g1 ai5 (oj yu Zy)
     ·refine a_ ?_;exact h0 ai4 (oj yu Zy)
    ·rintro rfl;obtain⟨zH,mX⟩:=bx mX;refine a_ ?_;exact g1 Qv (oj mX Mc)
   ·refine a_ ?_;exact h0 ul (oj mX Mc)
  ·rintro rfl;obtain⟨o50,ai6,hF⟩:=al hF;refine W.fQ [] ((aw b1 248 (Value.slice A2 (aA).length c3::(Value.slice A5 (cT).length c6::(Value.slice A8 (cG).length c9::[])))::cR aC 7 A2 c3 162 aA::cR (eI .i64) 1 A5 c6 3 cT::cR (eI .i64) 1 A8 c9 3 cG::aw rS 131 (bG (dh.mk 0 0 0))::T)) ((.inl ())=o50) (mM 2) (fun K51 ai7=>?_) ?_
   ·refine a_ ?_;refine jg ai6 (fun a=>[(107,.int .i64 a)]) (fun a=>(aw b1 248 (Value.slice A2 (aA).length c3::(Value.slice A5 (cT).length c6::(Value.slice A8 (cG).length c9::[])))::cR aC 7 A2 c3 162 aA::cR (eI .i64) 1 A5 c6 3 cT::cR (eI .i64) 1 A8 c9 3 cG::aw rS 131 (bG (dh.mk 0 0 0))::T)) (lE 0 2 105 106) fun v29 k53 t53 vm Zz K54 ai8=>?_;refine a_ ?_;refine Wc vm (fun ai9 vm=>?_) (fun ai9 vm=>?_)
    ·obtain⟨ub,VA,vm⟩:=al vm;obtain⟨o60,C9,vm⟩:=al vm;refine c_ ?_;refine iS ?_;refine c_ ?_;refine iR ?_;refine c_ ?_;refine W.gh (fun a=>[(131,.bool a)]) (fun a=>(aw b1 248 (Value.slice A2 (aA).length c3::(Value.slice A5 (cT).length c6::(Value.slice A8 (cG).length c9::[])))::cR aC 7 A2 c3 162 aA::cR (eI .i64) 1 A5 c6 3 cT::cR (eI .i64) 1 A8 c9 3 cG::aw rS 131 (bG (dh.mk 0 0 0))::T)) (fun a=>a=o60) (zX 0 2 12 105 106 107) (fun K61 afs=>?_) ?_
     ·obtain⟨x32,Bq,C9⟩:=al C9;refine a_ ?_;refine gq ((decide (((cT).length:Int)≤v29))==false) (fun BL=>?_) (fun BL=>?_)
      ·replace C9:=km BL C9;refine WL.gd (.pl rfl rfl rfl) (BL) ?_;obtain⟨Bu,I3,C9⟩:=al C9;refine WL.step (WO.call (γ:=Unit) (fun g=>.bool Bu) (fun g=>(aw b1 248 (Value.slice A2 (aA).length c3::(Value.slice A5 (cT).length c6::(Value.slice A8 (cG).length c9::[])))::cR aC 7 A2 c3 162 aA::cR (eI .i64) 1 A5 c6 3 cT::cR (eI .i64) 1 A8 c9 3 cG::aw rS 131 (bG (dh.mk 0 0 0))::T)) (fun g=>True) acx (.cons (.gd (BL) rfl) (.cons (.gd (BL) rfl) (.cons (.gd (BL) rfl) (.nil)))) rfl (fun wz hw=>GP (T:=(aw rS 131 (bG (dh.mk 0 0 0))::T)) (I3) (hw.cY 5 [0,1,2,3,4] rfl)) ?_);rintro _ -;refine WL.gd (.pl rfl rfl rfl) (BL) ?_;refine a_ ?_;exact h1 afs (oi C9)
      ·replace C9:=ko BL C9;refine WL.gn (.pl rfl rfl rfl) BL rfl ?_;refine WL.gn (.pl rfl rfl rfl) BL rfl ?_;refine WL.q (Y.or (b:=false) (.pl rfl) (fun h2=>(Oa BL h2).elim)) rfl ?_;refine a_ ?_;exact h1 afs (oi C9)
     ·rintro v31 rfl;refine Wc vm (fun ai_ vm=>?_) (fun ai_ vm=>?_)
      ·refine a_ ?_;refine WL.q (Y.build (cs:=(bG (dh.mk 8 ub 0)).toArray) e_ (.cons (.pl rfl) (.cons (.pl rfl) (.nil))) (bH ⟨rfl,⟨rfl,trivial⟩⟩) rfl) rfl ?_;obtain rfl:=oi vm;obtain rfl:=fy Zz;obtain rfl:=oi hF;refine a_ ?_;exact rG ()
      ·obtain⟨QI,vm⟩:=bx vm;refine a_ ?_;exact g1 ai8 (oj vm Zz)
    ·refine a_ ?_;exact h0 ai7 (oj vm Zz)
   ·rintro rfl;refine a_ ?_;refine WL.q (Y.build (cs:=(bG (dh.mk 0 0 0)).toArray) e_ (.nil) (bH trivial) rfl) rfl ?_;obtain rfl:=oi hF;refine a_ ?_;exact rG ()
def fR(N:Nat)(l1:(List Event)):Option (Bool×Int×Int×Int×Int):=bd (jM N l1) fun r7=>cond (!(decide (r7.2.2.2.2=0))) (some (false,0,0,0,r7.2.2.2.2)) (ck (r7.1) <| bd (kQ N r7.2.1 r7.2.2.1 r7.2.2.2.1) fun kV=>some ((decide (kV.1=0)),kV.1,kV.2.1,kV.2.2,0))
theorem Jd{N l1 res}(hF:fR N l1=some res)(w:World){v5}(hs4:bi az 4 w v5 l1):Pure Tryz.prog 58 [v5] w (.tuple #[.bool res.1,.agg (bG (dh.mk res.2.1 res.2.2.1 res.2.2.2.1)).toArray,.int .i64 res.2.2.2.2]):=by
 obtain⟨A2,c3,rfl,jy,hs4⟩:=hs4.form;refine We 23 Tryz.func58 (St.start w) fun R hR=>?_;refine a_ ?_;refine mA fun b6=>?_;obtain⟨r7,Bi,hF⟩:=al hF;refine a_ ?_;refine kM afq (v1 rfl) (fun wz hw=>KD Bi wz (hs4.mono hw)) ?_;rintro⟨b8,A9,c10,cg,c12,fM,c14⟩ ai';refine a_ ?_;refine Wc hF (fun fT hF=>?_) (fun fT hF=>?_)
 ·refine a_ ?_;refine WL.q (Y.build (cs:=(bG (dh.mk 0 0 0)).toArray) e_ (.nil) (bH trivial) rfl) rfl ?_;obtain rfl:=oi hF;refine a_ ?_;exact rP
 ·obtain⟨GA,hF⟩:=bx hF;refine a_ ?_;obtain⟨nH,rfl⟩:=Option.isSome_iff_exists.1 (ai'.symm.trans GA);obtain⟨kV,Bs,hF⟩:=al hF;refine a_ ?_;refine kC afr (v1 rfl) (fun _ hw=>E5 Bs (sw hw)) ?_;rintro _ -;refine mA fun eL=>?_;refine b_ ?_;refine W.zq 5 (by kernel_rfl) (by kernel_rfl) fun Q8 hQ8=>?_;refine Sq yf ?_;refine Sq fj ?_;refine Sq ye ?_;refine WS.q (Y.yQ (ds:=(bG (dh.mk kV.1 kV.2.1 kV.2.2))) Tryz.underlying131 rfl EW (.pl rfl) (i:=0) rfl rfl mB) rfl ?_;refine Sq ya ?_;refine WS.tail ?_;refine a_ ?_;refine xQ hQ8 ?_;obtain rfl:=oi hF;exact rP
def E6(N:Nat):Option Unit:=some ()
theorem FC{N res}(hF:E6 N=some res)(w:World):Made Tryz.prog 139 [] w (fun g:Option Addr=>.slice g (([4]:List Int)).length (([4]:List Int)).length) (fun g=>[cR (eI .i64) 1 g (([4]:List Int)).length 3 ([4]:List Int)]) (fun g=>True):=by
 refine We 2 Tryz.func139 (St.start w) fun R hR=>?_;refine a_ ?_;refine WL.step (WO.cC (enc:=(eI .i64)) (ys:=([4]:List Int)) Tryz.underlying29 ut (.cons (.pl rfl) (.nil)) rfl (fun _=>rfl) rfl rfl (by decide) (by decide) rfl fun b1=>?_);obtain rfl:=oi hF;refine a_ ?_;exact rG (some (Addr.mk b1 0 none))
def pD(N:Nat)(m2:(List (Int×Int))):Option Unit:=some ()
theorem vn{N m2 b1 res}(hF:pD N m2=some res){w0 w T}(hw:St w0.heap.size w0 (cM (Value.int .i64) (some b1) m2::T) w):Calls Tryz.prog 141 (List.toArray [.map (some b1)]) w (fun e w'=>∃g:Nat,(True)∧e= .returned (.func (.func 168) #[] #[.pointer (some ⟨g,0,none⟩)])∧St w0.heap.size w0 (cM (Value.int .i64) (some b1) m2::aw g 249 [.map (some b1)]::T) w'):=by
 refine We 4 Tryz.func141 hw fun R hR=>?_;refine a_ ?_;refine WL.step (WO.Eg (.pl rfl) rfl rfl fun b3=>?_);obtain rfl:=oi hF;refine a_ ?_;exact rG b3
def Ir:Go.Shelf.Ren:=⟨fun x=>match x with|6=>140|8=>166|9=>167|11=>198|n=>n,fun x=>match x with|0=>0|3=>3|4=>4|23=>249|24=>29|26=>3|27=>251|28=>252|33=>147|n=>n,fun x=>x⟩
theorem acF:SlLaysZI.n6 Tryz.prog Ir where
 mixed:=by kernel_rfl
 f6:=⟨Tryz.f140.name,by kernel_rfl,Tryz.func140.trans (congrArg some (by kernel_rfl))⟩
 f8:=⟨Tryz.f166.name,by kernel_rfl,Tryz.func166.trans (congrArg some (by kernel_rfl))⟩
 f11:=⟨Tryz.f198.name,by kernel_rfl,Tryz.func198.trans (congrArg some (by kernel_rfl))⟩
 t0:=Tryz.underlying0
 a0:=Tryz.isAgg0
 z0:=Tryz.sizeOf0
 v0:=Tryz.zeroValue0
 t24:=Tryz.underlying29
 a24:=Tryz.isAgg29
 z24:=Tryz.sizeOf29
 v24:=Tryz.zeroValue29
 t26:=Tryz.underlying3
 a26:=Tryz.isAgg3
 z26:=Tryz.sizeOf3
 v26:=Tryz.zeroValue3
 t28:=Tryz.underlying252
 a28:=Tryz.isAgg252
 z28:=Tryz.sizeOf252
 v28:=Tryz.zeroValue252
 i26:=by kernel_rfl
def SC:Go.Shelf.Ren:=⟨fun x=>match x with|10=>168|n=>n,fun x=>match x with|0=>0|3=>3|4=>4|23=>249|24=>29|26=>3|27=>251|28=>252|33=>147|n=>n,fun x=>x⟩
theorem acG:SlLaysZI.n10 Tryz.prog SC where
 mixed:=by kernel_rfl
 f10:=⟨Tryz.f168.name,by kernel_rfl,Tryz.func168.trans (congrArg some (by kernel_rfl))⟩
 t0:=Tryz.underlying0
 a0:=Tryz.isAgg0
 z0:=Tryz.sizeOf0
 v0:=Tryz.zeroValue0
 t4:=Tryz.underlying4
 a4:=Tryz.isAgg4
 z4:=Tryz.sizeOf4
 v4:=Tryz.zeroValue4
 t23:=Tryz.underlying249
 a23:=Tryz.isAgg249
 z23:=Tryz.sizeOf249
 v23:=Tryz.zeroValue249
 t26:=Tryz.underlying3
 a26:=Tryz.isAgg3
 z26:=Tryz.sizeOf3
 v26:=Tryz.zeroValue3
 t33:=Tryz.underlying147
 a33:=Tryz.isAgg147
 z33:=Tryz.sizeOf147
 v33:=Tryz.zeroValue147
def SD:Go.Shelf.Ren:=⟨fun x=>match x with|5=>167|7=>199|8=>159|10=>213|11=>214|12=>215|13=>216|14=>217|15=>218|16=>219|17=>220|18=>221|19=>188|20=>176|30=>226|31=>206|32=>207|33=>227|34=>228|35=>148|40=>229|n=>n,fun x=>match x with|0=>0|3=>3|4=>4|5=>5|9=>9|22=>29|23=>29|25=>3|32=>176|35=>288|36=>289|41=>158|44=>255|46=>263|53=>312|57=>316|63=>331|64=>332|n=>n,fun x=>x⟩
theorem TQ:SlLaysM.n5 Tryz.prog SD where
 mixed:=by kernel_rfl
 f5:=⟨Tryz.f167.name,by kernel_rfl,Tryz.func167.trans (congrArg some (by kernel_rfl))⟩
 f7:=⟨Tryz.f199.name,by kernel_rfl,Tryz.func199.trans (congrArg some (by kernel_rfl))⟩
 f8:=Tryz.func159.trans (congrArg some (by kernel_rfl))
 f10:=⟨Tryz.f213.name,by kernel_rfl,Tryz.func213.trans (congrArg some (by kernel_rfl))⟩
 f11:=⟨Tryz.f214.name,by kernel_rfl,Tryz.func214.trans (congrArg some (by kernel_rfl))⟩
 f12:=⟨Tryz.f215.name,by kernel_rfl,Tryz.func215.trans (congrArg some (by kernel_rfl))⟩
 f13:=⟨Tryz.f216.name,by kernel_rfl,Tryz.func216.trans (congrArg some (by kernel_rfl))⟩
 f14:=⟨Tryz.f217.name,by kernel_rfl,Tryz.func217.trans (congrArg some (by kernel_rfl))⟩
 f15:=⟨Tryz.f218.name,by kernel_rfl,Tryz.func218.trans (congrArg some (by kernel_rfl))⟩
 f16:=⟨Tryz.f219.name,by kernel_rfl,Tryz.func219.trans (congrArg some (by kernel_rfl))⟩
 f17:=⟨Tryz.f220.name,by kernel_rfl,Tryz.func220.trans (congrArg some (by kernel_rfl))⟩
 f18:=⟨Tryz.f221.name,by kernel_rfl,Tryz.func221.trans (congrArg some (by kernel_rfl))⟩
 f19:=Tryz.func188.trans (congrArg some (by kernel_rfl))
 f20:=Tryz.func176.trans (congrArg some (by kernel_rfl))
 f30:=⟨Tryz.f226.name,by kernel_rfl,Tryz.func226.trans (congrArg some (by kernel_rfl))⟩
 f31:=Tryz.func206.trans (congrArg some (by kernel_rfl))
 f32:=Tryz.func207.trans (congrArg some (by kernel_rfl))
 f33:=⟨Tryz.f227.name,by kernel_rfl,Tryz.func227.trans (congrArg some (by kernel_rfl))⟩
 f34:=⟨Tryz.f228.name,by kernel_rfl,Tryz.func228.trans (congrArg some (by kernel_rfl))⟩
 f35:=⟨Tryz.f148.name,by kernel_rfl,Tryz.func148.trans (congrArg some (by kernel_rfl))⟩
 f40:=⟨Tryz.f229.name,by kernel_rfl,Tryz.func229.trans (congrArg some (by kernel_rfl))⟩
 t0:=Tryz.underlying0
 a0:=Tryz.isAgg0
 z0:=Tryz.sizeOf0
 v0:=Tryz.zeroValue0
 t3:=Tryz.underlying3
 a3:=Tryz.isAgg3
 z3:=Tryz.sizeOf3
 v3:=Tryz.zeroValue3
 t4:=Tryz.underlying4
 a4:=Tryz.isAgg4
 z4:=Tryz.sizeOf4
 v4:=Tryz.zeroValue4
 t5:=Tryz.underlying5
 a5:=Tryz.isAgg5
 z5:=Tryz.sizeOf5
 v5:=Tryz.zeroValue5
 t9:=Tryz.underlying9
 a9:=Tryz.isAgg9
 z9:=Tryz.sizeOf9
 v9:=Tryz.zeroValue9
 t22:=Tryz.underlying29
 a22:=Tryz.isAgg29
 z22:=Tryz.sizeOf29
 v22:=Tryz.zeroValue29
 t23:=Tryz.underlying29
 a23:=Tryz.isAgg29
 z23:=Tryz.sizeOf29
 v23:=Tryz.zeroValue29
 t25:=Tryz.underlying3
 a25:=Tryz.isAgg3
 z25:=Tryz.sizeOf3
 v25:=Tryz.zeroValue3
 t32:=Tryz.underlying176
 a32:=Tryz.isAgg176
 z32:=Tryz.sizeOf176
 v32:=Tryz.zeroValue176
 t35:=Tryz.underlying288
 a35:=Tryz.isAgg288
 z35:=Tryz.sizeOf288
 v35:=Tryz.zeroValue288
 t36:=Tryz.underlying289
 a36:=Tryz.isAgg289
 z36:=Tryz.sizeOf289
 v36:=Tryz.zeroValue289
 t41:=Tryz.underlying158
 a41:=Tryz.isAgg158
 z41:=Tryz.sizeOf158
 v41:=Tryz.zeroValue158
 t44:=Tryz.underlying255
 a44:=Tryz.isAgg255
 z44:=Tryz.sizeOf255
 v44:=Tryz.zeroValue255
 t46:=Tryz.underlying263
 a46:=Tryz.isAgg263
 z46:=Tryz.sizeOf263
 v46:=Tryz.zeroValue263
 t53:=Tryz.underlying312
 a53:=Tryz.isAgg312
 z53:=Tryz.sizeOf312
 v53:=Tryz.zeroValue312
 t57:=Tryz.underlying316
 a57:=Tryz.isAgg316
 z57:=Tryz.sizeOf316
 v57:=Tryz.zeroValue316
 t63:=Tryz.underlying331
 a63:=Tryz.isAgg331
 z63:=Tryz.sizeOf331
 v63:=Tryz.zeroValue331
 t64:=Tryz.underlying332
 a64:=Tryz.isAgg332
 z64:=Tryz.sizeOf332
 v64:=Tryz.zeroValue332
theorem Xn(m:Nat):AnyZI.SortsIn Tryz.prog Ir Fence.wide m:=
 ⟨fun blk off cap ss W hH hblk hsz=>callsIn_wide.2 (AnyM.slices_Sort_int TQ blk off cap ss W hH hblk hsz),fun p cap W=>callsIn_wide.2 (AnyM.slices_Sort_int_none TQ p cap W)⟩
def uL(N:Nat)(m:List (Int×Int)):Option (List Int):=Oq m
theorem Je{N:Nat}{mN:(List (Int×Int))}{qZ:Nat}{bI3:Nat}{res:(List Int)}(hF:uL N mN=some res){w0 w:World}{T:List Chunk}(hw:St w0.heap.size w0 (aw qZ 249 [.map (some bI3)]::cM (Value.int .i64) (some bI3) mN::T) w):
  Calls Tryz.prog 140 (List.toArray [.func (.func 168) #[] #[.pointer (some ⟨qZ,0,none⟩)]]) w (fun e w'=>∃g:(Option Addr×Nat),(True)∧e= .returned (.slice g.1 (res).length g.2)∧St w0.heap.size w0 (cR (eI .i64) 1 g.1 g.2 3 res::aw qZ 249 [.map (some bI3)]::cM (Value.int .i64) (some bI3) mN::T) w'):=
 QG acF acG Xn (enters_of Tryz.func167 (by kernel_rfl) rfl) (enters_of Tryz.func168 (by kernel_rfl) rfl) Tryz.underlying3 Tryz.underlying3 hF hw
def BM(N:Nat)(l1:(List Event))(n6:Int):((List Event)×(List Bool)×Int)→Option (((List Event)×(List Bool)×Int) ⊕(List Event))|(lK,Md,fB)=>cond (decide (fB < ((l1).length:Int))) (bd (ix l1 fB) fun dJ=>bd (α:=(List Bool)) (cond (!(decide (dJ.kind=0))) (bd (ax 8 false Md dJ.who) fun eE=>some (fb 8 false Md dJ.who (decide (dJ.value=n6)))) (some Md)) <| fun QJ=>bd (ax 8 false QJ dJ.who) fun eA=>cond eA (ck (eY 32 ((lK).length+(([dJ]:List Event)).length)) <| ck (bB (fB+1)) <| some (.inl ((lK++([dJ]:List Event)),QJ,(fB+1)))) (ck (bB (fB+1)) <| some (.inl (lK,QJ,(fB+1))))) (some (.inr lK))
def vS(N:Nat)(l1:(List Event))(n6:Int):Option (List Event):=bd (α:=(List Event)) (iter (BM N l1 n6) N ([],[false,false,false,false,false,false,false,false],0)) <| fun wM=>some wM
theorem QK{N l1 n6 res}(hF:vS N l1 n6=some res)(w:World){v5}(hs4:bi az 4 w v5 l1):Made Tryz.prog 142 [v5,.int .i64 n6] w (fun g:(Option Addr×Nat)=>.slice g.1 (res).length g.2) (fun g=>[cR az 4 g.1 g.2 108 res]) (fun g=>True):=by
 obtain⟨A2,c3,rfl,jy,hs4⟩:=hs4.form;refine We 36 Tryz.func142 (St.start w) fun R hR=>?_;refine a_ ?_;refine WL.q (Y.ad6 (cs:=((gj 8 eB false) [false,false,false,false,false,false,false,false]).toArray) Tryz.underlying277 d5 Zv (.nil) rfl) rfl ?_;refine mA fun b7=>?_;refine WL.step (WO.q_ (ds:=((gj 8 eB false) [false,false,false,false,false,false,false,false])) (cs':=((gj 8 eB false) [false,false,false,false,false,false,false,false])) Zt (.pl rfl) (.pl rfl) rfl ((ad3 aib) _) (i:=0) rfl (JN (o:=0) (l:=8) (m:=8) (by decide) rfl rfl) (Ej rfl) ?_);obtain⟨o4,fU,hF⟩:=al hF;refine b_ ?_;refine W.pF (fun a b c=>[(5,.slice b (a).length c)]) (fun a b c=>[cR az 4 b c 108 a]) (fun a b c=>a=o4) (.nil) (fun K5 ws=>?_) ?_
 ·refine a_ ?_;refine aem fU (fun a b c d f=>[(5,.slice d (a).length f),(12,.int .i64 c)]) (fun a b c d f=>[cR az 4 d f 108 a,aw b7 277 ((gj 8 eB false) b)]) (lE 1 6 10 11) fun lK Md fB cg c12 k7 t7 dA Nj K8 ng=>?_;refine a_ ?_;refine Wc dA (fun sB dA=>?_) (fun sB dA=>?_)
  ·obtain⟨dJ,Gn,dA⟩:=al dA;refine a_ ?_;refine mA fun nH=>?_;obtain⟨Xj,ef,dA⟩:=al dA;refine b_ ?_;refine W.gh (fun a=>[]) (fun a=>[cR az 4 cg c12 108 lK,aw b7 277 ((gj 8 eB false) a),aw nH 108 (az dJ)]) (fun a=>a=Xj) (O8 1 5 6 8 10 11 12) (fun Tz uj=>?_) ?_
   ·refine a_ ?_;refine Wc ef (fun qy ef=>?_) (fun qy ef=>?_)
    ·obtain⟨eE,k_,ef⟩:=al ef;refine a_ ?_;refine WL.step (WO.dC (cs':=((gj 8 eB false) (fb 8 false Md dJ.who (decide (dJ.value=n6))))) d5 (.pl rfl) (.pl rfl) rfl (i:=2) rfl (iQ (m:=8) (Hk (off:=0) (sz:=1) (j:=0) (qV (k_)) (by decide)) rfl) (xM (pre:=[]) (off:=0) (post:=[]) (a:=Md) (enc:=eB) (d:=false) (n:=8) (sz:=1) (j:=0) (x:=eE) (x':=(decide (dJ.value=n6))) (fun _=>rfl) rfl (uH (k_)) (qU (k_)) (by decide) rfl rfl) ?_);refine a_ ?_;exact h1 uj (oi ef)
    ·refine a_ ?_;exact h1 uj (oi ef)
   ·rintro QJ rfl;obtain⟨eA,sL,dA⟩:=al dA;refine a_ ?_;refine WL.q (Y.lW (v:=.bool eA) Tryz.underlying4 rfl (.pl rfl) (i:=1) rfl (Di (pre:=[]) (off:=0) (post:=[]) (a:=QJ) (enc:=eB) (d:=false) (n:=8) (sz:=1) (j:=0) (fun _=>rfl) rfl (qV (sL)) (qU (sL)) rfl)) rfl ?_;refine a_ ?_;refine Wc dA (fun uZ dA=>?_) (fun uZ dA=>?_)
    ·refine a_ ?_;refine WL.step (WO.cC (enc:=az) (ys:=([dJ]:List Event)) Tryz.underlying31 Cl (.cons (.pl rfl) (.nil)) rfl iJ rfl rfl (by decide) (by decide) rfl fun DC=>?_);obtain⟨wD,dA⟩:=bx dA;refine WL.step (WO.fH (enc:=az) Tryz.underlying31 Cn iJ mC (.pl rfl) rfl (.pl rfl) (i:=1) rfl (m2:=0) rfl (wD) rfl fun Kf Kg=>?_);obtain⟨ui,dA⟩:=bx dA;refine a_ ?_;exact g5 ng (oj dA Nj)
    ·obtain⟨BA,dA⟩:=bx dA;refine a_ ?_;exact g5 ng (oj dA Nj)
  ·refine a_ ?_;exact h3 ws (oj dA Nj)
 ·rintro wM A8 c9 rfl;obtain rfl:=oi hF;refine a_ ?_;exact rG (A8,c9)
def uM(N:Nat)(r8:((List Call)×Int×Int)):((List (Int×Int))×Int)→Option (((List (Int×Int))×Int) ⊕((List (Int×Int)) ⊕((List Int)×Int)))|(vT,j_)=>cond (decide (j_ < ((r8.1).length:Int))) (bd (ix r8.1 j_) fun jJ=>ck (bB (((gz vT jJ.arg).getD 0)+1)) <| cond (decide (9 < ((gz (kX vT jJ.arg (((gz vT jJ.arg).getD 0)+1)) jJ.arg).getD 0))) (some (.inr (.inr ([],2)))) (ck (bB (j_+1)) <| some (.inl ((kX vT jJ.arg (((gz vT jJ.arg).getD 0)+1)),(j_+1))))) (some (.inr (.inl vT)))
def zK(N:Nat)(jD:(List Int))(l1:(List Event)):((List Int)×Int)→Option (((List Int)×Int) ⊕(List Int))|(KE,v30)=>cond (decide (v30 < ((jD).length:Int))) (bd (ix jD v30) fun x31=>bd (E6 N) fun r32=>bd (vS N l1 x31) fun eF=>bd (ku N ([4]:List Int) eF) fun yW=>cond (!yW.2.1) (ck (eY 8 ((KE).length+(([x31]:List Int)).length)) <| ck (bB (v30+1)) <| some (.inl ((KE++([x31]:List Int)),(v30+1)))) (ck (bB (v30+1)) <| some (.inl (KE,(v30+1))))) (some (.inr KE))
def iW(N:Nat)(l1:(List Event)):Option ((List Int)×Int):=bd (E6 N) fun r6=>bd (cB N ([4]:List Int) l1) fun r8=>cond (!(decide (r8.2.2=0))) (some ([],r8.2.2)) (bd (α:=((List (Int×Int)) ⊕((List Int)×Int))) (iter (uM N r8) N (([]:List (Int×Int)),0)) <| Sum.elim (fun Mf=>bd (α:=(List Int)) (bd (pD N Mf) fun fZ=>bd (uL N Mf) fun jD=>iter (zK N jD l1) N ([],0)) <| fun aaY=>some (aaY,0)) (fun p=>some p))
theorem NY{N l1 res}(hF:iW N l1=some res)(w:World){v5}(hs4:bi az 4 w v5 l1):Made Tryz.prog 99 [v5] w (fun g:(Option Addr×Nat)=>.tuple #[.slice g.1 (res.1).length g.2,.int .i64 res.2]) (fun g=>[cR (eI .i64) 1 g.1 g.2 3 res.1]) (fun g=>True):=by
 obtain⟨A2,c3,rfl,jy,hs4⟩:=hs4.form;refine We 69 Tryz.func99 (St.start w) fun R hR=>?_;obtain⟨r6,Du,hF⟩:=al hF;refine a_ ?_;refine kM TM v0 (fun wz hw=>FC Du wz) ?_;rintro A7 -;obtain⟨r8,sy,hF⟩:=al hF;refine a_ ?_;refine kM yT (v2 rfl rfl) (fun wz hw=>jj sy wz (so hw) (hs4.mono hw)) ?_;rintro⟨A9,c10⟩ -;refine a_ ?_;refine Wc hF (fun fT hF=>?_) (fun fT hF=>?_)
 ·obtain rfl:=oi hF;refine a_ ?_;exact rG (none,0)
 ·refine a_ ?_;refine WL.step (WO.UM (Value.int .i64) rfl fun rS=>?_);obtain⟨o8,pQ,hF⟩:=al hF;refine b_ ?_;refine W.gh (fun a=>[]) (fun a=>[cM (Value.int .i64) (some rS) a]) (fun a=>(.inl a)=o8) (m_ 0 7) (fun K9 Bf=>?_) ?_
  ·refine a_ ?_;refine xP pQ (fun a b=>[(29,.int .i64 b)]) (fun a b=>[cM (Value.int .i64) (some rS) a,cR aC 7 A9 c10 162 r8.1]) (lE 0 7 27 28) fun vT j_ k11 t11 bk pg zZ gr=>?_;refine a_ ?_;refine Wc bk (fun pi bk=>?_) (fun pi bk=>?_)
   ·obtain⟨jJ,rC,bk⟩:=al bk;refine a_ ?_;refine mA fun Bk=>?_;refine a_ ?_;refine WL.q (Y.gz (f:=(Value.int .i64)) (dv:=0) Tryz.underlying249 Tryz.underlying3 HO (.pl rfl) (.pl rfl) (i:=1) rfl) rfl ?_;obtain⟨LR,bk⟩:=bx bk;refine a_ ?_;refine WL.step (WO.Yx (f:=(Value.int .i64)) (a:=(((gz vT jJ.arg).getD 0)+1)) Tryz.underlying249 Tryz.underlying3 (.pl rfl) (.pl rfl) (.pl rfl) (i:=1) rfl ?_);refine a_ ?_;refine WL.q (Y.gz (f:=(Value.int .i64)) (dv:=0) Tryz.underlying249 Tryz.underlying3 HO (.pl rfl) (.pl rfl) (i:=1) rfl) rfl ?_;refine a_ ?_;refine Wc bk (fun uZ bk=>?_) (fun uZ bk=>?_)
    ·obtain rfl:=oi bk;obtain rfl:=fy pg;obtain rfl:=oi hF;refine a_ ?_;exact rG (none,0)
    ·obtain⟨Gx,bk⟩:=bx bk;refine a_ ?_;exact g2 gr (oj bk pg)
   ·refine a_ ?_;exact h1 Bf (oj bk pg)
  ·rintro Mf rfl;replace hF:=ahw hF;obtain⟨o24,QL,hF⟩:=al hF;refine b_ ?_;refine W.pF (fun a b c=>[(10,.slice b (a).length c)]) (fun a b c=>[cR (eI .i64) 1 b c 3 a]) (fun a b c=>a=o24) (.nil) (fun K25 aja=>?_) ?_
   ·obtain⟨fZ,nI,QL⟩:=al QL;refine a_ ?_;refine kC acz (v1 rfl) (fun _ hw=>vn nI (sw hw)) ?_;rintro J7 -;obtain⟨jD,qx,QL⟩:=al QL;refine kC acy (v1 rfl) (fun _ hw=>Je qx (sw hw)) ?_;rintro⟨aft,cI26⟩ -;refine a_ ?_;refine Ba QL (fun a b c d=>[(10,.slice c (a).length d),(48,.int .i64 b)]) (fun a b c d=>[cR (eI .i64) 1 c d 3 a,cR (eI .i64) 1 aft cI26 3 jD]) (fY 0 46 47) fun KE v30 Np c28 k27 t27 kD ZA K28 LV=>?_;refine a_ ?_;refine Wc kD (fun ZB kD=>?_) (fun ZB kD=>?_)
    ·obtain⟨x31,afu,kD⟩:=al kD;obtain⟨r32,QM,kD⟩:=al kD;refine a_ ?_;refine kM TM v0 (fun wz hw=>FC QM wz) ?_;rintro J8 -;obtain⟨eF,EP,kD⟩:=al kD;refine a_ ?_;refine kM acA (v2 rfl rfl) (fun wz hw=>QK EP wz (hs4.mono hw)) ?_;rintro⟨Qe,Qf⟩ -;obtain⟨yW,IQ,kD⟩:=al kD;refine kM Xl (v2 rfl rfl) (fun wz hw=>DH IQ wz (so hw) (so hw)) ?_;rintro⟨Ig,Ih⟩ -;refine a_ ?_;refine Wc kD (fun Qx kD=>?_) (fun Qx kD=>?_)
     ·refine a_ ?_;refine WL.step (WO.cC (enc:=(eI .i64)) (ys:=([x31]:List Int)) Tryz.underlying29 ut (.cons (.pl rfl) (.nil)) rfl (fun _=>rfl) rfl rfl (by decide) (by decide) rfl fun b40=>?_);obtain⟨Zw,kD⟩:=bx kD;refine WL.step (WO.fH (enc:=(eI .i64)) Tryz.underlying29 M6 (fun _=>rfl) AR (.pl rfl) rfl (.pl rfl) (i:=4) rfl (m2:=0) rfl (Zw) rfl fun A41 c42=>?_);obtain⟨Vb,kD⟩:=bx kD;refine a_ ?_;exact g4 LV (oj kD ZA)
     ·obtain⟨Va,kD⟩:=bx kD;refine a_ ?_;exact g4 LV (oj kD ZA)
    ·refine a_ ?_;exact h3 aja (oj kD ZA)
   ·rintro aaY vH c20 rfl;obtain rfl:=oi hF;refine a_ ?_;exact rG (vH,c20)
end Go.Proofs.YtjdkkabcenohcaaGreatDoor
