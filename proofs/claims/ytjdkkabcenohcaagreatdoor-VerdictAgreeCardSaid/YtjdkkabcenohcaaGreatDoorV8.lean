/- Tickets, bags: what Check computes, and the walks. -/
import Derived.Test.YtjdkkabcenohcaaGreatDoorAuto
import Derived.Test.YtjdkkabcenohcaaGreatDoorV7
import Derived.Test.YtjdkkabcenohcaaGreatDoorKeys
import Derived.Test.YtjdkkabcenohcaaGreatDoorMapR
set_option linter.unusedVariables false
set_option linter.defProp false
set_option linter.unusedSimpArgs false
set_option linter.unusedSectionVars false
set_option maxRecDepth 100000
namespace Go.Proofs.YtjdkkabcenohcaaGreatDoor
open Go.RowKit
attribute [local irreducible] Yd ap eu
theorem NB:Tryz.prog.cellsOf 277=7+1:=by kernel_rfl
def LC:=gg Tryz.func51
def Ve:=gg Tryz.func97
def Vf:=gg Tryz.func98
def Ru:=gg Tryz.func138
def Ij:=gg Tryz.func139
def Rx:=gg Tryz.func140
def Ry:=gg Tryz.func141
def Rz:=gg Tryz.func142
def RA:=gg Tryz.func164
def RB:=gg Tryz.func165
def RC:=gg Tryz.func197
theorem RD: ∃i,Tryz.prog.info? 277=some i∧i.zero=some (Value.agg #[(Value.bool false),(Value.bool false),(Value.bool false),(Value.bool false),(Value.bool false),(Value.bool false),(Value.bool false),(Value.bool false)]):=⟨_,rfl,by kernel_rfl⟩
instance:FT Tryz.prog 248 1 1 29:=⟨_,Tryz.underlying248,rfl⟩
instance:FT Tryz.prog 248 2 2 29:=⟨_,Tryz.underlying248,rfl⟩
@[reducible,instance] def abG:=UT.mk Tryz.underlying189
instance:FT Tryz.prog 248 0 0 58:=⟨_,Tryz.underlying248,rfl⟩
@[reducible,instance] def abH:=ZI.mk RD
@[reducible,instance] def abI:=UT.mk Tryz.underlying277
theorem NC:Shape Tryz.prog 248 [(0,1),(1,1),(2,1)] #[(Value.slice none 0 0),(Value.slice none 0 0),(Value.slice none 0 0)]:=⟨_,_,Value.agg #[(Value.slice none 0 0),(Value.slice none 0 0),(Value.slice none 0 0)],Tryz.underlying248,rfl,by kernel_rfl,rfl,by kernel_rfl,by decide⟩
theorem ND: ∃i zv,Tryz.prog.info? 277=some i∧i.zero=some zv∧zv.cells= #[(Value.bool false),(Value.bool false),(Value.bool false),(Value.bool false),(Value.bool false),(Value.bool false),(Value.bool false),(Value.bool false)]:=⟨_,(Value.agg #[(Value.bool false),(Value.bool false),(Value.bool false),(Value.bool false),(Value.bool false),(Value.bool false),(Value.bool false),(Value.bool false)]),rfl,by kernel_rfl,rfl⟩
def oD(N:Nat)(r7:((List Call)×Int×Int)):((List Int)×Int×(List (Int×Bool))×Int)→Option (((List Int)×Int×(List (Int×Bool))×Int) ⊕((List Int)×Int×(List (Int×Bool))))|(nP,BU,Ek,v22)=>cond (decide (v22 < ((r7.1).length:Int))) (bd (ix r7.1 v22) fun cx=>cond (decide (cx.au=(-1))) (ck (dh 8 ((nP).length+(([v22]:List Int)).length)) <| ck (aQ (v22+1)) <| some (.inl ((nP++([v22]:List Int)),BU,Ek,(v22+1)))) (ck (aQ (v22+1)) <| some (.inl (nP,(max BU cx.res),(fM Ek cx.res true),(v22+1))))) (some (.inr (nP,BU,Ek)))
def oE(N:Nat)(xH:Int)(BV:(List (Int×Bool))):((List Int)×Int)→Option (((List Int)×Int) ⊕(List Int))|(nQ,xJ)=>cond (decide (xJ < (xH+1))) (cond (!((cY BV xJ).getD false)) (ck (dh 8 ((nQ).length+(([xJ]:List Int)).length)) <| ck (aQ (xJ+1)) <| some (.inl ((nQ++([xJ]:List Int)),(xJ+1)))) (ck (aQ (xJ+1)) <| some (.inl (nQ,(xJ+1))))) (some (.inr nQ))
def eQ(N:Nat)(l1:(List Event)):Option (Bool×(List Call)×(List Int)×(List Int)×Int):=bd (bk N ([5]:List Int) l1) fun r7=>cond (!(decide (r7.2.2=0))) (some (false,[],[],[],r7.2.2)) (bd (α:=((List Int)×Int×(List (Int×Bool)))) (iter (oD N r7) N ([],(-1),([]:List (Int×Bool)),0)) <| fun(l0,xH,BV)=>bd (α:=(List Int)) (ck (aQ (xH+1)) <| iter (oE N xH BV) N ([],0)) <| fun DG=>some (true,r7.1,l0,DG,0))
theorem BW{N l1 res}(hF:eQ N l1=some res)(w:World){v5}(hs4:aP aR 4 w v5 l1):Made Tryz.prog 97 [v5] w (fun g:(Option Nat×Option Addr×Nat×Option Addr×Nat×Option Addr×Nat)=>.tuple #[.pointer (Xc g.1),.int .i64 res.2.2.2.2]) (fun g=>[SW g.1 248 (Value.slice g.2.1 (res.2.1).length g.2.2.1::(Value.slice g.2.2.2.1 (res.2.2.1).length g.2.2.2.2.1::(Value.slice g.2.2.2.2.2.1 (res.2.2.2.1).length g.2.2.2.2.2.2::[]))),cR ak 7 g.2.1 g.2.2.1 162 res.2.1,cR (eI .i64) 1 g.2.2.2.1 g.2.2.2.2.1 3 res.2.2.1,cR (eI .i64) 1 g.2.2.2.2.2.1 g.2.2.2.2.2.2 3 res.2.2.2.1]) (fun g=>res.1=(g.1).isSome):=by
 obtain⟨A2,c3,rfl,g9,hs4⟩:=hs4.form;refine We 76 Tryz.func97 (St.start w) fun R hR=>?_;refine a_ ?_;refine WL.step (WO.bA (enc:=(eI .i64)) (ys:=([5]:List Int)) Tryz.underlying29 qv (.cons (.pl rfl) (.nil)) rfl (fun _=>rfl) rfl rfl (by decide) (by decide) rfl fun b6=>?_);obtain⟨r7,pN,hF⟩:=aj hF;refine a_ ?_;refine kM rh (v2 rfl rfl) (fun wz hw=>eY pN wz (so hw) (hs4.mono hw)) ?_;rintro⟨A8,c9⟩ -;refine a_ ?_;refine Wc hF (fun dG hF=>?_) (fun dG hF=>?_)
 ·obtain rfl:=oi hF;refine a_ ?_;refine W.ii (fn:=Tryz.f97) (vs:=[.pointer none,.int .i64 r7.2.2]) Tryz.results97 ⟨.tmp rfl,⟨.tmp rfl,trivial⟩⟩ (fun _ _ h=>h) (fun wz hw=>?_);exact hR _ _ ⟨(none,none,0,none,0,none,0),rfl,rfl,((St.kw (St.kw (St.kw (St.I6 (hw.pick [] rfl) 248 (Value.slice none 0 0::(Value.slice none 0 0::(Value.slice none 0 0::[])))) ak 7 162) (eI .i64) 1 3) (eI .i64) 1 3).pick [3,2,1,0] rfl)⟩
 ·refine a_ ?_;refine WL.q (Y.build (cs:=(Value.slice A8 (r7.1).length c9::(Value.slice none 0 0::(Value.slice none 0 0::[]))).toArray) NC (.cons (.pl rfl) (.nil)) (aX ⟨rfl,trivial⟩) rfl) rfl ?_;refine WL.step (WO.fg (.pl rfl) rfl fun mH=>?_);refine a_ ?_;refine WL.step (WO.I2 Value.bool rfl fun lw=>?_);obtain⟨Fm,bl,hF⟩:=aj hF;refine b_ ?_;refine W.Wh (fun a b c d f=>[(8,.int .i64 b)]) (fun a b c d f=>[al mH 248 (Value.slice A8 (r7.1).length c9::(Value.slice d (a).length f::(Value.slice none 0 0::[]))),cR ak 7 A8 c9 162 r7.1,cR (eI .i64) 1 d f 3 a,cM Value.bool (some lw) c]) (fun a b c d f=>(a,b,c)=Fm) (mD 7 9) (fun HQ lQ=>?_) ?_
  ·refine a_ ?_;refine S7 bl (fun a b c d f g=>[(8,.int .i64 b),(29,.int .i64 d)]) (fun a b c d f g=>[al mH 248 (Value.slice A8 (r7.1).length c9::(Value.slice f (a).length g::(Value.slice none 0 0::[]))),cR ak 7 A8 c9 162 r7.1,cR (eI .i64) 1 f g 3 a,cM Value.bool (some lw) c]) (lI 7 9 27 28) fun nP BU Ek v22 Bo c18 k13 t13 cq zV Xn zX=>?_;refine a_ ?_;refine Wc cq (fun nj cq=>?_) (fun nj cq=>?_)
   ·obtain⟨cx,ng,cq⟩:=aj cq;refine a_ ?_;refine mA fun Dx=>?_;refine a_ ?_;refine Wc cq (fun vh cq=>?_) (fun vh cq=>?_)
    ·refine a_ ?_;refine WL.step (WO.bA (enc:=(eI .i64)) (ys:=([v22]:List Int)) Tryz.underlying29 qv (.cons (.pl rfl) (.nil)) rfl (fun _=>rfl) rfl rfl (by decide) (by decide) rfl fun XR=>?_);obtain⟨CB,cq⟩:=aW cq;refine WL.step (WO.d4 (enc:=(eI .i64)) Tryz.underlying29 Dn (fun _=>rfl) q7 (.pl rfl) rfl (.pl rfl) (i:=4) rfl (m2:=0) rfl (CB) rfl fun FQ FR=>?_);refine a_ ?_;refine WL.step (WO.dD (cs':=(Value.slice A8 (r7.1).length c9::(Value.slice FQ ((nP++([v22]:List Int))).length FR::(Value.slice none 0 0::[])))) je (.pl rfl) (.pl rfl) rfl (i:=2) rfl (kX (m:=3) (by decide) rfl) (rfl) ?_);obtain⟨Jp,cq⟩:=aW cq;refine a_ ?_;exact g6 zX (oj cq zV)
    ·refine a_ ?_;refine WL.step (WO.Mf (f:=Value.bool) (a:=true) Tryz.underlying219 Tryz.underlying3 (.pl rfl) (.pl rfl) (.pl rfl) (i:=4) rfl ?_);obtain⟨UA,cq⟩:=aW cq;refine a_ ?_;exact g6 zX (oj cq zV)
   ·refine a_ ?_;exact h5 lQ (oj cq zV)
  ·rintro l0 xH BV pQ c13 rfl;obtain⟨UN,fC,hF⟩:=aj hF;refine W.jI (fun a b c=>[]) (fun a b c=>[al mH 248 (Value.slice A8 (r7.1).length c9::(Value.slice pQ (l0).length c13::(Value.slice b (a).length c::[]))),cR ak 7 A8 c9 162 r7.1,cR (eI .i64) 1 pQ c13 3 l0,cR (eI .i64) 1 b c 3 a]) (fun a b c=>a=UN) (lr 7) (fun XS CE=>?_) ?_
   ·obtain⟨ZX,fC⟩:=aW fC;refine a_ ?_;refine s_ fC (fun a b c d=>[(57,.int .i64 b)]) (fun a b c d=>[al mH 248 (Value.slice A8 (r7.1).length c9::(Value.slice pQ (l0).length c13::(Value.slice c (a).length d::[]))),cR ak 7 A8 c9 162 r7.1,cR (eI .i64) 1 pQ c13 3 l0,cR (eI .i64) 1 c d 3 a,cM Value.bool (some lw) BV]) (gx 7 9 56) fun nQ xJ XJ XK k30 t30 hZ CF K31 Jv=>?_;refine a_ ?_;refine Wc hZ (fun M7 hZ=>?_) (fun M7 hZ=>?_)
    ·refine a_ ?_;refine WL.q (Y.cY (f:=Value.bool) (dv:=false) Tryz.underlying219 Tryz.underlying3 Ji (.pl rfl) (.pl rfl) (i:=4) rfl) rfl ?_;refine a_ ?_;refine Wc hZ (fun ZY hZ=>?_) (fun ZY hZ=>?_)
     ·refine a_ ?_;refine WL.step (WO.bA (enc:=(eI .i64)) (ys:=([xJ]:List Int)) Tryz.underlying29 qv (.cons (.pl rfl) (.nil)) rfl (fun _=>rfl) rfl rfl (by decide) (by decide) rfl fun H6=>?_);obtain⟨Ue,hZ⟩:=aW hZ;refine WL.step (WO.d4 (enc:=(eI .i64)) Tryz.underlying29 Dn (fun _=>rfl) q7 (.pl rfl) rfl (.pl rfl) (i:=4) rfl (m2:=0) rfl (Ue) rfl fun Uc Ud=>?_);refine a_ ?_;refine WL.step (WO.dD (cs':=(Value.slice A8 (r7.1).length c9::(Value.slice pQ (l0).length c13::(Value.slice Uc ((nQ++([xJ]:List Int))).length Ud::[])))) je (.pl rfl) (.pl rfl) rfl (i:=1) rfl (kX (m:=3) (by decide) rfl) (rfl) ?_);obtain⟨NE,hZ⟩:=aW hZ;refine a_ ?_;exact g4 Jv (oj hZ CF)
     ·obtain⟨Jl,hZ⟩:=aW hZ;refine a_ ?_;exact g4 Jv (oj hZ CF)
    ·refine a_ ?_;exact h3 CE (oj hZ CF)
   ·rintro DG H8 FD rfl;obtain rfl:=oi hF;refine a_ ?_;refine W.ii (fn:=Tryz.f97) (vs:=[.pointer (some ⟨mH,0,none⟩),.int .i64 0]) Tryz.results97 ⟨.tmp rfl,⟨.tmp rfl,trivial⟩⟩ (fun _ _ h=>h) (fun wz hw=>?_);exact hR _ _ ⟨((some mH),A8,c9,pQ,c13,H8,FD),rfl,rfl,(hw.pick [0,1,2,3] rfl)⟩
def jN(N:Nat)(x1:Call)(aL:(List Call))(py:(List Int))(nR:(List Int))(Ik:Int)(LD:Int):Option Bool:=bd ((cond ((!(decide (x1.au=(-1))))==true) (ix aL Ik) (some Call.z))) fun cJ=>some (((!(decide (x1.au=(-1))))&&(decide (x1.au < cJ.from_)))&&(decide (LD≤x1.res)))
theorem vR{N x1 aL py nR Ik LD b2 b3 A4 c5 A7 c8 qw c11 pS dI res}(hF:jN N x1 aL py nR Ik LD=some res){w0 w T}(hw:St w0.heap.size w0 (al b2 189 [.pointer (some ⟨b3,0,none⟩)]::al b3 248 (Value.slice A4 (aL).length c5::(Value.slice A7 (py).length c8::(Value.slice qw (nR).length c11::[])))::cR ak 7 A4 c5 162 aL::cR (eI .i64) 1 A7 c8 3 py::cR (eI .i64) 1 qw c11 3 nR::al pS 3 [.int .i64 Ik]::al dI 3 [.int .i64 LD]::T) w):Calls Tryz.prog 165 (List.toArray [.agg (ak x1).toArray,.pointer (some ⟨b2,0,none⟩),.pointer (some ⟨pS,0,none⟩),.pointer (some ⟨dI,0,none⟩)]) w (fun e w'=>∃g:Unit,(True)∧e= .returned (.bool res)∧St w0.heap.size w0 (al b2 189 [.pointer (some ⟨b3,0,none⟩)]::al b3 248 (Value.slice A4 (aL).length c5::(Value.slice A7 (py).length c8::(Value.slice qw (nR).length c11::[])))::cR ak 7 A4 c5 162 aL::cR (eI .i64) 1 A7 c8 3 py::cR (eI .i64) 1 qw c11 3 nR::al pS 3 [.int .i64 Ik]::al dI 3 [.int .i64 LD]::T) w'):=by
 refine We 28 Tryz.func165 hw fun R hR=>?_;refine a_ ?_;refine WL.step (WO.fg (.pl rfl) rfl fun Bn=>?_);refine b_ ?_;refine W.mw (by kernel_rfl) (by kernel_rfl) fun R2 U'=>?_;refine Dq yf ?_;refine Dq lH ?_;refine Dq yn ?_;refine Dq ym ?_;refine Dg wW ?_;refine Dg s9 ?_;refine Dg YX ?_;refine Dg Df ?_;refine Dg HF ?_;refine Dg YY ?_;refine Dg YZ ?_;obtain⟨cJ,np,hF⟩:=aj hF;refine WD.g (.pl rfl rfl rfl) (fun hg=>Y.jh Tryz.underlying58 iA (i:=3) rfl (.gd (hg) rfl) rfl (.gd (hg) rfl) (aK (eC hg np))) rfl ?_;refine WD.g (.pl rfl rfl rfl) (fun hg=>Y.g0 (off:=5) (ft:=3) Tryz.underlying162 rfl bp (i':=3) rfl (aK (eC hg np)) (.gd (hg) rfl)) rfl ?_;refine WD.g (.pl rfl rfl rfl) (fun hg=>Y.gc (enc:=ak) (v:=.int .i64 cJ.from_) (a:=cJ) (idx:=Ik) (j:=5) Tryz.underlying3 rfl fX (i:=3) rfl (.gd (hg) rfl) (bx (eC hg np)) rfl rfl) rfl ?_;refine Dg Mk ?_;refine Dq yd ?_;refine Dq ym ?_;refine Dg wW ?_;refine Dg s9 ?_;refine Dg Y0 ?_;refine Dg SZ ?_;refine Dq yd ?_;refine Dq ya ?_;refine WD.next U' (lr 5) ?_;obtain rfl:=oi hF;exact rG ()
def dY(N:Nat)(s3:(List Call))(cB:(List Int))(cd:(List Int))(c13:Int)(c15:Int):Int→Option (Int ⊕(Unit ⊕ Int))|fU=>cond (decide (fU < ((s3).length:Int))) (bd (ix s3 fU) fun jF=>bd (jN N jF s3 cB cd c13 c15) fun ip=>cond ip (some (.inr (.inr fU))) (ck (aQ (fU+1)) <| some (.inl (fU+1)))) (some (.inr (.inl ())))
def eF(N:Nat)(s3:(List Call))(cB:(List Int))(cd:(List Int))(c13:Int)(c15:Int):Option Int:=bd (α:=(Unit ⊕ Int)) (iter (dY N s3 cB cd c13 c15) N 0) <| Sum.elim (fun _=>some (-1)) (fun p=>some p)
theorem lB{N s3 cB cd c13 c15 A1 c2 b4 b5 A6 c7 A9 c10 iE gr res}(hF:eF N s3 cB cd c13 c15=some res){w0 w T}(hw:St w0.heap.size w0 (cR ak 7 A1 c2 162 s3::al b4 189 [.pointer (some ⟨b5,0,none⟩)]::al b5 248 (Value.slice A1 (s3).length c2::(Value.slice A6 (cB).length c7::(Value.slice A9 (cd).length c10::[])))::cR (eI .i64) 1 A6 c7 3 cB::cR (eI .i64) 1 A9 c10 3 cd::al iE 3 [.int .i64 c13]::al gr 3 [.int .i64 c15]::T) w):Calls Tryz.prog 197 (List.toArray [.slice A1 (s3).length c2,.func (.func 165) #[] #[.pointer (some ⟨b4,0,none⟩),.pointer (some ⟨iE,0,none⟩),.pointer (some ⟨gr,0,none⟩)]]) w (fun e w'=>∃g:Unit,(True)∧e= .returned (.int .i64 res)∧St w0.heap.size w0 (cR ak 7 A1 c2 162 s3::al b4 189 [.pointer (some ⟨b5,0,none⟩)]::al b5 248 (Value.slice A1 (s3).length c2::(Value.slice A6 (cB).length c7::(Value.slice A9 (cd).length c10::[])))::cR (eI .i64) 1 A6 c7 3 cB::cR (eI .i64) 1 A9 c10 3 cd::al iE 3 [.int .i64 c13]::al gr 3 [.int .i64 c15]::T) w'):=by
 refine We 19 Tryz.func197 hw fun R hR=>?_;obtain⟨o2,bS,hF⟩:=aj hF;refine b_ ?_;refine W.dR [] ((cR ak 7 A1 c2 162 s3::al b4 189 [.pointer (some ⟨b5,0,none⟩)]::al b5 248 (Value.slice A1 (s3).length c2::(Value.slice A6 (cB).length c7::(Value.slice A9 (cd).length c10::[])))::cR (eI .i64) 1 A6 c7 3 cB::cR (eI .i64) 1 A9 c10 3 cd::al iE 3 [.int .i64 c13]::al gr 3 [.int .i64 c15]::T)) ((.inl ())=o2) (.nil) (fun K3 d5=>?_) ?_
 ·refine a_ ?_;refine gl bS (fun a=>[(8,.int .i64 a)]) (fun a=>(cR ak 7 A1 c2 162 s3::al b4 189 [.pointer (some ⟨b5,0,none⟩)]::al b5 248 (Value.slice A1 (s3).length c2::(Value.slice A6 (cB).length c7::(Value.slice A9 (cd).length c10::[])))::cR (eI .i64) 1 A6 c7 3 cB::cR (eI .i64) 1 A9 c10 3 cd::al iE 3 [.int .i64 c13]::al gr 3 [.int .i64 c15]::T)) (gx 0 1 7) fun fU k5 t5 aD cU K6 io=>?_;refine a_ ?_;refine Wc aD (fun eO aD=>?_) (fun eO aD=>?_)
  ·obtain⟨jF,vO,aD⟩:=aj aD;obtain⟨ip,vH,aD⟩:=aj aD;refine a_ ?_;refine WL.step (WO.yi (γ:=Unit) (first:=[]) (cap:=[.pointer (some ⟨b4,0,none⟩),.pointer (some ⟨iE,0,none⟩),.pointer (some ⟨gr,0,none⟩)]) (fun g=>.bool ip) (fun g=>(al b4 189 [.pointer (some ⟨b5,0,none⟩)]::al b5 248 (Value.slice A1 (s3).length c2::(Value.slice A6 (cB).length c7::(Value.slice A9 (cd).length c10::[])))::cR ak 7 A1 c2 162 s3::cR (eI .i64) 1 A6 c7 3 cB::cR (eI .i64) 1 A9 c10 3 cd::al iE 3 [.int .i64 c13]::al gr 3 [.int .i64 c15]::T)) (fun g=>True) RB (.pl rfl) (.cons (.pl rfl) (.nil)) rfl (fun wz hw=>(by have h:=vR (T:=(T)) (b2:=b4) (b3:=b5) (A4:=A1) (c5:=c2) (A7:=A6) (c8:=c7) (qw:=A9) (c11:=c10) (pS:=iE) (dI:=gr) (vH) (hw.eU 7 [1,2,0,3,4,5,6] rfl);unfold Calls at h⊢;intro cs;obtain⟨e,w2,fr,h1,h2⟩:=h cs;exact⟨e,w2,fr,h1,h2⟩)) ?_);rintro _ -;refine a_ ?_;refine Wc aD (fun iB aD=>?_) (fun iB aD=>?_)
   ·obtain rfl:=oi aD;obtain rfl:=dC cU;obtain rfl:=oi hF;refine a_ ?_;exact rG ()
   ·obtain⟨vI,aD⟩:=aW aD;refine a_ ?_;exact g1 io (oj aD cU)
  ·refine a_ ?_;exact h0 d5 (oj aD cU)
 ·rintro rfl;obtain rfl:=oi hF;refine a_ ?_;exact rG ()
def dZ(N:Nat)(s3:(List Call))(cB:(List Int))(cd:(List Int))(c13:Int)(c15:Int):Option Bool:=bd (eF N s3 cB cd c13 c15) fun r16=>some (decide (0≤r16))
theorem kU{N s3 cB cd c13 c15 A1 c2 b4 b5 A6 c7 A9 c10 iE gr res}(hF:dZ N s3 cB cd c13 c15=some res){w0 w T}(hw:St w0.heap.size w0 (cR ak 7 A1 c2 162 s3::al b4 189 [.pointer (some ⟨b5,0,none⟩)]::al b5 248 (Value.slice A1 (s3).length c2::(Value.slice A6 (cB).length c7::(Value.slice A9 (cd).length c10::[])))::cR (eI .i64) 1 A6 c7 3 cB::cR (eI .i64) 1 A9 c10 3 cd::al iE 3 [.int .i64 c13]::al gr 3 [.int .i64 c15]::T) w):Calls Tryz.prog 164 (List.toArray [.slice A1 (s3).length c2,.func (.func 165) #[] #[.pointer (some ⟨b4,0,none⟩),.pointer (some ⟨iE,0,none⟩),.pointer (some ⟨gr,0,none⟩)]]) w (fun e w'=>∃g:Unit,(True)∧e= .returned (.bool res)∧St w0.heap.size w0 (cR ak 7 A1 c2 162 s3::al b4 189 [.pointer (some ⟨b5,0,none⟩)]::al b5 248 (Value.slice A1 (s3).length c2::(Value.slice A6 (cB).length c7::(Value.slice A9 (cd).length c10::[])))::cR (eI .i64) 1 A6 c7 3 cB::cR (eI .i64) 1 A9 c10 3 cd::al iE 3 [.int .i64 c13]::al gr 3 [.int .i64 c15]::T) w'):=by
 refine We 9 Tryz.func164 hw fun R hR=>?_;obtain⟨r16,na,hF⟩:=aj hF;refine a_ ?_;refine kC RC (v2 rfl rfl) (fun _ hw=>lB na (sw hw)) ?_;rintro _ -;obtain rfl:=oi hF;refine a_ ?_;exact rG ()
def lz(N:Nat)(ai:(List Call))(bj:(List Int))(bh:(List Int))(i11:Int)(n12:Int):Option Bool:=bd (dZ N ai bj bh i11 n12) fun r16=>some (!r16)
theorem xL{N ai bj bh i11 n12 b1 A2 c3 A5 c6 A8 c9 res}(hF:lz N ai bj bh i11 n12=some res){w0 w T}(hw:St w0.heap.size w0 (al b1 248 (Value.slice A2 (ai).length c3::(Value.slice A5 (bj).length c6::(Value.slice A8 (bh).length c9::[])))::cR ak 7 A2 c3 162 ai::cR (eI .i64) 1 A5 c6 3 bj::cR (eI .i64) 1 A8 c9 3 bh::T) w):Calls Tryz.prog 138 (List.toArray [.pointer (some ⟨b1,0,none⟩),.int .i64 i11,.int .i64 n12]) w (fun e w'=>∃g:Unit,(True)∧e= .returned (.bool res)∧St w0.heap.size w0 (al b1 248 (Value.slice A2 (ai).length c3::(Value.slice A5 (bj).length c6::(Value.slice A8 (bh).length c9::[])))::cR ak 7 A2 c3 162 ai::cR (eI .i64) 1 A5 c6 3 bj::cR (eI .i64) 1 A8 c9 3 bh::T) w'):=by
 refine We 14 Tryz.func138 hw fun R hR=>?_;refine a_ ?_;refine WL.step (WO.u0 (.pl rfl) rfl rfl fun pS=>?_);refine WL.step (WO.u0 (.pl rfl) rfl rfl fun gr=>?_);refine WL.step (WO.u0 (.pl rfl) rfl rfl fun dI=>?_);obtain⟨r16,na,hF⟩:=aj hF;refine a_ ?_;refine kC RA (v2 rfl rfl) (fun _ hw=>kU na (sw hw)) ?_;rintro _ -;obtain rfl:=oi hF;refine a_ ?_;exact rG ()
def gQ(N:Nat)(ai:(List Call))(v12:Int)(de:Call):Int→Option (Int ⊕(Unit ⊕(Int×Int×Int)))|fU=>cond (decide (fU < (((ai.take v12.toNat)).length:Int))) (bd (ix (ai.take v12.toNat) fU) fun jF=>cond (((!(decide (de.au=(-1))))&&(!(decide (jF.au=(-1)))))&&(decide (de.res=jF.res))) (some (.inr (.inr (2,v12,fU)))) (ck (aQ (fU+1)) <| some (.inl (fU+1)))) (some (.inr (.inl ())))
def gU(N:Nat)(ai:(List Call)):Int→Option (Int ⊕(Unit ⊕(Int×Int×Int)))|v12=>cond (decide (v12 < ((ai).length:Int))) (bd (α:=(Unit ⊕(Int×Int×Int))) (bd (ix ai v12) fun de=>ck (nH (ai).length 0 v12) <| iter (gQ N ai v12 de) N 0) <| Sum.elim (fun _=>ck (aQ (v12+1)) <| some (.inl (v12+1))) (fun p=>some (.inr (.inr p)))) (some (.inr (.inl ())))
def gV(N:Nat)(ai:(List Call))(ce:Call)(v21:Int):Int→Option (Int ⊕(Unit ⊕(Int×Int×Int)))|v24=>cond (decide (v24 < ((ai).length:Int))) (bd (ix ai v24) fun x25=>cond ((((!(decide (ce.au=(-1))))&&(!(decide (x25.au=(-1)))))&&(decide (ce.au < x25.from_)))&&(decide (x25.res < ce.res))) (some (.inr (.inr (6,v21,v24)))) (ck (aQ (v24+1)) <| some (.inl (v24+1)))) (some (.inr (.inl ())))
def gW(N:Nat)(ai:(List Call)):Int→Option (Int ⊕(Unit ⊕(Int×Int×Int)))|v21=>cond (decide (v21 < ((ai).length:Int))) (bd (α:=(Unit ⊕(Int×Int×Int))) (bd (ix ai v21) fun ce=>iter (gV N ai ce v21) N 0) <| Sum.elim (fun _=>ck (aQ (v21+1)) <| some (.inl (v21+1))) (fun p=>some (.inr (.inr p)))) (some (.inr (.inl ())))
def gX(N:Nat)(bh:(List Int))(bj:(List Int))(ai:(List Call)):Int→Option (Int ⊕(Unit ⊕(Int×Int×Int)))|v29=>cond (decide (v29 < ((bh).length:Int))) (bd (ix bh v29) fun Gv=>bd (α:=Bool) (bd ((cond ((decide (((bj).length:Int)≤v29))==false) (ix bj v29) (some 0))) fun x32=>cond ((decide (((bj).length:Int)≤v29))==false) (bd (lz N ai bj bh x32 Gv) fun wn=>some ((decide (((bj).length:Int)≤v29))||(!wn))) (some ((decide (((bj).length:Int)≤v29))||false))) <| fun v31=>cond v31 (some (.inr (.inr (8,Gv,0)))) (ck (aQ (v29+1)) <| some (.inl (v29+1)))) (some (.inr (.inl ())))
def fI(N:Nat)(ai:(List Call))(bj:(List Int))(bh:(List Int)):Option (Int×Int×Int):=bd (α:=(Unit ⊕(Int×Int×Int))) (iter (gU N ai) N 0) <| Sum.elim (fun _=>bd (α:=(Unit ⊕(Int×Int×Int))) (iter (gW N ai) N 0) <| Sum.elim (fun _=>bd (α:=(Unit ⊕(Int×Int×Int))) (iter (gX N bh bj ai) N 0) <| Sum.elim (fun _=>some (0,0,0)) (fun p=>some p)) (fun p=>some p)) (fun p=>some p)
theorem vS{N ai bj bh b1 A2 c3 A5 c6 A8 c9 res}(hF:fI N ai bj bh=some res){w0 w T}(hw:St w0.heap.size w0 (al b1 248 (Value.slice A2 (ai).length c3::(Value.slice A5 (bj).length c6::(Value.slice A8 (bh).length c9::[])))::cR ak 7 A2 c3 162 ai::cR (eI .i64) 1 A5 c6 3 bj::cR (eI .i64) 1 A8 c9 3 bh::T) w):Calls Tryz.prog 98 (List.toArray [.pointer (some ⟨b1,0,none⟩)]) w (fun e w'=>∃g:Unit,(True)∧e= .returned (.agg (aH (bq.mk res.1 res.2.1 res.2.2)).toArray)∧St w0.heap.size w0 (al b1 248 (Value.slice A2 (ai).length c3::(Value.slice A5 (bj).length c6::(Value.slice A8 (bh).length c9::[])))::cR ak 7 A2 c3 162 ai::cR (eI .i64) 1 A5 c6 3 bj::cR (eI .i64) 1 A8 c9 3 bh::T) w'):=by
 refine We 136 Tryz.func98 hw fun R hR=>?_;refine a_ ?_;refine mA fun lw=>?_;obtain⟨o2,bS,hF⟩:=aj hF;refine b_ ?_;refine W.dR [] ((al b1 248 (Value.slice A2 (ai).length c3::(Value.slice A5 (bj).length c6::(Value.slice A8 (bh).length c9::[])))::cR ak 7 A2 c3 162 ai::cR (eI .i64) 1 A5 c6 3 bj::cR (eI .i64) 1 A8 c9 3 bh::al lw 131 (aH (bq.mk 0 0 0))::T)) ((.inl ())=o2) (mD 0 2) (fun K3 d5=>?_) ?_
 ·refine a_ ?_;refine gl bS (fun a=>[(18,.int .i64 a)]) (fun a=>(al b1 248 (Value.slice A2 (ai).length c3::(Value.slice A5 (bj).length c6::(Value.slice A8 (bh).length c9::[])))::cR ak 7 A2 c3 162 ai::cR (eI .i64) 1 A5 c6 3 bj::cR (eI .i64) 1 A8 c9 3 bh::al lw 131 (aH (bq.mk 0 0 0))::T)) (lI 0 2 16 17) fun v12 k5 t5 aD cU K6 io=>?_;refine a_ ?_;refine Wc aD (fun eO aD=>?_) (fun eO aD=>?_)
  ·obtain⟨Fm,bl,aD⟩:=aj aD;refine b_ ?_;refine W.dR [] ((al b1 248 (Value.slice A2 (ai).length c3::(Value.slice A5 (bj).length c6::(Value.slice A8 (bh).length c9::[])))::cR ak 7 A2 c3 162 ai::cR (eI .i64) 1 A5 c6 3 bj::cR (eI .i64) 1 A8 c9 3 bh::al lw 131 (aH (bq.mk 0 0 0))::T)) ((.inl ())=Fm) (qu 0 2 16 17 18) (fun HQ lQ=>?_) ?_
   ·obtain⟨de,pi,bl⟩:=aj bl;refine a_ ?_;refine mA fun gr=>?_;obtain⟨Gc,bl⟩:=aW bl;refine a_ ?_;refine WL.q (Y.Cd Tryz.underlying58 iA (i:=2) rfl (.pl rfl) rfl (.pl rfl) (Gc)) rfl ?_;refine a_ ?_;refine gl bl (fun a=>[(30,.int .i64 a)]) (fun a=>(al b1 248 (Value.slice A2 (ai).length c3::(Value.slice A5 (bj).length c6::(Value.slice A8 (bh).length c9::[])))::cR ak 7 A2 c3 162 ai::cR (eI .i64) 1 A5 c6 3 bj::cR (eI .i64) 1 A8 c9 3 bh::al lw 131 (aH (bq.mk 0 0 0))::al gr 162 (ak de)::T)) (HH 0 2 3 4 16 17 18 28 29) fun fU XI t14 bN tX Ld oq=>?_;refine a_ ?_;refine Wc bN (fun m9 bN=>?_) (fun m9 bN=>?_)
    ·obtain⟨jF,vO,bN⟩:=aj bN;refine a_ ?_;refine WL.q (Y.P3 (xs:=ai) Tryz.underlying58 iA (i:=1) rfl (.pl rfl) (.pl rfl) (aK (vO)) (aK (EQ (vO))).2) rfl ?_;refine WL.q (Y.uf (enc:=ak) (ds:=(ak jF)) (a:=jF) (idx:=fU) (j:=0) Tryz.underlying162 rfl iA fX (i:=1) rfl (.pl rfl) (bx (EQ (vO))) rfl rfl m5) rfl ?_;refine mA fun Fc=>?_;refine a_ ?_;refine Wc bN (fun vi bN=>?_) (fun vi bN=>?_)
     ·refine a_ ?_;refine WL.q (Y.build (cs:=(aH (bq.mk 2 v12 fU)).toArray) bV (.cons (.pl rfl) (.cons (.pl rfl) (.cons (.pl rfl) (.nil)))) (aX ⟨rfl,⟨rfl,⟨rfl,trivial⟩⟩⟩) rfl) rfl ?_;obtain rfl:=oi bN;obtain rfl:=dC tX;obtain rfl:=oi aD;obtain rfl:=dC cU;obtain rfl:=oi hF;refine a_ ?_;exact rG ()
     ·obtain⟨vI,bN⟩:=aW bN;refine a_ ?_;exact g1 oq (oj bN tX)
    ·refine a_ ?_;exact h0 lQ (oj bN tX)
   ·rintro rfl;obtain⟨xb,aD⟩:=aW aD;refine a_ ?_;exact g1 io (oj aD cU)
  ·refine a_ ?_;exact h0 d5 (oj aD cU)
 ·rintro rfl;obtain⟨o26,ZZ,hF⟩:=aj hF;refine W.dR [] ((al b1 248 (Value.slice A2 (ai).length c3::(Value.slice A5 (bj).length c6::(Value.slice A8 (bh).length c9::[])))::cR ak 7 A2 c3 162 ai::cR (eI .i64) 1 A5 c6 3 bj::cR (eI .i64) 1 A8 c9 3 bh::al lw 131 (aH (bq.mk 0 0 0))::T)) ((.inl ())=o26) (mD 0 2) (fun K27 Z0=>?_) ?_
  ·refine a_ ?_;refine gl ZZ (fun a=>[(60,.int .i64 a)]) (fun a=>(al b1 248 (Value.slice A2 (ai).length c3::(Value.slice A5 (bj).length c6::(Value.slice A8 (bh).length c9::[])))::cR ak 7 A2 c3 162 ai::cR (eI .i64) 1 A5 c6 3 bj::cR (eI .i64) 1 A8 c9 3 bh::al lw 131 (aH (bq.mk 0 0 0))::T)) (lI 0 2 58 59) fun v21 k29 t29 ql NF K30 Ng=>?_;refine a_ ?_;refine Wc ql (fun MC ql=>?_) (fun MC ql=>?_)
   ·obtain⟨o34,NG,ql⟩:=aj ql;refine b_ ?_;refine W.dR [] ((al b1 248 (Value.slice A2 (ai).length c3::(Value.slice A5 (bj).length c6::(Value.slice A8 (bh).length c9::[])))::cR ak 7 A2 c3 162 ai::cR (eI .i64) 1 A5 c6 3 bj::cR (eI .i64) 1 A8 c9 3 bh::al lw 131 (aH (bq.mk 0 0 0))::T)) ((.inl ())=o34) (qu 0 2 58 59 60) (fun K35 Z1=>?_) ?_
    ·obtain⟨ce,tf,NG⟩:=aj NG;refine a_ ?_;refine mA fun Bp=>?_;refine a_ ?_;refine gl NG (fun a=>[(70,.int .i64 a)]) (fun a=>(al b1 248 (Value.slice A2 (ai).length c3::(Value.slice A5 (bj).length c6::(Value.slice A8 (bh).length c9::[])))::cR ak 7 A2 c3 162 ai::cR (eI .i64) 1 A5 c6 3 bj::cR (eI .i64) 1 A8 c9 3 bh::al lw 131 (aH (bq.mk 0 0 0))::al Bp 162 (ak ce)::T)) (HH 0 2 7 8 58 59 60 68 69) fun v24 k38 t38 pA NH K39 Z2=>?_;refine a_ ?_;refine Wc pA (fun MG pA=>?_) (fun MG pA=>?_)
     ·obtain⟨x25,nh,pA⟩:=aj pA;refine a_ ?_;refine mA fun X1=>?_;refine a_ ?_;refine Wc pA (fun M9 pA=>?_) (fun M9 pA=>?_)
      ·refine a_ ?_;refine WL.q (Y.build (cs:=(aH (bq.mk 6 v21 v24)).toArray) bV (.cons (.pl rfl) (.cons (.pl rfl) (.cons (.pl rfl) (.nil)))) (aX ⟨rfl,⟨rfl,⟨rfl,trivial⟩⟩⟩) rfl) rfl ?_;obtain rfl:=oi pA;obtain rfl:=dC NH;obtain rfl:=oi ql;obtain rfl:=dC NF;obtain rfl:=oi hF;refine a_ ?_;exact rG ()
      ·obtain⟨Jf,pA⟩:=aW pA;refine a_ ?_;exact g1 Z2 (oj pA NH)
     ·refine a_ ?_;exact h0 Z1 (oj pA NH)
    ·rintro rfl;obtain⟨CB,ql⟩:=aW ql;refine a_ ?_;exact g1 Ng (oj ql NF)
   ·refine a_ ?_;exact h0 Z0 (oj ql NF)
  ·rintro rfl;obtain⟨o50,Z3,hF⟩:=aj hF;refine W.dR [] ((al b1 248 (Value.slice A2 (ai).length c3::(Value.slice A5 (bj).length c6::(Value.slice A8 (bh).length c9::[])))::cR ak 7 A2 c3 162 ai::cR (eI .i64) 1 A5 c6 3 bj::cR (eI .i64) 1 A8 c9 3 bh::al lw 131 (aH (bq.mk 0 0 0))::T)) ((.inl ())=o50) (lr 2) (fun K51 Z4=>?_) ?_
   ·refine a_ ?_;refine gl Z3 (fun a=>[(107,.int .i64 a)]) (fun a=>(al b1 248 (Value.slice A2 (ai).length c3::(Value.slice A5 (bj).length c6::(Value.slice A8 (bh).length c9::[])))::cR ak 7 A2 c3 162 ai::cR (eI .i64) 1 A5 c6 3 bj::cR (eI .i64) 1 A8 c9 3 bh::al lw 131 (aH (bq.mk 0 0 0))::T)) (lI 0 2 105 106) fun v29 k53 t53 nE NI K54 Z5=>?_;refine a_ ?_;refine Wc nE (fun Z6 nE=>?_) (fun Z6 nE=>?_)
    ·obtain⟨Gv,Z7,nE⟩:=aj nE;obtain⟨o60,t8,nE⟩:=aj nE;refine c_ ?_;refine iS ?_;refine c_ ?_;refine iR ?_;refine c_ ?_;refine W.eh (fun a=>[(131,.bool a)]) (fun a=>(al b1 248 (Value.slice A2 (ai).length c3::(Value.slice A5 (bj).length c6::(Value.slice A8 (bh).length c9::[])))::cR ak 7 A2 c3 162 ai::cR (eI .i64) 1 A5 c6 3 bj::cR (eI .i64) 1 A8 c9 3 bh::al lw 131 (aH (bq.mk 0 0 0))::T)) (fun a=>a=o60) (wX 0 2 12 105 106 107) (fun K61 Vg=>?_) ?_
     ·obtain⟨x32,FL,t8⟩:=aj t8;refine a_ ?_;refine dl ((decide (((bj).length:Int)≤v29))==false) (fun rU=>?_) (fun rU=>?_)
      ·replace t8:=fJ rU t8;refine WL.gd (.pl rfl rfl rfl) (rU) ?_;obtain⟨wn,F3,t8⟩:=aj t8;refine WL.step (WO.call (γ:=Unit) (fun g=>.bool wn) (fun g=>(al b1 248 (Value.slice A2 (ai).length c3::(Value.slice A5 (bj).length c6::(Value.slice A8 (bh).length c9::[])))::cR ak 7 A2 c3 162 ai::cR (eI .i64) 1 A5 c6 3 bj::cR (eI .i64) 1 A8 c9 3 bh::al lw 131 (aH (bq.mk 0 0 0))::T)) (fun g=>True) Ru (.cons (.gd (rU) rfl) (.cons (.gd (rU) rfl) (.cons (.gd (rU) rfl) (.nil)))) rfl (fun wz hw=>xL (T:=(al lw 131 (aH (bq.mk 0 0 0))::T)) (F3) (hw.eU 5 [0,1,2,3,4] rfl)) ?_);rintro _ -;refine WL.gd (.pl rfl rfl rfl) (rU) ?_;refine a_ ?_;exact h1 Vg (oi t8)
      ·replace t8:=fK rU t8;refine WL.gn (.pl rfl rfl rfl) rU rfl ?_;refine WL.gn (.pl rfl rfl rfl) rU rfl ?_;refine WL.q (Y.or (b:=false) (.pl rfl) (fun h2=>(Oo rU h2).elim)) rfl ?_;refine a_ ?_;exact h1 Vg (oi t8)
     ·rintro v31 rfl;refine Wc nE (fun Z8 nE=>?_) (fun Z8 nE=>?_)
      ·refine a_ ?_;refine WL.q (Y.build (cs:=(aH (bq.mk 8 Gv 0)).toArray) bV (.cons (.pl rfl) (.cons (.pl rfl) (.nil))) (aX ⟨rfl,⟨rfl,trivial⟩⟩) rfl) rfl ?_;obtain rfl:=oi nE;obtain rfl:=dC NI;obtain rfl:=oi hF;refine a_ ?_;exact rG ()
      ·obtain⟨ZX,nE⟩:=aW nE;refine a_ ?_;exact g1 Z5 (oj nE NI)
    ·refine a_ ?_;exact h0 Z4 (oj nE NI)
   ·rintro rfl;refine a_ ?_;refine WL.q (Y.build (cs:=(aH (bq.mk 0 0 0)).toArray) bV (.nil) (aX trivial) rfl) rfl ?_;obtain rfl:=oi hF;refine a_ ?_;exact rG ()
def ch(N:Nat)(l1:(List Event)):Option (Bool×Int×Int×Int×Int):=bd (eQ N l1) fun r7=>cond (!(decide (r7.2.2.2.2=0))) (some (false,0,0,0,r7.2.2.2.2)) (ck (r7.1) <| bd (fI N r7.2.1 r7.2.2.1 r7.2.2.2.1) fun ip=>some ((decide (ip.1=0)),ip.1,ip.2.1,ip.2.2,0))
theorem Ax{N l1 res}(hF:ch N l1=some res)(w:World){v5}(hs4:aP aR 4 w v5 l1):Pure Tryz.prog 58 [v5] w (.tuple #[.bool res.1,.agg (aH (bq.mk res.2.1 res.2.2.1 res.2.2.2.1)).toArray,.int .i64 res.2.2.2.2]):=by
 obtain⟨A2,c3,rfl,g9,hs4⟩:=hs4.form;refine We 23 Tryz.func58 (St.start w) fun R hR=>?_;refine a_ ?_;refine mA fun b6=>?_;obtain⟨r7,pN,hF⟩:=aj hF;refine a_ ?_;refine kM Ve (v1 rfl) (fun wz hw=>BW pN wz (hs4.mono hw)) ?_;rintro⟨b8,A9,c10,bH,c12,zo,c14⟩ Z9;refine a_ ?_;refine Wc hF (fun dG hF=>?_) (fun dG hF=>?_)
 ·refine a_ ?_;refine WL.q (Y.build (cs:=(aH (bq.mk 0 0 0)).toArray) bV (.nil) (aX trivial) rfl) rfl ?_;obtain rfl:=oi hF;refine a_ ?_;exact rP
 ·obtain⟨Ge,hF⟩:=aW hF;refine a_ ?_;obtain⟨Bn,rfl⟩:=Option.isSome_iff_exists.1 (Z9.symm.trans Ge);obtain⟨ip,vH,hF⟩:=aj hF;refine a_ ?_;refine kC Vf (v1 rfl) (fun _ hw=>vS vH (sw hw)) ?_;rintro _ -;refine mA fun bZ=>?_;refine b_ ?_;refine W.s7 5 (by kernel_rfl) (by kernel_rfl) fun Q8 hQ8=>?_;refine Sq yf ?_;refine Sq lH ?_;refine Sq ye ?_;refine WS.q (Y.wR (ds:=(aH (bq.mk ip.1 ip.2.1 ip.2.2))) Tryz.underlying131 rfl vN (.pl rfl) (i:=0) rfl rfl m5) rfl ?_;refine Sq ya ?_;refine WS.tail ?_;refine a_ ?_;refine xQ hQ8 ?_;obtain rfl:=oi hF;exact rP
def vT(N:Nat):Option Unit:=some ()
theorem wv{N res}(hF:vT N=some res)(w:World):Made Tryz.prog 139 [] w (fun g:Option Addr=>.slice g (([4]:List Int)).length (([4]:List Int)).length) (fun g=>[cR (eI .i64) 1 g (([4]:List Int)).length 3 ([4]:List Int)]) (fun g=>True):=by
 refine We 2 Tryz.func139 (St.start w) fun R hR=>?_;refine a_ ?_;refine WL.step (WO.bA (enc:=(eI .i64)) (ys:=([4]:List Int)) Tryz.underlying29 qv (.cons (.pl rfl) (.nil)) rfl (fun _=>rfl) rfl rfl (by decide) (by decide) rfl fun b1=>?_);obtain rfl:=oi hF;refine a_ ?_;exact rG (some (Addr.mk b1 0 none))
def jH(N:Nat)(m2:(List (Int×Int))):Option Unit:=some ()
theorem nF{N m2 b1 res}(hF:jH N m2=some res){w0 w T}(hw:St w0.heap.size w0 (cM (Value.int .i64) (some b1) m2::T) w):Calls Tryz.prog 141 (List.toArray [.map (some b1)]) w (fun e w'=>∃g:Nat,(True)∧e= .returned (.func (.func 168) #[] #[.pointer (some ⟨g,0,none⟩)])∧St w0.heap.size w0 (cM (Value.int .i64) (some b1) m2::al g 249 [.map (some b1)]::T) w'):=by
 refine We 4 Tryz.func141 hw fun R hR=>?_;refine a_ ?_;refine WL.step (WO.u0 (.pl rfl) rfl rfl fun b3=>?_);obtain rfl:=oi hF;refine a_ ?_;exact rG b3
def zB:Go.Shelf.Ren:=⟨fun x=>match x with|6=>140|8=>166|9=>167|11=>198|n=>n,fun x=>match x with|0=>0|3=>3|4=>4|23=>249|24=>29|26=>3|27=>251|28=>252|33=>147|n=>n,fun x=>x⟩
theorem RE:SlLaysZI.n6 Tryz.prog zB where
 mixed:=by kernel_rfl
 f6:=⟨Tryz.f140.name,by kernel_rfl,Tryz.func140.trans (congrArg some (by kernel_rfl))⟩
 f8:=⟨Tryz.f166.name,by kernel_rfl,Tryz.func166.trans (congrArg some (by kernel_rfl))⟩
 f11:=⟨Tryz.f198.name,by kernel_rfl,Tryz.func198.trans (congrArg some (by kernel_rfl))⟩
 t0:=Tryz.underlying0
 a0:=Tryz.isAgg0
 z0:=Tryz.sizeOf0
 v0:=Tryz.zeroValue0
 t24:=Tryz.underlying29
 a24:=Tryz.isAgg29
 z24:=Tryz.sizeOf29
 v24:=Tryz.zeroValue29
 t26:=Tryz.underlying3
 a26:=Tryz.isAgg3
 z26:=Tryz.sizeOf3
 v26:=Tryz.zeroValue3
 t28:=Tryz.underlying252
 a28:=Tryz.isAgg252
 z28:=Tryz.sizeOf252
 v28:=Tryz.zeroValue252
 i26:=by kernel_rfl
def Hb:Go.Shelf.Ren:=⟨fun x=>match x with|10=>168|n=>n,fun x=>match x with|0=>0|3=>3|4=>4|23=>249|24=>29|26=>3|27=>251|28=>252|33=>147|n=>n,fun x=>x⟩
theorem RF:SlLaysZI.n10 Tryz.prog Hb where
 mixed:=by kernel_rfl
 f10:=⟨Tryz.f168.name,by kernel_rfl,Tryz.func168.trans (congrArg some (by kernel_rfl))⟩
 t0:=Tryz.underlying0
 a0:=Tryz.isAgg0
 z0:=Tryz.sizeOf0
 v0:=Tryz.zeroValue0
 t4:=Tryz.underlying4
 a4:=Tryz.isAgg4
 z4:=Tryz.sizeOf4
 v4:=Tryz.zeroValue4
 t23:=Tryz.underlying249
 a23:=Tryz.isAgg249
 z23:=Tryz.sizeOf249
 v23:=Tryz.zeroValue249
 t26:=Tryz.underlying3
 a26:=Tryz.isAgg3
 z26:=Tryz.sizeOf3
 v26:=Tryz.zeroValue3
 t33:=Tryz.underlying147
 a33:=Tryz.isAgg147
 z33:=Tryz.sizeOf147
 v33:=Tryz.zeroValue147
def Hf:Go.Shelf.Ren:=⟨fun x=>match x with|5=>167|7=>199|8=>159|10=>213|11=>214|12=>215|13=>216|14=>217|15=>218|16=>219|17=>220|18=>221|19=>188|20=>176|30=>226|31=>206|32=>207|33=>227|34=>228|35=>148|40=>229|n=>n,fun x=>match x with|0=>0|3=>3|4=>4|5=>5|9=>9|22=>29|23=>29|25=>3|32=>176|35=>288|36=>289|41=>158|44=>255|46=>263|53=>312|57=>316|63=>331|64=>332|n=>n,fun x=>x⟩
theorem Il:SlLaysM.n5 Tryz.prog Hf where
 mixed:=by kernel_rfl
 f5:=⟨Tryz.f167.name,by kernel_rfl,Tryz.func167.trans (congrArg some (by kernel_rfl))⟩
 f7:=⟨Tryz.f199.name,by kernel_rfl,Tryz.func199.trans (congrArg some (by kernel_rfl))⟩
 f8:=Tryz.func159.trans (congrArg some (by kernel_rfl))
 f10:=⟨Tryz.f213.name,by kernel_rfl,Tryz.func213.trans (congrArg some (by kernel_rfl))⟩
 f11:=⟨Tryz.f214.name,by kernel_rfl,Tryz.func214.trans (congrArg some (by kernel_rfl))⟩
 f12:=⟨Tryz.f215.name,by kernel_rfl,Tryz.func215.trans (congrArg some (by kernel_rfl))⟩
 f13:=⟨Tryz.f216.name,by kernel_rfl,Tryz.func216.trans (congrArg some (by kernel_rfl))⟩
 f14:=⟨Tryz.f217.name,by kernel_rfl,Tryz.func217.trans (congrArg some (by kernel_rfl))⟩
 f15:=⟨Tryz.f218.name,by kernel_rfl,Tryz.func218.trans (congrArg some (by kernel_rfl))⟩
 f16:=⟨Tryz.f219.name,by kernel_rfl,Tryz.func219.trans (congrArg some (by kernel_rfl))⟩
 f17:=⟨Tryz.f220.name,by kernel_rfl,Tryz.func220.trans (congrArg some (by kernel_rfl))⟩
 f18:=⟨Tryz.f221.name,by kernel_rfl,Tryz.func221.trans (congrArg some (by kernel_rfl))⟩
 f19:=Tryz.func188.trans (congrArg some (by kernel_rfl))
 f20:=Tryz.func176.trans (congrArg some (by kernel_rfl))
 f30:=⟨Tryz.f226.name,by kernel_rfl,Tryz.func226.trans (congrArg some (by kernel_rfl))⟩
 f31:=Tryz.func206.trans (congrArg some (by kernel_rfl))
 f32:=Tryz.func207.trans (congrArg some (by kernel_rfl))
 f33:=⟨Tryz.f227.name,by kernel_rfl,Tryz.func227.trans (congrArg some (by kernel_rfl))⟩
 f34:=⟨Tryz.f228.name,by kernel_rfl,Tryz.func228.trans (congrArg some (by kernel_rfl))⟩
 f35:=⟨Tryz.f148.name,by kernel_rfl,Tryz.func148.trans (congrArg some (by kernel_rfl))⟩
 f40:=⟨Tryz.f229.name,by kernel_rfl,Tryz.func229.trans (congrArg some (by kernel_rfl))⟩
 t0:=Tryz.underlying0
 a0:=Tryz.isAgg0
 z0:=Tryz.sizeOf0
 v0:=Tryz.zeroValue0
 t3:=Tryz.underlying3
 a3:=Tryz.isAgg3
 z3:=Tryz.sizeOf3
 v3:=Tryz.zeroValue3
 t4:=Tryz.underlying4
 a4:=Tryz.isAgg4
 z4:=Tryz.sizeOf4
 v4:=Tryz.zeroValue4
 t5:=Tryz.underlying5
 a5:=Tryz.isAgg5
 z5:=Tryz.sizeOf5
 v5:=Tryz.zeroValue5
 t9:=Tryz.underlying9
 a9:=Tryz.isAgg9
 z9:=Tryz.sizeOf9
 v9:=Tryz.zeroValue9
 t22:=Tryz.underlying29
 a22:=Tryz.isAgg29
 z22:=Tryz.sizeOf29
 v22:=Tryz.zeroValue29
 t23:=Tryz.underlying29
 a23:=Tryz.isAgg29
 z23:=Tryz.sizeOf29
 v23:=Tryz.zeroValue29
 t25:=Tryz.underlying3
 a25:=Tryz.isAgg3
 z25:=Tryz.sizeOf3
 v25:=Tryz.zeroValue3
 t32:=Tryz.underlying176
 a32:=Tryz.isAgg176
 z32:=Tryz.sizeOf176
 v32:=Tryz.zeroValue176
 t35:=Tryz.underlying288
 a35:=Tryz.isAgg288
 z35:=Tryz.sizeOf288
 v35:=Tryz.zeroValue288
 t36:=Tryz.underlying289
 a36:=Tryz.isAgg289
 z36:=Tryz.sizeOf289
 v36:=Tryz.zeroValue289
 t41:=Tryz.underlying158
 a41:=Tryz.isAgg158
 z41:=Tryz.sizeOf158
 v41:=Tryz.zeroValue158
 t44:=Tryz.underlying255
 a44:=Tryz.isAgg255
 z44:=Tryz.sizeOf255
 v44:=Tryz.zeroValue255
 t46:=Tryz.underlying263
 a46:=Tryz.isAgg263
 z46:=Tryz.sizeOf263
 v46:=Tryz.zeroValue263
 t53:=Tryz.underlying312
 a53:=Tryz.isAgg312
 z53:=Tryz.sizeOf312
 v53:=Tryz.zeroValue312
 t57:=Tryz.underlying316
 a57:=Tryz.isAgg316
 z57:=Tryz.sizeOf316
 v57:=Tryz.zeroValue316
 t63:=Tryz.underlying331
 a63:=Tryz.isAgg331
 z63:=Tryz.sizeOf331
 v63:=Tryz.zeroValue331
 t64:=Tryz.underlying332
 a64:=Tryz.isAgg332
 z64:=Tryz.sizeOf332
 v64:=Tryz.zeroValue332
theorem LE(m:Nat):AnyZI.SortsIn Tryz.prog zB Fence.wide m:=
 ⟨fun blk off cap ss W hH hblk hsz=>callsIn_wide.2 (AnyM.slices_Sort_int Il blk off cap ss W hH hblk hsz),fun p cap W=>callsIn_wide.2 (AnyM.slices_Sort_int_none Il p cap W)⟩
def mW(N:Nat)(m:List (Int×Int)):Option (List Int):=Ej m
theorem Ay{N:Nat}{h_:(List (Int×Int))}{sW:Nat}{Pm:Nat}{res:(List Int)}(hF:mW N h_=some res){w0 w:World}{T:List Chunk}(hw:St w0.heap.size w0 (al sW 249 [.map (some Pm)]::cM (Value.int .i64) (some Pm) h_::T) w):
  Calls Tryz.prog 140 (List.toArray [.func (.func 168) #[] #[.pointer (some ⟨sW,0,none⟩)]]) w (fun e w'=>∃g:(Option Addr×Nat),(True)∧e= .returned (.slice g.1 (res).length g.2)∧St w0.heap.size w0 (cR (eI .i64) 1 g.1 g.2 3 res::al sW 249 [.map (some Pm)]::cM (Value.int .i64) (some Pm) h_::T) w'):=
 Gt RE RF LE (enters_of Tryz.func167 (by kernel_rfl) rfl) (enters_of Tryz.func168 (by kernel_rfl) rfl) Tryz.underlying3 Tryz.underlying3 hF hw
def rV(N:Nat)(l1:(List Event))(n6:Int):((List Event)×(List Bool)×Int)→Option (((List Event)×(List Bool)×Int) ⊕(List Event))|(gi,CV,cW)=>cond (decide (cW < ((l1).length:Int))) (bd (ix l1 cW) fun bC=>bd (α:=(List Bool)) (cond (!(decide (bC.kind=0))) (bd (ax 8 false CV bC.who) fun ux=>some (eN 8 false CV bC.who (decide (bC.value=n6)))) (some CV)) <| fun Gw=>bd (ax 8 false Gw bC.who) fun jG=>cond jG (ck (dh 32 ((gi).length+(([bC]:List Event)).length)) <| ck (aQ (cW+1)) <| some (.inl ((gi++([bC]:List Event)),Gw,(cW+1)))) (ck (aQ (cW+1)) <| some (.inl (gi,Gw,(cW+1))))) (some (.inr gi))
def nS(N:Nat)(l1:(List Event))(n6:Int):Option (List Event):=bd (α:=(List Event)) (iter (rV N l1 n6) N ([],[false,false,false,false,false,false,false,false],0)) <| fun ow=>some ow
theorem Gx{N l1 n6 res}(hF:nS N l1 n6=some res)(w:World){v5}(hs4:aP aR 4 w v5 l1):Made Tryz.prog 142 [v5,.int .i64 n6] w (fun g:(Option Addr×Nat)=>.slice g.1 (res).length g.2) (fun g=>[cR aR 4 g.1 g.2 108 res]) (fun g=>True):=by
 obtain⟨A2,c3,rfl,g9,hs4⟩:=hs4.form;refine We 36 Tryz.func142 (St.start w) fun R hR=>?_;refine a_ ?_;refine WL.q (Y.SL (cs:=((gj 8 eB false) [false,false,false,false,false,false,false,false]).toArray) Tryz.underlying277 rJ ND (.nil) rfl) rfl ?_;refine mA fun b7=>?_;refine WL.step (WO.mc (ds:=((gj 8 eB false) [false,false,false,false,false,false,false,false])) (cs':=((gj 8 eB false) [false,false,false,false,false,false,false,false])) NB (.pl rfl) (.pl rfl) rfl ((SK YR) _) (i:=0) rfl (Dc (o:=0) (l:=8) (m:=8) (by decide) rfl rfl) (wS rfl) ?_);obtain⟨o4,dc,hF⟩:=aj hF;refine b_ ?_;refine W.jI (fun a b c=>[(5,.slice b (a).length c)]) (fun a b c=>[cR aR 4 b c 108 a]) (fun a b c=>a=o4) (.nil) (fun K5 qz=>?_) ?_
 ·refine a_ ?_;refine S6 dc (fun a b c d f=>[(5,.slice d (a).length f),(12,.int .i64 c)]) (fun a b c d f=>[cR aR 4 d f 108 a,al b7 277 ((gj 8 eB false) b)]) (lI 1 6 10 11) fun gi CV cW bH c12 k7 t7 bD Dz K8 nK=>?_;refine a_ ?_;refine Wc bD (fun m_ bD=>?_) (fun m_ bD=>?_)
  ·obtain⟨bC,xh,bD⟩:=aj bD;refine a_ ?_;refine mA fun Bn=>?_;obtain⟨Lz,bN,bD⟩:=aj bD;refine b_ ?_;refine W.eh (fun a=>[]) (fun a=>[cR aR 4 bH c12 108 gi,al b7 277 ((gj 8 eB false) a),al Bn 108 (aR bC)]) (fun a=>a=Lz) (HG 1 5 6 8 10 11 12) (fun Ld oq=>?_) ?_
   ·refine a_ ?_;refine Wc bN (fun nj bN=>?_) (fun nj bN=>?_)
    ·obtain⟨ux,qd,bN⟩:=aj bN;refine a_ ?_;refine WL.step (WO.dD (cs':=((gj 8 eB false) (eN 8 false CV bC.who (decide (bC.value=n6))))) rJ (.pl rfl) (.pl rfl) rfl (i:=2) rfl (kX (m:=8) (yh (off:=0) (sz:=1) (j:=0) (kY (qd)) (by decide)) rfl) (o5 (pre:=[]) (off:=0) (post:=[]) (a:=CV) (enc:=eB) (d:=false) (n:=8) (sz:=1) (j:=0) (x:=ux) (x':=(decide (bC.value=n6))) (fun _=>rfl) rfl (mQ (qd)) (kV (qd)) (by decide) rfl rfl) ?_);refine a_ ?_;exact h1 oq (oi bN)
    ·refine a_ ?_;exact h1 oq (oi bN)
   ·rintro Gw rfl;obtain⟨jG,Aq,bD⟩:=aj bD;refine a_ ?_;refine WL.q (Y.lq (v:=.bool jG) Tryz.underlying4 rfl (.pl rfl) (i:=1) rfl (ue (pre:=[]) (off:=0) (post:=[]) (a:=Gw) (enc:=eB) (d:=false) (n:=8) (sz:=1) (j:=0) (fun _=>rfl) rfl (kY (Aq)) (kV (Aq)) rfl)) rfl ?_;refine a_ ?_;refine Wc bD (fun rA bD=>?_) (fun rA bD=>?_)
    ·refine a_ ?_;refine WL.step (WO.bA (enc:=aR) (ys:=([bC]:List Event)) Tryz.underlying31 OI (.cons (.pl rfl) (.nil)) rfl re rfl rfl (by decide) (by decide) rfl fun FK=>?_);obtain⟨z_,bD⟩:=aW bD;refine WL.step (WO.d4 (enc:=aR) Tryz.underlying31 OJ re o_ (.pl rfl) rfl (.pl rfl) (i:=1) rfl (m2:=0) rfl (z_) rfl fun XA XB=>?_);obtain⟨vJ,bD⟩:=aW bD;refine a_ ?_;exact g5 nK (oj bD Dz)
    ·obtain⟨Jo,bD⟩:=aW bD;refine a_ ?_;exact g5 nK (oj bD Dz)
  ·refine a_ ?_;exact h3 qz (oj bD Dz)
 ·rintro ow A8 c9 rfl;obtain rfl:=oi hF;refine a_ ?_;exact rG (A8,c9)
def mX(N:Nat)(r8:((List Call)×Int×Int)):((List (Int×Int))×Int)→Option (((List (Int×Int))×Int) ⊕((List (Int×Int)) ⊕((List Int)×Int)))|(nT,lU)=>cond (decide (lU < ((r8.1).length:Int))) (bd (ix r8.1 lU) fun gF=>ck (aQ (((cY nT gF.arg).getD 0)+1)) <| cond (decide (9 < ((cY (fM nT gF.arg (((cY nT gF.arg).getD 0)+1)) gF.arg).getD 0))) (some (.inr (.inr ([],2)))) (ck (aQ (lU+1)) <| some (.inl ((fM nT gF.arg (((cY nT gF.arg).getD 0)+1)),(lU+1))))) (some (.inr (.inl nT)))
def qp(N:Nat)(rp:(List Int))(l1:(List Event)):((List Int)×Int)→Option (((List Int)×Int) ⊕(List Int))|(BX,v30)=>cond (decide (v30 < ((rp).length:Int))) (bd (ix rp v30) fun x31=>bd (vT N) fun r32=>bd (nS N l1 x31) fun e7=>bd (dw N ([4]:List Int) e7) fun uy=>cond (!uy.2.1) (ck (dh 8 ((BX).length+(([x31]:List Int)).length)) <| ck (aQ (v30+1)) <| some (.inl ((BX++([x31]:List Int)),(v30+1)))) (ck (aQ (v30+1)) <| some (.inl (BX,(v30+1))))) (some (.inr BX))
def dV(N:Nat)(l1:(List Event)):Option ((List Int)×Int):=bd (vT N) fun r6=>bd (bk N ([4]:List Int) l1) fun r8=>cond (!(decide (r8.2.2=0))) (some ([],r8.2.2)) (bd (α:=((List (Int×Int)) ⊕((List Int)×Int))) (iter (mX N r8) N (([]:List (Int×Int)),0)) <| Sum.elim (fun CW=>bd (α:=(List Int)) (bd (jH N CW) fun gz=>bd (mW N CW) fun rp=>iter (qp N rp l1) N ([],0)) <| fun Pn=>some (Pn,0)) (fun p=>some p))
theorem D4{N l1 res}(hF:dV N l1=some res)(w:World){v5}(hs4:aP aR 4 w v5 l1):Made Tryz.prog 99 [v5] w (fun g:(Option Addr×Nat)=>.tuple #[.slice g.1 (res.1).length g.2,.int .i64 res.2]) (fun g=>[cR (eI .i64) 1 g.1 g.2 3 res.1]) (fun g=>True):=by
 obtain⟨A2,c3,rfl,g9,hs4⟩:=hs4.form;refine We 69 Tryz.func99 (St.start w) fun R hR=>?_;obtain⟨r6,uv,hF⟩:=aj hF;refine a_ ?_;refine kM Ij v0 (fun wz hw=>wv uv wz) ?_;rintro A7 -;obtain⟨r8,lM,hF⟩:=aj hF;refine a_ ?_;refine kM rh (v2 rfl rfl) (fun wz hw=>eY lM wz (so hw) (hs4.mono hw)) ?_;rintro⟨A9,c10⟩ -;refine a_ ?_;refine Wc hF (fun dG hF=>?_) (fun dG hF=>?_)
 ·obtain rfl:=oi hF;refine a_ ?_;exact rG (none,0)
 ·refine a_ ?_;refine WL.step (WO.I2 (Value.int .i64) rfl fun lw=>?_);obtain⟨o8,kZ,hF⟩:=aj hF;refine b_ ?_;refine W.eh (fun a=>[]) (fun a=>[cM (Value.int .i64) (some lw) a]) (fun a=>(.inl a)=o8) (mD 0 7) (fun K9 ut=>?_) ?_
  ·refine a_ ?_;refine ve kZ (fun a b=>[(29,.int .i64 b)]) (fun a b=>[cM (Value.int .i64) (some lw) a,cR ak 7 A9 c10 162 r8.1]) (lI 0 7 27 28) fun nT lU Tl t11 aA lj rk di=>?_;refine a_ ?_;refine Wc aA (fun m7 aA=>?_) (fun m7 aA=>?_)
   ·obtain⟨gF,vC,aA⟩:=aj aA;refine a_ ?_;refine mA fun Bm=>?_;refine a_ ?_;refine WL.q (Y.cY (f:=(Value.int .i64)) (dv:=0) Tryz.underlying249 Tryz.underlying3 yU (.pl rfl) (.pl rfl) (i:=1) rfl) rfl ?_;obtain⟨Cz,aA⟩:=aW aA;refine a_ ?_;refine WL.step (WO.Mf (f:=(Value.int .i64)) (a:=(((cY nT gF.arg).getD 0)+1)) Tryz.underlying249 Tryz.underlying3 (.pl rfl) (.pl rfl) (.pl rfl) (i:=1) rfl ?_);refine a_ ?_;refine WL.q (Y.cY (f:=(Value.int .i64)) (dv:=0) Tryz.underlying249 Tryz.underlying3 yU (.pl rfl) (.pl rfl) (i:=1) rfl) rfl ?_;refine a_ ?_;refine Wc aA (fun rA aA=>?_) (fun rA aA=>?_)
    ·obtain rfl:=oi aA;obtain rfl:=dC lj;obtain rfl:=oi hF;refine a_ ?_;exact rG (none,0)
    ·obtain⟨Ai,aA⟩:=aW aA;refine a_ ?_;exact g2 di (oj aA lj)
   ·refine a_ ?_;exact h1 ut (oj aA lj)
  ·rintro CW rfl;replace hF:=WR hF;obtain⟨o24,Gy,hF⟩:=aj hF;refine b_ ?_;refine W.jI (fun a b c=>[(10,.slice b (a).length c)]) (fun a b c=>[cR (eI .i64) 1 b c 3 a]) (fun a b c=>a=o24) (.nil) (fun K25 Z_=>?_) ?_
   ·obtain⟨gz,vk,Gy⟩:=aj Gy;refine a_ ?_;refine kC Ry (v1 rfl) (fun _ hw=>nF vk (sw hw)) ?_;rintro Bp -;obtain⟨rp,Fg,Gy⟩:=aj Gy;refine kC Rx (v1 rfl) (fun _ hw=>Ay Fg (sw hw)) ?_;rintro⟨Vh,cI26⟩ -;refine a_ ?_;refine s_ Gy (fun a b c d=>[(10,.slice c (a).length d),(48,.int .i64 b)]) (fun a b c d=>[cR (eI .i64) 1 c d 3 a,cR (eI .i64) 1 Vh cI26 3 rp]) (gx 0 46 47) fun BX v30 Po c28 k27 t27 fC NJ XS CE=>?_;refine a_ ?_;refine Wc fC (fun Z' fC=>?_) (fun Z' fC=>?_)
    ·obtain⟨x31,aaa,fC⟩:=aj fC;obtain⟨r32,NK,fC⟩:=aj fC;refine a_ ?_;refine kM Ij v0 (fun wz hw=>wv NK wz) ?_;rintro Fp -;obtain⟨e7,MS,fC⟩:=aj fC;refine a_ ?_;refine kM Rz (v2 rfl rfl) (fun wz hw=>Gx MS wz (hs4.mono hw)) ?_;rintro⟨XJ,XK⟩ -;obtain⟨uy,Fr,fC⟩:=aj fC;refine kM LC (v2 rfl rfl) (fun wz hw=>uH Fr wz (so hw) (so hw)) ?_;rintro⟨Tu,Tv⟩ -;refine a_ ?_;refine Wc fC (fun Nj fC=>?_) (fun Nj fC=>?_)
     ·refine a_ ?_;refine WL.step (WO.bA (enc:=(eI .i64)) (ys:=([x31]:List Int)) Tryz.underlying29 qv (.cons (.pl rfl) (.nil)) rfl (fun _=>rfl) rfl rfl (by decide) (by decide) rfl fun b40=>?_);obtain⟨NE,fC⟩:=aW fC;refine WL.step (WO.d4 (enc:=(eI .i64)) Tryz.underlying29 Dn (fun _=>rfl) q7 (.pl rfl) rfl (.pl rfl) (i:=4) rfl (m2:=0) rfl (NE) rfl fun A41 c42=>?_);obtain⟨Jl,fC⟩:=aW fC;refine a_ ?_;exact g4 CE (oj fC NJ)
     ·obtain⟨TV,fC⟩:=aW fC;refine a_ ?_;exact g4 CE (oj fC NJ)
    ·refine a_ ?_;exact h3 Z_ (oj fC NJ)
   ·rintro Pn OM c20 rfl;obtain rfl:=oi hF;refine a_ ?_;exact rG (OM,c20)
end Go.Proofs.YtjdkkabcenohcaaGreatDoor
