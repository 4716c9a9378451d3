import Derived.Test.YtjdkkabcenohcaaGreatDoorAuto
import Derived.Test.YtjdkkabcenohcaaGreatDoorV4
import Derived.Test.YtjdkkabcenohcaaGreatDoorSortN
set_option linter.unusedVariables false
set_option linter.defProp false
set_option linter.unusedSimpArgs false
set_option linter.unusedSectionVars false
set_option maxRecDepth 100000
namespace Go.Proofs.YtjdkkabcenohcaaGreatDoor
open Go.RowKit
attribute [local irreducible] Yd aD ik
structure aq where
 n:Int
 oJ:Int
 lG:Int
deriving DecidableEq
def aq.z:aq:=⟨0,0,0⟩
def ay(x:aq):List Value:=(Value.int .i64 x.n::(Value.int .i64 x.oJ::(Value.int .i64 x.lG::[])))
theorem iw(x:aq):(ay x).length=3:=rfl
theorem sM: ∀x,∀v∈ay x,v.oneCell'=true:=fun x=>(bu rfl (bu rfl (bu rfl iB)))
theorem I_:Tryz.prog.cellsOf 230=0+1:=by kernel_rfl
theorem lB:Tryz.prog.cellsOf 236=2+1:=by kernel_rfl
instance:FT Tryz.prog 236 0 0 3:=⟨_,Tryz.underlying236,rfl⟩
@[reducible,instance] def alB:=UT.mk Tryz.underlying230
@[reducible,instance] def c236:=CT.mk lB
@[reducible,instance] def alC:=UT.mk Tryz.underlying236
instance:EN ay 3:=⟨iw⟩
@[reducible,instance] def alD:=CT.mk I_
instance:FT Tryz.prog 232 1 1 230:=⟨_,Tryz.underlying232,rfl⟩
@[reducible,instance] def alE:=UT.mk Tryz.underlying255
@[reducible,instance] def alF:=UT.mk Tryz.underlying263
instance:FT Tryz.prog 236 2 2 3:=⟨_,Tryz.underlying236,rfl⟩
def DM:=gg Tryz.func127
def acc:=gg Tryz.func128
def acd:=gg Tryz.func129
def ace:=gg Tryz.func159
def acf:=gg Tryz.func160
def acg:=gg Tryz.func161
def ach:=gg Tryz.func162
def aci:=gg Tryz.func176
def acj:=gg Tryz.func188
def ack:=gg Tryz.func189
theorem ahr: ∃i,Tryz.prog.info? 236=some i∧i.zero=some (Value.agg #[(Value.int .i64 0),(Value.int .i64 0),(Value.int .i64 0)])∧i.size=3:=⟨_,rfl,by kernel_rfl,by kernel_rfl⟩
theorem ahs: ∃i z,Tryz.prog.info? 236=some i∧i.zero=some z∧i.size=3∧i.bytes=24∧z.cells.size=3∧0 < 3:=⟨_,(Value.agg #[(Value.int .i64 0),(Value.int .i64 0),(Value.int .i64 0)]),rfl,by kernel_rfl,by kernel_rfl,by kernel_rfl,by kernel_rfl,by decide⟩
theorem Zl:Shape Tryz.prog 232 [(0,1),(1,1)] #[(Value.slice none 0 0),(Value.slice none 0 0)]:=⟨_,_,Value.agg #[(Value.slice none 0 0),(Value.slice none 0 0)],Tryz.underlying232,rfl,by kernel_rfl,rfl,by kernel_rfl,by decide⟩
theorem Zm:Shape Tryz.prog 236 [(0,1),(1,1),(2,1)] #[(Value.int .i64 0),(Value.int .i64 0),(Value.int .i64 0)]:=⟨_,_,Value.agg #[(Value.int .i64 0),(Value.int .i64 0),(Value.int .i64 0)],Tryz.underlying236,rfl,by kernel_rfl,rfl,by kernel_rfl,by decide⟩
def Cy(N:Nat)(v1:aq)(a3:Int):Option Unit:=some ()
theorem GF{N v1 a3 b2 res}(hF:Cy N v1 a3=some res){w0 w T}(hw:St w0.heap.size w0 (aw b2 3 [.int .i64 a3]::T) w):Calls Tryz.prog 161 (List.toArray [.agg (ay v1).toArray,.pointer (some ⟨b2,0,none⟩)]) w (fun e w'=>∃g:Unit,(True)∧e= .returned (.bool (decide (v1.n=a3)))∧St w0.heap.size w0 (aw b2 3 [.int .i64 a3]::T) w'):=by
 refine We 8 Tryz.func161 hw fun R hR=>?_;refine a_ ?_;refine WL.step (WO.il (.pl rfl) rfl fun b4=>?_);obtain rfl:=oi hF;refine a_ ?_;exact rG ()
def ib(N:Nat)(s3:(List aq))(c5:Int):Int→Option (Int ⊕(Unit ⊕ Int))|v6=>cond (decide (v6 < ((s3).length:Int))) (bd (ix s3 v6) fun x7=>bd (Cy N x7 c5) fun r8=>cond (decide (x7.n=c5)) (some (.inr (.inr v6))) (ck (bB (v6+1)) <| some (.inl (v6+1)))) (some (.inr (.inl ())))
def iM(N:Nat)(s3:(List aq))(c5:Int):Option Int:=bd (α:=(Unit ⊕ Int)) (iter (ib N s3 c5) N 0) <| Sum.elim (fun _=>some (-1)) (fun p=>some p)
theorem qh{N s3 c5 A1 c2 b4 res}(hF:iM N s3 c5=some res){w0 w T}(hw:St w0.heap.size w0 (cR ay 3 A1 c2 236 s3::aw b4 3 [.int .i64 c5]::T) w):Calls Tryz.prog 160 (List.toArray [.slice A1 (s3).length c2,.func (.func 161) #[] #[.pointer (some ⟨b4,0,none⟩)]]) w (fun e w'=>∃g:Unit,(True)∧e= .returned (.int .i64 res)∧St w0.heap.size w0 (cR ay 3 A1 c2 236 s3::aw b4 3 [.int .i64 c5]::T) w'):=by
 refine We 19 Tryz.func160 hw fun R hR=>?_;obtain⟨o2,eK,hF⟩:=al hF;refine b_ ?_;refine W.fQ [] ((cR ay 3 A1 c2 236 s3::aw b4 3 [.int .i64 c5]::T)) ((.inl ())=o2) (.nil) (fun K3 kU=>?_) ?_
 ·refine a_ ?_;refine jg eK (fun a=>[(8,.int .i64 a)]) (fun a=>(cR ay 3 A1 c2 236 s3::aw b4 3 [.int .i64 c5]::T)) (fY 0 1 7) fun v6 k5 t5 bC hZ K6 ol=>?_;refine a_ ?_;refine Wc bC (fun ip bC=>?_) (fun ip bC=>?_)
  ·obtain⟨x7,Tb,bC⟩:=al bC;obtain⟨r8,sy,bC⟩:=al bC;refine a_ ?_;refine kG acg (.pl rfl) (v1 rfl) (fun _ hw=>GF sy (sw hw)) ?_;rintro _ -;refine a_ ?_;refine Wc bC (fun jh bC=>?_) (fun jh bC=>?_)
   ·obtain rfl:=oi bC;obtain rfl:=fy hZ;obtain rfl:=oi hF;refine a_ ?_;exact rG ()
   ·obtain⟨Fv,bC⟩:=bx bC;refine a_ ?_;exact g1 ol (oj bC hZ)
  ·refine a_ ?_;exact h0 kU (oj bC hZ)
 ·rintro rfl;obtain rfl:=oi hF;refine a_ ?_;exact rG ()
def iy(N:Nat)(aA:(List Call))(aR:(List aq))(n8:Int):Option Int:=bd (iM N aR n8) fun jw=>cond (decide (jw < 0)) (some (-1)) (bd (ix aR jw) fun dM=>some jw)
theorem nV{N aA aR n8 b1 A2 c3 A5 c6 res}(hF:iy N aA aR n8=some res){w0 w T}(hw:St w0.heap.size w0 (aw b1 232 (Value.slice A2 (aA).length c3::(Value.slice A5 (aR).length c6::[]))::cR aC 7 A2 c3 162 aA::cR ay 3 A5 c6 236 aR::T) w):Calls Tryz.prog 127 (List.toArray [.pointer (some ⟨b1,0,none⟩),.int .i64 n8]) w (fun e w'=>∃g:Unit,(True)∧e= .returned (.pointer (Ds A5 res 3))∧St w0.heap.size w0 (aw b1 232 (Value.slice A2 (aA).length c3::(Value.slice A5 (aR).length c6::[]))::cR aC 7 A2 c3 162 aA::cR ay 3 A5 c6 236 aR::T) w'):=by
 refine We 20 Tryz.func127 hw fun R hR=>?_;refine a_ ?_;refine WL.step (WO.Eg (.pl rfl) rfl rfl fun b9=>?_);obtain⟨jw,qD,hF⟩:=al hF;refine a_ ?_;refine kC acf (v2 rfl rfl) (fun _ hw=>qh qD (sw hw)) ?_;rintro _ -;refine a_ ?_;refine Wc hF (fun fT hF=>?_) (fun fT hF=>?_)
 ·obtain rfl:=oi hF;refine a_ ?_;refine W.lr (fn:=Tryz.f127) (vs:=[.pointer none]) Tryz.results127 ⟨.tmp rfl,trivial⟩ (fun _ _ h=>h) (fun wz hw=>?_);exact hR _ _ ⟨(),trivial,abr,(hw.cY 4 [2,3,0] rfl)⟩
 ·obtain⟨dM,yh,hF⟩:=al hF;obtain rfl:=oi hF;refine a_ ?_;refine W.lr (fn:=Tryz.f127) (vs:=[.pointer (some (dr A5 (jw.toNat * (2+1))))]) Tryz.results127 ⟨.tmp rfl,trivial⟩ (fun _ _ h=>h) (fun wz hw=>?_);exact hR _ _ ⟨(),trivial,(aej (ai (yh)).1),(hw.cY 4 [2,3,0] rfl)⟩
def Cz(N:Nat)(x1:Int):Option Int:=bd (α:=(Int×Int)) (cond (decide (65536≤x1)) (some ((kx .u32 x1 16),16)) (some (x1,0))) <| fun(x2,n3)=>bd (α:=(Int×Int)) (cond (decide (256≤x2)) (ck (bB (n3+8)) <| some ((kx .u32 x2 8),(n3+8))) (some (x2,n3))) <| fun(x4,n5)=>bd (sx (⟨#[0,1,2,2,3,3,3,3,4,4,4,4,4,4,4,4,5,5,5,5,5,5,5,5,5,5,5,5,5,5,5,5,6,6,6,6,6,6,6,6,6,6,6,6,6,6,6,6,6,6,6,6,6,6,6,6,6,6,6,6,6,6,6,6,7,7,7,7,7,7,7,7,7,7,7,7,7,7,7,7,7,7,7,7,7,7,7,7,7,7,7,7,7,7,7,7,7,7,7,7,7,7,7,7,7,7,7,7,7,7,7,7,7,7,7,7,7,7,7,7,7,7,7,7,7,7,7,7,8,8,8,8,8,8,8,8,8,8,8,8,8,8,8,8,8,8,8,8,8,8,8,8,8,8,8,8,8,8,8,8,8,8,8,8,8,8,8,8,8,8,8,8,8,8,8,8,8,8,8,8,8,8,8,8,8,8,8,8,8,8,8,8,8,8,8,8,8,8,8,8,8,8,8,8,8,8,8,8,8,8,8,8,8,8,8,8,8,8,8,8,8,8,8,8,8,8,8,8,8,8,8,8,8,8,8,8,8,8,8,8,8,8,8,8,8,8,8,8,8,8,8,8,8,8,8,8]⟩:ByteArray) (IntKind.u8.wrap x4)) fun x7=>ck (bB (n5+(IntKind.i64.wrap x7))) <| some (n5+(IntKind.i64.wrap x7))
theorem GG{N x1 res}(hF:Cz N x1=some res)(w:World):Pure Tryz.prog 188 [.int .u32 x1] w (.int .i64 res):=by
 refine We 19 Tryz.func188 (St.start w) fun R hR=>?_;obtain⟨o2,eK,hF⟩:=al hF;refine b_ ?_;refine W.Ak (fun a b=>[(0,.int .u32 a),(2,.int .i64 b)]) (fun a b=>[]) (fun a b=>(a,b)=o2) (.nil) (fun K3 kU=>?_) ?_
 ·refine a_ ?_;refine Wc eK (fun fT eK=>?_) (fun fT eK=>?_)
  ·refine a_ ?_;exact h2 kU (oi eK)
  ·refine a_ ?_;exact h2 kU (oi eK)
 ·rintro x2 n3 rfl;obtain⟨o8,pQ,hF⟩:=al hF;refine W.Ak (fun a b=>[(0,.int .u32 a),(2,.int .i64 b)]) (fun a b=>[]) (fun a b=>(a,b)=o8) (.nil) (fun K9 Bf=>?_) ?_
  ·refine a_ ?_;refine Wc pQ (fun sB pQ=>?_) (fun sB pQ=>?_)
   ·obtain⟨Aa,pQ⟩:=bx pQ;refine a_ ?_;exact h2 Bf (oi pQ)
   ·refine a_ ?_;exact h2 Bf (oi pQ)
  ·rintro x4 n5 rfl;obtain⟨x7,Tb,hF⟩:=al hF;refine a_ ?_;refine WL.q (Y.Wn Tryz.underlying9 (.pl rfl) (.pl rfl) (Tb)) rfl ?_;obtain⟨hk8,hF⟩:=bx hF;obtain rfl:=oi hF;refine a_ ?_;exact rP
def CA(N:Nat)(x1:Int):Option Int:=bd (α:=(Int×Int)) (cond (decide (4294967296≤x1)) (some ((kx .u64 x1 32),32)) (some (x1,0))) <| fun(x2,n3)=>bd (α:=(Int×Int)) (cond (decide (65536≤x2)) (ck (bB (n3+16)) <| some ((kx .u64 x2 16),(n3+16))) (some (x2,n3))) <| fun(x4,n5)=>bd (α:=(Int×Int)) (cond (decide (256≤x4)) (ck (bB (n5+8)) <| some ((kx .u64 x4 8),(n5+8))) (some (x4,n5))) <| fun(x7,n8)=>bd (sx (⟨#[0,1,2,2,3,3,3,3,4,4,4,4,4,4,4,4,5,5,5,5,5,5,5,5,5,5,5,5,5,5,5,5,6,6,6,6,6,6,6,6,6,6,6,6,6,6,6,6,6,6,6,6,6,6,6,6,6,6,6,6,6,6,6,6,7,7,7,7,7,7,7,7,7,7,7,7,7,7,7,7,7,7,7,7,7,7,7,7,7,7,7,7,7,7,7,7,7,7,7,7,7,7,7,7,7,7,7,7,7,7,7,7,7,7,7,7,7,7,7,7,7,7,7,7,7,7,7,7,8,8,8,8,8,8,8,8,8,8,8,8,8,8,8,8,8,8,8,8,8,8,8,8,8,8,8,8,8,8,8,8,8,8,8,8,8,8,8,8,8,8,8,8,8,8,8,8,8,8,8,8,8,8,8,8,8,8,8,8,8,8,8,8,8,8,8,8,8,8,8,8,8,8,8,8,8,8,8,8,8,8,8,8,8,8,8,8,8,8,8,8,8,8,8,8,8,8,8,8,8,8,8,8,8,8,8,8,8,8,8,8,8,8,8,8,8,8,8,8,8,8,8,8,8,8,8,8]⟩:ByteArray) (IntKind.u8.wrap x7)) fun eW=>ck (bB (n8+(IntKind.i64.wrap eW))) <| some (n8+(IntKind.i64.wrap eW))
theorem GH{N x1 res}(hF:CA N x1=some res)(w:World):Pure Tryz.prog 176 [.int .u64 x1] w (.int .i64 res):=by
 refine We 25 Tryz.func176 (St.start w) fun R hR=>?_;obtain⟨o2,eK,hF⟩:=al hF;refine b_ ?_;refine W.Ak (fun a b=>[(0,.int .u64 a),(2,.int .i64 b)]) (fun a b=>[]) (fun a b=>(a,b)=o2) (.nil) (fun K3 kU=>?_) ?_
 ·refine a_ ?_;refine Wc eK (fun fT eK=>?_) (fun fT eK=>?_)
  ·refine a_ ?_;exact h2 kU (oi eK)
  ·refine a_ ?_;exact h2 kU (oi eK)
 ·rintro x2 n3 rfl;obtain⟨o8,pQ,hF⟩:=al hF;refine W.Ak (fun a b=>[(0,.int .u64 a),(2,.int .i64 b)]) (fun a b=>[]) (fun a b=>(a,b)=o8) (.nil) (fun K9 Bf=>?_) ?_
  ·refine a_ ?_;refine Wc pQ (fun sB pQ=>?_) (fun sB pQ=>?_)
   ·obtain⟨Aa,pQ⟩:=bx pQ;refine a_ ?_;exact h2 Bf (oi pQ)
   ·refine a_ ?_;exact h2 Bf (oi pQ)
  ·rintro x4 n5 rfl;obtain⟨Xj,ef,hF⟩:=al hF;refine W.Ak (fun a b=>[(0,.int .u64 a),(2,.int .i64 b)]) (fun a b=>[]) (fun a b=>(a,b)=Xj) (.nil) (fun Tz uj=>?_) ?_
   ·refine a_ ?_;refine Wc ef (fun qy ef=>?_) (fun qy ef=>?_)
    ·obtain⟨Fv,ef⟩:=bx ef;refine a_ ?_;exact h2 uj (oi ef)
    ·refine a_ ?_;exact h2 uj (oi ef)
   ·rintro x7 n8 rfl;obtain⟨eW,EH,hF⟩:=al hF;refine a_ ?_;refine WL.q (Y.Wn Tryz.underlying9 (.pl rfl) (.pl rfl) (EH)) rfl ?_;obtain⟨zA,hF⟩:=bx hF;obtain rfl:=oi hF;refine a_ ?_;exact rP
def FB(N:Nat)(x1:Int):Option Int:=cond false (bd (Cz N (IntKind.u32.wrap x1)) fun r2=>some r2) (bd (CA N x1) fun r3=>some r3)
theorem I'{N x1 res}(hF:FB N x1=some res)(w:World):Pure Tryz.prog 159 [.int .u64 x1] w (.int .i64 res):=by
 refine We 8 Tryz.func159 (St.start w) fun R hR=>?_;refine a_ ?_;refine Wc hF (fun BF hF=>?_) (fun BF hF=>?_)
 ·obtain⟨r2,hr2,hF⟩:=al hF;refine a_ ?_;refine kP acj (v1 rfl) (fun wz hw=>GG hr2 wz) ?_;obtain rfl:=oi hF;refine a_ ?_;exact rP
 ·obtain⟨r3,Gb,hF⟩:=al hF;refine a_ ?_;refine kP aci (v1 rfl) (fun wz hw=>GH Gb wz) ?_;obtain rfl:=oi hF;refine a_ ?_;exact rP
def Io(N:Nat)(a1:aq)(b2:aq):Option Unit:=ck (bB (a1.n - b2.n)) <| some ()
theorem L6{N a1 b2 res}(hF:Io N a1 b2=some res)(w:World):Pure Tryz.prog 129 [.agg (ay a1).toArray,.agg (ay b2).toArray] w (.int .i64 (a1.n - b2.n)):=by
 refine We 10 Tryz.func129 (St.start w) fun R hR=>?_;refine a_ ?_;refine WL.step (WO.il (.pl rfl) rfl fun b3=>?_);refine WL.step (WO.il (.pl rfl) rfl fun b4=>?_);obtain⟨M_,hF⟩:=bx hF;obtain rfl:=oi hF;refine a_ ?_;exact rP
def kc(N:Nat)(a4:Int):((List aq)×Int)→Option (((List aq)×Int) ⊕(List aq))|(v12,lH)=>bd (α:=Bool) (bd ((cond ((decide (a4 < lH))==true) (ix v12 lH) (some aq.z))) fun dJ=>ck (!((decide (a4 < lH))==true)||(bB (lH - 1))) <| bd ((cond ((decide (a4 < lH))==true) (ix v12 (lH - 1)) (some aq.z))) fun U=>cond ((decide (a4 < lH))==true) (bd (Io N dJ U) fun xu=>some ((decide (a4 < lH))&&(decide ((dJ.n - U.n) < 0)))) (some ((decide (a4 < lH))&&false))) <| fun fB=>cond fB (ck (bB (lH - 1)) <| ck (bB (lH - 1)) <| bd (ix v12 (lH - 1)) fun aG=>bd (ix v12 lH) fun dX=>bd (ix (v12.set lH.toNat aG) (lH - 1)) fun x24=>ck (bB (lH - 1)) <| some (.inl (((v12.set lH.toNat aG).set (lH - 1).toNat dX),(lH - 1)))) (some (.inr v12))
def ke(N:Nat)(b5:Int)(a4:Int):((List aq)×Int)→Option (((List aq)×Int) ⊕(List aq))|(v7,i9)=>cond (decide (i9 < b5)) (bd (α:=(List aq)) (iter (kc N a4) N (v7,i9)) <| fun v10=>ck (bB (i9+1)) <| some (.inl (v10,(i9+1)))) (some (.inr v7))
def lq(N:Nat)(mh:(List aq))(a4:Int)(b5:Int):Option (List aq):=ck (bB (a4+1)) <| bd (α:=(List aq)) (iter (ke N b5 a4) N (mh,(a4+1))) <| fun p=>some p
theorem qi{N mh a4 b5 A1 c2 res}(hF:lq N mh a4 b5=some res){w0 w T}(hw:St w0.heap.size w0 (cR ay 3 A1 c2 236 mh::T) w):Calls Tryz.prog 189 (List.toArray [.slice A1 (mh).length c2,.int .i64 a4,.int .i64 b5,.func (.func 129) #[] #[]]) w (fun e w'=>∃g:Unit,((res).length=(mh).length)∧e= .returned (.tuple #[])∧St w0.heap.size w0 (cR ay 3 A1 c2 236 res::T) w'):=by
 refine We 53 Tryz.func189 hw fun R hR=>?_;obtain⟨Aa,hF⟩:=bx hF;obtain⟨o2,hL2,hF⟩:=al hF;refine a_ ?_;refine W.Od (Em:=fun(v7:(List aq)) (i9:Int)=>[(0,.slice A1 (v7).length c2),(8,.int .i64 i9)]) (M:=fun v7 i9=>(cR ay 3 A1 c2 236 v7::T)) (I:=fun v7 i9 k2=>iter (ke N b5 a4) k2 (v7,i9)=some o2∧(v7).length=(mh).length) mh (a4+1) N (⟨hL2,(by simp)⟩) (.cons rfl (.cons rfl (.nil))) (fY 1 2 3) (fun wz hw=>hw.cY 1 [0] rfl) (fun v7 i9 k2 hI K3 kU=>?_);obtain⟨hI,Nm⟩:=hI;obtain⟨k2,t2,rfl,eK,hN2⟩:=ic hI;refine a_ ?_;refine Wc eK (fun wV eK=>?_) (fun wV eK=>?_)
 ·obtain⟨o7,dA,eK⟩:=al eK;refine b_ ?_;refine W.gh (fun a=>[(0,.slice A1 (a).length c2)]) (fun a=>(cR ay 3 A1 c2 236 a::T)) (fun a=>a=o7∧(a).length=(mh).length) (lE 1 2 3 8) (fun K8 ng=>?_) ?_
  ·refine a_ ?_;refine W.Od (Em:=fun(v12:(List aq)) (lH:Int)=>[(0,.slice A1 (v12).length c2),(9,.int .i64 lH)]) (M:=fun v12 lH=>(cR ay 3 A1 c2 236 v12::T)) (I:=fun v12 lH Kc=>iter (kc N a4) Kc (v12,lH)=some o7∧(v12).length=(mh).length) v7 i9 N (⟨dA,(by simp[Nm])⟩) (.cons rfl (.cons rfl (.nil))) (lE 1 2 3 8) (fun wz hw=>hw.cY 1 [0] rfl) (fun v12 lH Kc hI Ie mG=>?_);obtain⟨hI,Ja⟩:=hI;obtain⟨Kc,t10,rfl,cj,rz⟩:=ic hI;obtain⟨o13,fA,cj⟩:=al cj;refine iS ?_;refine W.gh (fun a=>[(34,.bool a)]) (fun a=>(cR ay 3 A1 c2 236 v12::T)) (fun a=>a=o13) (zX 0 1 2 3 8 9) (fun K14 Ex=>?_) ?_
   ·refine W.rq 16 (by kernel_rfl) ?_;refine Xp 0 rfl (fun _ _=>ym) ?_;refine Xp 1 rfl (fun _ _=>ym) ?_;refine Xp 2 rfl (fun _ _=>yg) ?_;refine Xp 3 rfl (fun _ _=>ym) ?_;refine WX.Cf 4 #[true,true,true,true,true,false,false,false,false,false,false,false,false,false,false,false,false] rfl (by kernel_rfl) (fun _ _=>Yg.g (.pl rfl rfl rfl) (fun hg=>Y.move (.pl rfl))) rfl ?_;refine WX.Cf 5 #[true,true,true,true,true,true,false,false,false,false,false,false,false,false,false,false,false] rfl (by kernel_rfl) (fun _ _=>Yg.g (.pl rfl rfl rfl) (fun hg=>Y.move (.pl rfl))) rfl ?_;refine WX.Cf 6 #[true,true,true,true,true,true,true,false,false,false,false,false,false,false,false,false,false] rfl (by kernel_rfl) (fun _ _=>Yg.g (.pl rfl rfl rfl) (fun hg=>Y.move (.pl rfl))) rfl ?_;obtain⟨dJ,Gn,fA⟩:=al fA;refine WX.JK 7 #[true,true,true,true,true,true,true,true,false,false,false,false,false,false,false,false,false] (fun wz hw=>St.tail [] hw) rfl (by kernel_rfl) (Yg.g (.pl rfl rfl rfl) (fun hg=>Y.mU Tryz.underlying230 lB (i:=0) rfl (.gd (hg) rfl) rfl (.gd (hg) rfl) (ai (fq hg Gn)))) rfl ?_;refine WX.JK 8 #[true,true,true,true,true,true,true,true,true,false,false,false,false,false,false,false,false] (fun wz hw=>St.tail [] hw) rfl (by kernel_rfl) (Yg.g (.pl rfl rfl rfl) (fun hg=>Y.wj (enc:=ay) (ds:=(ay dJ)) (a:=dJ) (idx:=lH) (j:=0) Tryz.underlying236 rfl lB iw (i:=0) rfl (.gd (hg) rfl) (aI (fq hg Gn)) rfl rfl mB)) rfl ?_;refine WX.Cf 9 #[true,true,true,true,true,true,true,true,true,true,false,false,false,false,false,false,false] rfl (by kernel_rfl) (fun _ _=>Yg.g (.pl rfl rfl rfl) (fun hg=>Y.move (.pl rfl))) rfl ?_;refine WX.Cf 10 #[true,true,true,true,true,true,true,true,true,true,true,false,false,false,false,false,false] rfl (by kernel_rfl) (fun _ _=>Yg.g (.pl rfl rfl rfl) (fun hg=>Y.move (.pl rfl))) rfl ?_;obtain⟨LR,fA⟩:=bx fA;refine WX.Cf 11 #[true,true,true,true,true,true,true,true,true,true,true,true,false,false,false,false,false] rfl (by kernel_rfl) (fun _ _=>Yg.g (.pl rfl rfl rfl) (fun hg=>Y.sub (.gd (hg) rfl) (.pl rfl) (nj (gor hg LR)))) rfl ?_;obtain⟨U,aX,fA⟩:=al fA;refine WX.JK 12 #[true,true,true,true,true,true,true,true,true,true,true,true,true,false,false,false,false] (fun wz hw=>St.tail [] hw) rfl (by kernel_rfl) (Yg.g (.pl rfl rfl rfl) (fun hg=>Y.mU Tryz.underlying230 lB (i:=0) rfl (.gd (hg) rfl) rfl (.gd (hg) rfl) (ai (fq hg aX)))) rfl ?_;refine WX.JK 13 #[true,true,true,true,true,true,true,true,true,true,true,true,true,true,false,false,false] (fun wz hw=>St.tail [] hw) rfl (by kernel_rfl) (Yg.g (.pl rfl rfl rfl) (fun hg=>Y.wj (enc:=ay) (ds:=(ay U)) (a:=U) (idx:=(lH - 1)) (j:=0) Tryz.underlying236 rfl lB iw (i:=0) rfl (.gd (hg) rfl) (aI (fq hg aX)) rfl rfl mB)) rfl ?_;refine gq ((decide (a4 < lH))==true) (fun BG=>?_) (fun BG=>?_)
    ·replace fA:=km BG fA;obtain⟨xu,E0,fA⟩:=al fA;refine Xo 14 rfl (WO.gT (.pl rfl rfl rfl) (BG) (WO.Hm (γ:=Unit) (first:=[]) (cap:=[]) (fun g=>.int .i64 (dJ.n - U.n)) (fun g=>(cR ay 3 A1 c2 236 v12::T)) (fun g=>True) acd (.gd (BG) rfl) (.cons (.gd (BG) rfl) (.cons (.gd (BG) rfl) (.nil))) rfl (fun wz hw=>(L6 (E0) wz).calls hw) ?_));rintro _ -;refine WX.Cf 15 #[true,true,true,true,true,true,true,true,true,true,true,true,true,true,true,true,false] rfl (by kernel_rfl) (fun _ _=>Yg.yes (.pl rfl rfl rfl) (BG) (Y.lss (.pl rfl) (.pl rfl))) rfl ?_;refine Xs rfl (WO.q (Y.and (.pl rfl) (fun _=>.pl rfl)) rfl ?_);refine WA.done (by kernel_rfl) ?_;refine a_ ?_;exact h1 Ex (oi fA)
    ·replace fA:=ko BG fA;refine Xo 14 rfl (WO.gN (.pl rfl rfl rfl) BG rfl ?_);refine WX.Cf 15 #[true,true,true,true,true,true,true,true,true,true,true,true,true,true,true,true,false] rfl (by kernel_rfl) (fun _ _=>Yg.no (.pl rfl rfl rfl) BG) rfl ?_;refine Xs rfl (WO.q (Y.and (b:=false) (.pl rfl) (fun h2=>(JM BG h2).elim)) rfl ?_);refine WA.done (by kernel_rfl) ?_;refine a_ ?_;exact h1 Ex (oi fA)
   ·rintro fB rfl;refine Wc cj (fun qy cj=>?_) (fun qy cj=>?_)
    ·refine b_ ?_;refine iS ?_;refine b_ ?_;refine W.dB (fun wz hw=>(hw.iA (i:=0) rfl).2.2) (fun Oo=>?_);refine W.rq 15 (by kernel_rfl) ?_;refine Xp 0 rfl (fun _ _=>ym) ?_;refine Xp 1 rfl (fun _ _=>ym) ?_;refine Xp 2 rfl (fun _ _=>ym) ?_;refine Xp 3 rfl (fun _ _=>ym) ?_;obtain⟨wu,cj⟩:=bx cj;refine Xp 4 rfl (fun _ _=>Y.sub (.pl rfl) (.pl rfl) (nj (wu))) ?_;refine Xp 5 rfl (fun _ _=>ym) ?_;refine Xp 6 rfl (fun _ _=>ym) ?_;obtain⟨xV,cj⟩:=bx cj;refine Xp 7 rfl (fun _ _=>Y.sub (.pl rfl) (.pl rfl) (nj (xV))) ?_;obtain⟨aG,dt,cj⟩:=al cj;refine Xp 8 rfl (fun _ _=>Y.UJ (xs:=v12) Tryz.underlying230 lB Oo (.pl rfl) rfl (.pl rfl) (ai (dt))) ?_;refine Xt 9 rfl (Y.wj (enc:=ay) (ds:=(ay aG)) (a:=aG) (idx:=(lH - 1)) (j:=0) Tryz.underlying236 rfl lB iw (i:=0) rfl (.pl rfl) (aI (dt)) rfl rfl mB) ?_;refine Xp 10 rfl (fun _ _=>ym) ?_;refine Xp 11 rfl (fun _ _=>ym) ?_;obtain⟨dX,ru,cj⟩:=al cj;refine Xp 12 rfl (fun _ _=>Y.UJ (xs:=v12) Tryz.underlying230 lB Oo (.pl rfl) rfl (.pl rfl) (ai (ru))) ?_;refine Xt 13 rfl (Y.wj (enc:=ay) (ds:=(ay dX)) (a:=dX) (idx:=lH) (j:=0) Tryz.underlying236 rfl lB iw (i:=0) rfl (.pl rfl) (aI (ru)) rfl rfl mB) ?_;refine Xp 14 rfl (fun _ _=>Y.UJ (xs:=v12) Tryz.underlying230 lB Oo (.pl rfl) rfl (.pl rfl) (ai (ru))) ?_;refine Xs rfl (WO.ST (enc:=ay) (a':=aG) (idx:=lH) lB (.pl rfl) (.pl rfl) iw rfl (sM _) (i:=0) rfl (ai (ru)) rfl ?_);obtain⟨x24,u7,cj⟩:=al cj;refine WA.take 16 #[true,true,true,true,true,true,true,true,true,true,true,true,true,true,true,true,true,false] rfl (by kernel_rfl) (fun _ _=>Y.UJ (xs:=(v12.set lH.toNat aG)) Tryz.underlying230 lB (by simpa only[List.length_set,Nm,Ja]using Oo) (.pl rfl) (by simp[Nm,Ja]) (.pl rfl) (ai (u7))) rfl ?_;refine WA.branch [17] (by kernel_rfl) ⟨?_,trivial⟩;refine WI.step #[true,true,true,true,true,true,true,true,true,true,true,true,true,true,true,true,true,true] rfl rfl (WO.ST (enc:=ay) (a':=dX) (idx:=(lH - 1)) lB (.pl rfl) (.pl rfl) iw rfl (sM _) (i:=0) rfl (ai (u7)) rfl ?_);refine WA.done (by kernel_rfl) ?_;obtain⟨ui,cj⟩:=bx cj;obtain rfl:=oi cj;refine a_ ?_;exact⟨W.OT mG ((v12.set lH.toNat aG).set (lH - 1).toNat dX) (lH - 1) Kc ⟨rz,(by simp[Nm,Ja])⟩ nl (.cons (UL (by simp[Nm,Ja])) (.cons rfl (.nil))) kr (fun wz hw=>hw.cY 1 [0] rfl)⟩
    ·obtain rfl:=oi cj;refine a_ ?_;exact h1 ng (⟨fy rz,(by simp[Nm,Ja])⟩)
  ·rintro v10 ⟨rfl,aiY⟩;obtain⟨BA,eK⟩:=bx eK;obtain rfl:=oi eK;refine a_ ?_;exact⟨W.OT kU v10 (i9+1) k2 ⟨hN2,(by simp[Nm,aiY])⟩ nl kr kr (fun wz hw=>hw.cY 1 [0] rfl)⟩
 ·obtain rfl:=oi eK;obtain rfl:=fy hN2;obtain rfl:=oi hF;refine a_ ?_;refine⟨W.fI (fn:=Tryz.f189) (vs:=[]) Tryz.results189 trivial (fun _ _ h=>h) (fun wz hw=>?_)⟩;exact hR _ _ ⟨(),(by simp[Nm]),rfl,(hw.cY 1 [0] rfl)⟩
def tc(N:Nat)(b5:Int)(a4:Int)(mh:(List aq)):Unit→Option (Unit ⊕(List aq))|_=>ck (bB (b5 - a4)) <| cond (decide ((b5 - a4)≤12)) (bd (lq N mh a4 b5) fun r8=>some (.inr r8)) (none)
def nW(N:Nat)(mh:(List aq))(a4:Int)(b5:Int)(Qz:Int):Option (List aq):=bd (α:=(List aq)) (iter (tc N b5 a4 mh) N ()) <| fun p=>some p
theorem tf{N mh a4 b5 Qz A1 c2 res}(hF:nW N mh a4 b5 Qz=some res){w0 w T}(hw:St w0.heap.size w0 (cR ay 3 A1 c2 236 mh::T) w):Calls Tryz.prog 162 (List.toArray [.slice A1 (mh).length c2,.int .i64 a4,.int .i64 b5,.int .i64 Qz,.func (.func 129) #[] #[]]) w (fun e w'=>∃g:Unit,((res).length=(mh).length)∧e= .returned (.tuple #[])∧St w0.heap.size w0 (cR ay 3 A1 c2 236 res::T) w'):=by
 refine We 148 Tryz.func162 hw fun R hR=>?_;obtain⟨o3,hL3,hF⟩:=al hF;refine a_ ?_;refine aio hL3 [] ((cR ay 3 A1 c2 236 mh::T)) (O8 0 1 2 3 4 10 11) fun k3 t3 ff hN3 K4 mb=>?_;obtain⟨hk7,ff⟩:=bx ff;refine a_ ?_;refine Wc ff (fun yV ff=>?_) (fun yV ff=>?_)
 ·obtain⟨r8,sy,ff⟩:=al ff;refine a_ ?_;refine kC ack (v4 rfl rfl rfl rfl) (fun _ hw=>qi sy (sw hw)) ?_;rintro _ hl9;obtain rfl:=oi ff;obtain rfl:=fy hN3;obtain rfl:=oi hF;refine a_ ?_;refine W.lr (fn:=Tryz.f162) (vs:=[]) Tryz.results162 trivial (fun _ _ h=>h) (fun wz hw=>?_);exact hR _ _ ⟨(),(by simp[hl9]),rfl,(hw.cY 1 [0] rfl)⟩
 ·refine a_ ?_;exact nomatch ff
def lI(N:Nat)(x3:(List aq)):Option (List aq):=bd (FB N (IntKind.u64.wrap ((x3).length:Int))) fun r4=>bd (nW N x3 0 ((x3).length:Int) r4) fun r5=>some r5
theorem qK{N x3 A1 c2 res}(hF:lI N x3=some res){w0 w T}(hw:St w0.heap.size w0 (cR ay 3 A1 c2 236 x3::T) w):Calls Tryz.prog 128 (List.toArray [.slice A1 (x3).length c2,.func (.func 129) #[] #[]]) w (fun e w'=>∃g:Unit,((res).length=(x3).length)∧e= .returned (.tuple #[])∧St w0.heap.size w0 (cR ay 3 A1 c2 236 res::T) w'):=by
 refine We 14 Tryz.func128 hw fun R hR=>?_;obtain⟨r4,Pr,hF⟩:=al hF;refine a_ ?_;refine kP ace (v1 rfl) (fun wz hw=>I' Pr wz) ?_;obtain⟨r5,hr5,hF⟩:=al hF;refine a_ ?_;refine kC ach (v5 rfl rfl rfl rfl rfl) (fun _ hw=>tf hr5 (sw hw)) ?_;rintro _ hl6;obtain rfl:=oi hF;refine a_ ?_;refine⟨W.fI (fn:=Tryz.f128) (vs:=[]) Tryz.results128 trivial (fun _ _ h=>h) (fun wz hw=>?_)⟩;exact hR _ _ ⟨(),(by simp[hl6]),rfl,(hw.cY 1 [0] rfl)⟩
def QA(N:Nat)(r7:((List Call)×Int×Int)):((List aq)×Int)→Option (((List aq)×Int) ⊕((List aq) ⊕(Bool×(List Call)×(List aq)×Int)))|(jl,v17)=>cond (decide (v17 < ((r7.1).length:Int))) (bd (ix r7.1 v17) fun U=>cond ((decide (U.kind=4))&&(decide (U.aY=(-1)))) (some (.inr (.inr (false,[],[],6)))) (bd (α:=Bool) (cond ((decide (U.kind=3))==true) (bd (iy N r7.1 jl U.arg) fun uy=>some ((decide (U.kind=3))&&(!(decide (uy < 0))))) (some ((decide (U.kind=3))&&false))) <| fun v20=>cond v20 (some (.inr (.inr (false,[],[],6)))) (cond (decide (U.kind=3)) (ck (eY 24 ((jl).length+(([(aq.mk U.arg v17 (-1))]:List aq)).length)) <| ck (bB (v17+1)) <| some (.inl ((jl++([(aq.mk U.arg v17 (-1))]:List aq)),(v17+1)))) (ck (bB (v17+1)) <| some (.inl (jl,(v17+1))))))) (some (.inr (.inl jl)))
def QB(N:Nat)(r7:((List Call)×Int×Int)):((List aq)×Int)→Option (((List aq)×Int) ⊕(List aq))|(fW,v32)=>cond (decide (v32 < ((r7.1).length:Int))) (bd (ix r7.1 v32) fun vO=>bd (iy N r7.1 fW vO.res) fun mc=>bd ((cond (((decide (vO.kind=4))&&(!(decide (mc < 0))))==true) (ix fW mc) (some aq.z))) fun Kz=>cond (((decide (vO.kind=4))&&(!(decide (mc < 0))))&&(decide (Kz.lG < 0))) (bd (ix fW mc) fun BB=>ck (bB (v32+1)) <| some (.inl ((fW.set mc.toNat (aq.mk BB.n BB.oJ v32)),(v32+1)))) (ck (bB (v32+1)) <| some (.inl (fW,(v32+1))))) (some (.inr fW))
def ah5(N:Nat)(l1:(List Event)):Option (Bool×(List Call)×(List aq)×Int):=bd (cB N ([2]:List Int) l1) fun r7=>cond (!(decide (r7.2.2=0))) (some (false,[],[],r7.2.2)) (bd (α:=((List aq) ⊕(Bool×(List Call)×(List aq)×Int))) (iter (QA N r7) N ([],0)) <| Sum.elim (fun BH=>bd (lI N BH) fun rR=>bd (α:=(List aq)) (iter (QB N r7) N (rR,0)) <| fun E1=>some (true,r7.1,E1,0)) (fun p=>some p))
end Go.Proofs.YtjdkkabcenohcaaGreatDoor
set_option linter.unusedVariables false
set_option linter.defProp false
set_option linter.unusedSimpArgs false
set_option linter.unusedSectionVars false
set_option maxRecDepth 100000
namespace Go.Proofs.YtjdkkabcenohcaaGreatDoor
open Go.RowKit
attribute [local irreducible] Yd aD ik
def afh:Go.Shelf.Ren:=⟨fun x=>match x with|6=>128|14=>162|15=>159|20=>189|21=>190|22=>191|23=>192|24=>193|25=>194|26=>195|27=>196|28=>188|29=>176|46=>210|47=>206|48=>207|49=>211|50=>212|57=>225|n=>n,fun x=>match x with|0=>0|3=>3|4=>4|5=>5|9=>9|22=>230|24=>236|25=>238|39=>176|45=>288|46=>289|50=>158|53=>255|55=>263|66=>312|70=>316|76=>331|77=>332|n=>n,fun x=>x⟩
theorem acl:SlLaysF0.n6 Tryz.prog afh where
 mixed:=by kernel_rfl
 f6:=⟨Tryz.f128.name,by kernel_rfl,Tryz.func128.trans (congrArg some (by kernel_rfl))⟩
 f14:=⟨Tryz.f162.name,by kernel_rfl,Tryz.func162.trans (congrArg some (by kernel_rfl))⟩
 f15:=Tryz.func159.trans (congrArg some (by kernel_rfl))
 f20:=⟨Tryz.f189.name,by kernel_rfl,Tryz.func189.trans (congrArg some (by kernel_rfl))⟩
 f21:=⟨Tryz.f190.name,by kernel_rfl,Tryz.func190.trans (congrArg some (by kernel_rfl))⟩
 f22:=⟨Tryz.f191.name,by kernel_rfl,Tryz.func191.trans (congrArg some (by kernel_rfl))⟩
 f23:=⟨Tryz.f192.name,by kernel_rfl,Tryz.func192.trans (congrArg some (by kernel_rfl))⟩
 f24:=⟨Tryz.f193.name,by kernel_rfl,Tryz.func193.trans (congrArg some (by kernel_rfl))⟩
 f25:=⟨Tryz.f194.name,by kernel_rfl,Tryz.func194.trans (congrArg some (by kernel_rfl))⟩
 f26:=⟨Tryz.f195.name,by kernel_rfl,Tryz.func195.trans (congrArg some (by kernel_rfl))⟩
 f27:=⟨Tryz.f196.name,by kernel_rfl,Tryz.func196.trans (congrArg some (by kernel_rfl))⟩
 f28:=Tryz.func188.trans (congrArg some (by kernel_rfl))
 f29:=Tryz.func176.trans (congrArg some (by kernel_rfl))
 f46:=⟨Tryz.f210.name,by kernel_rfl,Tryz.func210.trans (congrArg some (by kernel_rfl))⟩
 f47:=Tryz.func206.trans (congrArg some (by kernel_rfl))
 f48:=Tryz.func207.trans (congrArg some (by kernel_rfl))
 f49:=⟨Tryz.f211.name,by kernel_rfl,Tryz.func211.trans (congrArg some (by kernel_rfl))⟩
 f50:=⟨Tryz.f212.name,by kernel_rfl,Tryz.func212.trans (congrArg some (by kernel_rfl))⟩
 f57:=⟨Tryz.f225.name,by kernel_rfl,Tryz.func225.trans (congrArg some (by kernel_rfl))⟩
 t0:=Tryz.underlying0
 a0:=Tryz.isAgg0
 z0:=Tryz.sizeOf0
 v0:=Tryz.zeroValue0
 t3:=Tryz.underlying3
 a3:=Tryz.isAgg3
 z3:=Tryz.sizeOf3
 v3:=Tryz.zeroValue3
 t4:=Tryz.underlying4
 a4:=Tryz.isAgg4
 z4:=Tryz.sizeOf4
 v4:=Tryz.zeroValue4
 t5:=Tryz.underlying5
 a5:=Tryz.isAgg5
 z5:=Tryz.sizeOf5
 v5:=Tryz.zeroValue5
 t9:=Tryz.underlying9
 a9:=Tryz.isAgg9
 z9:=Tryz.sizeOf9
 v9:=Tryz.zeroValue9
 t22:=Tryz.underlying230
 a22:=Tryz.isAgg230
 z22:=Tryz.sizeOf230
 v22:=Tryz.zeroValue230
 t25:=Tryz.underlying238
 a25:=Tryz.isAgg238
 z25:=Tryz.sizeOf238
 v25:=Tryz.zeroValue238
 t39:=Tryz.underlying176
 a39:=Tryz.isAgg176
 z39:=Tryz.sizeOf176
 v39:=Tryz.zeroValue176
 t45:=Tryz.underlying288
 a45:=Tryz.isAgg288
 z45:=Tryz.sizeOf288
 v45:=Tryz.zeroValue288
 t46:=Tryz.underlying289
 a46:=Tryz.isAgg289
 z46:=Tryz.sizeOf289
 v46:=Tryz.zeroValue289
 t50:=Tryz.underlying158
 a50:=Tryz.isAgg158
 z50:=Tryz.sizeOf158
 v50:=Tryz.zeroValue158
 t53:=Tryz.underlying255
 a53:=Tryz.isAgg255
 z53:=Tryz.sizeOf255
 v53:=Tryz.zeroValue255
 t55:=Tryz.underlying263
 a55:=Tryz.isAgg263
 z55:=Tryz.sizeOf263
 v55:=Tryz.zeroValue263
 t66:=Tryz.underlying312
 a66:=Tryz.isAgg312
 z66:=Tryz.sizeOf312
 v66:=Tryz.zeroValue312
 t70:=Tryz.underlying316
 a70:=Tryz.isAgg316
 z70:=Tryz.sizeOf316
 v70:=Tryz.zeroValue316
 t76:=Tryz.underlying331
 a76:=Tryz.isAgg331
 z76:=Tryz.sizeOf331
 v76:=Tryz.zeroValue331
 t77:=Tryz.underlying332
 a77:=Tryz.isAgg332
 z77:=Tryz.sizeOf332
 v77:=Tryz.zeroValue332
def sN:aq→Bool:=fun x=>decide (-4611686018427387904≤x.n∧x.n≤4611686018427387903)
instance:Inhabited (iu sN):=⟨⟨aq.z,rfl⟩⟩
abbrev BI:aq→aq→Int:=fun a b=>a.n - b.n
theorem Ip:Go.Sort.SWO (ltOf fun a b:iu sN=>BI a.1 b.1):=by
 refine⟨fun x=>?_,fun x y z h1 h2=>?_,fun x y z h1 h2=>?_⟩
 ·exact decide_eq_false (by show ¬x.1.n - x.1.n < 0;omega)
 ·have h1:x.1.n - y.1.n < 0:=of_decide_eq_true h1
  have h2:y.1.n - z.1.n < 0:=of_decide_eq_true h2
  exact decide_eq_true (by show x.1.n - z.1.n < 0;omega)
 ·have h1: ¬x.1.n - y.1.n < 0:=of_decide_eq_false h1
  have h2: ¬y.1.n - z.1.n < 0:=of_decide_eq_false h2
  exact decide_eq_false (by show ¬x.1.n - z.1.n < 0;omega)
theorem SB(x y:aq)(hx:sN x=true)(hy:sN y=true)(W:World):Calls Tryz.prog 129 #[.agg (ay x).toArray,.agg (ay y).toArray] W fun e w'=>e= .returned (.int .i64 (BI x y))∧∃q os',w'=Go.Sort.grow (W.drewN q) os':=by
 have hx:=of_decide_eq_true hx
 have hy:=of_decide_eq_true hy
 have hwr:IntKind.i64.wrap (x.n - y.n)=x.n - y.n:=by simp[IntKind.wrap,IntKind.bits,IntKind.signed];omega
 obtain⟨a,b,c⟩:=x
 obtain⟨a2,b2,c2⟩:=y
 show Calls Tryz.prog 129 #[.agg #[.int .i64 a,.int .i64 b,.int .i64 c],.agg #[.int .i64 a2,.int .i64 b2,.int .i64 c2]] W _
 go_enter Tryz.func129,Tryz.ntmps129
 go_wp2
 go_ret
 exact⟨rfl,0,_,by rw[Go.Sort.alloc_eq_grow,Go.Sort.alloc_eq_grow,Go.Sort.grow_grow];rfl⟩
def L7(N:Nat)(xs:List aq):Option (List aq):=Cv sN BI xs
theorem Vq{N:Nat}{mN:(List aq)}{nG:Option Addr}{lP:Nat}{res:(List aq)}(hF:L7 N mN=some res){w0 w:World}{T:List Chunk}(hw:St w0.heap.size w0 (cR ay 3 nG lP 236 mN::T) w):
  Calls Tryz.prog 128 (List.toArray [.slice nG (mN).length lP,.func (.func 129) #[] #[]]) w (fun e w'=>∃g:Unit,((res).length=(mN).length)∧e= .returned (.tuple #[])∧St w0.heap.size w0 (cR ay 3 nG lP 236 res::T) w'):=
 Vf acl Tryz.isAgg236 Tryz.sizeOf236 iw sM Ip (enters_of Tryz.func129 (by kernel_rfl) rfl) SB (fun cap A _ _ _ hw=>((qK (N:=100) (x3:=[]) (by kernel_rfl) hw).mono fun _ _ ⟨_,_,h1,h2⟩=>⟨h1,h2⟩)) hF hw
def pX(N:Nat)(r7:((List Call)×Int×Int)):((List aq)×Int)→Option (((List aq)×Int) ⊕((List aq) ⊕(Bool×(List Call)×(List aq)×Int)))|(jl,v17)=>cond (decide (v17 < ((r7.1).length:Int))) (bd (ix r7.1 v17) fun U=>cond ((decide (U.kind=4))&&(decide (U.aY=(-1)))) (some (.inr (.inr (false,[],[],6)))) (bd (α:=Bool) (cond ((decide (U.kind=3))==true) (bd (iy N r7.1 jl U.arg) fun uy=>some ((decide (U.kind=3))&&(!(decide (uy < 0))))) (some ((decide (U.kind=3))&&false))) <| fun v20=>cond v20 (some (.inr (.inr (false,[],[],6)))) (cond (decide (U.kind=3)) (ck (eY 24 ((jl).length+(([(aq.mk U.arg v17 (-1))]:List aq)).length)) <| ck (bB (v17+1)) <| some (.inl ((jl++([(aq.mk U.arg v17 (-1))]:List aq)),(v17+1)))) (ck (bB (v17+1)) <| some (.inl (jl,(v17+1))))))) (some (.inr (.inl jl)))
def pY(N:Nat)(r7:((List Call)×Int×Int)):((List aq)×Int)→Option (((List aq)×Int) ⊕(List aq))|(fW,v32)=>cond (decide (v32 < ((r7.1).length:Int))) (bd (ix r7.1 v32) fun vO=>bd (iy N r7.1 fW vO.res) fun mc=>bd ((cond (((decide (vO.kind=4))&&(!(decide (mc < 0))))==true) (ix fW mc) (some aq.z))) fun Kz=>cond (((decide (vO.kind=4))&&(!(decide (mc < 0))))&&(decide (Kz.lG < 0))) (bd (ix fW mc) fun BB=>ck (bB (v32+1)) <| some (.inl ((fW.set mc.toNat (aq.mk BB.n BB.oJ v32)),(v32+1)))) (ck (bB (v32+1)) <| some (.inl (fW,(v32+1))))) (some (.inr fW))
def ni(N:Nat)(l1:(List Event)):Option (Bool×(List Call)×(List aq)×Int):=bd (cB N ([2]:List Int) l1) fun r7=>cond (!(decide (r7.2.2=0))) (some (false,[],[],r7.2.2)) (bd (α:=((List aq) ⊕(Bool×(List Call)×(List aq)×Int))) (iter (pX N r7) N ([],0)) <| Sum.elim (fun BH=>bd (L7 N BH) fun rR=>bd (α:=(List aq)) (iter (pY N r7) N (rR,0)) <| fun E1=>some (true,r7.1,E1,0)) (fun p=>some p))
theorem L8{N l1 res}(hF:ni N l1=some res)(w:World){v5}(hs4:bi az 4 w v5 l1):Made Tryz.prog 91 [v5] w (fun g:(Option Nat×Option Addr×Nat×Option Addr×Nat)=>.tuple #[.pointer (ptO g.1),.int .i64 res.2.2.2]) (fun g=>[cBo g.1 232 (Value.slice g.2.1 (res.2.1).length g.2.2.1::(Value.slice g.2.2.2.1 (res.2.2.1).length g.2.2.2.2::[])),cR aC 7 g.2.1 g.2.2.1 162 res.2.1,cR ay 3 g.2.2.2.1 g.2.2.2.2 236 res.2.2.1]) (fun g=>res.1=(g.1).isSome):=by
 obtain⟨A2,c3,rfl,jy,hs4⟩:=hs4.form;refine We 107 Tryz.func91 (St.start w) fun R hR=>?_;refine a_ ?_;refine WL.step (WO.cC (enc:=(eI .i64)) (ys:=([2]:List Int)) Tryz.underlying29 ut (.cons (.pl rfl) (.nil)) rfl (fun _=>rfl) rfl rfl (by decide) (by decide) rfl fun b6=>?_);obtain⟨r7,Bi,hF⟩:=al hF;refine a_ ?_;refine kM yT (v2 rfl rfl) (fun wz hw=>jj Bi wz (so hw) (hs4.mono hw)) ?_;rintro⟨A8,c9⟩ -;refine a_ ?_;refine Wc hF (fun fT hF=>?_) (fun fT hF=>?_)
 ·obtain rfl:=oi hF;refine a_ ?_;refine W.lr (fn:=Tryz.f91) (vs:=[.pointer none,.int .i64 r7.2.2]) Tryz.results91 ⟨.tmp rfl,⟨.tmp rfl,trivial⟩⟩ (fun _ _ h=>h) (fun wz hw=>?_);exact hR _ _ ⟨(none,none,0,none,0),rfl,rfl,((St.qp (St.qp (St.UR (hw.pick [] rfl) 232 (Value.slice none 0 0::(Value.slice none 0 0::[]))) aC 7 162) ay 3 236).pick [2,1,0] rfl)⟩
 ·refine a_ ?_;refine WL.q (Y.build (cs:=(Value.slice A8 (r7.1).length c9::(Value.slice none 0 0::[])).toArray) Zl (.cons (.pl rfl) (.nil)) (bH ⟨rfl,trivial⟩) rfl) rfl ?_;refine WL.step (WO.il (.pl rfl) rfl fun qW=>?_);obtain⟨o8,pQ,hF⟩:=al hF;refine b_ ?_;refine W.pF (fun a b c=>[]) (fun a b c=>[cR aC 7 A8 c9 162 r7.1,aw qW 232 (Value.slice A8 (r7.1).length c9::(Value.slice b (a).length c::[])),cR ay 3 b c 236 a]) (fun a b c=>(.inl a)=o8) (m_ 4 7) (fun K9 Bf=>?_) ?_
  ·refine a_ ?_;refine Ba pQ (fun a b c d=>[(28,.int .i64 b)]) (fun a b c d=>[cR aC 7 A8 c9 162 r7.1,aw qW 232 (Value.slice A8 (r7.1).length c9::(Value.slice c (a).length d::[])),cR ay 3 c d 236 a]) (lE 4 7 26 27) fun jl v17 rM c15 k11 t11 bk pg zZ gr=>?_;refine a_ ?_;refine Wc bk (fun pi bk=>?_) (fun pi bk=>?_)
   ·obtain⟨U,aX,bk⟩:=al bk;refine a_ ?_;refine mA fun eL=>?_;refine a_ ?_;refine Wc bk (fun sC bk=>?_) (fun sC bk=>?_)
    ·obtain rfl:=oi bk;obtain rfl:=fy pg;obtain rfl:=oi hF;refine a_ ?_;refine W.lr (fn:=Tryz.f91) (vs:=[.pointer none,.int .i64 6]) Tryz.results91 ⟨.tmp rfl,⟨.tmp rfl,trivial⟩⟩ (fun _ _ h=>h) (fun wz hw=>?_);exact hR _ _ ⟨(none,none,0,none,0),rfl,rfl,((St.qp (St.qp (St.UR (hw.pick [] rfl) 232 (Value.slice none 0 0::(Value.slice none 0 0::[]))) aC 7 162) ay 3 236).pick [2,1,0] rfl)⟩
    ·obtain⟨o21,dF,bk⟩:=al bk;refine W.gh (fun a=>[(42,.bool a)]) (fun a=>[cR aC 7 A8 c9 162 r7.1,aw qW 232 (Value.slice A8 (r7.1).length c9::(Value.slice rM (jl).length c15::[])),cR ay 3 rM c15 236 jl,aw eL 162 (aC U)]) (fun a=>a=o21) (O8 4 7 8 9 26 27 28) (fun K22 ww=>?_) ?_
     ·refine a_ ?_;refine gq ((decide (U.kind=3))==true) (fun C7=>?_) (fun C7=>?_)
      ·replace dF:=km C7 dF;refine WL.gd (.pl rfl rfl rfl) (C7) ?_;obtain⟨uy,Bt,dF⟩:=al dF;refine WL.step (WO.call (γ:=Unit) (fun g=>.pointer (Ds rM uy 3)) (fun g=>[aw qW 232 (Value.slice A8 (r7.1).length c9::(Value.slice rM (jl).length c15::[])),cR aC 7 A8 c9 162 r7.1,cR ay 3 rM c15 236 jl,aw eL 162 (aC U)]) (fun g=>True) DM (.cons (.gd (C7) rfl) (.cons (.gd (C7) rfl) (.nil))) rfl (fun wz hw=>nV (T:=[aw eL 162 (aC U)]) (Bt) (hw.pick [2,1,3,0] rfl)) ?_);rintro _ -;refine WL.gd (.pl rfl rfl rfl) (C7) ?_;refine WL.q (Y.aek Tryz.underlying233 (.pl rfl)) rfl ?_;refine a_ ?_;exact h1 ww (oi dF)
      ·replace dF:=ko C7 dF;refine WL.gn (.pl rfl rfl rfl) C7 rfl ?_;refine WL.gn (.pl rfl rfl rfl) C7 rfl ?_;refine WL.q (Y.and (b:=false) (.pl rfl) (fun h2=>(JM C7 h2).elim)) rfl ?_;refine a_ ?_;exact h1 ww (oi dF)
     ·rintro v20 rfl;refine Wc bk (fun Pz bk=>?_) (fun Pz bk=>?_)
      ·obtain rfl:=oi bk;obtain rfl:=fy pg;obtain rfl:=oi hF;refine a_ ?_;refine W.lr (fn:=Tryz.f91) (vs:=[.pointer none,.int .i64 6]) Tryz.results91 ⟨.tmp rfl,⟨.tmp rfl,trivial⟩⟩ (fun _ _ h=>h) (fun wz hw=>?_);exact hR _ _ ⟨(none,none,0,none,0),rfl,rfl,((St.qp (St.qp (St.UR (hw.pick [] rfl) 232 (Value.slice none 0 0::(Value.slice none 0 0::[]))) aC 7 162) ay 3 236).pick [2,1,0] rfl)⟩
      ·refine a_ ?_;refine Wc bk (fun IM bk=>?_) (fun IM bk=>?_)
       ·refine W.rq 10 (by kernel_rfl) ?_;refine Xp 0 rfl (fun _ _=>ym) ?_;refine Xp 1 rfl (fun _ _=>ym) ?_;refine Xp 2 rfl (fun _ _=>yc) ?_;refine Xp 3 rfl (fun _ _=>yf) ?_;refine Xt 4 rfl (rK) ?_;refine Xp 5 rfl (fun _ _=>yf) ?_;refine Xt 6 rfl (yb3) ?_;refine Xp 7 rfl (fun _ _=>ym) ?_;refine Xp 8 rfl (fun _ _=>Y.build (cs:=(ay (aq.mk U.arg v17 (-1))).toArray) Zm (.cons (.pl rfl) (.cons (.pl rfl) (.cons (.pl rfl) (.nil)))) (bH ⟨rfl,⟨rfl,⟨rfl,trivial⟩⟩⟩) rfl) ?_;refine Xo 9 rfl (WO.cC (enc:=ay) (ys:=([(aq.mk U.arg v17 (-1))]:List aq)) Tryz.underlying230 ahr (.cons (.pl rfl) (.nil)) rfl iw rfl rfl (by decide) (by decide) rfl fun b22=>?_);obtain⟨ui,bk⟩:=bx bk;refine Xs rfl (WO.fH (enc:=ay) Tryz.underlying230 ahs iw sM (.pl rfl) rfl (.pl rfl) (i:=3) rfl (m2:=0) rfl (ui) rfl fun z6 c24=>?_) (fun _ hw=>St.tail [_] hw);refine WA.take 11 #[true,true,true,true,true,true,true,true,true,true,true,true,false,false] rfl (by kernel_rfl) (fun _ _=>Y.nilCheck (.pl rfl)) rfl ?_;refine WA.take 12 #[true,true,true,true,true,true,true,true,true,true,true,true,true,false] rfl (by kernel_rfl) (fun _ _=>Y.dQ (off:=1) (ft:=230) Tryz.underlying232 rfl I_ (.pl rfl)) rfl ?_;refine WA.branch [13] (by kernel_rfl) ⟨?_,trivial⟩;refine WI.step #[true,true,true,true,true,true,true,true,true,true,true,true,true,true] rfl rfl (WO.dC (cs':=(Value.slice A8 (r7.1).length c9::(Value.slice z6 ((jl++([(aq.mk U.arg v17 (-1))]:List aq))).length c24::[]))) I_ (.pl rfl) (.pl rfl) rfl (i:=2) rfl (iQ (m:=2) (by decide) rfl) (rfl) ?_);refine WA.done (by kernel_rfl) ?_;obtain⟨BA,bk⟩:=bx bk;refine a_ ?_;exact g4 gr (oj bk pg)
       ·obtain⟨Ge,bk⟩:=bx bk;refine a_ ?_;exact g4 gr (oj bk pg)
   ·refine a_ ?_;exact h3 Bf (oj bk pg)
  ·rintro BH cg c12 rfl;obtain⟨rR,IX,hF⟩:=al hF;refine a_ ?_;refine kC acc (v2 rfl rfl) (fun _ hw=>Vq IX (sw hw)) ?_;rintro _ L9;obtain⟨o32,wU,hF⟩:=al hF;refine b_ ?_;refine W.gh (fun a=>[]) (fun a=>[aw qW 232 (Value.slice A8 (r7.1).length c9::(Value.slice cg (a).length c12::[])),cR aC 7 A8 c9 162 r7.1,cR ay 3 cg c12 236 a]) (fun a=>a=o32) (mM 7) (fun K33 Qw=>?_) ?_
   ·refine a_ ?_;refine W.Od (Em:=fun(fW:(List aq)) (v32:Int)=>[(78,.int .i64 v32)]) (M:=fun fW v32=>[aw qW 232 (Value.slice A8 (r7.1).length c9::(Value.slice cg (fW).length c12::[])),cR aC 7 A8 c9 162 r7.1,cR ay 3 cg c12 236 fW]) (I:=fun fW v32 QC=>iter (pY N r7) QC (fW,v32)=some o32) rR 0 N (wU) (.cons rfl (.nil)) (fY 7 76 77) (fun wz hw=>St.dZ (L:=[aw qW 232 (Value.slice A8 (r7.1).length c9::(Value.slice cg (BH).length c12::[])),cR aC 7 A8 c9 162 r7.1,cR ay 3 cg c12 236 rR]) (hw.pick [2,1,0] rfl) (by simp only[List.length_set,List.nil_append,List.cons_append,L9])) (fun fW v32 QC hI K36 C6=>?_);obtain⟨QC,t35,rfl,cU,vi⟩:=ic hI;refine a_ ?_;refine Wc cU (fun Bn cU=>?_) (fun Bn cU=>?_)
    ·obtain⟨vO,C8,cU⟩:=al cU;refine a_ ?_;refine mA fun b34=>?_;obtain⟨mc,IY,cU⟩:=al cU;refine a_ ?_;refine kC DM (v2 rfl rfl) (fun _ hw=>nV IY (sw hw)) ?_;rintro _ -;refine a_ ?_;refine WL.g (.pl rfl rfl rfl) (fun hg=>Y.aek Tryz.underlying233 (.gd (hg) rfl)) rfl ?_;obtain⟨Kz,Vs,cU⟩:=al cU;refine a_ ?_;refine WL.g (.pl rfl rfl rfl) (fun hg=>Y.vE (ai (fq hg Vs)).1 (.gd (hg) rfl)) rfl ?_;refine a_ ?_;refine Wc cU (fun aiZ cU=>?_) (fun aiZ cU=>?_)
     ·obtain⟨BB,Vl,cU⟩:=al cU;refine a_ ?_;refine WL.q (Y.vE (ai (Vl)).1 (.pl rfl)) rfl ?_;refine a_ ?_;refine WL.step (WO.AU (enc:=ay) (a:=BB) (a':=(aq.mk BB.n BB.oJ v32)) (idx:=mc) (j:=2) bh (.pl rfl) (.pl rfl) rfl iw (i:=2) rfl (aI (Vl)) rfl (by decide) rfl ?_);obtain⟨aeO,cU⟩:=bx cU;obtain rfl:=oi cU;refine a_ ?_;exact⟨W.OT C6 (fW.set mc.toNat (aq.mk BB.n BB.oJ v32)) (v32+1) QC vi nl kr kr (fun wz hw=>St.dZ (L:=[aw qW 232 (Value.slice A8 (r7.1).length c9::(Value.slice cg (fW).length c12::[])),cR aC 7 A8 c9 162 r7.1,cR ay 3 cg c12 236 (fW.set mc.toNat (aq.mk BB.n BB.oJ v32))]) (hw.pick [0,1,2] rfl) (by simp only[List.length_set,List.nil_append,List.cons_append,L9]))⟩
     ·obtain⟨aeP,cU⟩:=bx cU;refine a_ ?_;exact g2 C6 (oj cU vi)
    ·refine a_ ?_;exact h1 Qw (oj cU vi)
   ·rintro E1 rfl;obtain rfl:=oi hF;refine a_ ?_;refine W.lr (fn:=Tryz.f91) (vs:=[.pointer (some ⟨qW,0,none⟩),.int .i64 0]) Tryz.results91 ⟨.tmp rfl,⟨.tmp rfl,trivial⟩⟩ (fun _ _ h=>h) (fun wz hw=>?_);exact hR _ _ ⟨((some qW),A8,c9,cg,c12),rfl,rfl,(hw.pick [0,1,2] rfl)⟩
end Go.Proofs.YtjdkkabcenohcaaGreatDoor
