/- Rows: what their code computes, and the walks; sorts of few. -/
import Derived.Test.YtjdkkabcenohcaaGreatDoorAuto
import Derived.Test.YtjdkkabcenohcaaGreatDoorV4
set_option linter.unusedVariables false
set_option linter.defProp false
set_option linter.unusedSimpArgs false
set_option linter.unusedSectionVars false
set_option maxRecDepth 100000
namespace Go.Proofs.YtjdkkabcenohcaaGreatDoor
open Go.RowKit
attribute [local irreducible] Yd ap eu
structure ab where
 n:Int
 jq:Int
 f_:Int
deriving DecidableEq
def ab.z:ab:=⟨0,0,0⟩
def ae(x:ab):List Value:=(Value.int .i64 x.n::(Value.int .i64 x.jq::(Value.int .i64 x.f_::[])))
theorem dL(x:ab):(ae x).length=3:=rfl
theorem lW: ∀x,∀v∈ae x,v.oneCell'=true:=fun x=>(bt rfl (bt rfl (bt rfl jQ)))
theorem Ar:Tryz.prog.cellsOf 230=0+1:=by kernel_rfl
theorem fZ:Tryz.prog.cellsOf 236=2+1:=by kernel_rfl
instance:FT Tryz.prog 236 0 0 3:=⟨_,Tryz.underlying236,rfl⟩
@[reducible,instance] def abv:=UT.mk Tryz.underlying230
@[reducible,instance] def c236:=CT.mk fZ
@[reducible,instance] def abw:=UT.mk Tryz.underlying236
instance:EN ae 3:=⟨dL⟩
@[reducible,instance] def abx:=CT.mk Ar
instance:FT Tryz.prog 232 1 1 230:=⟨_,Tryz.underlying232,rfl⟩
@[reducible,instance] def aby:=UT.mk Tryz.underlying255
@[reducible,instance] def abz:=UT.mk Tryz.underlying263
instance:FT Tryz.prog 236 2 2 3:=⟨_,Tryz.underlying236,rfl⟩
def uL:=gg Tryz.func127
def QY:=gg Tryz.func128
def QZ:=gg Tryz.func129
def Q6:=gg Tryz.func159
def Q7:=gg Tryz.func160
def Q9:=gg Tryz.func161
def Q_:=gg Tryz.func162
def Ra:=gg Tryz.func176
def Rb:=gg Tryz.func188
def Rd:=gg Tryz.func189
theorem WK: ∃i,Tryz.prog.info? 236=some i∧i.zero=some (Value.agg #[(Value.int .i64 0),(Value.int .i64 0),(Value.int .i64 0)])∧i.size=3:=⟨_,rfl,by kernel_rfl,by kernel_rfl⟩
theorem WM: ∃i z,Tryz.prog.info? 236=some i∧i.zero=some z∧i.size=3∧i.bytes=24∧z.cells.size=3∧0 < 3:=⟨_,(Value.agg #[(Value.int .i64 0),(Value.int .i64 0),(Value.int .i64 0)]),rfl,by kernel_rfl,by kernel_rfl,by kernel_rfl,by kernel_rfl,by decide⟩
theorem Nt:Shape Tryz.prog 232 [(0,1),(1,1)] #[(Value.slice none 0 0),(Value.slice none 0 0)]:=⟨_,_,Value.agg #[(Value.slice none 0 0),(Value.slice none 0 0)],Tryz.underlying232,rfl,by kernel_rfl,rfl,by kernel_rfl,by decide⟩
theorem Nu:Shape Tryz.prog 236 [(0,1),(1,1),(2,1)] #[(Value.int .i64 0),(Value.int .i64 0),(Value.int .i64 0)]:=⟨_,_,Value.agg #[(Value.int .i64 0),(Value.int .i64 0),(Value.int .i64 0)],Tryz.underlying236,rfl,by kernel_rfl,rfl,by kernel_rfl,by decide⟩
def sS(N:Nat)(v1:ab)(a3:Int):Option Unit:=some ()
theorem xx{N v1 a3 b2 res}(hF:sS N v1 a3=some res){w0 w T}(hw:St w0.heap.size w0 (al b2 3 [.int .i64 a3]::T) w):Calls Tryz.prog 161 (List.toArray [.agg (ae v1).toArray,.pointer (some ⟨b2,0,none⟩)]) w (fun e w'=>∃g:Unit,(True)∧e= .returned (.bool (decide (v1.n=a3)))∧St w0.heap.size w0 (al b2 3 [.int .i64 a3]::T) w'):=by
 refine We 8 Tryz.func161 hw fun R hR=>?_;refine a_ ?_;refine WL.step (WO.fg (.pl rfl) rfl fun b4=>?_);obtain rfl:=oi hF;refine a_ ?_;exact rG ()
def dx(N:Nat)(s3:(List ab))(c5:Int):Int→Option (Int ⊕(Unit ⊕ Int))|v6=>cond (decide (v6 < ((s3).length:Int))) (bd (ix s3 v6) fun x7=>bd (sS N x7 c5) fun r8=>cond (decide (x7.n=c5)) (some (.inr (.inr v6))) (ck (aQ (v6+1)) <| some (.inl (v6+1)))) (some (.inr (.inl ())))
def dQ(N:Nat)(s3:(List ab))(c5:Int):Option Int:=bd (α:=(Unit ⊕ Int)) (iter (dx N s3 c5) N 0) <| Sum.elim (fun _=>some (-1)) (fun p=>some p)
theorem kg{N s3 c5 A1 c2 b4 res}(hF:dQ N s3 c5=some res){w0 w T}(hw:St w0.heap.size w0 (cR ae 3 A1 c2 236 s3::al b4 3 [.int .i64 c5]::T) w):Calls Tryz.prog 160 (List.toArray [.slice A1 (s3).length c2,.func (.func 161) #[] #[.pointer (some ⟨b4,0,none⟩)]]) w (fun e w'=>∃g:Unit,(True)∧e= .returned (.int .i64 res)∧St w0.heap.size w0 (cR ae 3 A1 c2 236 s3::al b4 3 [.int .i64 c5]::T) w'):=by
 refine We 19 Tryz.func160 hw fun R hR=>?_;obtain⟨o2,bS,hF⟩:=aj hF;refine b_ ?_;refine W.dR [] ((cR ae 3 A1 c2 236 s3::al b4 3 [.int .i64 c5]::T)) ((.inl ())=o2) (.nil) (fun K3 d5=>?_) ?_
 ·refine a_ ?_;refine gl bS (fun a=>[(8,.int .i64 a)]) (fun a=>(cR ae 3 A1 c2 236 s3::al b4 3 [.int .i64 c5]::T)) (gx 0 1 7) fun v6 k5 t5 aD cU K6 io=>?_;refine a_ ?_;refine Wc aD (fun eO aD=>?_) (fun eO aD=>?_)
  ·obtain⟨x7,HN,aD⟩:=aj aD;obtain⟨r8,lM,aD⟩:=aj aD;refine a_ ?_;refine kG Q9 (.pl rfl) (v1 rfl) (fun _ hw=>xx lM (sw hw)) ?_;rintro _ -;refine a_ ?_;refine Wc aD (fun iB aD=>?_) (fun iB aD=>?_)
   ·obtain rfl:=oi aD;obtain rfl:=dC cU;obtain rfl:=oi hF;refine a_ ?_;exact rG ()
   ·obtain⟨wc,aD⟩:=aW aD;refine a_ ?_;exact g1 io (oj aD cU)
  ·refine a_ ?_;exact h0 d5 (oj aD cU)
 ·rintro rfl;obtain rfl:=oi hF;refine a_ ?_;exact rG ()
def dM(N:Nat)(ai:(List Call))(av:(List ab))(n8:Int):Option Int:=bd (dQ N av n8) fun ex=>cond (decide (ex < 0)) (some (-1)) (bd (ix av ex) fun dS=>some ex)
theorem iP{N ai av n8 b1 A2 c3 A5 c6 res}(hF:dM N ai av n8=some res){w0 w T}(hw:St w0.heap.size w0 (al b1 232 (Value.slice A2 (ai).length c3::(Value.slice A5 (av).length c6::[]))::cR ak 7 A2 c3 162 ai::cR ae 3 A5 c6 236 av::T) w):Calls Tryz.prog 127 (List.toArray [.pointer (some ⟨b1,0,none⟩),.int .i64 n8]) w (fun e w'=>∃g:Unit,(True)∧e= .returned (.pointer (ul A5 res 3))∧St w0.heap.size w0 (al b1 232 (Value.slice A2 (ai).length c3::(Value.slice A5 (av).length c6::[]))::cR ak 7 A2 c3 162 ai::cR ae 3 A5 c6 236 av::T) w'):=by
 refine We 20 Tryz.func127 hw fun R hR=>?_;refine a_ ?_;refine WL.step (WO.u0 (.pl rfl) rfl rfl fun b9=>?_);obtain⟨ex,kD,hF⟩:=aj hF;refine a_ ?_;refine kC Q7 (v2 rfl rfl) (fun _ hw=>kg kD (sw hw)) ?_;rintro _ -;refine a_ ?_;refine Wc hF (fun dG hF=>?_) (fun dG hF=>?_)
 ·obtain rfl:=oi hF;refine a_ ?_;refine W.ii (fn:=Tryz.f127) (vs:=[.pointer none]) Tryz.results127 ⟨.tmp rfl,trivial⟩ (fun _ _ h=>h) (fun wz hw=>?_);exact hR _ _ ⟨(),trivial,P7,(hw.eU 4 [2,3,0] rfl)⟩
 ·obtain⟨dS,po,hF⟩:=aj hF;obtain rfl:=oi hF;refine a_ ?_;refine W.ii (fn:=Tryz.f127) (vs:=[.pointer (some (bQ A5 (ex.toNat * (2+1))))]) Tryz.results127 ⟨.tmp rfl,trivial⟩ (fun _ _ h=>h) (fun wz hw=>?_);exact hR _ _ ⟨(),trivial,(S3 (aK (po)).1),(hw.eU 4 [2,3,0] rfl)⟩
def sT(N:Nat)(x1:Int):Option Int:=bd (α:=(Int×Int)) (cond (decide (65536≤x1)) (some ((fq .u32 x1 16),16)) (some (x1,0))) <| fun(x2,n3)=>bd (α:=(Int×Int)) (cond (decide (256≤x2)) (ck (aQ (n3+8)) <| some ((fq .u32 x2 8),(n3+8))) (some (x2,n3))) <| fun(x4,n5)=>bd (sx (⟨#[0,1,2,2,3,3,3,3,4,4,4,4,4,4,4,4,5,5,5,5,5,5,5,5,5,5,5,5,5,5,5,5,6,6,6,6,6,6,6,6,6,6,6,6,6,6,6,6,6,6,6,6,6,6,6,6,6,6,6,6,6,6,6,6,7,7,7,7,7,7,7,7,7,7,7,7,7,7,7,7,7,7,7,7,7,7,7,7,7,7,7,7,7,7,7,7,7,7,7,7,7,7,7,7,7,7,7,7,7,7,7,7,7,7,7,7,7,7,7,7,7,7,7,7,7,7,7,7,8,8,8,8,8,8,8,8,8,8,8,8,8,8,8,8,8,8,8,8,8,8,8,8,8,8,8,8,8,8,8,8,8,8,8,8,8,8,8,8,8,8,8,8,8,8,8,8,8,8,8,8,8,8,8,8,8,8,8,8,8,8,8,8,8,8,8,8,8,8,8,8,8,8,8,8,8,8,8,8,8,8,8,8,8,8,8,8,8,8,8,8,8,8,8,8,8,8,8,8,8,8,8,8,8,8,8,8,8,8,8,8,8,8,8,8,8,8,8,8,8,8,8,8,8,8,8,8]⟩:ByteArray) (IntKind.u8.wrap x4)) fun x7=>ck (aQ (n5+(IntKind.i64.wrap x7))) <| some (n5+(IntKind.i64.wrap x7))
theorem xy{N x1 res}(hF:sT N x1=some res)(w:World):Pure Tryz.prog 188 [.int .u32 x1] w (.int .i64 res):=by
 refine We 19 Tryz.func188 (St.start w) fun R hR=>?_;obtain⟨o2,bS,hF⟩:=aj hF;refine b_ ?_;refine W.qI (fun a b=>[(0,.int .u32 a),(2,.int .i64 b)]) (fun a b=>[]) (fun a b=>(a,b)=o2) (.nil) (fun K3 d5=>?_) ?_
 ·refine a_ ?_;refine Wc bS (fun dG bS=>?_) (fun dG bS=>?_)
  ·refine a_ ?_;exact h2 d5 (oi bS)
  ·refine a_ ?_;exact h2 d5 (oi bS)
 ·rintro x2 n3 rfl;obtain⟨o8,kZ,hF⟩:=aj hF;refine W.qI (fun a b=>[(0,.int .u32 a),(2,.int .i64 b)]) (fun a b=>[]) (fun a b=>(a,b)=o8) (.nil) (fun K9 ut=>?_) ?_
  ·refine a_ ?_;refine Wc kZ (fun m_ kZ=>?_) (fun m_ kZ=>?_)
   ·obtain⟨XW,kZ⟩:=aW kZ;refine a_ ?_;exact h2 ut (oi kZ)
   ·refine a_ ?_;exact h2 ut (oi kZ)
  ·rintro x4 n5 rfl;obtain⟨x7,HN,hF⟩:=aj hF;refine a_ ?_;refine WL.q (Y.Kk Tryz.underlying9 (.pl rfl) (.pl rfl) (HN)) rfl ?_;obtain⟨XX,hF⟩:=aW hF;obtain rfl:=oi hF;refine a_ ?_;exact rP
def sU(N:Nat)(x1:Int):Option Int:=bd (α:=(Int×Int)) (cond (decide (4294967296≤x1)) (some ((fq .u64 x1 32),32)) (some (x1,0))) <| fun(x2,n3)=>bd (α:=(Int×Int)) (cond (decide (65536≤x2)) (ck (aQ (n3+16)) <| some ((fq .u64 x2 16),(n3+16))) (some (x2,n3))) <| fun(x4,n5)=>bd (α:=(Int×Int)) (cond (decide (256≤x4)) (ck (aQ (n5+8)) <| some ((fq .u64 x4 8),(n5+8))) (some (x4,n5))) <| fun(x7,n8)=>bd (sx (⟨#[0,1,2,2,3,3,3,3,4,4,4,4,4,4,4,4,5,5,5,5,5,5,5,5,5,5,5,5,5,5,5,5,6,6,6,6,6,6,6,6,6,6,6,6,6,6,6,6,6,6,6,6,6,6,6,6,6,6,6,6,6,6,6,6,7,7,7,7,7,7,7,7,7,7,7,7,7,7,7,7,7,7,7,7,7,7,7,7,7,7,7,7,7,7,7,7,7,7,7,7,7,7,7,7,7,7,7,7,7,7,7,7,7,7,7,7,7,7,7,7,7,7,7,7,7,7,7,7,8,8,8,8,8,8,8,8,8,8,8,8,8,8,8,8,8,8,8,8,8,8,8,8,8,8,8,8,8,8,8,8,8,8,8,8,8,8,8,8,8,8,8,8,8,8,8,8,8,8,8,8,8,8,8,8,8,8,8,8,8,8,8,8,8,8,8,8,8,8,8,8,8,8,8,8,8,8,8,8,8,8,8,8,8,8,8,8,8,8,8,8,8,8,8,8,8,8,8,8,8,8,8,8,8,8,8,8,8,8,8,8,8,8,8,8,8,8,8,8,8,8,8,8,8,8,8,8]⟩:ByteArray) (IntKind.u8.wrap x7)) fun pT=>ck (aQ (n8+(IntKind.i64.wrap pT))) <| some (n8+(IntKind.i64.wrap pT))
theorem xz{N x1 res}(hF:sU N x1=some res)(w:World):Pure Tryz.prog 176 [.int .u64 x1] w (.int .i64 res):=by
 refine We 25 Tryz.func176 (St.start w) fun R hR=>?_;obtain⟨o2,bS,hF⟩:=aj hF;refine b_ ?_;refine W.qI (fun a b=>[(0,.int .u64 a),(2,.int .i64 b)]) (fun a b=>[]) (fun a b=>(a,b)=o2) (.nil) (fun K3 d5=>?_) ?_
 ·refine a_ ?_;refine Wc bS (fun dG bS=>?_) (fun dG bS=>?_)
  ·refine a_ ?_;exact h2 d5 (oi bS)
  ·refine a_ ?_;exact h2 d5 (oi bS)
 ·rintro x2 n3 rfl;obtain⟨o8,kZ,hF⟩:=aj hF;refine W.qI (fun a b=>[(0,.int .u64 a),(2,.int .i64 b)]) (fun a b=>[]) (fun a b=>(a,b)=o8) (.nil) (fun K9 ut=>?_) ?_
  ·refine a_ ?_;refine Wc kZ (fun m_ kZ=>?_) (fun m_ kZ=>?_)
   ·obtain⟨XW,kZ⟩:=aW kZ;refine a_ ?_;exact h2 ut (oi kZ)
   ·refine a_ ?_;exact h2 ut (oi kZ)
  ·rintro x4 n5 rfl;obtain⟨Lz,bN,hF⟩:=aj hF;refine W.qI (fun a b=>[(0,.int .u64 a),(2,.int .i64 b)]) (fun a b=>[]) (fun a b=>(a,b)=Lz) (.nil) (fun Ld oq=>?_) ?_
   ·refine a_ ?_;refine Wc bN (fun nj bN=>?_) (fun nj bN=>?_)
    ·obtain⟨wc,bN⟩:=aW bN;refine a_ ?_;exact h2 oq (oi bN)
    ·refine a_ ?_;exact h2 oq (oi bN)
   ·rintro x7 n8 rfl;obtain⟨pT,vz,hF⟩:=aj hF;refine a_ ?_;refine WL.q (Y.Kk Tryz.underlying9 (.pl rfl) (.pl rfl) (vz)) rfl ?_;obtain⟨qf,hF⟩:=aW hF;obtain rfl:=oi hF;refine a_ ?_;exact rP
def wu(N:Nat)(x1:Int):Option Int:=cond false (bd (sT N (IntKind.u32.wrap x1)) fun r2=>some r2) (bd (sU N x1) fun r3=>some r3)
theorem Au{N x1 res}(hF:wu N x1=some res)(w:World):Pure Tryz.prog 159 [.int .u64 x1] w (.int .i64 res):=by
 refine We 8 Tryz.func159 (St.start w) fun R hR=>?_;refine a_ ?_;refine Wc hF (fun LA hF=>?_) (fun LA hF=>?_)
 ·obtain⟨r2,hr2,hF⟩:=aj hF;refine a_ ?_;refine kP Rb (v1 rfl) (fun wz hw=>xy hr2 wz) ?_;obtain rfl:=oi hF;refine a_ ?_;exact rP
 ·obtain⟨r3,qy,hF⟩:=aj hF;refine a_ ?_;refine kP Ra (v1 rfl) (fun wz hw=>xz qy wz) ?_;obtain rfl:=oi hF;refine a_ ?_;exact rP
def zy(N:Nat)(a1:ab)(b2:ab):Option Unit:=ck (aQ (a1.n - b2.n)) <| some ()
theorem CO{N a1 b2 res}(hF:zy N a1 b2=some res)(w:World):Pure Tryz.prog 129 [.agg (ae a1).toArray,.agg (ae b2).toArray] w (.int .i64 (a1.n - b2.n)):=by
 refine We 10 Tryz.func129 (St.start w) fun R hR=>?_;refine a_ ?_;refine WL.step (WO.fg (.pl rfl) rfl fun b3=>?_);refine WL.step (WO.fg (.pl rfl) rfl fun b4=>?_);obtain⟨hk5,hF⟩:=aW hF;obtain rfl:=oi hF;refine a_ ?_;exact rP
def fa(N:Nat)(a4:Int):((List ab)×Int)→Option (((List ab)×Int) ⊕(List ab))|(v12,ga)=>bd (α:=Bool) (bd ((cond ((decide (a4 < ga))==true) (ix v12 ga) (some ab.z))) fun bC=>ck (!((decide (a4 < ga))==true)||(aQ (ga - 1))) <| bd ((cond ((decide (a4 < ga))==true) (ix v12 (ga - 1)) (some ab.z))) fun cJ=>cond ((decide (a4 < ga))==true) (bd (zy N bC cJ) fun DC=>some ((decide (a4 < ga))&&(decide ((bC.n - cJ.n) < 0)))) (some ((decide (a4 < ga))&&false))) <| fun cW=>cond cW (ck (aQ (ga - 1)) <| ck (aQ (ga - 1)) <| bd (ix v12 (ga - 1)) fun ce=>bd (ix v12 ga) fun cx=>bd (ix (v12.set ga.toNat ce) (ga - 1)) fun x24=>ck (aQ (ga - 1)) <| some (.inl (((v12.set ga.toNat ce).set (ga - 1).toNat cx),(ga - 1)))) (some (.inr v12))
def fb(N:Nat)(b5:Int)(a4:Int):((List ab)×Int)→Option (((List ab)×Int) ⊕(List ab))|(v7,i9)=>cond (decide (i9 < b5)) (bd (α:=(List ab)) (iter (fa N a4) N (v7,i9)) <| fun v10=>ck (aQ (i9+1)) <| some (.inl (v10,(i9+1)))) (some (.inr v7))
def fV(N:Nat)(gK:(List ab))(a4:Int)(b5:Int):Option (List ab):=ck (aQ (a4+1)) <| bd (α:=(List ab)) (iter (fb N b5 a4) N (gK,(a4+1))) <| fun p=>some p
theorem kh{N gK a4 b5 A1 c2 res}(hF:fV N gK a4 b5=some res){w0 w T}(hw:St w0.heap.size w0 (cR ae 3 A1 c2 236 gK::T) w):Calls Tryz.prog 189 (List.toArray [.slice A1 (gK).length c2,.int .i64 a4,.int .i64 b5,.func (.func 129) #[] #[]]) w (fun e w'=>∃g:Unit,((res).length=(gK).length)∧e= .returned (.tuple #[])∧St w0.heap.size w0 (cR ae 3 A1 c2 236 res::T) w'):=by
 refine We 53 Tryz.func189 hw fun R hR=>?_;obtain⟨XW,hF⟩:=aW hF;obtain⟨o2,hL2,hF⟩:=aj hF;refine a_ ?_;refine W.D8 (Em:=fun(v7:(List ab)) (i9:Int)=>[(0,.slice A1 (v7).length c2),(8,.int .i64 i9)]) (M:=fun v7 i9=>(cR ae 3 A1 c2 236 v7::T)) (I:=fun v7 i9 k2=>iter (fb N b5 a4) k2 (v7,i9)=some o2∧(v7).length=(gK).length) gK (a4+1) N (⟨hL2,(by simp)⟩) (.cons rfl (.cons rfl (.nil))) (gx 1 2 3) (fun wz hw=>hw.eU 1 [0] rfl) (fun v7 i9 k2 hI K3 d5=>?_);obtain⟨hI,DE⟩:=hI;obtain⟨k2,t2,rfl,bS,XY⟩:=eG hI;refine a_ ?_;refine Wc bS (fun BS bS=>?_) (fun BS bS=>?_)
 ·obtain⟨o7,bD,bS⟩:=aj bS;refine b_ ?_;refine W.eh (fun a=>[(0,.slice A1 (a).length c2)]) (fun a=>(cR ae 3 A1 c2 236 a::T)) (fun a=>a=o7∧(a).length=(gK).length) (lI 1 2 3 8) (fun K8 nK=>?_) ?_
  ·refine a_ ?_;refine W.D8 (Em:=fun(v12:(List ab)) (ga:Int)=>[(0,.slice A1 (v12).length c2),(9,.int .i64 ga)]) (M:=fun v12 ga=>(cR ae 3 A1 c2 236 v12::T)) (I:=fun v12 ga H5=>iter (fa N a4) H5 (v12,ga)=some o7∧(v12).length=(gK).length) v7 i9 N (⟨bD,(by simp[DE])⟩) (.cons rfl (.cons rfl (.nil))) (lI 1 2 3 8) (fun wz hw=>hw.eU 1 [0] rfl) (fun v12 ga H5 hI HQ lQ=>?_);obtain⟨hI,Av⟩:=hI;obtain⟨H5,t10,rfl,bl,vv⟩:=eG hI;obtain⟨o13,cq,bl⟩:=aj bl;refine iS ?_;refine W.eh (fun a=>[(34,.bool a)]) (fun a=>(cR ae 3 A1 c2 236 v12::T)) (fun a=>a=o13) (wX 0 1 2 3 8 9) (fun Xn zX=>?_) ?_
   ·refine W.zM 16 (by kernel_rfl) ?_;refine Xp 0 rfl (fun _ _=>ym) ?_;refine Xp 1 rfl (fun _ _=>ym) ?_;refine Xp 2 rfl (fun _ _=>yg) ?_;refine Xp 3 rfl (fun _ _=>ym) ?_;refine WX.sr 4 #[true,true,true,true,true,false,false,false,false,false,false,false,false,false,false,false,false] rfl (by kernel_rfl) (fun _ _=>Yg.g (.pl rfl rfl rfl) (fun hg=>Y.move (.pl rfl))) rfl ?_;refine WX.sr 5 #[true,true,true,true,true,true,false,false,false,false,false,false,false,false,false,false,false] rfl (by kernel_rfl) (fun _ _=>Yg.g (.pl rfl rfl rfl) (fun hg=>Y.move (.pl rfl))) rfl ?_;refine WX.sr 6 #[true,true,true,true,true,true,true,false,false,false,false,false,false,false,false,false,false] rfl (by kernel_rfl) (fun _ _=>Yg.g (.pl rfl rfl rfl) (fun hg=>Y.move (.pl rfl))) rfl ?_;obtain⟨bC,xh,cq⟩:=aj cq;refine WX.AO 7 #[true,true,true,true,true,true,true,true,false,false,false,false,false,false,false,false,false] (fun wz hw=>St.tail [] hw) rfl (by kernel_rfl) (Yg.g (.pl rfl rfl rfl) (fun hg=>Y.jh Tryz.underlying230 fZ (i:=0) rfl (.gd (hg) rfl) rfl (.gd (hg) rfl) (aK (eC hg xh)))) rfl ?_;refine WX.AO 8 #[true,true,true,true,true,true,true,true,true,false,false,false,false,false,false,false,false] (fun wz hw=>St.tail [] hw) rfl (by kernel_rfl) (Yg.g (.pl rfl rfl rfl) (fun hg=>Y.uf (enc:=ae) (ds:=(ae bC)) (a:=bC) (idx:=ga) (j:=0) Tryz.underlying236 rfl fZ dL (i:=0) rfl (.gd (hg) rfl) (bx (eC hg xh)) rfl rfl m5)) rfl ?_;refine WX.sr 9 #[true,true,true,true,true,true,true,true,true,true,false,false,false,false,false,false,false] rfl (by kernel_rfl) (fun _ _=>Yg.g (.pl rfl rfl rfl) (fun hg=>Y.move (.pl rfl))) rfl ?_;refine WX.sr 10 #[true,true,true,true,true,true,true,true,true,true,true,false,false,false,false,false,false] rfl (by kernel_rfl) (fun _ _=>Yg.g (.pl rfl rfl rfl) (fun hg=>Y.move (.pl rfl))) rfl ?_;obtain⟨Cz,cq⟩:=aW cq;refine WX.sr 11 #[true,true,true,true,true,true,true,true,true,true,true,true,false,false,false,false,false] rfl (by kernel_rfl) (fun _ _=>Yg.g (.pl rfl rfl rfl) (fun hg=>Y.sub (.gd (hg) rfl) (.pl rfl) (jP (gor hg Cz)))) rfl ?_;obtain⟨cJ,np,cq⟩:=aj cq;refine WX.AO 12 #[true,true,true,true,true,true,true,true,true,true,true,true,true,false,false,false,false] (fun wz hw=>St.tail [] hw) rfl (by kernel_rfl) (Yg.g (.pl rfl rfl rfl) (fun hg=>Y.jh Tryz.underlying230 fZ (i:=0) rfl (.gd (hg) rfl) rfl (.gd (hg) rfl) (aK (eC hg np)))) rfl ?_;refine WX.AO 13 #[true,true,true,true,true,true,true,true,true,true,true,true,true,true,false,false,false] (fun wz hw=>St.tail [] hw) rfl (by kernel_rfl) (Yg.g (.pl rfl rfl rfl) (fun hg=>Y.uf (enc:=ae) (ds:=(ae cJ)) (a:=cJ) (idx:=(ga - 1)) (j:=0) Tryz.underlying236 rfl fZ dL (i:=0) rfl (.gd (hg) rfl) (bx (eC hg np)) rfl rfl m5)) rfl ?_;refine dl ((decide (a4 < ga))==true) (fun rO=>?_) (fun rO=>?_)
    ·replace cq:=fJ rO cq;obtain⟨DC,Nn,cq⟩:=aj cq;refine Xo 14 rfl (WO.gT (.pl rfl rfl rfl) (rO) (WO.yi (γ:=Unit) (first:=[]) (cap:=[]) (fun g=>.int .i64 (bC.n - cJ.n)) (fun g=>(cR ae 3 A1 c2 236 v12::T)) (fun g=>True) QZ (.gd (rO) rfl) (.cons (.gd (rO) rfl) (.cons (.gd (rO) rfl) (.nil))) rfl (fun wz hw=>(CO (Nn) wz).calls hw) ?_));rintro _ -;refine WX.sr 15 #[true,true,true,true,true,true,true,true,true,true,true,true,true,true,true,true,false] rfl (by kernel_rfl) (fun _ _=>Yg.yes (.pl rfl rfl rfl) (rO) (Y.lss (.pl rfl) (.pl rfl))) rfl ?_;refine Xs rfl (WO.q (Y.and (.pl rfl) (fun _=>.pl rfl)) rfl ?_);refine WA.done (by kernel_rfl) ?_;refine a_ ?_;exact h1 zX (oi cq)
    ·replace cq:=fK rO cq;refine Xo 14 rfl (WO.gN (.pl rfl rfl rfl) rO rfl ?_);refine WX.sr 15 #[true,true,true,true,true,true,true,true,true,true,true,true,true,true,true,true,false] rfl (by kernel_rfl) (fun _ _=>Yg.no (.pl rfl rfl rfl) rO) rfl ?_;refine Xs rfl (WO.q (Y.and (b:=false) (.pl rfl) (fun h2=>(AQ rO h2).elim)) rfl ?_);refine WA.done (by kernel_rfl) ?_;refine a_ ?_;exact h1 zX (oi cq)
   ·rintro cW rfl;refine Wc bl (fun nj bl=>?_) (fun nj bl=>?_)
    ·refine b_ ?_;refine iS ?_;refine b_ ?_;refine W.IW (fun wz hw=>(hw.gw (i:=0) rfl).2.2) (fun Ei=>?_);refine W.zM 15 (by kernel_rfl) ?_;refine Xp 0 rfl (fun _ _=>ym) ?_;refine Xp 1 rfl (fun _ _=>ym) ?_;refine Xp 2 rfl (fun _ _=>ym) ?_;refine Xp 3 rfl (fun _ _=>ym) ?_;obtain⟨xb,bl⟩:=aW bl;refine Xp 4 rfl (fun _ _=>Y.sub (.pl rfl) (.pl rfl) (jP (xb))) ?_;refine Xp 5 rfl (fun _ _=>ym) ?_;refine Xp 6 rfl (fun _ _=>ym) ?_;obtain⟨zR,bl⟩:=aW bl;refine Xp 7 rfl (fun _ _=>Y.sub (.pl rfl) (.pl rfl) (jP (zR))) ?_;obtain⟨ce,tf,bl⟩:=aj bl;refine Xp 8 rfl (fun _ _=>Y.IZ (xs:=v12) Tryz.underlying230 fZ Ei (.pl rfl) rfl (.pl rfl) (aK (tf))) ?_;refine Xt 9 rfl (Y.uf (enc:=ae) (ds:=(ae ce)) (a:=ce) (idx:=(ga - 1)) (j:=0) Tryz.underlying236 rfl fZ dL (i:=0) rfl (.pl rfl) (bx (tf)) rfl rfl m5) ?_;refine Xp 10 rfl (fun _ _=>ym) ?_;refine Xp 11 rfl (fun _ _=>ym) ?_;obtain⟨cx,ng,bl⟩:=aj bl;refine Xp 12 rfl (fun _ _=>Y.IZ (xs:=v12) Tryz.underlying230 fZ Ei (.pl rfl) rfl (.pl rfl) (aK (ng))) ?_;refine Xt 13 rfl (Y.uf (enc:=ae) (ds:=(ae cx)) (a:=cx) (idx:=ga) (j:=0) Tryz.underlying236 rfl fZ dL (i:=0) rfl (.pl rfl) (bx (ng)) rfl rfl m5) ?_;refine Xp 14 rfl (fun _ _=>Y.IZ (xs:=v12) Tryz.underlying230 fZ Ei (.pl rfl) rfl (.pl rfl) (aK (ng))) ?_;refine Xs rfl (WO.Ht (enc:=ae) (a':=ce) (idx:=ga) fZ (.pl rfl) (.pl rfl) dL rfl (lW _) (i:=0) rfl (aK (ng)) rfl ?_);obtain⟨x24,rD,bl⟩:=aj bl;refine WA.take 16 #[true,true,true,true,true,true,true,true,true,true,true,true,true,true,true,true,true,false] rfl (by kernel_rfl) (fun _ _=>Y.IZ (xs:=(v12.set ga.toNat ce)) Tryz.underlying230 fZ (by simpa only[List.length_set,DE,Av]using Ei) (.pl rfl) (by simp[DE,Av]) (.pl rfl) (aK (rD))) rfl ?_;refine WA.branch [17] (by kernel_rfl) ⟨?_,trivial⟩;refine WI.step #[true,true,true,true,true,true,true,true,true,true,true,true,true,true,true,true,true,true] rfl rfl (WO.Ht (enc:=ae) (a':=cx) (idx:=(ga - 1)) fZ (.pl rfl) (.pl rfl) dL rfl (lW _) (i:=0) rfl (aK (rD)) rfl ?_);refine WA.done (by kernel_rfl) ?_;obtain⟨vJ,bl⟩:=aW bl;obtain rfl:=oi bl;refine a_ ?_;exact⟨W.EL lQ ((v12.set ga.toNat ce).set (ga - 1).toNat cx) (ga - 1) H5 ⟨vv,(by simp[DE,Av])⟩ nl (.cons (I1 (by simp[DE,Av])) (.cons rfl (.nil))) kr (fun wz hw=>hw.eU 1 [0] rfl)⟩
    ·obtain rfl:=oi bl;refine a_ ?_;exact h1 nK (⟨dC vv,(by simp[DE,Av])⟩)
  ·rintro v10 ⟨rfl,ZQ⟩;obtain⟨Jo,bS⟩:=aW bS;obtain rfl:=oi bS;refine a_ ?_;exact⟨W.EL d5 v10 (i9+1) k2 ⟨XY,(by simp[DE,ZQ])⟩ nl kr kr (fun wz hw=>hw.eU 1 [0] rfl)⟩
 ·obtain rfl:=oi bS;obtain rfl:=dC XY;obtain rfl:=oi hF;refine a_ ?_;refine⟨W.EK (fn:=Tryz.f189) (vs:=[]) Tryz.results189 trivial (fun _ _ h=>h) (fun wz hw=>?_)⟩;exact hR _ _ ⟨(),(by simp[DE]),rfl,(hw.eU 1 [0] rfl)⟩
def mh(N:Nat)(b5:Int)(a4:Int)(gK:(List ab)):Unit→Option (Unit ⊕(List ab))|_=>ck (aQ (b5 - a4)) <| cond (decide ((b5 - a4)≤12)) (bd (fV N gK a4 b5) fun r8=>some (.inr r8)) (none)
def iQ(N:Nat)(gK:(List ab))(a4:Int)(b5:Int)(Gm:Int):Option (List ab):=bd (α:=(List ab)) (iter (mh N b5 a4 gK) N ()) <| fun p=>some p
theorem mj{N gK a4 b5 Gm A1 c2 res}(hF:iQ N gK a4 b5 Gm=some res){w0 w T}(hw:St w0.heap.size w0 (cR ae 3 A1 c2 236 gK::T) w):Calls Tryz.prog 162 (List.toArray [.slice A1 (gK).length c2,.int .i64 a4,.int .i64 b5,.int .i64 Gm,.func (.func 129) #[] #[]]) w (fun e w'=>∃g:Unit,((res).length=(gK).length)∧e= .returned (.tuple #[])∧St w0.heap.size w0 (cR ae 3 A1 c2 236 res::T) w'):=by
 refine We 148 Tryz.func162 hw fun R hR=>?_;obtain⟨o3,hL3,hF⟩:=aj hF;refine a_ ?_;refine Y5 hL3 [] ((cR ae 3 A1 c2 236 gK::T)) (HG 0 1 2 3 4 10 11) fun k3 t3 ey hN3 K4 ko=>?_;obtain⟨hk7,ey⟩:=aW ey;refine a_ ?_;refine Wc ey (fun uw ey=>?_) (fun uw ey=>?_)
 ·obtain⟨r8,lM,ey⟩:=aj ey;refine a_ ?_;refine kC Rd (v4 rfl rfl rfl rfl) (fun _ hw=>kh lM (sw hw)) ?_;rintro _ hl9;obtain rfl:=oi ey;obtain rfl:=dC hN3;obtain rfl:=oi hF;refine a_ ?_;refine W.ii (fn:=Tryz.f162) (vs:=[]) Tryz.results162 trivial (fun _ _ h=>h) (fun wz hw=>?_);exact hR _ _ ⟨(),(by simp[hl9]),rfl,(hw.eU 1 [0] rfl)⟩
 ·refine a_ ?_;exact nomatch ey
def gb(N:Nat)(x3:(List ab)):Option (List ab):=bd (wu N (IntKind.u64.wrap ((x3).length:Int))) fun r4=>bd (iQ N x3 0 ((x3).length:Int) r4) fun r5=>some r5
theorem kN{N x3 A1 c2 res}(hF:gb N x3=some res){w0 w T}(hw:St w0.heap.size w0 (cR ae 3 A1 c2 236 x3::T) w):Calls Tryz.prog 128 (List.toArray [.slice A1 (x3).length c2,.func (.func 129) #[] #[]]) w (fun e w'=>∃g:Unit,((res).length=(x3).length)∧e= .returned (.tuple #[])∧St w0.heap.size w0 (cR ae 3 A1 c2 236 res::T) w'):=by
 refine We 14 Tryz.func128 hw fun R hR=>?_;obtain⟨r4,Fe,hF⟩:=aj hF;refine a_ ?_;refine kP Q6 (v1 rfl) (fun wz hw=>Au Fe wz) ?_;obtain⟨r5,U2,hF⟩:=aj hF;refine a_ ?_;refine kC Q_ (v5 rfl rfl rfl rfl rfl) (fun _ hw=>mj U2 (sw hw)) ?_;rintro _ hl6;obtain rfl:=oi hF;refine a_ ?_;refine⟨W.EK (fn:=Tryz.f128) (vs:=[]) Tryz.results128 trivial (fun _ _ h=>h) (fun wz hw=>?_)⟩;exact hR _ _ ⟨(),(by simp[hl6]),rfl,(hw.eU 1 [0] rfl)⟩
def Gn(N:Nat)(r7:((List Call)×Int×Int)):((List ab)×Int)→Option (((List ab)×Int) ⊕((List ab) ⊕(Bool×(List Call)×(List ab)×Int)))|(d9,v17)=>cond (decide (v17 < ((r7.1).length:Int))) (bd (ix r7.1 v17) fun cJ=>cond ((decide (cJ.kind=4))&&(decide (cJ.au=(-1)))) (some (.inr (.inr (false,[],[],6)))) (bd (α:=Bool) (cond ((decide (cJ.kind=3))==true) (bd (dM N r7.1 d9 cJ.arg) fun sK=>some ((decide (cJ.kind=3))&&(!(decide (sK < 0))))) (some ((decide (cJ.kind=3))&&false))) <| fun v20=>cond v20 (some (.inr (.inr (false,[],[],6)))) (cond (decide (cJ.kind=3)) (ck (dh 24 ((d9).length+(([(ab.mk cJ.arg v17 (-1))]:List ab)).length)) <| ck (aQ (v17+1)) <| some (.inl ((d9++([(ab.mk cJ.arg v17 (-1))]:List ab)),(v17+1)))) (ck (aQ (v17+1)) <| some (.inl (d9,(v17+1))))))) (some (.inr (.inl d9)))
def Gp(N:Nat)(r7:((List Call)×Int×Int)):((List ab)×Int)→Option (((List ab)×Int) ⊕(List ab))|(cA,v32)=>cond (decide (v32 < ((r7.1).length:Int))) (bd (ix r7.1 v32) fun DF=>bd (dM N r7.1 cA DF.res) fun gG=>bd ((cond (((decide (DF.kind=4))&&(!(decide (gG < 0))))==true) (ix cA gG) (some ab.z))) fun Pi=>cond (((decide (DF.kind=4))&&(!(decide (gG < 0))))&&(decide (Pi.f_ < 0))) (bd (ix cA gG) fun rK=>ck (aQ (v32+1)) <| some (.inl ((cA.set gG.toNat (ab.mk rK.n rK.jq v32)),(v32+1)))) (ck (aQ (v32+1)) <| some (.inl (cA,(v32+1))))) (some (.inr cA))
def XZ(N:Nat)(l1:(List Event)):Option (Bool×(List Call)×(List ab)×Int):=bd (bk N ([2]:List Int) l1) fun r7=>cond (!(decide (r7.2.2=0))) (some (false,[],[],r7.2.2)) (bd (α:=((List ab) ⊕(Bool×(List Call)×(List ab)×Int))) (iter (Gn N r7) N ([],0)) <| Sum.elim (fun rQ=>bd (gb N rQ) fun rC=>bd (α:=(List ab)) (iter (Gp N r7) N (rC,0)) <| fun vQ=>some (true,r7.1,vQ,0)) (fun p=>some p))
end Go.Proofs.YtjdkkabcenohcaaGreatDoor
