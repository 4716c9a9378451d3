/- What Run computes, and the walks. -/
import Derived.Test.YtjdkkabcenohcaaGreatDoorAuto
import Derived.Test.YtjdkkabcenohcaaGreatDoorV8
set_option linter.unusedVariables false
set_option linter.defProp false
set_option linter.unusedSimpArgs false
set_option linter.unusedSectionVars false
set_option maxRecDepth 100000
namespace Go.Proofs.YtjdkkabcenohcaaGreatDoor
open Go.RowKit
attribute [local irreducible] Yd ap eu
theorem Vz:Tryz.prog.cellsOf 5=0+1:=by kernel_rfl
theorem R0:Tryz.prog.cellsOf 20=0+1:=by kernel_rfl
theorem uQ:Tryz.prog.cellsOf 48=0+1:=by kernel_rfl
theorem uR:Tryz.prog.cellsOf 49=0+1:=by kernel_rfl
theorem Ix:Tryz.prog.cellsOf 51=1+1:=by kernel_rfl
def VA:=gg Tryz.func21
def oG:=gg Tryz.func22
def GH:=gg Tryz.func23
def VB:=gg Tryz.func25
def VC:=gg Tryz.func26
def xV:=gg Tryz.func47
def GI:=gg Tryz.func52
def VD:=gg Tryz.func53
def VE:=gg Tryz.func54
def GJ:=gg Tryz.func55
def VF:=gg Tryz.func56
def VG:=gg Tryz.func57
def VH:=gg Tryz.func58
def VI:=gg Tryz.func59
def VJ:=gg Tryz.func76
def VK:=gg Tryz.func99
theorem W3: ∃i,Tryz.prog.info? 9=some i∧i.zero=some (Value.string ⟨#[]⟩):=⟨_,rfl,by kernel_rfl⟩
theorem VL: ∃i,Tryz.prog.info? 33=some i∧i.zero=some (Value.int .i64 0):=⟨_,rfl,by kernel_rfl⟩
theorem R5: ∃i,Tryz.prog.info? 128=some i∧i.zero=some (Value.agg #[(Value.int .i64 0),(Value.int .i64 0)]):=⟨_,rfl,by kernel_rfl⟩
@[reducible,instance] def abJ:=UT.mk Tryz.underlying111
@[reducible,instance] def c20:=CT.mk R0
@[reducible,instance] def c51:=CT.mk Ix
instance:FT Tryz.prog 53 0 0 51:=⟨_,Tryz.underlying53,rfl⟩
@[reducible,instance] def abK:=CT.mk Fy
@[reducible,instance] def abL:=UT.mk Tryz.underlying128
instance:ON bw:=⟨Cq⟩
instance:FT Tryz.prog 128 0 0 3:=⟨_,Tryz.underlying128,rfl⟩
instance:FT Tryz.prog 128 1 1 3:=⟨_,Tryz.underlying128,rfl⟩
@[reducible,instance] def abM:=ZI.mk R5
instance:FT Tryz.prog 131 1 1 3:=⟨_,Tryz.underlying131,rfl⟩
instance:FT Tryz.prog 131 2 2 3:=⟨_,Tryz.underlying131,rfl⟩
theorem pB: ∃i,Tryz.prog.info? 20=some i∧i.zero=some Value.nilIface∧i.size=1:=⟨_,rfl,by kernel_rfl,by kernel_rfl⟩
theorem JY: ∃i z,Tryz.prog.info? 20=some i∧i.zero=some z∧i.size=1∧i.bytes=16∧z.cells.size=1∧0 < 1:=⟨_,Value.nilIface,rfl,by kernel_rfl,by kernel_rfl,by kernel_rfl,by kernel_rfl,by decide⟩
theorem R8:Shape Tryz.prog 53 [(0,2)] #[(Value.pointer none),(Value.slice none 0 0)]:=⟨_,_,Value.agg #[(Value.pointer none),(Value.slice none 0 0)],Tryz.underlying53,rfl,by kernel_rfl,rfl,by kernel_rfl,by decide⟩
def B5(N:Nat)(l s:ByteArray):Option ByteArray:=if l.size+s.size≤140737488351232 then some (l++s)else none
theorem B6{b p v}(hp:p= .pointer none∨p= .pointer (some ⟨b,0,none⟩)){w0 w T}(hw:St w0.heap.size w0 (al b 53 [p,v]::T) w):Calls Tryz.prog 76 (List.toArray [.pointer (some ⟨b,0,none⟩)]) w (fun e w'=>∃g:Unit,True∧e= .returned (.tuple #[])∧St w0.heap.size w0 (al b 53 [.pointer (some ⟨b,0,none⟩),v]::T) w'):=by
 refine W.enter (n:=20) Tryz.func76 rfl rfl Sub.refl (by simp) hw fun R hR=>?_
 obtain⟨j,hj,hs⟩:=wb Ix
 replace hs:j.size≠0:=by omega
 have hne:∀u w,(callFunc 117 #[u]).run Tryz.prog w= .ok (.value u) w:=fun u w=>by
  rw[run_callFunc_extern Tryz.func117 (by kernel_rfl) (by kernel_rfl) (by kernel_rfl) (e:=Extern.AbiNoEscape.same) (by kernel_rfl),Lib.run_noEscape]
  rfl
 rcases hp with rfl|rfl
 ·refine W.mv fun Q1 xi=>?_
  refine WL.q (Y.move (.pl rfl)) rfl ?_
  refine WL.q (Y.nilCheck (.pl rfl)) rfl ?_
  refine WL.q (Y.eT (off:=0) (ft:=48) Tryz.underlying51 rfl uQ (.pl rfl)) rfl ?_
  refine WL.q (Y.lq (v:=.pointer none) Tryz.underlying48 rfl (.pl rfl) (i:=0) rfl rfl) rfl ?_
  refine WL.q (Y.KH Tryz.underlying48 (.pl rfl)) rfl ?_
  refine WL.next xi (.cons (i:=0) rfl (.cons (i:=6) rfl (.nil))) ?_
  refine W.cond (.pl rfl) (fun _=>?_) (fun h=>nomatch h)
  refine W.Ol ?_
  refine WL.q (Y.move (.pl rfl)) rfl ?_
  refine WL.q (Y.move (.pl rfl)) rfl ?_
  refine WL.q (Y.toU Tryz.underlying48 Tryz.underlying210 hj hs (.pl rfl) (i:=0) rfl (Nat.zero_lt_succ 1)) rfl ?_
  refine WL.q (Y.Wq (hne _) (.pl rfl)) rfl ?_
  refine WL.q (Y.ofU Tryz.underlying210 Tryz.underlying48 hj (.pl rfl) (i:=0) rfl (by kernel_rfl)) rfl ?_
  refine WL.q (Y.nilCheck (.pl rfl)) rfl ?_
  refine WL.q (Y.eT (off:=0) (ft:=48) Tryz.underlying51 rfl uQ (.pl rfl)) rfl ?_
  refine WL.step (WO.dD (cs':=[.pointer (some ⟨b,0,none⟩),v]) uQ (.pl rfl) (.pl rfl) rfl (i:=0) rfl (kX (m:=2) (by decide) rfl) rfl ?_)
  refine WL.nil ?_
  refine W.EK (fn:=Tryz.f76) (vs:=[]) Tryz.results76 trivial (fun _ _ h=>h) (fun wz hw=>?_)
  exact hR _ _ ⟨(),trivial,rfl,hw⟩
 ·refine W.mv fun Q1 xi=>?_
  refine WL.q (Y.move (.pl rfl)) rfl ?_
  refine WL.q (Y.nilCheck (.pl rfl)) rfl ?_
  refine WL.q (Y.eT (off:=0) (ft:=48) Tryz.underlying51 rfl uQ (.pl rfl)) rfl ?_
  refine WL.q (Y.lq (v:=.pointer (some ⟨b,0,none⟩)) Tryz.underlying48 rfl (.pl rfl) (i:=0) rfl rfl) rfl ?_
  refine WL.q (Y.KH Tryz.underlying48 (.pl rfl)) rfl ?_
  refine WL.next xi (.cons (i:=0) rfl (.cons (i:=6) rfl (.nil))) ?_
  refine W.cond (.pl rfl) (fun h=>nomatch h) (fun _=>?_)
  refine W.mv fun Q2 FJ=>?_
  refine WL.q (Y.move (.pl rfl)) rfl ?_
  refine WL.q (Y.nilCheck (.pl rfl)) rfl ?_
  refine WL.q (Y.eT (off:=0) (ft:=48) Tryz.underlying51 rfl uQ (.pl rfl)) rfl ?_
  refine WL.q (Y.lq (v:=.pointer (some ⟨b,0,none⟩)) Tryz.underlying48 rfl (.pl rfl) (i:=0) rfl rfl) rfl ?_
  refine WL.q (Y.move (.pl rfl)) rfl ?_
  refine WL.q (Y.Ta Tryz.underlying48 hj (.pl rfl) (.pl rfl)) rfl ?_
  refine WL.next FJ (.cons (i:=19) rfl (.nil)) ?_
  refine W.cond (.pl rfl) (fun h=>nomatch h) (fun _=>?_)
  refine W.skip ?_
  refine W.EK (fn:=Tryz.f76) (vs:=[]) Tryz.results76 trivial (fun _ _ h=>h) (fun wz hw=>?_)
  exact hR _ _ ⟨(),trivial,rfl,hw⟩
theorem co{N sZ Iy sW VM k8 jV res}(hF:B5 N sZ Iy=some res){w0 w T}(hw:St w0.heap.size w0 (jU 53 5 sW VM k8 jV sZ::T) w):Calls Tryz.prog 47 (List.toArray [.pointer (some ⟨sW,0,none⟩),.string Iy]) w (fun e w'=>∃g:(Value×Option Addr×Nat),(True)∧e= .returned (.tuple #[.int .i64 ((Iy).size:Int),(um 0)])∧St w0.heap.size w0 (jU 53 5 sW g.1 g.2.1 g.2.2 res::T) w'):=by
 obtain⟨hp,hw⟩:=St.KC hw
 unfold B5 at hF
 split at hF
 case isFalse=>cases hF
 rename_i hl
 obtain rfl:=Option.some.inj hF
 refine W.enter (n:=19) Tryz.func47 rfl rfl Sub.refl (by simp) hw fun R hR=>?_
 refine W.mv fun Q1 xi=>?_
 refine WL.q (Y.assign (.pl rfl)) rfl ?_
 refine WL.q (Y.assign (.pl rfl)) rfl ?_
 refine WL.next xi (.cons (i:=0) rfl (.cons (i:=1) rfl (.nil))) ?_
 refine W.mv fun Q2 FJ=>?_
 refine WL.q (Y.move (.pl rfl)) rfl ?_
 refine WL.step (WO.call (γ:=Unit) (fun g=>.tuple #[]) (fun g=>al sW 53 [(.pointer (some ⟨sW,0,none⟩)),.slice k8 (sZ).size jV]::cc k8 jV 5 1 sZ.size (Lib.strCells sZ)::T) (fun g=>True) VJ (.cons (.pl rfl) (.nil)) rfl (fun wz hw=>B6 hp hw) ?_)
 rintro⟨⟩ -
 refine WL.next FJ (.cons (i:=0) rfl (.cons (i:=1) rfl (.nil))) ?_
 refine W.mv fun Q3 La=>?_
 refine WL.q (Y.move (.pl rfl)) rfl ?_
 refine WL.q (Y.move (.pl rfl)) rfl ?_
 refine WL.q (Y.nilCheck (.pl rfl)) rfl ?_
 refine WL.q (Y.eT (off:=1) (ft:=49) Tryz.underlying51 rfl uR (.pl rfl)) rfl ?_
 refine WL.q (Y.lq (v:=.slice k8 (sZ).size jV) Tryz.underlying49 rfl (.pl rfl) (i:=0) rfl rfl) rfl ?_
 refine WL.q (Y.move (.pl rfl)) rfl ?_
 refine WL.step (WO.P_ Tryz.underlying49 Tryz.underlying9 ⟨_,rfl,by kernel_rfl,by kernel_rfl,by kernel_rfl⟩ (.pl rfl) (.pl rfl) (i:=1) rfl hl rfl fun A' c'=>?_)
 refine WL.q (Y.nilCheck (.pl rfl)) rfl ?_
 refine WL.q (Y.eT (off:=1) (ft:=49) Tryz.underlying51 rfl uR (.pl rfl)) rfl ?_
 refine WL.step (WO.dD (cs':=[(.pointer (some ⟨sW,0,none⟩)),.slice A' (sZ.size+Iy.size) c']) uR (.pl rfl) (.pl rfl) rfl (i:=0) rfl (kX (m:=2) (by decide) rfl) rfl ?_)
 refine WL.next La (.cons (i:=0) rfl (.cons (i:=1) rfl (.nil))) ?_
 refine W.mv fun Q4 Lb=>?_
 refine WL.q (Y.move (.pl rfl)) rfl ?_
 refine WL.q (Y.S8 Tryz.underlying9 (.pl rfl)) rfl ?_
 refine WL.q (Y.assign (.pl rfl)) rfl ?_
 refine WL.q (Y.assign (.pl rfl)) rfl ?_
 refine WL.next Lb (.cons (i:=4) rfl (.cons (i:=5) rfl (.nil))) ?_
 refine W.ii (fn:=Tryz.f47) (vs:=[.int .i64 ((Iy).size:Int),.nilIface]) Tryz.results47 ⟨.tmp rfl,.tmp rfl,trivial⟩ (fun _ _ h=>h) (fun wz hw=>?_)
 refine hR _ _ ⟨((.pointer (some ⟨sW,0,none⟩)),A',c'),trivial,rfl,?_⟩
 refine St.P9 (l:=sZ++Iy) ?_
 rw[ByteArray.size_append,E5]
 exact hw
def jC(N:Nat)(ie:(List Pt)):(ByteArray×Int)→Option ((ByteArray×Int) ⊕ ByteArray)|(fU,v17)=>cond (decide (v17 < ((ie).length:Int))) (bd (ix ie v17) fun cJ=>bd (α:=ByteArray) (cond (decide (0 < v17)) (bd (B5 N fU (⟨#[32]⟩:ByteArray)) fun Ii=>some Ii) (some fU)) <| fun v22=>cond ((HI (cJ)).2) (bd (B5 N v22 ((HI (cJ)).1)) fun iG=>ck (aQ (v17+1)) <| some (.inl (iG,(v17+1)))) (cond ((Bc (cJ)).2) (bd (pF N ((Bc (cJ)).1)) fun r32=>bd (B5 N v22 r32) fun wn=>ck (aQ (v17+1)) <| some (.inl (wn,(v17+1)))) (cond ((Bd (cJ)).2) (bd (pF N ((Bd (cJ)).1)) fun oo=>bd (B5 N v22 oo) fun VN=>ck (aQ (v17+1)) <| some (.inl (VN,(v17+1)))) (ck (aQ (v17+1)) <| some (.inl (v22,(v17+1))))))) (some (.inr fU))
def bL(N:Nat)(r5:ByteArray)(ie:(List Pt)):Option ByteArray:=bd (α:=ByteArray) (iter (jC N ie) N (r5,0)) <| fun v12=>bd (B5 N v12 (⟨#[10]⟩:ByteArray)) fun Yc=>some Yc
theorem bX{N r5 ie b1 rZ A3 c4 A6 c7 res}(hF:bL N r5 ie=some res){w0 w T}(hw:St w0.heap.size w0 (jU 53 5 b1 rZ A3 c4 r5::cR (gy 9 3 33) 1 A6 c7 20 ie::T) w)(hG:li w0):Calls Tryz.prog 22 (List.toArray [.pointer (some ⟨b1,0,none⟩),.slice A6 (ie).length c7]) w (fun e w'=>∃g:(Value×Option Addr×Nat),(True)∧e= .returned (.tuple #[])∧St w0.heap.size w0 (jU 53 5 b1 g.1 g.2.1 g.2.2 res::cR (gy 9 3 33) 1 A6 c7 20 ie::T) w'):=by
 refine We 54 Tryz.func22 hw fun R hR=>?_;obtain⟨o1,hF1,hF⟩:=aj hF;refine W.u' (fun a b c d=>[]) (fun a b c d=>(jU 53 5 b1 b c d a::cR (gy 9 3 33) 1 A6 c7 20 ie::T)) (fun a b c d=>a=o1) (lr 0) (fun K2 K'=>?_) ?_
 ·refine a_ ?_;refine Mm hF1 (fun a b c d f=>[(11,.int .i64 b)]) (fun a b c d f=>(jU 53 5 b1 c d f a::cR (gy 9 3 33) 1 A6 c7 20 ie::T)) (gx 0 9 10) fun fU v17 abN wg c15 k4 t4 dc LL K5 qz=>?_;refine a_ ?_;refine Wc dc (fun uw dc=>?_) (fun uw dc=>?_)
  ·obtain⟨cJ,np,dc⟩:=aj dc;refine a_ ?_;refine WL.q (Y.gc (enc:=(gy 9 3 33)) (v:=(zn 9 3 33 cJ)) (a:=cJ) (idx:=v17) (j:=0) Tryz.underlying20 rfl (fun _=>rfl) (i:=1) rfl (.pl rfl) (bx (np)) rfl rfl) rfl ?_;obtain⟨lN,aA,dc⟩:=aj dc;refine b_ ?_;refine W.u' (fun a b c d=>[]) (fun a b c d=>(jU 53 5 b1 b c d a::cR (gy 9 3 33) 1 A6 c7 20 ie::T)) (fun a b c d=>a=lN) (qu 0 5 9 10 11) (fun rk di=>?_) ?_
   ·refine a_ ?_;refine Wc aA (fun jx aA=>?_) (fun jx aA=>?_)
    ·obtain⟨Ii,Ny,aA⟩:=aj aA;refine a_ ?_;refine kC xV (v2 rfl rfl) (fun _ hw=>co Ny (sw hw)) ?_;rintro⟨abO,Vh,cI26⟩ -;refine a_ ?_;exact h4 di (oi aA)
    ·refine a_ ?_;exact h4 di (oi aA)
   ·rintro v22 aag KQ c21 rfl;refine a_ ?_;refine WL.q (Y.asS Tryz.underlying9 rfl W3 (by decide) (by decide) (.pl rfl)) rfl ?_;refine a_ ?_;refine Wc dc (fun m9 dc=>?_) (fun m9 dc=>?_)
    ·obtain⟨iG,zY,dc⟩:=aj dc;refine a_ ?_;refine kC xV (v2 rfl rfl) (fun _ hw=>co zY (sw hw)) ?_;rintro⟨abP,abQ,cI30⟩ -;obtain⟨Uf,dc⟩:=aW dc;refine a_ ?_;exact g5 qz (oj dc LL)
    ·refine a_ ?_;refine WL.q (Y.asI Tryz.underlying3 rfl yU (by decide) (by decide) (.pl rfl)) rfl ?_;refine a_ ?_;refine Wc dc (fun rm dc=>?_) (fun rm dc=>?_)
     ·refine b_ ?_;refine W.zM 5 (by kernel_rfl) ?_;refine Xp 0 rfl (fun _ _=>ym) ?_;refine Xp 1 rfl (fun _ _=>yc) ?_;refine Xp 2 rfl (fun _ _=>yf) ?_;refine Xp 3 rfl (fun _ _=>ym) ?_;obtain⟨r32,NK,dc⟩:=aj dc;refine Xo 4 rfl (WO.qE E_ (.cons (.pl rfl) (.nil)) rfl (fun wz hw=>nZ (NK) wz (hG.mono hw)) ?_);obtain⟨wn,F3,dc⟩:=aj dc;refine Xs rfl (WO.call (γ:=(Value×Option Addr×Nat)) (fun g=>.tuple #[.int .i64 ((r32).size:Int),(um 0)]) (fun g=>(jU 53 5 b1 g.1 g.2.1 g.2.2 wn::cR (gy 9 3 33) 1 A6 c7 20 ie::T)) (fun g=>True) xV (.cons (.pl rfl) (.cons (.pl rfl) (.nil))) rfl (fun wz hw=>co (T:=(cR (gy 9 3 33) 1 A6 c7 20 ie::T)) (F3) (hw.eU 2 [0,1] rfl)) ?_);rintro⟨abR,abS,abT⟩ -;refine WA.done (by kernel_rfl) ?_;obtain⟨Ug,dc⟩:=aW dc;refine a_ ?_;exact g5 qz (oj dc LL)
     ·refine a_ ?_;refine WL.q (Y.asE Tryz.underlying33 rfl VL (by decide) (by decide) (.pl rfl)) rfl ?_;refine a_ ?_;refine Wc dc (fun Mx dc=>?_) (fun Mx dc=>?_)
      ·refine b_ ?_;refine W.zM 5 (by kernel_rfl) ?_;refine Xp 0 rfl (fun _ _=>ym) ?_;refine Xp 1 rfl (fun _ _=>yc) ?_;refine Xp 2 rfl (fun _ _=>yf) ?_;refine Xp 3 rfl (fun _ _=>ym) ?_;obtain⟨oo,FZ,dc⟩:=aj dc;refine Xo 4 rfl (WO.qE E_ (.cons (.pl rfl) (.nil)) rfl (fun wz hw=>nZ (FZ) wz (hG.mono hw)) ?_);obtain⟨VN,aah,dc⟩:=aj dc;refine Xs rfl (WO.call (γ:=(Value×Option Addr×Nat)) (fun g=>.tuple #[.int .i64 ((oo).size:Int),(um 0)]) (fun g=>(jU 53 5 b1 g.1 g.2.1 g.2.2 VN::cR (gy 9 3 33) 1 A6 c7 20 ie::T)) (fun g=>True) xV (.cons (.pl rfl) (.cons (.pl rfl) (.nil))) rfl (fun wz hw=>co (T:=(cR (gy 9 3 33) 1 A6 c7 20 ie::T)) (aah) (hw.eU 2 [0,1] rfl)) ?_);rintro⟨abU,abV,cI42⟩ -;refine WA.done (by kernel_rfl) ?_;obtain⟨NE,dc⟩:=aW dc;refine a_ ?_;exact g5 qz (oj dc LL)
      ·obtain⟨Jl,dc⟩:=aW dc;refine a_ ?_;exact g5 qz (oj dc LL)
  ·refine a_ ?_;exact h4 K' (oj dc LL)
 ·rintro v12 pv9 qw c11 rfl;obtain⟨Yc,aai,hF⟩:=aj hF;refine a_ ?_;refine kC xV (v2 rfl rfl) (fun _ hw=>co aai (sw hw)) ?_;rintro⟨aaj,aak,aal⟩ -;obtain rfl:=oi hF;refine a_ ?_;exact rF (aaj,aak,aal)
def DL(N:Nat)(l:ByteArray):Option ByteArray:=if l.size=0 then none else some l
theorem f9{N sZ sW VM k8 jV res}(hF:DL N sZ=some res){w0 w T}(hw:St w0.heap.size w0 (jU 53 5 sW VM k8 jV sZ::T) w):Calls Tryz.prog 23 (List.toArray [.pointer (some ⟨sW,0,none⟩)]) w (fun e w'=>∃g:Unit,(True)∧e= .returned (.string res)∧St w0.heap.size w0 (T) w'):=by
 obtain⟨hp,hw⟩:=St.KC hw
 unfold DL at hF
 split at hF
 ·cases hF
 rename_i hl
 obtain rfl:=Option.some.inj hF
 obtain⟨g,hA,hcap⟩: ∃g,k8=some ⟨g,0,none⟩∧jV≠0:=by
  obtain⟨h1,h2⟩:=hw.sat _ (List.mem_of_getElem? (i:=1) rfl)
  rcases h2 with⟨_,h3,_⟩|⟨g,cur,h3,_,h4,_⟩
  ·exact absurd h3 hl
  ·exact⟨g,h3,by omega⟩
 subst hA
 refine W.enter (n:=14) Tryz.func23 rfl rfl Sub.refl (by simp) hw fun R hR=>?_
 refine W.mv fun Q1 xi=>?_
 refine WL.q (Y.assign (.pl rfl)) rfl ?_
 refine WL.next xi (.cons (i:=0) rfl (.nil)) ?_
 refine W.s7 10 (by kernel_rfl) (by kernel_rfl) fun Q2 FJ=>?_
 refine WS.q (Y.move (.pl rfl)) rfl ?_
 refine WS.q (Y.nilCheck (.pl rfl)) rfl ?_
 refine WS.q (Y.eT (off:=1) (ft:=49) Tryz.underlying51 rfl uR (.pl rfl)) rfl ?_
 refine WS.q (Y.lq (v:=.slice (some ⟨g,0,none⟩) (sZ).size jV) Tryz.underlying49 rfl (.pl rfl) (i:=0) rfl rfl) rfl ?_
 refine WS.q (Y.KD (.pl rfl) hcap) rfl ?_
 refine WS.q (Y.move (.pl rfl)) rfl ?_
 refine WS.q (Y.nilCheck (.pl rfl)) rfl ?_
 refine WS.q (Y.eT (off:=1) (ft:=49) Tryz.underlying51 rfl uR (.pl rfl)) rfl ?_
 refine WS.q (Y.lq (v:=.slice (some ⟨g,0,none⟩) (sZ).size jV) Tryz.underlying49 rfl (.pl rfl) (i:=0) rfl rfl) rfl ?_
 refine WS.q (Y.len Tryz.underlying49 (.pl rfl)) rfl ?_
 refine WS.tail ?_
 refine WL.step (WO.Zb (E:=5) Tryz.underlying117 Vz hl (.pl rfl) (.pl rfl) (i:=1) rfl rfl ?_)
 refine WL.q (Y.assign (.pl rfl)) rfl ?_
 refine WL.next FJ (.cons (i:=2) rfl (.nil)) ?_
 refine W.ii (fn:=Tryz.f23) (vs:=[.string sZ]) Tryz.results23 ⟨.tmp rfl,trivial⟩ (fun _ _ h=>h) (fun wz hw=>?_)
 exact hR _ _ ⟨(),trivial,rfl,(bc.drop (M:=[_,_])).at _ _ _ hw⟩
def mP(N:Nat)(Pz:Bool):Option ByteArray:=cond Pz (some (⟨#[121]⟩:ByteArray)) (some (⟨#[110]⟩:ByteArray))
theorem pC{N Pz res}(hF:mP N Pz=some res)(w:World):Pure Tryz.prog 52 [.bool Pz] w (.string res):=by
 refine We 4 Tryz.func52 (St.start w) fun R hR=>?_;refine a_ ?_;refine Wc hF (fun mI hF=>?_) (fun mI hF=>?_)
 ·obtain rfl:=oi hF;refine a_ ?_;exact rP
 ·obtain rfl:=oi hF;refine a_ ?_;exact rP
def eK(N:Nat)(wk:((List Step)×Bool×Int)):((List Pt)×Int)→Option (((List Pt)×Int) ⊕(List Pt))|(yX,v23)=>cond (decide (v23 < ((wk.1).length:Int))) (bd (ix wk.1 v23) fun x24=>ck (dh 16 ((yX).length+(([(Pt.i (x24.call)),(Pt.i (x24.res))]:List Pt)).length)) <| ck (aQ (v23+1)) <| some (.inl ((yX++([(Pt.i (x24.call)),(Pt.i (x24.res))]:List Pt)),(v23+1)))) (some (.inr yX))
def fE(N:Nat)(r5:ByteArray)(ji:(List Int))(sG:(List Event)):Option ByteArray:=bd (dw N ji sG) fun wk=>bd (mP N wk.2.1) fun d_=>bd (α:=(List Pt)) (iter (eK N wk) N (([(Pt.s ((⟨#[116,105,109,101]⟩:ByteArray))),(Pt.s (d_))]:List Pt),0)) <| fun Iz=>bd (bL N r5 Iz) fun jE=>bd (vL N ji sG) fun gG=>bd (mP N gG.2.1) fun oo=>bd (bL N jE ([(Pt.s ((⟨#[112,101,111,112,108,101]⟩:ByteArray))),(Pt.s (oo))]:List Pt)) fun Ye=>bd (sL N ji sG) fun Yf=>bd (mP N Yf.2.1) fun pV=>bd (bL N Ye ([(Pt.s ((⟨#[99,97,108,109]⟩:ByteArray))),(Pt.s (pV))]:List Pt)) fun Yh=>some Yh
theorem p6{N r5 ji sG b1 rZ A3 c4 A6 c7 A9 c10 res}(hF:fE N r5 ji sG=some res){w0 w T}(hw:St w0.heap.size w0 (jU 53 5 b1 rZ A3 c4 r5::cR (eI .i64) 1 A6 c7 3 ji::cR aR 4 A9 c10 108 sG::T) w)(hG:li w0):Calls Tryz.prog 25 (List.toArray [.pointer (some ⟨b1,0,none⟩),.slice A6 (ji).length c7,.slice A9 (sG).length c10]) w (fun e w'=>∃g:(Value×Option Addr×Nat),(True)∧e= .returned (.tuple #[])∧St w0.heap.size w0 (jU 53 5 b1 g.1 g.2.1 g.2.2 res::cR (eI .i64) 1 A6 c7 3 ji::cR aR 4 A9 c10 108 sG::T) w'):=by
 refine We 71 Tryz.func25 hw fun R hR=>?_;obtain⟨wk,FN,hF⟩:=aj hF;refine a_ ?_;refine kM LC (v2 rfl rfl) (fun wz hw=>uH FN wz (so hw) (so hw)) ?_;rintro⟨zo,c14⟩ -;refine a_ ?_;refine WL.q (Y.fW (a:=9) (b:=3) (c:=33) (Pt.s ((⟨#[116,105,109,101]⟩:ByteArray))) Tryz.underlying9 rfl (.pl rfl) rfl) rfl ?_;obtain⟨d_,m8,hF⟩:=aj hF;refine a_ ?_;refine kP GI (v1 rfl) (fun wz hw=>pC m8 wz) ?_;refine WL.q (Y.fW (a:=9) (b:=3) (c:=33) (Pt.s (d_)) Tryz.underlying9 rfl (.pl rfl) rfl) rfl ?_;refine WL.step (WO.bA (enc:=(gy 9 3 33)) (ys:=([(Pt.s ((⟨#[116,105,109,101]⟩:ByteArray))),(Pt.s (d_))]:List Pt)) Tryz.underlying111 pB (.cons (.pl rfl) (.cons (.pl rfl) (.nil))) rfl (fun _=>rfl) rfl rfl (by decide) (by decide) rfl fun Bm=>?_);obtain⟨o3,ey,hF⟩:=aj hF;refine b_ ?_;refine W.jI (fun a b c=>[(9,.slice b (a).length c)]) (fun a b c=>(jU 53 5 b1 rZ A3 c4 r5::cR (eI .i64) 1 A6 c7 3 ji::cR aR 4 A9 c10 108 sG::cR (gy 9 3 33) 1 b c 20 a::T)) (fun a b c=>a=o3) (gx 0 1 2) (fun K4 ko=>?_) ?_
 ·refine a_ ?_;refine s_ ey (fun a b c d=>[(9,.slice c (a).length d),(26,.int .i64 b)]) (fun a b c d=>(jU 53 5 b1 rZ A3 c4 r5::cR (eI .i64) 1 A6 c7 3 ji::cR aR 4 A9 c10 108 sG::cR (gy 9 3 33) 1 c d 20 a::cR bw 2 zo c14 128 wk.1::T)) (qu 0 1 2 24 25) fun yX v23 KQ c21 k6 t6 aJ ec K7 jb=>?_;refine a_ ?_;refine Wc aJ (fun iI aJ=>?_) (fun iI aJ=>?_)
  ·obtain⟨x24,rD,aJ⟩:=aj aJ;refine a_ ?_;refine mA fun XR=>?_;refine a_ ?_;refine WL.q (Y.fW (a:=9) (b:=3) (c:=33) (Pt.i (x24.call)) Tryz.underlying3 rfl (.pl rfl) rfl) rfl ?_;refine a_ ?_;refine WL.q (Y.fW (a:=9) (b:=3) (c:=33) (Pt.i (x24.res)) Tryz.underlying3 rfl (.pl rfl) rfl) rfl ?_;refine WL.step (WO.bA (enc:=(gy 9 3 33)) (ys:=([(Pt.i (x24.call)),(Pt.i (x24.res))]:List Pt)) Tryz.underlying111 pB (.cons (.pl rfl) (.cons (.pl rfl) (.nil))) rfl (fun _=>rfl) rfl rfl (by decide) (by decide) rfl fun X1=>?_);obtain⟨Jp,aJ⟩:=aW aJ;refine WL.step (WO.d4 (enc:=(gy 9 3 33)) Tryz.underlying111 JY (fun _=>rfl) Ea (.pl rfl) rfl (.pl rfl) (i:=5) rfl (m2:=0) rfl (Jp) rfl fun Po c28=>?_);obtain⟨UA,aJ⟩:=aW aJ;refine a_ ?_;exact g4 jb (oj aJ ec)
  ·refine a_ ?_;exact h3 ko (oj aJ ec)
 ·rintro Iz Bo c18 rfl;obtain⟨jE,vq,hF⟩:=aj hF;refine a_ ?_;refine kC oG (v2 rfl rfl) (fun _ hw=>bX vq (sw hw) hG) ?_;rintro⟨aam,Fp,HR⟩ -;obtain⟨gG,Aa,hF⟩:=aj hF;refine a_ ?_;refine kM VD (v2 rfl rfl) (fun wz hw=>G7 Aa wz (so hw) (so hw)) ?_;rintro⟨xk,c37⟩ -;refine a_ ?_;refine WL.q (Y.fW (a:=9) (b:=3) (c:=33) (Pt.s ((⟨#[112,101,111,112,108,101]⟩:ByteArray))) Tryz.underlying9 rfl (.pl rfl) rfl) rfl ?_;obtain⟨oo,FZ,hF⟩:=aj hF;refine a_ ?_;refine kP GI (v1 rfl) (fun wz hw=>pC FZ wz) ?_;refine WL.q (Y.fW (a:=9) (b:=3) (c:=33) (Pt.s (oo)) Tryz.underlying9 rfl (.pl rfl) rfl) rfl ?_;refine WL.step (WO.bA (enc:=(gy 9 3 33)) (ys:=([(Pt.s ((⟨#[112,101,111,112,108,101]⟩:ByteArray))),(Pt.s (oo))]:List Pt)) Tryz.underlying111 pB (.cons (.pl rfl) (.cons (.pl rfl) (.nil))) rfl (fun _=>rfl) rfl rfl (by decide) (by decide) rfl fun H6=>?_);obtain⟨Ye,aan,hF⟩:=aj hF;refine kC oG (v2 rfl rfl) (fun _ hw=>bX aan (sw hw) hG) ?_;rintro⟨abW,O0,T6⟩ -;obtain⟨Yf,aao,hF⟩:=aj hF;refine a_ ?_;refine kM VE (v2 rfl rfl) (fun wz hw=>F9 aao wz (so hw) (so hw)) ?_;rintro⟨XH,c46⟩ -;refine a_ ?_;refine WL.q (Y.fW (a:=9) (b:=3) (c:=33) (Pt.s ((⟨#[99,97,108,109]⟩:ByteArray))) Tryz.underlying9 rfl (.pl rfl) rfl) rfl ?_;obtain⟨pV,MQ,hF⟩:=aj hF;refine a_ ?_;refine kP GI (v1 rfl) (fun wz hw=>pC MQ wz) ?_;refine WL.q (Y.fW (a:=9) (b:=3) (c:=33) (Pt.s (pV)) Tryz.underlying9 rfl (.pl rfl) rfl) rfl ?_;refine WL.step (WO.bA (enc:=(gy 9 3 33)) (ys:=([(Pt.s ((⟨#[99,97,108,109]⟩:ByteArray))),(Pt.s (pV))]:List Pt)) Tryz.underlying111 pB (.cons (.pl rfl) (.cons (.pl rfl) (.nil))) rfl (fun _=>rfl) rfl rfl (by decide) (by decide) rfl fun b48=>?_);obtain⟨Yh,aap,hF⟩:=aj hF;refine kC oG (v2 rfl rfl) (fun _ hw=>bX aap (sw hw) hG) ?_;rintro⟨aaq,T7,T8⟩ -;obtain rfl:=oi hF;refine a_ ?_;exact rF (aaq,T7,T8)
def fe(N:Nat)(r5:ByteArray)(PA:Bool)(b7:bq)(e8:Int):Option ByteArray:=cond (!(decide (e8=0))) (bd (bL N r5 ([(Pt.s ((⟨#[98,97,100]⟩:ByteArray))),(Pt.s ((⟨#[101,114,114,111,114]⟩:ByteArray))),(Pt.e (e8))]:List Pt)) fun dr=>some dr) (cond PA (bd (bL N r5 ([(Pt.s ((⟨#[98,97,100]⟩:ByteArray))),(Pt.s ((⟨#[110,111,110,101]⟩:ByteArray)))]:List Pt)) fun r16=>some r16) (bd (bL N r5 ([(Pt.s ((⟨#[98,97,100]⟩:ByteArray))),(Pt.i (b7.kind)),(Pt.i (b7.a)),(Pt.i (b7.b))]:List Pt)) fun sK=>some sK))
theorem j_{N r5 PA b7 e8 b1 rZ A3 c4 res}(hF:fe N r5 PA b7 e8=some res){w0 w T}(hw:St w0.heap.size w0 (jU 53 5 b1 rZ A3 c4 r5::T) w)(hG:li w0):Calls Tryz.prog 55 (List.toArray [.pointer (some ⟨b1,0,none⟩),.bool PA,.agg (aH b7).toArray,.int .i64 e8]) w (fun e w'=>∃g:(Value×Option Addr×Nat),(True)∧e= .returned (.tuple #[])∧St w0.heap.size w0 (jU 53 5 b1 g.1 g.2.1 g.2.2 res::T) w'):=by
 refine We 38 Tryz.func55 hw fun R hR=>?_;refine a_ ?_;refine WL.step (WO.fg (.pl rfl) rfl fun b9=>?_);refine a_ ?_;refine Wc hF (fun LA hF=>?_) (fun LA hF=>?_)
 ·refine a_ ?_;refine WL.q (Y.fW (a:=9) (b:=3) (c:=33) (Pt.s ((⟨#[98,97,100]⟩:ByteArray))) Tryz.underlying9 rfl (.pl rfl) rfl) rfl ?_;refine WL.q (Y.fW (a:=9) (b:=3) (c:=33) (Pt.s ((⟨#[101,114,114,111,114]⟩:ByteArray))) Tryz.underlying9 rfl (.pl rfl) rfl) rfl ?_;refine a_ ?_;refine WL.q (Y.fW (a:=9) (b:=3) (c:=33) (Pt.e (e8)) Tryz.underlying33 rfl (.pl rfl) rfl) rfl ?_;refine WL.step (WO.bA (enc:=(gy 9 3 33)) (ys:=([(Pt.s ((⟨#[98,97,100]⟩:ByteArray))),(Pt.s ((⟨#[101,114,114,111,114]⟩:ByteArray))),(Pt.e (e8))]:List Pt)) Tryz.underlying111 pB (.cons (.pl rfl) (.cons (.pl rfl) (.cons (.pl rfl) (.nil)))) rfl (fun _=>rfl) rfl rfl (by decide) (by decide) rfl fun mH=>?_);obtain⟨dr,kz,hF⟩:=aj hF;refine kC oG (v2 rfl rfl) (fun _ hw=>bX kz (sw hw) hG) ?_;rintro⟨N9,zo,c14⟩ -;obtain rfl:=oi hF;refine a_ ?_;exact rF (N9,zo,c14)
 ·refine a_ ?_;refine Wc hF (fun BS hF=>?_) (fun BS hF=>?_)
  ·refine a_ ?_;refine WL.q (Y.fW (a:=9) (b:=3) (c:=33) (Pt.s ((⟨#[98,97,100]⟩:ByteArray))) Tryz.underlying9 rfl (.pl rfl) rfl) rfl ?_;refine WL.q (Y.fW (a:=9) (b:=3) (c:=33) (Pt.s ((⟨#[110,111,110,101]⟩:ByteArray))) Tryz.underlying9 rfl (.pl rfl) rfl) rfl ?_;refine WL.step (WO.bA (enc:=(gy 9 3 33)) (ys:=([(Pt.s ((⟨#[98,97,100]⟩:ByteArray))),(Pt.s ((⟨#[110,111,110,101]⟩:ByteArray)))]:List Pt)) Tryz.underlying111 pB (.cons (.pl rfl) (.cons (.pl rfl) (.nil))) rfl (fun _=>rfl) rfl rfl (by decide) (by decide) rfl fun dI=>?_);obtain⟨r16,na,hF⟩:=aj hF;refine kC oG (v2 rfl rfl) (fun _ hw=>bX na (sw hw) hG) ?_;rintro⟨N_,Ds,c19⟩ -;obtain rfl:=oi hF;refine a_ ?_;exact rF (N_,Ds,c19)
  ·refine a_ ?_;refine WL.q (Y.fW (a:=9) (b:=3) (c:=33) (Pt.s ((⟨#[98,97,100]⟩:ByteArray))) Tryz.underlying9 rfl (.pl rfl) rfl) rfl ?_;refine a_ ?_;refine WL.q (Y.fW (a:=9) (b:=3) (c:=33) (Pt.i (b7.kind)) Tryz.underlying3 rfl (.pl rfl) rfl) rfl ?_;refine a_ ?_;refine WL.q (Y.fW (a:=9) (b:=3) (c:=33) (Pt.i (b7.a)) Tryz.underlying3 rfl (.pl rfl) rfl) rfl ?_;refine a_ ?_;refine WL.q (Y.fW (a:=9) (b:=3) (c:=33) (Pt.i (b7.b)) Tryz.underlying3 rfl (.pl rfl) rfl) rfl ?_;refine WL.step (WO.bA (enc:=(gy 9 3 33)) (ys:=([(Pt.s ((⟨#[98,97,100]⟩:ByteArray))),(Pt.i (b7.kind)),(Pt.i (b7.a)),(Pt.i (b7.b))]:List Pt)) Tryz.underlying111 pB (.cons (.pl rfl) (.cons (.pl rfl) (.cons (.pl rfl) (.cons (.pl rfl) (.nil))))) rfl (fun _=>rfl) rfl rfl (by decide) (by decide) rfl fun XQ=>?_);obtain⟨sK,Af,hF⟩:=aj hF;refine kC oG (v2 rfl rfl) (fun _ hw=>bX Af (sw hw) hG) ?_;rintro⟨JZ,wh,c24⟩ -;obtain rfl:=oi hF;refine a_ ?_;exact rF (JZ,wh,c24)
def eV(N:Nat)(r9:((List Int)×Int)):((List Pt)×Int)→Option (((List Pt)×Int) ⊕(List Pt))|(yY,v30)=>cond (decide (v30 < ((r9.1).length:Int))) (bd (ix r9.1 v30) fun x31=>ck (dh 16 ((yY).length+(([(Pt.i (x31))]:List Pt)).length)) <| ck (aQ (v30+1)) <| some (.inl ((yY++([(Pt.i (x31))]:List Pt)),(v30+1)))) (some (.inr yY))
def fS(N:Nat)(r5:ByteArray)(l8:(List Event)):Option ByteArray:=bd (dV N l8) fun r9=>bd (α:=(List Pt)) (cond (!(decide (r9.2=0))) (ck (dh 16 ((([(Pt.s ((⟨#[98,97,100]⟩:ByteArray)))]:List Pt)).length+(([(Pt.s ((⟨#[101,114,114,111,114]⟩:ByteArray))),(Pt.e (r9.2))]:List Pt)).length)) <| some (([(Pt.s ((⟨#[98,97,100]⟩:ByteArray)))]:List Pt)++([(Pt.s ((⟨#[101,114,114,111,114]⟩:ByteArray))),(Pt.e (r9.2))]:List Pt))) (cond (decide (((r9.1).length:Int)=0)) (ck (dh 16 ((([(Pt.s ((⟨#[98,97,100]⟩:ByteArray)))]:List Pt)).length+(([(Pt.s ((⟨#[110,111,110,101]⟩:ByteArray)))]:List Pt)).length)) <| some (([(Pt.s ((⟨#[98,97,100]⟩:ByteArray)))]:List Pt)++([(Pt.s ((⟨#[110,111,110,101]⟩:ByteArray)))]:List Pt))) (some ([(Pt.s ((⟨#[98,97,100]⟩:ByteArray)))]:List Pt)))) <| fun IA=>bd (α:=(List Pt)) (iter (eV N r9) N (IA,0)) <| fun IB=>bd (bL N r5 IB) fun uy=>some uy
theorem qs{N r5 l8 b1 rZ A3 c4 A6 c7 res}(hF:fS N r5 l8=some res){w0 w T}(hw:St w0.heap.size w0 (jU 53 5 b1 rZ A3 c4 r5::cR aR 4 A6 c7 108 l8::T) w)(hG:li w0):Calls Tryz.prog 59 (List.toArray [.pointer (some ⟨b1,0,none⟩),.slice A6 (l8).length c7]) w (fun e w'=>∃g:(Value×Option Addr×Nat),(True)∧e= .returned (.tuple #[])∧St w0.heap.size w0 (jU 53 5 b1 g.1 g.2.1 g.2.2 res::cR aR 4 A6 c7 108 l8::T) w'):=by
 refine We 48 Tryz.func59 hw fun R hR=>?_;obtain⟨r9,pO,hF⟩:=aj hF;refine a_ ?_;refine kM VK (v1 rfl) (fun wz hw=>D4 pO wz (so hw)) ?_;rintro⟨qw,c11⟩ -;refine a_ ?_;refine WL.q (Y.fW (a:=9) (b:=3) (c:=33) (Pt.s ((⟨#[98,97,100]⟩:ByteArray))) Tryz.underlying9 rfl (.pl rfl) rfl) rfl ?_;refine WL.step (WO.bA (enc:=(gy 9 3 33)) (ys:=([(Pt.s ((⟨#[98,97,100]⟩:ByteArray)))]:List Pt)) Tryz.underlying111 pB (.cons (.pl rfl) (.nil)) rfl (fun _=>rfl) rfl rfl (by decide) (by decide) rfl fun iE=>?_);obtain⟨o3,ey,hF⟩:=aj hF;refine b_ ?_;refine W.jI (fun a b c=>[(6,.slice b (a).length c)]) (fun a b c=>(jU 53 5 b1 rZ A3 c4 r5::cR aR 4 A6 c7 108 l8::cR (eI .i64) 1 qw c11 3 r9.1::cR (gy 9 3 33) 1 b c 20 a::T)) (fun a b c=>a=o3) (mD 0 4) (fun K4 ko=>?_) ?_
 ·refine a_ ?_;refine Wc ey (fun BS ey=>?_) (fun BS ey=>?_)
  ·refine a_ ?_;refine WL.q (Y.fW (a:=9) (b:=3) (c:=33) (Pt.s ((⟨#[101,114,114,111,114]⟩:ByteArray))) Tryz.underlying9 rfl (.pl rfl) rfl) rfl ?_;refine a_ ?_;refine WL.q (Y.fW (a:=9) (b:=3) (c:=33) (Pt.e (r9.2)) Tryz.underlying33 rfl (.pl rfl) rfl) rfl ?_;refine WL.step (WO.bA (enc:=(gy 9 3 33)) (ys:=([(Pt.s ((⟨#[101,114,114,111,114]⟩:ByteArray))),(Pt.e (r9.2))]:List Pt)) Tryz.underlying111 pB (.cons (.pl rfl) (.cons (.pl rfl) (.nil))) rfl (fun _=>rfl) rfl rfl (by decide) (by decide) rfl fun Bm=>?_);obtain⟨vI,ey⟩:=aW ey;refine WL.step (WO.d4 (enc:=(gy 9 3 33)) Tryz.underlying111 JY (fun _=>rfl) Ea (.pl rfl) rfl (.pl rfl) (i:=1) rfl (m2:=0) rfl (vI) rfl fun Bo c18=>?_);refine a_ ?_;exact h3 ko (oi ey)
  ·refine a_ ?_;refine Wc ey (fun eO ey=>?_) (fun eO ey=>?_)
   ·refine a_ ?_;refine WL.q (Y.fW (a:=9) (b:=3) (c:=33) (Pt.s ((⟨#[110,111,110,101]⟩:ByteArray))) Tryz.underlying9 rfl (.pl rfl) rfl) rfl ?_;refine WL.step (WO.bA (enc:=(gy 9 3 33)) (ys:=([(Pt.s ((⟨#[110,111,110,101]⟩:ByteArray)))]:List Pt)) Tryz.underlying111 pB (.cons (.pl rfl) (.nil)) rfl (fun _=>rfl) rfl rfl (by decide) (by decide) rfl fun XQ=>?_);obtain⟨Ju,ey⟩:=aW ey;refine WL.step (WO.d4 (enc:=(gy 9 3 33)) Tryz.underlying111 JY (fun _=>rfl) Ea (.pl rfl) rfl (.pl rfl) (i:=1) rfl (m2:=0) rfl (Ju) rfl fun Lt c22=>?_);refine a_ ?_;exact h3 ko (oi ey)
   ·refine a_ ?_;exact h3 ko (oi ey)
 ·rintro IA zo c14 rfl;obtain⟨lN,aA,hF⟩:=aj hF;refine W.jI (fun a b c=>[(6,.slice b (a).length c)]) (fun a b c=>(jU 53 5 b1 rZ A3 c4 r5::cR aR 4 A6 c7 108 l8::cR (gy 9 3 33) 1 b c 20 a::T)) (fun a b c=>a=lN) (lr 0) (fun rk di=>?_) ?_
  ·refine a_ ?_;refine s_ aA (fun a b c d=>[(6,.slice c (a).length d),(35,.int .i64 b)]) (fun a b c d=>(jU 53 5 b1 rZ A3 c4 r5::cR aR 4 A6 c7 108 l8::cR (gy 9 3 33) 1 c d 20 a::cR (eI .i64) 1 qw c11 3 r9.1::T)) (gx 0 33 34) fun yY v30 Po c28 XI t14 bN tX Ld oq=>?_;refine a_ ?_;refine Wc bN (fun m9 bN=>?_) (fun m9 bN=>?_)
   ·obtain⟨x31,aaa,bN⟩:=aj bN;refine a_ ?_;refine WL.q (Y.fW (a:=9) (b:=3) (c:=33) (Pt.i (x31)) Tryz.underlying3 rfl (.pl rfl) rfl) rfl ?_;refine WL.step (WO.bA (enc:=(gy 9 3 33)) (ys:=([(Pt.i (x31))]:List Pt)) Tryz.underlying111 pB (.cons (.pl rfl) (.nil)) rfl (fun _=>rfl) rfl rfl (by decide) (by decide) rfl fun Xq=>?_);obtain⟨MB,bN⟩:=aW bN;refine WL.step (WO.d4 (enc:=(gy 9 3 33)) Tryz.underlying111 JY (fun _=>rfl) Ea (.pl rfl) rfl (.pl rfl) (i:=3) rfl (m2:=0) rfl (MB) rfl fun Fp HR=>?_);obtain⟨MD,bN⟩:=aW bN;refine a_ ?_;exact g4 oq (oj bN tX)
   ·refine a_ ?_;exact h3 di (oj bN tX)
  ·rintro IB A24 c25 rfl;obtain⟨uy,Fr,hF⟩:=aj hF;refine a_ ?_;refine kC oG (v2 rfl rfl) (fun _ hw=>bX Fr (sw hw) hG) ?_;rintro⟨aar,XG,c40⟩ -;obtain rfl:=oi hF;refine a_ ?_;exact rF (aar,XG,c40)
def gY(N:Nat)(r5:ByteArray)(AD:Int)(l9:(List Event)):Option ByteArray:=cond (decide (AD=1)) (bd (fk N l9) fun ex=>bd (fe N r5 ex.1 (bq.mk ex.2.1 ex.2.2.1 ex.2.2.2.1) ex.2.2.2.2) fun dr=>some dr) (cond (decide (AD=2)) (bd (dU N l9) fun d_=>bd (fe N r5 d_.1 (bq.mk d_.2.1 d_.2.2.1 d_.2.2.2.1) d_.2.2.2.2) fun r16=>some r16) (cond (decide (AD=5)) (bd (ch N l9) fun n_=>bd (fe N r5 n_.1 (bq.mk n_.2.1 n_.2.2.1 n_.2.2.2.1) n_.2.2.2.2) fun sK=>some sK) (cond (decide (AD=4)) (bd (fS N r5 l9) fun pW=>some pW) (some r5))))
theorem r_{N r5 AD l9 b1 rZ A3 c4 A7 c8 res}(hF:gY N r5 AD l9=some res){w0 w T}(hw:St w0.heap.size w0 (jU 53 5 b1 rZ A3 c4 r5::cR aR 4 A7 c8 108 l9::T) w)(hG:li w0):Calls Tryz.prog 26 (List.toArray [.pointer (some ⟨b1,0,none⟩),.int .i64 AD,.slice A7 (l9).length c8]) w (fun e w'=>∃g:(Value×Option Addr×Nat),(True)∧e= .returned (.tuple #[])∧St w0.heap.size w0 (jU 53 5 b1 g.1 g.2.1 g.2.2 res::cR aR 4 A7 c8 108 l9::T) w'):=by
 refine We 39 Tryz.func26 hw fun R hR=>?_;refine a_ ?_;refine Wc hF (fun LA hF=>?_) (fun LA hF=>?_)
 ·obtain⟨ex,kD,hF⟩:=aj hF;refine a_ ?_;refine kP VF (v1 rfl) (fun wz hw=>CM kD wz (so hw)) ?_;obtain⟨dr,kz,hF⟩:=aj hF;refine a_ ?_;refine kC GJ (v4 rfl rfl rfl rfl) (fun _ hw=>j_ kz (sw hw) hG) ?_;rintro⟨N9,zo,c14⟩ -;obtain rfl:=oi hF;refine a_ ?_;exact rF (N9,zo,c14)
 ·refine a_ ?_;refine Wc hF (fun BS hF=>?_) (fun BS hF=>?_)
  ·obtain⟨d_,m8,hF⟩:=aj hF;refine a_ ?_;refine kP VG (v1 rfl) (fun wz hw=>D3 m8 wz (so hw)) ?_;obtain⟨r16,na,hF⟩:=aj hF;refine a_ ?_;refine kC GJ (v4 rfl rfl rfl rfl) (fun _ hw=>j_ na (sw hw) hG) ?_;rintro⟨N_,Ds,c19⟩ -;obtain rfl:=oi hF;refine a_ ?_;exact rF (N_,Ds,c19)
  ·refine a_ ?_;refine Wc hF (fun eO hF=>?_) (fun eO hF=>?_)
   ·obtain⟨n_,zS,hF⟩:=aj hF;refine a_ ?_;refine kP VH (v1 rfl) (fun wz hw=>Ax zS wz (so hw)) ?_;obtain⟨sK,Af,hF⟩:=aj hF;refine a_ ?_;refine kC GJ (v4 rfl rfl rfl rfl) (fun _ hw=>j_ Af (sw hw) hG) ?_;rintro⟨JZ,wh,c24⟩ -;obtain rfl:=oi hF;refine a_ ?_;exact rF (JZ,wh,c24)
   ·refine a_ ?_;refine Wc hF (fun vo hF=>?_) (fun vo hF=>?_)
    ·obtain⟨pW,F2,hF⟩:=aj hF;refine a_ ?_;refine kC VI (v2 rfl rfl) (fun _ hw=>qs F2 (sw hw) hG) ?_;rintro⟨aas,Po,c28⟩ -;obtain rfl:=oi hF;refine a_ ?_;exact rF (aas,Po,c28)
    ·obtain rfl:=oi hF;refine a_ ?_;exact rF (rZ,A3,c4)
def jD(N:Nat)(s1:ByteArray):Option ByteArray:=bd (kl N s1) fun r3=>cond (!(decide (r3.2.2.2=0))) (bd (bL N ⟨#[]⟩ ([(Pt.s ((⟨#[101,114,114,111,114]⟩:ByteArray))),(Pt.e (r3.2.2.2)),(Pt.i (r3.2.2.1))]:List Pt)) fun r9=>bd (DL N r9) fun fv=>some fv) (bd (bk N r3.1 r3.2.1) fun kp=>bd (bL N ⟨#[]⟩ ([(Pt.s ((⟨#[99,97,108,108,115]⟩:ByteArray))),(Pt.i (((kp.1).length:Int)))]:List Pt)) fun ip=>bd (α:=ByteArray) (cond (decide (((kp.1).length:Int)≤9)) (bd (fE N ip r3.1 r3.2.1) fun Pd=>some Pd) (some ip)) <| fun pW=>cond (decide (((r3.1).length:Int)=1)) (bd (ix r3.1 0) fun Gv=>bd (gY N pW Gv r3.2.1) fun jE=>bd (DL N jE) fun gG=>some gG) (bd (DL N pW) fun Yi=>some Yi))
theorem uT{N s1 res}(hF:jD N s1=some res)(w:World)(hG:li w):Pure Tryz.prog 9 [.string s1] w (.string res):=by
 refine We 68 Tryz.func9 (St.start w) fun R hR=>?_;refine a_ ?_;refine WL.q (Y.build (cs:=((Value.pointer none::(Value.slice none 0 0::[]))++[]).toArray) R8 (.nil) (aX trivial) rfl) rfl ?_;refine WL.step (WO.fg (.pl rfl) rfl fun b2=>?_);refine WL.AW (.sb0 5) ?_;obtain⟨r3,qy,hF⟩:=aj hF;refine a_ ?_;refine kM VA (v1 rfl) (fun wz hw=>Fl qy wz (hG.mono hw)) ?_;rintro⟨A4,c5,A6,c7⟩ -;refine a_ ?_;refine Wc hF (fun BS hF=>?_) (fun BS hF=>?_)
 ·refine a_ ?_;refine WL.q (Y.fW (a:=9) (b:=3) (c:=33) (Pt.s ((⟨#[101,114,114,111,114]⟩:ByteArray))) Tryz.underlying9 rfl (.pl rfl) rfl) rfl ?_;refine a_ ?_;refine WL.q (Y.fW (a:=9) (b:=3) (c:=33) (Pt.e (r3.2.2.2)) Tryz.underlying33 rfl (.pl rfl) rfl) rfl ?_;refine a_ ?_;refine WL.q (Y.fW (a:=9) (b:=3) (c:=33) (Pt.i (r3.2.2.1)) Tryz.underlying3 rfl (.pl rfl) rfl) rfl ?_;refine WL.step (WO.bA (enc:=(gy 9 3 33)) (ys:=([(Pt.s ((⟨#[101,114,114,111,114]⟩:ByteArray))),(Pt.e (r3.2.2.2)),(Pt.i (r3.2.2.1))]:List Pt)) Tryz.underlying111 pB (.cons (.pl rfl) (.cons (.pl rfl) (.cons (.pl rfl) (.nil)))) rfl (fun _=>rfl) rfl rfl (by decide) (by decide) rfl fun b8=>?_);obtain⟨r9,pO,hF⟩:=aj hF;refine kC oG (v2 rfl rfl) (fun _ hw=>bX pO (sw hw) hG) ?_;rintro⟨abX,bH,c12⟩ -;obtain⟨fv,jW,hF⟩:=aj hF;refine a_ ?_;refine kC GH (v1 rfl) (fun _ hw=>f9 jW (sw hw)) ?_;rintro _ -;obtain rfl:=oi hF;refine a_ ?_;exact rP
 ·obtain⟨kp,vF,hF⟩:=aj hF;refine a_ ?_;refine kM rh (v2 rfl rfl) (fun wz hw=>eY vF wz (so hw) (so hw)) ?_;rintro⟨Tr,c16⟩ -;refine a_ ?_;refine WL.q (Y.fW (a:=9) (b:=3) (c:=33) (Pt.s ((⟨#[99,97,108,108,115]⟩:ByteArray))) Tryz.underlying9 rfl (.pl rfl) rfl) rfl ?_;refine a_ ?_;refine WL.q (Y.fW (a:=9) (b:=3) (c:=33) (Pt.i (((kp.1).length:Int))) Tryz.underlying3 rfl (.pl rfl) rfl) rfl ?_;refine WL.step (WO.bA (enc:=(gy 9 3 33)) (ys:=([(Pt.s ((⟨#[99,97,108,108,115]⟩:ByteArray))),(Pt.i (((kp.1).length:Int)))]:List Pt)) Tryz.underlying111 pB (.cons (.pl rfl) (.cons (.pl rfl) (.nil))) rfl (fun _=>rfl) rfl rfl (by decide) (by decide) rfl fun Bn=>?_);obtain⟨ip,vH,hF⟩:=aj hF;refine kC oG (v2 rfl rfl) (fun _ hw=>bX vH (sw hw) hG) ?_;rintro⟨aag,KQ,c21⟩ -;obtain⟨lN,aA,hF⟩:=aj hF;refine b_ ?_;refine W.u' (fun a b c d=>[]) (fun a b c d=>[jU 53 5 b2 b c d a,cR (eI .i64) 1 A4 c5 3 r3.1,cR aR 4 A6 c7 108 r3.2.1]) (fun a b c d=>a=lN) (gx 3 4 5) (fun rk di=>?_) ?_
  ·refine a_ ?_;refine Wc aA (fun jx aA=>?_) (fun jx aA=>?_)
   ·obtain⟨Pd,Nm,aA⟩:=aj aA;refine a_ ?_;refine kC VB (v3 rfl rfl rfl) (fun _ hw=>p6 Nm (sw hw) hG) ?_;rintro⟨abY,KO,HL⟩ -;refine a_ ?_;exact h4 di (oi aA)
   ·refine a_ ?_;exact h4 di (oi aA)
  ·rintro pW JZ wh c24 rfl;refine a_ ?_;refine Wc hF (fun m9 hF=>?_) (fun m9 hF=>?_)
   ·obtain⟨Gv,Z7,hF⟩:=aj hF;obtain⟨jE,vq,hF⟩:=aj hF;refine a_ ?_;refine kC VC (v3 rfl rfl rfl) (fun _ hw=>r_ vq (sw hw) hG) ?_;rintro⟨aam,Fp,HR⟩ -;obtain⟨gG,Aa,hF⟩:=aj hF;refine a_ ?_;refine kC GH (v1 rfl) (fun _ hw=>f9 Aa (sw hw)) ?_;rintro _ -;obtain rfl:=oi hF;refine a_ ?_;exact rP
   ·obtain⟨Yi,aat,hF⟩:=aj hF;refine a_ ?_;refine kC GH (v1 rfl) (fun _ hw=>f9 aat (sw hw)) ?_;rintro _ -;obtain rfl:=oi hF;refine a_ ?_;exact rP
end Go.Proofs.YtjdkkabcenohcaaGreatDoor
