import Derived.Test.YtjdkkabcenohcaaGreatDoorAuto
import Derived.Test.YtjdkkabcenohcaaGreatDoorV8
set_option linter.unusedVariables false
set_option linter.defProp false
set_option linter.unusedSimpArgs false
set_option linter.unusedSectionVars false
set_option maxRecDepth 100000
namespace Go.Proofs.YtjdkkabcenohcaaGreatDoor
open Go.RowKit
attribute [local irreducible] Yd aD ik
theorem Xq:Tryz.prog.cellsOf 5=0+1:=by kernel_rfl
theorem acH:Tryz.prog.cellsOf 20=0+1:=by kernel_rfl
theorem rl:Tryz.prog.cellsOf 48=0+1:=by kernel_rfl
theorem rm:Tryz.prog.cellsOf 49=0+1:=by kernel_rfl
theorem Mg:Tryz.prog.cellsOf 51=1+1:=by kernel_rfl
def afv:=gg Tryz.func21
def wY:=gg Tryz.func22
def KF:=gg Tryz.func23
def afw:=gg Tryz.func25
def afx:=gg Tryz.func26
def q7:=gg Tryz.func47
def QN:=gg Tryz.func52
def afy:=gg Tryz.func53
def afz:=gg Tryz.func54
def QO:=gg Tryz.func55
def afA:=gg Tryz.func56
def afB:=gg Tryz.func57
def afC:=gg Tryz.func58
def afD:=gg Tryz.func59
def Xr:=gg Tryz.func76
def afE:=gg Tryz.func99
theorem ahx: ∃i,Tryz.prog.info? 9=some i∧i.zero=some (Value.string ⟨#[]⟩):=⟨_,rfl,by kernel_rfl⟩
theorem afF: ∃i,Tryz.prog.info? 33=some i∧i.zero=some (Value.int .i64 0):=⟨_,rfl,by kernel_rfl⟩
theorem acI: ∃i,Tryz.prog.info? 128=some i∧i.zero=some (Value.agg #[(Value.int .i64 0),(Value.int .i64 0)]):=⟨_,rfl,by kernel_rfl⟩
@[reducible,instance] def alP:=UT.mk Tryz.underlying111
@[reducible,instance] def c20:=CT.mk acH
@[reducible,instance] def c51:=CT.mk Mg
instance:FT Tryz.prog 53 0 0 51:=⟨_,Tryz.underlying53,rfl⟩
@[reducible,instance] def alQ:=CT.mk PM
@[reducible,instance] def alR:=UT.mk Tryz.underlying128
instance:ON cx:=⟨HC⟩
instance:FT Tryz.prog 128 0 0 3:=⟨_,Tryz.underlying128,rfl⟩
instance:FT Tryz.prog 128 1 1 3:=⟨_,Tryz.underlying128,rfl⟩
@[reducible,instance] def alS:=ZI.mk acI
instance:FT Tryz.prog 131 1 1 3:=⟨_,Tryz.underlying131,rfl⟩
instance:FT Tryz.prog 131 2 2 3:=⟨_,Tryz.underlying131,rfl⟩
theorem yv: ∃i,Tryz.prog.info? 20=some i∧i.zero=some Value.nilIface∧i.size=1:=⟨_,rfl,by kernel_rfl,by kernel_rfl⟩
theorem VB: ∃i z,Tryz.prog.info? 20=some i∧i.zero=some z∧i.size=1∧i.bytes=16∧z.cells.size=1∧0 < 1:=⟨_,Value.nilIface,rfl,by kernel_rfl,by kernel_rfl,by kernel_rfl,by kernel_rfl,by decide⟩
theorem acJ:Shape Tryz.prog 53 [(0,2)] #[(Value.pointer none),(Value.slice none 0 0)]:=⟨_,_,Value.agg #[(Value.pointer none),(Value.slice none 0 0)],Tryz.underlying53,rfl,by kernel_rfl,rfl,by kernel_rfl,by decide⟩
def vU(N:Nat)(l s:ByteArray):Option ByteArray:=if l.size+s.size≤140737488351232 then some (l++s)else none
theorem KG{b p v}(hp:p= .pointer none∨p= .pointer (some ⟨b,0,none⟩)){w0 w T}(hw:St w0.heap.size w0 (aw b 53 [p,v]::T) w):Calls Tryz.prog 76 (List.toArray [.pointer (some ⟨b,0,none⟩)]) w (fun e w'=>∃g:Unit,True∧e= .returned (.tuple #[])∧St w0.heap.size w0 (aw b 53 [.pointer (some ⟨b,0,none⟩),v]::T) w'):=by
 refine W.enter (n:=20) Tryz.func76 rfl rfl Sub.refl (by simp) hw fun R hR=>?_
 obtain⟨j,hj,hs⟩:=zo Mg
 replace hs:j.size≠0:=by omega
 have hne:∀u w,(callFunc 117 #[u]).run Tryz.prog w= .ok (.value u) w:=fun u w=>by
  rw[run_callFunc_extern Tryz.func117 (by kernel_rfl) (by kernel_rfl) (by kernel_rfl) (e:=Extern.AbiNoEscape.same) (by kernel_rfl),Lib.run_noEscape]
  rfl
 rcases hp with rfl|rfl
 ·refine W.mR fun Q1 wG=>?_
  refine WL.q (Y.move (.pl rfl)) rfl ?_
  refine WL.q (Y.nilCheck (.pl rfl)) rfl ?_
  refine WL.q (Y.dQ (off:=0) (ft:=48) Tryz.underlying51 rfl rl (.pl rfl)) rfl ?_
  refine WL.q (Y.lW (v:=.pointer none) Tryz.underlying48 rfl (.pl rfl) (i:=0) rfl rfl) rfl ?_
  refine WL.q (Y.JY Tryz.underlying48 (.pl rfl)) rfl ?_
  refine WL.next wG (.cons (i:=0) rfl (.cons (i:=6) rfl (.nil))) ?_
  refine W.cond (.pl rfl) (fun _=>?_) (fun h=>nomatch h)
  refine W.Wa ?_
  refine WL.q (Y.move (.pl rfl)) rfl ?_
  refine WL.q (Y.move (.pl rfl)) rfl ?_
  refine WL.q (Y.toU Tryz.underlying48 Tryz.underlying210 hj hs (.pl rfl) (i:=0) rfl (Nat.zero_lt_succ 1)) rfl ?_
  refine WL.q (Y.aaQ (hne _) (.pl rfl)) rfl ?_
  refine WL.q (Y.ofU Tryz.underlying210 Tryz.underlying48 hj (.pl rfl) (i:=0) rfl (by kernel_rfl)) rfl ?_
  refine WL.q (Y.nilCheck (.pl rfl)) rfl ?_
  refine WL.q (Y.dQ (off:=0) (ft:=48) Tryz.underlying51 rfl rl (.pl rfl)) rfl ?_
  refine WL.step (WO.dC (cs':=[.pointer (some ⟨b,0,none⟩),v]) rl (.pl rfl) (.pl rfl) rfl (i:=0) rfl (iQ (m:=2) (by decide) rfl) rfl ?_)
  refine WL.nil ?_
  refine W.fI (fn:=Tryz.f76) (vs:=[]) Tryz.results76 trivial (fun _ _ h=>h) (fun wz hw=>?_)
  exact hR _ _ ⟨(),trivial,rfl,hw⟩
 ·refine W.mR fun Q1 wG=>?_
  refine WL.q (Y.move (.pl rfl)) rfl ?_
  refine WL.q (Y.nilCheck (.pl rfl)) rfl ?_
  refine WL.q (Y.dQ (off:=0) (ft:=48) Tryz.underlying51 rfl rl (.pl rfl)) rfl ?_
  refine WL.q (Y.lW (v:=.pointer (some ⟨b,0,none⟩)) Tryz.underlying48 rfl (.pl rfl) (i:=0) rfl rfl) rfl ?_
  refine WL.q (Y.JY Tryz.underlying48 (.pl rfl)) rfl ?_
  refine WL.next wG (.cons (i:=0) rfl (.cons (i:=6) rfl (.nil))) ?_
  refine W.cond (.pl rfl) (fun h=>nomatch h) (fun _=>?_)
  refine W.mR fun Q2 DB=>?_
  refine WL.q (Y.move (.pl rfl)) rfl ?_
  refine WL.q (Y.nilCheck (.pl rfl)) rfl ?_
  refine WL.q (Y.dQ (off:=0) (ft:=48) Tryz.underlying51 rfl rl (.pl rfl)) rfl ?_
  refine WL.q (Y.lW (v:=.pointer (some ⟨b,0,none⟩)) Tryz.underlying48 rfl (.pl rfl) (i:=0) rfl rfl) rfl ?_
  refine WL.q (Y.move (.pl rfl)) rfl ?_
  refine WL.q (Y.WH Tryz.underlying48 hj (.pl rfl) (.pl rfl)) rfl ?_
  refine WL.next DB (.cons (i:=19) rfl (.nil)) ?_
  refine W.cond (.pl rfl) (fun h=>nomatch h) (fun _=>?_)
  refine W.skip ?_
  refine W.fI (fn:=Tryz.f76) (vs:=[]) Tryz.results76 trivial (fun _ _ h=>h) (fun wz hw=>?_)
  exact hR _ _ ⟨(),trivial,rfl,hw⟩
theorem fN{N oQ DN qZ QP nG lP res}(hF:vU N oQ DN=some res){w0 w T}(hw:St w0.heap.size w0 (lN 53 5 qZ QP nG lP oQ::T) w):Calls Tryz.prog 47 (List.toArray [.pointer (some ⟨qZ,0,none⟩),.string DN]) w (fun e w'=>∃g:(Value×Option Addr×Nat),(True)∧e= .returned (.tuple #[.int .i64 ((DN).size:Int),(A_ 0)])∧St w0.heap.size w0 (lN 53 5 qZ g.1 g.2.1 g.2.2 res::T) w'):=by
 obtain⟨hp,hw⟩:=St.JX hw
 unfold vU at hF
 split at hF
 case isFalse=>cases hF
 rename_i hl
 obtain rfl:=Option.some.inj hF
 refine W.enter (n:=19) Tryz.func47 rfl rfl Sub.refl (by simp) hw fun R hR=>?_
 refine W.mR fun Q1 wG=>?_
 refine WL.q (Y.assign (.pl rfl)) rfl ?_
 refine WL.q (Y.assign (.pl rfl)) rfl ?_
 refine WL.next wG (.cons (i:=0) rfl (.cons (i:=1) rfl (.nil))) ?_
 refine W.mR fun Q2 DB=>?_
 refine WL.q (Y.move (.pl rfl)) rfl ?_
 refine WL.step (WO.call (γ:=Unit) (fun g=>.tuple #[]) (fun g=>aw qZ 53 [(.pointer (some ⟨qZ,0,none⟩)),.slice nG (oQ).size lP]::eR nG lP 5 1 oQ.size (Lib.strCells oQ)::T) (fun g=>True) Xr (.cons (.pl rfl) (.nil)) rfl (fun wz hw=>KG hp hw) ?_)
 rintro⟨⟩ -
 refine WL.next DB (.cons (i:=0) rfl (.cons (i:=1) rfl (.nil))) ?_
 refine W.mR fun Q3 P3=>?_
 refine WL.q (Y.move (.pl rfl)) rfl ?_
 refine WL.q (Y.move (.pl rfl)) rfl ?_
 refine WL.q (Y.nilCheck (.pl rfl)) rfl ?_
 refine WL.q (Y.dQ (off:=1) (ft:=49) Tryz.underlying51 rfl rm (.pl rfl)) rfl ?_
 refine WL.q (Y.lW (v:=.slice nG (oQ).size lP) Tryz.underlying49 rfl (.pl rfl) (i:=0) rfl rfl) rfl ?_
 refine WL.q (Y.move (.pl rfl)) rfl ?_
 refine WL.step (WO.S6 Tryz.underlying49 Tryz.underlying9 ⟨_,rfl,by kernel_rfl,by kernel_rfl,by kernel_rfl⟩ (.pl rfl) (.pl rfl) (i:=1) rfl hl rfl fun A' c'=>?_)
 refine WL.q (Y.nilCheck (.pl rfl)) rfl ?_
 refine WL.q (Y.dQ (off:=1) (ft:=49) Tryz.underlying51 rfl rm (.pl rfl)) rfl ?_
 refine WL.step (WO.dC (cs':=[(.pointer (some ⟨qZ,0,none⟩)),.slice A' (oQ.size+DN.size) c']) rm (.pl rfl) (.pl rfl) rfl (i:=0) rfl (iQ (m:=2) (by decide) rfl) rfl ?_)
 refine WL.next P3 (.cons (i:=0) rfl (.cons (i:=1) rfl (.nil))) ?_
 refine W.mR fun Q4 P4=>?_
 refine WL.q (Y.move (.pl rfl)) rfl ?_
 refine WL.q (Y.UY Tryz.underlying9 (.pl rfl)) rfl ?_
 refine WL.q (Y.assign (.pl rfl)) rfl ?_
 refine WL.q (Y.assign (.pl rfl)) rfl ?_
 refine WL.next P4 (.cons (i:=4) rfl (.cons (i:=5) rfl (.nil))) ?_
 refine W.lr (fn:=Tryz.f47) (vs:=[.int .i64 ((DN).size:Int),.nilIface]) Tryz.results47 ⟨.tmp rfl,.tmp rfl,trivial⟩ (fun _ _ h=>h) (fun wz hw=>?_)
 refine hR _ _ ⟨((.pointer (some ⟨qZ,0,none⟩)),A',c'),trivial,rfl,?_⟩
 refine St.S5 (l:=oQ++DN) ?_
 rw[ByteArray.size_append,F6]
 exact hw
def pv(N:Nat)(mP:(List Pt)):(ByteArray×Int)→Option ((ByteArray×Int) ⊕ ByteArray)|(jK,v17)=>cond (decide (v17 < ((mP).length:Int))) (bd (ix mP v17) fun U=>bd (α:=ByteArray) (cond (decide (0 < v17)) (bd (vU N jK (⟨#[32]⟩:ByteArray)) fun xw=>some xw) (some jK)) <| fun v22=>cond ((S7 (U)).2) (bd (vU N v22 ((S7 (U)).1)) fun ma=>ck (bB (v17+1)) <| some (.inl (ma,(v17+1)))) (cond ((JZ (U)).2) (bd (qq N ((JZ (U)).1)) fun r32=>bd (vU N v22 r32) fun Bu=>ck (bB (v17+1)) <| some (.inl (Bu,(v17+1)))) (cond ((J0 (U)).2) (bd (qq N ((J0 (U)).1)) fun tZ=>bd (vU N v22 tZ) fun r39=>ck (bB (v17+1)) <| some (.inl (r39,(v17+1)))) (ck (bB (v17+1)) <| some (.inl (v22,(v17+1))))))) (some (.inr jK))
def ec(N:Nat)(r5:ByteArray)(mP:(List Pt)):Option ByteArray:=bd (α:=ByteArray) (iter (pv N mP) N (r5,0)) <| fun v12=>bd (vU N v12 (⟨#[10]⟩:ByteArray)) fun r45=>some r45
theorem fd{N r5 mP b1 BN A3 c4 A6 c7 res}(hF:ec N r5 mP=some res){w0 w T}(hw:St w0.heap.size w0 (lN 53 5 b1 BN A3 c4 r5::cR (lX 9 3 33) 1 A6 c7 20 mP::T) w)(hG:lO w0):Calls Tryz.prog 22 (List.toArray [.pointer (some ⟨b1,0,none⟩),.slice A6 (mP).length c7]) w (fun e w'=>∃g:(Value×Option Addr×Nat),(True)∧e= .returned (.tuple #[])∧St w0.heap.size w0 (lN 53 5 b1 g.1 g.2.1 g.2.2 res::cR (lX 9 3 33) 1 A6 c7 20 mP::T) w'):=by
 refine We 54 Tryz.func22 hw fun R hR=>?_;obtain⟨o1,hF1,hF⟩:=al hF;refine W.s7 (fun a b c d=>[]) (fun a b c d=>(lN 53 5 b1 b c d a::cR (lX 9 3 33) 1 A6 c7 20 mP::T)) (fun a b c d=>a=o1) (mM 0) (fun K2 P2=>?_) ?_
 ·refine a_ ?_;refine Er hF1 (fun a b c d f=>[(11,.int .i64 b)]) (fun a b c d f=>(lN 53 5 b1 c d f a::cR (lX 9 3 33) 1 A6 c7 20 mP::T)) (fY 0 9 10) fun jK v17 alT rM c15 k4 t4 fU Xu K5 ws=>?_;refine a_ ?_;refine Wc fU (fun yV fU=>?_) (fun yV fU=>?_)
  ·obtain⟨U,aX,fU⟩:=al fU;refine a_ ?_;refine WL.q (Y.gD (enc:=(lX 9 3 33)) (v:=(Id 9 3 33 U)) (a:=U) (idx:=v17) (j:=0) Tryz.underlying20 rfl (fun _=>rfl) (i:=1) rfl (.pl rfl) (aI (aX)) rfl rfl) rfl ?_;obtain⟨sA,bk,fU⟩:=al fU;refine b_ ?_;refine W.s7 (fun a b c d=>[]) (fun a b c d=>(lN 53 5 b1 b c d a::cR (lX 9 3 33) 1 A6 c7 20 mP::T)) (fun a b c d=>a=sA) (wl 0 5 9 10 11) (fun zZ gr=>?_) ?_
   ·refine a_ ?_;refine Wc bk (fun ji bk=>?_) (fun ji bk=>?_)
    ·obtain⟨xw,E3,bk⟩:=al bk;refine a_ ?_;refine kC q7 (v2 rfl rfl) (fun _ hw=>fN E3 (sw hw)) ?_;rintro⟨alU,aft,cI26⟩ -;refine a_ ?_;exact h4 gr (oi bk)
    ·refine a_ ?_;exact h4 gr (oi bk)
   ·rintro v22 afG Dv c21 rfl;refine a_ ?_;refine WL.q (Y.asS Tryz.underlying9 rfl ahx (by decide) (by decide) (.pl rfl)) rfl ?_;refine a_ ?_;refine Wc fU (fun qr fU=>?_) (fun qr fU=>?_)
    ·obtain⟨ma,Ey,fU⟩:=al fU;refine a_ ?_;refine kC q7 (v2 rfl rfl) (fun _ hw=>fN Ey (sw hw)) ?_;rintro⟨alV,alW,cI30⟩ -;obtain⟨Qd,fU⟩:=bx fU;refine a_ ?_;exact g5 ws (oj fU Xu)
    ·refine a_ ?_;refine WL.q (Y.asI Tryz.underlying3 rfl HO (by decide) (by decide) (.pl rfl)) rfl ?_;refine a_ ?_;refine Wc fU (fun Bl fU=>?_) (fun Bl fU=>?_)
     ·refine b_ ?_;refine W.rq 5 (by kernel_rfl) ?_;refine Xp 0 rfl (fun _ _=>ym) ?_;refine Xp 1 rfl (fun _ _=>yc) ?_;refine Xp 2 rfl (fun _ _=>yf) ?_;refine Xp 3 rfl (fun _ _=>ym) ?_;obtain⟨r32,QM,fU⟩:=al fU;refine Xo 4 rfl (WO.jc Dt (.cons (.pl rfl) (.nil)) rfl (fun wz hw=>lY (QM) wz (hG.mono hw)) ?_);obtain⟨Bu,I3,fU⟩:=al fU;refine Xs rfl (WO.call (γ:=(Value×Option Addr×Nat)) (fun g=>.tuple #[.int .i64 ((r32).size:Int),(A_ 0)]) (fun g=>(lN 53 5 b1 g.1 g.2.1 g.2.2 Bu::cR (lX 9 3 33) 1 A6 c7 20 mP::T)) (fun g=>True) q7 (.cons (.pl rfl) (.cons (.pl rfl) (.nil))) rfl (fun wz hw=>fN (T:=(cR (lX 9 3 33) 1 A6 c7 20 mP::T)) (I3) (hw.cY 2 [0,1] rfl)) ?_);rintro⟨ajb,ajc,ajd⟩ -;refine WA.done (by kernel_rfl) ?_;obtain⟨Y2,fU⟩:=bx fU;refine a_ ?_;exact g5 ws (oj fU Xu)
     ·refine a_ ?_;refine WL.q (Y.asE Tryz.underlying33 rfl afF (by decide) (by decide) (.pl rfl)) rfl ?_;refine a_ ?_;refine Wc fU (fun YL fU=>?_) (fun YL fU=>?_)
      ·refine b_ ?_;refine W.rq 5 (by kernel_rfl) ?_;refine Xp 0 rfl (fun _ _=>ym) ?_;refine Xp 1 rfl (fun _ _=>yc) ?_;refine Xp 2 rfl (fun _ _=>yf) ?_;refine Xp 3 rfl (fun _ _=>ym) ?_;obtain⟨tZ,I2,fU⟩:=al fU;refine Xo 4 rfl (WO.jc Dt (.cons (.pl rfl) (.nil)) rfl (fun wz hw=>lY (I2) wz (hG.mono hw)) ?_);obtain⟨r39,aje,fU⟩:=al fU;refine Xs rfl (WO.call (γ:=(Value×Option Addr×Nat)) (fun g=>.tuple #[.int .i64 ((tZ).size:Int),(A_ 0)]) (fun g=>(lN 53 5 b1 g.1 g.2.1 g.2.2 r39::cR (lX 9 3 33) 1 A6 c7 20 mP::T)) (fun g=>True) q7 (.cons (.pl rfl) (.cons (.pl rfl) (.nil))) rfl (fun wz hw=>fN (T:=(cR (lX 9 3 33) 1 A6 c7 20 mP::T)) (aje) (hw.cY 2 [0,1] rfl)) ?_);rintro⟨alX,alY,cI42⟩ -;refine WA.done (by kernel_rfl) ?_;obtain⟨Zw,fU⟩:=bx fU;refine a_ ?_;exact g5 ws (oj fU Xu)
      ·obtain⟨Vb,fU⟩:=bx fU;refine a_ ?_;exact g5 ws (oj fU Xu)
  ·refine a_ ?_;exact h4 P2 (oj fU Xu)
 ·rintro v12 pv9 dW c11 rfl;obtain⟨r45,ajf,hF⟩:=al hF;refine a_ ?_;refine kC q7 (v2 rfl rfl) (fun _ hw=>fN ajf (sw hw)) ?_;rintro⟨ajg,ajh,aji⟩ -;obtain rfl:=oi hF;refine a_ ?_;exact rF (ajg,ajh,aji)
def FD(N:Nat)(l:ByteArray):Option ByteArray:=if l.size=0 then none else some l
theorem lC{N oQ qZ QP nG lP res}(hF:FD N oQ=some res){w0 w T}(hw:St w0.heap.size w0 (lN 53 5 qZ QP nG lP oQ::T) w):Calls Tryz.prog 23 (List.toArray [.pointer (some ⟨qZ,0,none⟩)]) w (fun e w'=>∃g:Unit,(True)∧e= .returned (.string res)∧St w0.heap.size w0 (T) w'):=by
 obtain⟨hp,hw⟩:=St.JX hw
 unfold FD at hF
 split at hF
 ·cases hF
 rename_i hl
 obtain rfl:=Option.some.inj hF
 obtain⟨g,hA,hcap⟩: ∃g,nG=some ⟨g,0,none⟩∧lP≠0:=by
  obtain⟨h1,h2⟩:=hw.sat _ (List.mem_of_getElem? (i:=1) rfl)
  rcases h2 with⟨_,h3,_⟩|⟨g,cur,h3,_,h4,_⟩
  ·exact absurd h3 hl
  ·exact⟨g,h3,by omega⟩
 subst hA
 refine W.enter (n:=14) Tryz.func23 rfl rfl Sub.refl (by simp) hw fun R hR=>?_
 refine W.mR fun Q1 wG=>?_
 refine WL.q (Y.assign (.pl rfl)) rfl ?_
 refine WL.next wG (.cons (i:=0) rfl (.nil)) ?_
 refine W.zq 10 (by kernel_rfl) (by kernel_rfl) fun Q2 DB=>?_
 refine WS.q (Y.move (.pl rfl)) rfl ?_
 refine WS.q (Y.nilCheck (.pl rfl)) rfl ?_
 refine WS.q (Y.dQ (off:=1) (ft:=49) Tryz.underlying51 rfl rm (.pl rfl)) rfl ?_
 refine WS.q (Y.lW (v:=.slice (some ⟨g,0,none⟩) (oQ).size lP) Tryz.underlying49 rfl (.pl rfl) (i:=0) rfl rfl) rfl ?_
 refine WS.q (Y.M0 (.pl rfl) hcap) rfl ?_
 refine WS.q (Y.move (.pl rfl)) rfl ?_
 refine WS.q (Y.nilCheck (.pl rfl)) rfl ?_
 refine WS.q (Y.dQ (off:=1) (ft:=49) Tryz.underlying51 rfl rm (.pl rfl)) rfl ?_
 refine WS.q (Y.lW (v:=.slice (some ⟨g,0,none⟩) (oQ).size lP) Tryz.underlying49 rfl (.pl rfl) (i:=0) rfl rfl) rfl ?_
 refine WS.q (Y.len Tryz.underlying49 (.pl rfl)) rfl ?_
 refine WS.tail ?_
 refine WL.step (WO.aep (E:=5) Tryz.underlying117 Xq hl (.pl rfl) (.pl rfl) (i:=1) rfl rfl ?_)
 refine WL.q (Y.assign (.pl rfl)) rfl ?_
 refine WL.next DB (.cons (i:=2) rfl (.nil)) ?_
 refine W.lr (fn:=Tryz.f23) (vs:=[.string oQ]) Tryz.results23 ⟨.tmp rfl,trivial⟩ (fun _ _ h=>h) (fun wz hw=>?_)
 exact hR _ _ ⟨(),trivial,rfl,(cp.drop (M:=[_,_])).at _ _ _ hw⟩
def uB(N:Nat)(is1:Bool):Option ByteArray:=cond is1 (some (⟨#[121]⟩:ByteArray)) (some (⟨#[110]⟩:ByteArray))
theorem yy{N is1 res}(hF:uB N is1=some res)(w:World):Pure Tryz.prog 52 [.bool is1] w (.string res):=by
 refine We 4 Tryz.func52 (St.start w) fun R hR=>?_;refine a_ ?_;refine Wc hF (fun ju hF=>?_) (fun ju hF=>?_)
 ·obtain rfl:=oi hF;refine a_ ?_;exact rP
 ·obtain rfl:=oi hF;refine a_ ?_;exact rP
def jG(N:Nat)(jV:((List Step)×Bool×Int)):((List Pt)×Int)→Option (((List Pt)×Int) ⊕(List Pt))|(HP,v23)=>cond (decide (v23 < ((jV.1).length:Int))) (bd (ix jV.1 v23) fun x24=>ck (eY 16 ((HP).length+(([(Pt.i (x24.call)),(Pt.i (x24.res))]:List Pt)).length)) <| ck (bB (v23+1)) <| some (.inl ((HP++([(Pt.i (x24.call)),(Pt.i (x24.res))]:List Pt)),(v23+1)))) (some (.inr HP))
def kE(N:Nat)(r5:ByteArray)(oy:(List Int))(Cp:(List Event)):Option ByteArray:=bd (ku N oy Cp) fun jV=>bd (uB N jV.2.1) fun gw=>bd (α:=(List Pt)) (iter (jG N jV) N (([(Pt.s ((⟨#[116,105,109,101]⟩:ByteArray))),(Pt.s (gw))]:List Pt),0)) <| fun TR=>bd (ec N r5 TR) fun pC=>bd (ET N oy Cp) fun mc=>bd (uB N mc.2.1) fun tZ=>bd (ec N pC ([(Pt.s ((⟨#[112,101,111,112,108,101]⟩:ByteArray))),(Pt.s (tZ))]:List Pt)) fun r40=>bd (Ct N oy Cp) fun r44=>bd (uB N r44.2.1) fun y_=>bd (ec N r40 ([(Pt.s ((⟨#[99,97,108,109]⟩:ByteArray))),(Pt.s (y_))]:List Pt)) fun r49=>some r49
theorem zb{N r5 oy Cp b1 BN A3 c4 A6 c7 A9 c10 res}(hF:kE N r5 oy Cp=some res){w0 w T}(hw:St w0.heap.size w0 (lN 53 5 b1 BN A3 c4 r5::cR (eI .i64) 1 A6 c7 3 oy::cR az 4 A9 c10 108 Cp::T) w)(hG:lO w0):Calls Tryz.prog 25 (List.toArray [.pointer (some ⟨b1,0,none⟩),.slice A6 (oy).length c7,.slice A9 (Cp).length c10]) w (fun e w'=>∃g:(Value×Option Addr×Nat),(True)∧e= .returned (.tuple #[])∧St w0.heap.size w0 (lN 53 5 b1 g.1 g.2.1 g.2.2 res::cR (eI .i64) 1 A6 c7 3 oy::cR az 4 A9 c10 108 Cp::T) w'):=by
 refine We 71 Tryz.func25 hw fun R hR=>?_;obtain⟨jV,yi,hF⟩:=al hF;refine a_ ?_;refine kM Xl (v2 rfl rfl) (fun wz hw=>DH yi wz (so hw) (so hw)) ?_;rintro⟨fM,c14⟩ -;refine a_ ?_;refine WL.q (Y.lv (a:=9) (b:=3) (c:=33) (Pt.s ((⟨#[116,105,109,101]⟩:ByteArray))) Tryz.underlying9 rfl (.pl rfl) rfl) rfl ?_;obtain⟨gw,pj,hF⟩:=al hF;refine a_ ?_;refine kP QN (v1 rfl) (fun wz hw=>yy pj wz) ?_;refine WL.q (Y.lv (a:=9) (b:=3) (c:=33) (Pt.s (gw)) Tryz.underlying9 rfl (.pl rfl) rfl) rfl ?_;refine WL.step (WO.cC (enc:=(lX 9 3 33)) (ys:=([(Pt.s ((⟨#[116,105,109,101]⟩:ByteArray))),(Pt.s (gw))]:List Pt)) Tryz.underlying111 yv (.cons (.pl rfl) (.cons (.pl rfl) (.nil))) rfl (fun _=>rfl) rfl rfl (by decide) (by decide) rfl fun Bk=>?_);obtain⟨o3,ff,hF⟩:=al hF;refine b_ ?_;refine W.pF (fun a b c=>[(9,.slice b (a).length c)]) (fun a b c=>(lN 53 5 b1 BN A3 c4 r5::cR (eI .i64) 1 A6 c7 3 oy::cR az 4 A9 c10 108 Cp::cR (lX 9 3 33) 1 b c 20 a::T)) (fun a b c=>a=o3) (fY 0 1 2) (fun K4 mb=>?_) ?_
 ·refine a_ ?_;refine Ba ff (fun a b c d=>[(9,.slice c (a).length d),(26,.int .i64 b)]) (fun a b c d=>(lN 53 5 b1 BN A3 c4 r5::cR (eI .i64) 1 A6 c7 3 oy::cR az 4 A9 c10 108 Cp::cR (lX 9 3 33) 1 c d 20 a::cR cx 2 fM c14 128 jV.1::T)) (wl 0 1 2 24 25) fun HP v23 Dv c21 k6 t6 bF iE K7 lF=>?_;refine a_ ?_;refine Wc bF (fun iL bF=>?_) (fun iL bF=>?_)
  ·obtain⟨x24,u7,bF⟩:=al bF;refine a_ ?_;refine mA fun qm=>?_;refine a_ ?_;refine WL.q (Y.lv (a:=9) (b:=3) (c:=33) (Pt.i (x24.call)) Tryz.underlying3 rfl (.pl rfl) rfl) rfl ?_;refine a_ ?_;refine WL.q (Y.lv (a:=9) (b:=3) (c:=33) (Pt.i (x24.res)) Tryz.underlying3 rfl (.pl rfl) rfl) rfl ?_;refine WL.step (WO.cC (enc:=(lX 9 3 33)) (ys:=([(Pt.i (x24.call)),(Pt.i (x24.res))]:List Pt)) Tryz.underlying111 yv (.cons (.pl rfl) (.cons (.pl rfl) (.nil))) rfl (fun _=>rfl) rfl rfl (by decide) (by decide) rfl fun b26=>?_);obtain⟨EV,bF⟩:=bx bF;refine WL.step (WO.fH (enc:=(lX 9 3 33)) Tryz.underlying111 VB (fun _=>rfl) Oh (.pl rfl) rfl (.pl rfl) (i:=5) rfl (m2:=0) rfl (EV) rfl fun Np c28=>?_);obtain⟨Gy,bF⟩:=bx bF;refine a_ ?_;exact g4 lF (oj bF iE)
  ·refine a_ ?_;exact h3 mb (oj bF iE)
 ·rintro TR l_ c18 rfl;obtain⟨pC,Ez,hF⟩:=al hF;refine a_ ?_;refine kC wY (v2 rfl rfl) (fun _ hw=>fd Ez (sw hw) hG) ?_;rintro⟨ajj,J8,Na⟩ -;obtain⟨mc,IY,hF⟩:=al hF;refine a_ ?_;refine kM afy (v2 rfl rfl) (fun wz hw=>Sx IY wz (so hw) (so hw)) ?_;rintro⟨Gt,c37⟩ -;refine a_ ?_;refine WL.q (Y.lv (a:=9) (b:=3) (c:=33) (Pt.s ((⟨#[112,101,111,112,108,101]⟩:ByteArray))) Tryz.underlying9 rfl (.pl rfl) rfl) rfl ?_;obtain⟨tZ,I2,hF⟩:=al hF;refine a_ ?_;refine kP QN (v1 rfl) (fun wz hw=>yy I2 wz) ?_;refine WL.q (Y.lv (a:=9) (b:=3) (c:=33) (Pt.s (tZ)) Tryz.underlying9 rfl (.pl rfl) rfl) rfl ?_;refine WL.step (WO.cC (enc:=(lX 9 3 33)) (ys:=([(Pt.s ((⟨#[112,101,111,112,108,101]⟩:ByteArray))),(Pt.s (tZ))]:List Pt)) Tryz.underlying111 yv (.cons (.pl rfl) (.cons (.pl rfl) (.nil))) rfl (fun _=>rfl) rfl rfl (by decide) (by decide) rfl fun Tq=>?_);obtain⟨r40,ajk,hF⟩:=al hF;refine kC wY (v2 rfl rfl) (fun _ hw=>fd ajk (sw hw) hG) ?_;rintro⟨alZ,Tu,Tv⟩ -;obtain⟨r44,ajl,hF⟩:=al hF;refine a_ ?_;refine kM afz (v2 rfl rfl) (fun wz hw=>Qk ajl wz (so hw) (so hw)) ?_;rintro⟨A45,c46⟩ -;refine a_ ?_;refine WL.q (Y.lv (a:=9) (b:=3) (c:=33) (Pt.s ((⟨#[99,97,108,109]⟩:ByteArray))) Tryz.underlying9 rfl (.pl rfl) rfl) rfl ?_;obtain⟨y_,YW,hF⟩:=al hF;refine a_ ?_;refine kP QN (v1 rfl) (fun wz hw=>yy YW wz) ?_;refine WL.q (Y.lv (a:=9) (b:=3) (c:=33) (Pt.s (y_)) Tryz.underlying9 rfl (.pl rfl) rfl) rfl ?_;refine WL.step (WO.cC (enc:=(lX 9 3 33)) (ys:=([(Pt.s ((⟨#[99,97,108,109]⟩:ByteArray))),(Pt.s (y_))]:List Pt)) Tryz.underlying111 yv (.cons (.pl rfl) (.cons (.pl rfl) (.nil))) rfl (fun _=>rfl) rfl rfl (by decide) (by decide) rfl fun b48=>?_);obtain⟨r49,ajm,hF⟩:=al hF;refine kC wY (v2 rfl rfl) (fun _ hw=>fd ajm (sw hw) hG) ?_;rintro⟨ajn,A51,c52⟩ -;obtain rfl:=oi hF;refine a_ ?_;exact rF (ajn,A51,c52)
def kf(N:Nat)(r5:ByteArray)(ok6:Bool)(b7:dh)(e8:Int):Option ByteArray:=cond (!(decide (e8=0))) (bd (ec N r5 ([(Pt.s ((⟨#[98,97,100]⟩:ByteArray))),(Pt.s ((⟨#[101,114,114,111,114]⟩:ByteArray))),(Pt.e (e8))]:List Pt)) fun fa=>some fa) (cond ok6 (bd (ec N r5 ([(Pt.s ((⟨#[98,97,100]⟩:ByteArray))),(Pt.s ((⟨#[110,111,110,101]⟩:ByteArray)))]:List Pt)) fun r16=>some r16) (bd (ec N r5 ([(Pt.s ((⟨#[98,97,100]⟩:ByteArray))),(Pt.i (b7.kind)),(Pt.i (b7.a)),(Pt.i (b7.b))]:List Pt)) fun uy=>some uy))
theorem pZ{N r5 ok6 b7 e8 b1 BN A3 c4 res}(hF:kf N r5 ok6 b7 e8=some res){w0 w T}(hw:St w0.heap.size w0 (lN 53 5 b1 BN A3 c4 r5::T) w)(hG:lO w0):Calls Tryz.prog 55 (List.toArray [.pointer (some ⟨b1,0,none⟩),.bool ok6,.agg (bG b7).toArray,.int .i64 e8]) w (fun e w'=>∃g:(Value×Option Addr×Nat),(True)∧e= .returned (.tuple #[])∧St w0.heap.size w0 (lN 53 5 b1 g.1 g.2.1 g.2.2 res::T) w'):=by
 refine We 38 Tryz.func55 hw fun R hR=>?_;refine a_ ?_;refine WL.step (WO.il (.pl rfl) rfl fun b9=>?_);refine a_ ?_;refine Wc hF (fun BF hF=>?_) (fun BF hF=>?_)
 ·refine a_ ?_;refine WL.q (Y.lv (a:=9) (b:=3) (c:=33) (Pt.s ((⟨#[98,97,100]⟩:ByteArray))) Tryz.underlying9 rfl (.pl rfl) rfl) rfl ?_;refine WL.q (Y.lv (a:=9) (b:=3) (c:=33) (Pt.s ((⟨#[101,114,114,111,114]⟩:ByteArray))) Tryz.underlying9 rfl (.pl rfl) rfl) rfl ?_;refine a_ ?_;refine WL.q (Y.lv (a:=9) (b:=3) (c:=33) (Pt.e (e8)) Tryz.underlying33 rfl (.pl rfl) rfl) rfl ?_;refine WL.step (WO.cC (enc:=(lX 9 3 33)) (ys:=([(Pt.s ((⟨#[98,97,100]⟩:ByteArray))),(Pt.s ((⟨#[101,114,114,111,114]⟩:ByteArray))),(Pt.e (e8))]:List Pt)) Tryz.underlying111 yv (.cons (.pl rfl) (.cons (.pl rfl) (.cons (.pl rfl) (.nil)))) rfl (fun _=>rfl) rfl rfl (by decide) (by decide) rfl fun qW=>?_);obtain⟨fa,kz,hF⟩:=al hF;refine kC wY (v2 rfl rfl) (fun _ hw=>fd kz (sw hw) hG) ?_;rintro⟨ZC,fM,c14⟩ -;obtain rfl:=oi hF;refine a_ ?_;exact rF (ZC,fM,c14)
 ·refine a_ ?_;refine Wc hF (fun wV hF=>?_) (fun wV hF=>?_)
  ·refine a_ ?_;refine WL.q (Y.lv (a:=9) (b:=3) (c:=33) (Pt.s ((⟨#[98,97,100]⟩:ByteArray))) Tryz.underlying9 rfl (.pl rfl) rfl) rfl ?_;refine WL.q (Y.lv (a:=9) (b:=3) (c:=33) (Pt.s ((⟨#[110,111,110,101]⟩:ByteArray))) Tryz.underlying9 rfl (.pl rfl) rfl) rfl ?_;refine WL.step (WO.cC (enc:=(lX 9 3 33)) (ys:=([(Pt.s ((⟨#[98,97,100]⟩:ByteArray))),(Pt.s ((⟨#[110,111,110,101]⟩:ByteArray)))]:List Pt)) Tryz.underlying111 yv (.cons (.pl rfl) (.cons (.pl rfl) (.nil))) rfl (fun _=>rfl) rfl rfl (by decide) (by decide) rfl fun ir=>?_);obtain⟨r16,mF,hF⟩:=al hF;refine kC wY (v2 rfl rfl) (fun _ hw=>fd mF (sw hw) hG) ?_;rintro⟨ZD,M8,c19⟩ -;obtain rfl:=oi hF;refine a_ ?_;exact rF (ZD,M8,c19)
  ·refine a_ ?_;refine WL.q (Y.lv (a:=9) (b:=3) (c:=33) (Pt.s ((⟨#[98,97,100]⟩:ByteArray))) Tryz.underlying9 rfl (.pl rfl) rfl) rfl ?_;refine a_ ?_;refine WL.q (Y.lv (a:=9) (b:=3) (c:=33) (Pt.i (b7.kind)) Tryz.underlying3 rfl (.pl rfl) rfl) rfl ?_;refine a_ ?_;refine WL.q (Y.lv (a:=9) (b:=3) (c:=33) (Pt.i (b7.a)) Tryz.underlying3 rfl (.pl rfl) rfl) rfl ?_;refine a_ ?_;refine WL.q (Y.lv (a:=9) (b:=3) (c:=33) (Pt.i (b7.b)) Tryz.underlying3 rfl (.pl rfl) rfl) rfl ?_;refine WL.step (WO.cC (enc:=(lX 9 3 33)) (ys:=([(Pt.s ((⟨#[98,97,100]⟩:ByteArray))),(Pt.i (b7.kind)),(Pt.i (b7.a)),(Pt.i (b7.b))]:List Pt)) Tryz.underlying111 yv (.cons (.pl rfl) (.cons (.pl rfl) (.cons (.pl rfl) (.cons (.pl rfl) (.nil))))) rfl (fun _=>rfl) rfl rfl (by decide) (by decide) rfl fun DK=>?_);obtain⟨uy,Bt,hF⟩:=al hF;refine kC wY (v2 rfl rfl) (fun _ hw=>fd Bt (sw hw) hG) ?_;rintro⟨VC,z6,c24⟩ -;obtain rfl:=oi hF;refine a_ ?_;exact rF (VC,z6,c24)
def jQ(N:Nat)(r9:((List Int)×Int)):((List Pt)×Int)→Option (((List Pt)×Int) ⊕(List Pt))|(HQ,v30)=>cond (decide (v30 < ((r9.1).length:Int))) (bd (ix r9.1 v30) fun x31=>ck (eY 16 ((HQ).length+(([(Pt.i (x31))]:List Pt)).length)) <| ck (bB (v30+1)) <| some (.inl ((HQ++([(Pt.i (x31))]:List Pt)),(v30+1)))) (some (.inr HQ))
def lj(N:Nat)(r5:ByteArray)(l8:(List Event)):Option ByteArray:=bd (iW N l8) fun r9=>bd (α:=(List Pt)) (cond (!(decide (r9.2=0))) (ck (eY 16 ((([(Pt.s ((⟨#[98,97,100]⟩:ByteArray)))]:List Pt)).length+(([(Pt.s ((⟨#[101,114,114,111,114]⟩:ByteArray))),(Pt.e (r9.2))]:List Pt)).length)) <| some (([(Pt.s ((⟨#[98,97,100]⟩:ByteArray)))]:List Pt)++([(Pt.s ((⟨#[101,114,114,111,114]⟩:ByteArray))),(Pt.e (r9.2))]:List Pt))) (cond (decide (((r9.1).length:Int)=0)) (ck (eY 16 ((([(Pt.s ((⟨#[98,97,100]⟩:ByteArray)))]:List Pt)).length+(([(Pt.s ((⟨#[110,111,110,101]⟩:ByteArray)))]:List Pt)).length)) <| some (([(Pt.s ((⟨#[98,97,100]⟩:ByteArray)))]:List Pt)++([(Pt.s ((⟨#[110,111,110,101]⟩:ByteArray)))]:List Pt))) (some ([(Pt.s ((⟨#[98,97,100]⟩:ByteArray)))]:List Pt)))) <| fun TS=>bd (α:=(List Pt)) (iter (jQ N r9) N (TS,0)) <| fun TT=>bd (ec N r5 TT) fun yW=>some yW
theorem zM{N r5 l8 b1 BN A3 c4 A6 c7 res}(hF:lj N r5 l8=some res){w0 w T}(hw:St w0.heap.size w0 (lN 53 5 b1 BN A3 c4 r5::cR az 4 A6 c7 108 l8::T) w)(hG:lO w0):Calls Tryz.prog 59 (List.toArray [.pointer (some ⟨b1,0,none⟩),.slice A6 (l8).length c7]) w (fun e w'=>∃g:(Value×Option Addr×Nat),(True)∧e= .returned (.tuple #[])∧St w0.heap.size w0 (lN 53 5 b1 g.1 g.2.1 g.2.2 res::cR az 4 A6 c7 108 l8::T) w'):=by
 refine We 48 Tryz.func59 hw fun R hR=>?_;obtain⟨r9,Bj,hF⟩:=al hF;refine a_ ?_;refine kM afE (v1 rfl) (fun wz hw=>NY Bj wz (so hw)) ?_;rintro⟨dW,c11⟩ -;refine a_ ?_;refine WL.q (Y.lv (a:=9) (b:=3) (c:=33) (Pt.s ((⟨#[98,97,100]⟩:ByteArray))) Tryz.underlying9 rfl (.pl rfl) rfl) rfl ?_;refine WL.step (WO.cC (enc:=(lX 9 3 33)) (ys:=([(Pt.s ((⟨#[98,97,100]⟩:ByteArray)))]:List Pt)) Tryz.underlying111 yv (.cons (.pl rfl) (.nil)) rfl (fun _=>rfl) rfl rfl (by decide) (by decide) rfl fun na=>?_);obtain⟨o3,ff,hF⟩:=al hF;refine b_ ?_;refine W.pF (fun a b c=>[(6,.slice b (a).length c)]) (fun a b c=>(lN 53 5 b1 BN A3 c4 r5::cR az 4 A6 c7 108 l8::cR (eI .i64) 1 dW c11 3 r9.1::cR (lX 9 3 33) 1 b c 20 a::T)) (fun a b c=>a=o3) (m_ 0 4) (fun K4 mb=>?_) ?_
 ·refine a_ ?_;refine Wc ff (fun wV ff=>?_) (fun wV ff=>?_)
  ·refine a_ ?_;refine WL.q (Y.lv (a:=9) (b:=3) (c:=33) (Pt.s ((⟨#[101,114,114,111,114]⟩:ByteArray))) Tryz.underlying9 rfl (.pl rfl) rfl) rfl ?_;refine a_ ?_;refine WL.q (Y.lv (a:=9) (b:=3) (c:=33) (Pt.e (r9.2)) Tryz.underlying33 rfl (.pl rfl) rfl) rfl ?_;refine WL.step (WO.cC (enc:=(lX 9 3 33)) (ys:=([(Pt.s ((⟨#[101,114,114,111,114]⟩:ByteArray))),(Pt.e (r9.2))]:List Pt)) Tryz.underlying111 yv (.cons (.pl rfl) (.cons (.pl rfl) (.nil))) rfl (fun _=>rfl) rfl rfl (by decide) (by decide) rfl fun Bk=>?_);obtain⟨zC,ff⟩:=bx ff;refine WL.step (WO.fH (enc:=(lX 9 3 33)) Tryz.underlying111 VB (fun _=>rfl) Oh (.pl rfl) rfl (.pl rfl) (i:=1) rfl (m2:=0) rfl (zC) rfl fun l_ c18=>?_);refine a_ ?_;exact h3 mb (oi ff)
  ·refine a_ ?_;refine Wc ff (fun ip ff=>?_) (fun ip ff=>?_)
   ·refine a_ ?_;refine WL.q (Y.lv (a:=9) (b:=3) (c:=33) (Pt.s ((⟨#[110,111,110,101]⟩:ByteArray))) Tryz.underlying9 rfl (.pl rfl) rfl) rfl ?_;refine WL.step (WO.cC (enc:=(lX 9 3 33)) (ys:=([(Pt.s ((⟨#[110,111,110,101]⟩:ByteArray)))]:List Pt)) Tryz.underlying111 yv (.cons (.pl rfl) (.nil)) rfl (fun _=>rfl) rfl rfl (by decide) (by decide) rfl fun DK=>?_);obtain⟨BC,ff⟩:=bx ff;refine WL.step (WO.fH (enc:=(lX 9 3 33)) Tryz.underlying111 VB (fun _=>rfl) Oh (.pl rfl) rfl (.pl rfl) (i:=1) rfl (m2:=0) rfl (BC) rfl fun Cw Im=>?_);refine a_ ?_;exact h3 mb (oi ff)
   ·refine a_ ?_;exact h3 mb (oi ff)
 ·rintro TS fM c14 rfl;obtain⟨sA,bk,hF⟩:=al hF;refine W.pF (fun a b c=>[(6,.slice b (a).length c)]) (fun a b c=>(lN 53 5 b1 BN A3 c4 r5::cR az 4 A6 c7 108 l8::cR (lX 9 3 33) 1 b c 20 a::T)) (fun a b c=>a=sA) (mM 0) (fun zZ gr=>?_) ?_
  ·refine a_ ?_;refine Ba bk (fun a b c d=>[(6,.slice c (a).length d),(35,.int .i64 b)]) (fun a b c d=>(lN 53 5 b1 BN A3 c4 r5::cR az 4 A6 c7 108 l8::cR (lX 9 3 33) 1 c d 20 a::cR (eI .i64) 1 dW c11 3 r9.1::T)) (fY 0 33 34) fun HQ v30 Np c28 k14 t14 ef C3 Tz uj=>?_;refine a_ ?_;refine Wc ef (fun qr ef=>?_) (fun qr ef=>?_)
   ·obtain⟨x31,afu,ef⟩:=al ef;refine a_ ?_;refine WL.q (Y.lv (a:=9) (b:=3) (c:=33) (Pt.i (x31)) Tryz.underlying3 rfl (.pl rfl) rfl) rfl ?_;refine WL.step (WO.cC (enc:=(lX 9 3 33)) (ys:=([(Pt.i (x31))]:List Pt)) Tryz.underlying111 yv (.cons (.pl rfl) (.nil)) rfl (fun _=>rfl) rfl rfl (by decide) (by decide) rfl fun PE=>?_);obtain⟨Gf,ef⟩:=bx ef;refine WL.step (WO.fH (enc:=(lX 9 3 33)) Tryz.underlying111 VB (fun _=>rfl) Oh (.pl rfl) rfl (.pl rfl) (i:=3) rfl (m2:=0) rfl (Gf) rfl fun J8 Na=>?_);obtain⟨U3,ef⟩:=bx ef;refine a_ ?_;exact g4 uj (oj ef C3)
   ·refine a_ ?_;exact h3 gr (oj ef C3)
  ·rintro TT A24 c25 rfl;obtain⟨yW,IQ,hF⟩:=al hF;refine a_ ?_;refine kC wY (v2 rfl rfl) (fun _ hw=>fd IQ (sw hw) hG) ?_;rintro⟨ajo,A39,c40⟩ -;obtain rfl:=oi hF;refine a_ ?_;exact rF (ajo,A39,c40)
def mt(N:Nat)(r5:ByteArray)(Jf:Int)(l9:(List Event)):Option ByteArray:=cond (decide (Jf=1)) (bd (jL N l9) fun jw=>bd (kf N r5 jw.1 (dh.mk jw.2.1 jw.2.2.1 jw.2.2.2.1) jw.2.2.2.2) fun fa=>some fa) (cond (decide (Jf=2)) (bd (iV N l9) fun gw=>bd (kf N r5 gw.1 (dh.mk gw.2.1 gw.2.2.1 gw.2.2.2.1) gw.2.2.2.2) fun r16=>some r16) (cond (decide (Jf=5)) (bd (fR N l9) fun lZ=>bd (kf N r5 lZ.1 (dh.mk lZ.2.1 lZ.2.2.1 lZ.2.2.2.1) lZ.2.2.2.2) fun uy=>some uy) (cond (decide (Jf=4)) (bd (lj N r5 l9) fun oo=>some oo) (some r5))))
theorem BO{N r5 Jf l9 b1 BN A3 c4 A7 c8 res}(hF:mt N r5 Jf l9=some res){w0 w T}(hw:St w0.heap.size w0 (lN 53 5 b1 BN A3 c4 r5::cR az 4 A7 c8 108 l9::T) w)(hG:lO w0):Calls Tryz.prog 26 (List.toArray [.pointer (some ⟨b1,0,none⟩),.int .i64 Jf,.slice A7 (l9).length c8]) w (fun e w'=>∃g:(Value×Option Addr×Nat),(True)∧e= .returned (.tuple #[])∧St w0.heap.size w0 (lN 53 5 b1 g.1 g.2.1 g.2.2 res::cR az 4 A7 c8 108 l9::T) w'):=by
 refine We 39 Tryz.func26 hw fun R hR=>?_;refine a_ ?_;refine Wc hF (fun BF hF=>?_) (fun BF hF=>?_)
 ·obtain⟨jw,qD,hF⟩:=al hF;refine a_ ?_;refine kP afA (v1 rfl) (fun wz hw=>L5 qD wz (so hw)) ?_;obtain⟨fa,kz,hF⟩:=al hF;refine a_ ?_;refine kC QO (v4 rfl rfl rfl rfl) (fun _ hw=>pZ kz (sw hw) hG) ?_;rintro⟨ZC,fM,c14⟩ -;obtain rfl:=oi hF;refine a_ ?_;exact rF (ZC,fM,c14)
 ·refine a_ ?_;refine Wc hF (fun wV hF=>?_) (fun wV hF=>?_)
  ·obtain⟨gw,pj,hF⟩:=al hF;refine a_ ?_;refine kP afB (v1 rfl) (fun wz hw=>NX pj wz (so hw)) ?_;obtain⟨r16,mF,hF⟩:=al hF;refine a_ ?_;refine kC QO (v4 rfl rfl rfl rfl) (fun _ hw=>pZ mF (sw hw) hG) ?_;rintro⟨ZD,M8,c19⟩ -;obtain rfl:=oi hF;refine a_ ?_;exact rF (ZD,M8,c19)
  ·refine a_ ?_;refine Wc hF (fun ip hF=>?_) (fun ip hF=>?_)
   ·obtain⟨lZ,uT,hF⟩:=al hF;refine a_ ?_;refine kP afC (v1 rfl) (fun wz hw=>Jd uT wz (so hw)) ?_;obtain⟨uy,Bt,hF⟩:=al hF;refine a_ ?_;refine kC QO (v4 rfl rfl rfl rfl) (fun _ hw=>pZ Bt (sw hw) hG) ?_;rintro⟨VC,z6,c24⟩ -;obtain rfl:=oi hF;refine a_ ?_;exact rF (VC,z6,c24)
   ·refine a_ ?_;refine Wc hF (fun Bm hF=>?_) (fun Bm hF=>?_)
    ·obtain⟨oo,ER,hF⟩:=al hF;refine a_ ?_;refine kC afD (v2 rfl rfl) (fun _ hw=>zM ER (sw hw) hG) ?_;rintro⟨ajp,Np,c28⟩ -;obtain rfl:=oi hF;refine a_ ?_;exact rF (ajp,Np,c28)
    ·obtain rfl:=oi hF;refine a_ ?_;exact rF (BN,A3,c4)
def rp(N:Nat)(s1:ByteArray):Option ByteArray:=bd (ox N s1) fun r3=>cond (!(decide (r3.2.2.2=0))) (bd (ec N ⟨#[]⟩ ([(Pt.s ((⟨#[101,114,114,111,114]⟩:ByteArray))),(Pt.e (r3.2.2.2)),(Pt.i (r3.2.2.1))]:List Pt)) fun r9=>bd (FD N r9) fun gU=>some gU) (bd (cB N r3.1 r3.2.1) fun oD=>bd (ec N ⟨#[]⟩ ([(Pt.s ((⟨#[99,97,108,108,115]⟩:ByteArray))),(Pt.i (((oD.1).length:Int)))]:List Pt)) fun kV=>bd (α:=ByteArray) (cond (decide (((oD.1).length:Int)≤9)) (bd (kE N kV r3.1 r3.2.1) fun xr=>some xr) (some kV)) <| fun oo=>cond (decide (((r3.1).length:Int)=1)) (bd (ix r3.1 0) fun ub=>bd (mt N oo ub r3.2.1) fun pC=>bd (FD N pC) fun mc=>some mc) (bd (FD N oo) fun GQ=>some GQ))
theorem yz{N s1 res}(hF:rp N s1=some res)(w:World)(hG:lO w):Pure Tryz.prog 9 [.string s1] w (.string res):=by
 refine We 68 Tryz.func9 (St.start w) fun R hR=>?_;refine a_ ?_;refine WL.q (Y.build (cs:=((Value.pointer none::(Value.slice none 0 0::[]))++[]).toArray) acJ (.nil) (bH trivial) rfl) rfl ?_;refine WL.step (WO.il (.pl rfl) rfl fun b2=>?_);refine WL.AX (.sb0 5) ?_;obtain⟨r3,Gb,hF⟩:=al hF;refine a_ ?_;refine kM afv (v1 rfl) (fun wz hw=>PA Gb wz (hG.mono hw)) ?_;rintro⟨A4,c5,A6,c7⟩ -;refine a_ ?_;refine Wc hF (fun wV hF=>?_) (fun wV hF=>?_)
 ·refine a_ ?_;refine WL.q (Y.lv (a:=9) (b:=3) (c:=33) (Pt.s ((⟨#[101,114,114,111,114]⟩:ByteArray))) Tryz.underlying9 rfl (.pl rfl) rfl) rfl ?_;refine a_ ?_;refine WL.q (Y.lv (a:=9) (b:=3) (c:=33) (Pt.e (r3.2.2.2)) Tryz.underlying33 rfl (.pl rfl) rfl) rfl ?_;refine a_ ?_;refine WL.q (Y.lv (a:=9) (b:=3) (c:=33) (Pt.i (r3.2.2.1)) Tryz.underlying3 rfl (.pl rfl) rfl) rfl ?_;refine WL.step (WO.cC (enc:=(lX 9 3 33)) (ys:=([(Pt.s ((⟨#[101,114,114,111,114]⟩:ByteArray))),(Pt.e (r3.2.2.2)),(Pt.i (r3.2.2.1))]:List Pt)) Tryz.underlying111 yv (.cons (.pl rfl) (.cons (.pl rfl) (.cons (.pl rfl) (.nil)))) rfl (fun _=>rfl) rfl rfl (by decide) (by decide) rfl fun b8=>?_);obtain⟨r9,Bj,hF⟩:=al hF;refine kC wY (v2 rfl rfl) (fun _ hw=>fd Bj (sw hw) hG) ?_;rintro⟨al0,cg,c12⟩ -;obtain⟨gU,k8,hF⟩:=al hF;refine a_ ?_;refine kC KF (v1 rfl) (fun _ hw=>lC k8 (sw hw)) ?_;rintro _ -;obtain rfl:=oi hF;refine a_ ?_;exact rP
 ·obtain⟨oD,Br,hF⟩:=al hF;refine a_ ?_;refine kM yT (v2 rfl rfl) (fun wz hw=>jj Br wz (so hw) (so hw)) ?_;rintro⟨A15,c16⟩ -;refine a_ ?_;refine WL.q (Y.lv (a:=9) (b:=3) (c:=33) (Pt.s ((⟨#[99,97,108,108,115]⟩:ByteArray))) Tryz.underlying9 rfl (.pl rfl) rfl) rfl ?_;refine a_ ?_;refine WL.q (Y.lv (a:=9) (b:=3) (c:=33) (Pt.i (((oD.1).length:Int))) Tryz.underlying3 rfl (.pl rfl) rfl) rfl ?_;refine WL.step (WO.cC (enc:=(lX 9 3 33)) (ys:=([(Pt.s ((⟨#[99,97,108,108,115]⟩:ByteArray))),(Pt.i (((oD.1).length:Int)))]:List Pt)) Tryz.underlying111 yv (.cons (.pl rfl) (.cons (.pl rfl) (.nil))) rfl (fun _=>rfl) rfl rfl (by decide) (by decide) rfl fun nH=>?_);obtain⟨kV,Bs,hF⟩:=al hF;refine kC wY (v2 rfl rfl) (fun _ hw=>fd Bs (sw hw) hG) ?_;rintro⟨afG,Dv,c21⟩ -;obtain⟨sA,bk,hF⟩:=al hF;refine b_ ?_;refine W.s7 (fun a b c d=>[]) (fun a b c d=>[lN 53 5 b2 b c d a,cR (eI .i64) 1 A4 c5 3 r3.1,cR az 4 A6 c7 108 r3.2.1]) (fun a b c d=>a=sA) (fY 3 4 5) (fun zZ gr=>?_) ?_
  ·refine a_ ?_;refine Wc bk (fun ji bk=>?_) (fun ji bk=>?_)
   ·obtain⟨xr,EZ,bk⟩:=al bk;refine a_ ?_;refine kC afw (v3 rfl rfl rfl) (fun _ hw=>zb EZ (sw hw) hG) ?_;rintro⟨al1,PD,M5⟩ -;refine a_ ?_;exact h4 gr (oi bk)
   ·refine a_ ?_;exact h4 gr (oi bk)
  ·rintro oo VC z6 c24 rfl;refine a_ ?_;refine Wc hF (fun qr hF=>?_) (fun qr hF=>?_)
   ·obtain⟨ub,VA,hF⟩:=al hF;obtain⟨pC,Ez,hF⟩:=al hF;refine a_ ?_;refine kC afx (v3 rfl rfl rfl) (fun _ hw=>BO Ez (sw hw) hG) ?_;rintro⟨ajj,J8,Na⟩ -;obtain⟨mc,IY,hF⟩:=al hF;refine a_ ?_;refine kC KF (v1 rfl) (fun _ hw=>lC IY (sw hw)) ?_;rintro _ -;obtain rfl:=oi hF;refine a_ ?_;exact rP
   ·obtain⟨GQ,ZE,hF⟩:=al hF;refine a_ ?_;refine kC KF (v1 rfl) (fun _ hw=>lC ZE (sw hw)) ?_;rintro _ -;obtain rfl:=oi hF;refine a_ ?_;exact rP
end Go.Proofs.YtjdkkabcenohcaaGreatDoor
