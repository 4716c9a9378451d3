import Derived.Test.YtjdkkabcenohcaaGreatDoorAuto
import Derived.Test.YtjdkkabcenohcaaGreatDoorV9
set_option linter.unusedVariables false
set_option linter.defProp false
set_option linter.unusedSimpArgs false
set_option linter.unusedSectionVars false
set_option maxRecDepth 100000
namespace Go.Proofs.YtjdkkabcenohcaaGreatDoor
open Go.RowKit
attribute [local irreducible] Yd aD ik
theorem afH: ∃i,Tryz.prog.info? 51=some i∧i.zero=some (Value.agg #[(Value.pointer none),(Value.slice none 0 0)]):=⟨_,rfl,by kernel_rfl⟩
theorem QQ{b p v}(hp:p= .pointer none∨p= .pointer (some ⟨b,0,none⟩)){w0 w T}(hw:St w0.heap.size w0 (aw b 51 [p,v]::T) w):Calls Tryz.prog 76 (List.toArray [.pointer (some ⟨b,0,none⟩)]) w (fun e w'=>∃g:Unit,True∧e= .returned (.tuple #[])∧St w0.heap.size w0 (aw b 51 [.pointer (some ⟨b,0,none⟩),v]::T) w'):=by
 refine W.enter (n:=20) Tryz.func76 rfl rfl Sub.refl (by simp) hw fun R hR=>?_
 obtain⟨j,hj,hs⟩:=zo Mg
 replace hs:j.size≠0:=by omega
 have hne:∀u w,(callFunc 117 #[u]).run Tryz.prog w= .ok (.value u) w:=fun u w=>by
  rw[run_callFunc_extern Tryz.func117 (by kernel_rfl) (by kernel_rfl) (by kernel_rfl) (e:=Extern.AbiNoEscape.same) (by kernel_rfl),Lib.run_noEscape]
  rfl
 rcases hp with rfl|rfl
 ·refine W.mR fun Q1 wG=>?_
  refine WL.q (Y.move (.pl rfl)) rfl ?_
  refine WL.q (Y.nilCheck (.pl rfl)) rfl ?_
  refine WL.q (Y.dQ (off:=0) (ft:=48) Tryz.underlying51 rfl rl (.pl rfl)) rfl ?_
  refine WL.q (Y.lW (v:=.pointer none) Tryz.underlying48 rfl (.pl rfl) (i:=0) rfl rfl) rfl ?_
  refine WL.q (Y.JY Tryz.underlying48 (.pl rfl)) rfl ?_
  refine WL.next wG (.cons (i:=0) rfl (.cons (i:=6) rfl (.nil))) ?_
  refine W.cond (.pl rfl) (fun _=>?_) (fun h=>nomatch h)
  refine W.Wa ?_
  refine WL.q (Y.move (.pl rfl)) rfl ?_
  refine WL.q (Y.move (.pl rfl)) rfl ?_
  refine WL.q (Y.toU Tryz.underlying48 Tryz.underlying210 hj hs (.pl rfl) (i:=0) rfl (Nat.zero_lt_succ 1)) rfl ?_
  refine WL.q (Y.aaQ (hne _) (.pl rfl)) rfl ?_
  refine WL.q (Y.ofU Tryz.underlying210 Tryz.underlying48 hj (.pl rfl) (i:=0) rfl (by kernel_rfl)) rfl ?_
  refine WL.q (Y.nilCheck (.pl rfl)) rfl ?_
  refine WL.q (Y.dQ (off:=0) (ft:=48) Tryz.underlying51 rfl rl (.pl rfl)) rfl ?_
  refine WL.step (WO.dC (cs':=[.pointer (some ⟨b,0,none⟩),v]) rl (.pl rfl) (.pl rfl) rfl (i:=0) rfl (iQ (m:=2) (by decide) rfl) rfl ?_)
  refine WL.nil ?_
  refine W.fI (fn:=Tryz.f76) (vs:=[]) Tryz.results76 trivial (fun _ _ h=>h) (fun wz hw=>?_)
  exact hR _ _ ⟨(),trivial,rfl,hw⟩
 ·refine W.mR fun Q1 wG=>?_
  refine WL.q (Y.move (.pl rfl)) rfl ?_
  refine WL.q (Y.nilCheck (.pl rfl)) rfl ?_
  refine WL.q (Y.dQ (off:=0) (ft:=48) Tryz.underlying51 rfl rl (.pl rfl)) rfl ?_
  refine WL.q (Y.lW (v:=.pointer (some ⟨b,0,none⟩)) Tryz.underlying48 rfl (.pl rfl) (i:=0) rfl rfl) rfl ?_
  refine WL.q (Y.JY Tryz.underlying48 (.pl rfl)) rfl ?_
  refine WL.next wG (.cons (i:=0) rfl (.cons (i:=6) rfl (.nil))) ?_
  refine W.cond (.pl rfl) (fun h=>nomatch h) (fun _=>?_)
  refine W.mR fun Q2 DB=>?_
  refine WL.q (Y.move (.pl rfl)) rfl ?_
  refine WL.q (Y.nilCheck (.pl rfl)) rfl ?_
  refine WL.q (Y.dQ (off:=0) (ft:=48) Tryz.underlying51 rfl rl (.pl rfl)) rfl ?_
  refine WL.q (Y.lW (v:=.pointer (some ⟨b,0,none⟩)) Tryz.underlying48 rfl (.pl rfl) (i:=0) rfl rfl) rfl ?_
  refine WL.q (Y.move (.pl rfl)) rfl ?_
  refine WL.q (Y.WH Tryz.underlying48 hj (.pl rfl) (.pl rfl)) rfl ?_
  refine WL.next DB (.cons (i:=19) rfl (.nil)) ?_
  refine W.cond (.pl rfl) (fun h=>nomatch h) (fun _=>?_)
  refine W.skip ?_
  refine W.fI (fn:=Tryz.f76) (vs:=[]) Tryz.results76 trivial (fun _ _ h=>h) (fun wz hw=>?_)
  exact hR _ _ ⟨(),trivial,rfl,hw⟩
theorem eM{N oQ DN qZ QP nG lP res}(hF:vU N oQ DN=some res){w0 w T}(hw:St w0.heap.size w0 (lN 51 5 qZ QP nG lP oQ::T) w):Calls Tryz.prog 47 (List.toArray [.pointer (some ⟨qZ,0,none⟩),.string DN]) w (fun e w'=>∃g:(Value×Option Addr×Nat),(True)∧e= .returned (.tuple #[.int .i64 ((DN).size:Int),(A_ 0)])∧St w0.heap.size w0 (lN 51 5 qZ g.1 g.2.1 g.2.2 res::T) w'):=by
 obtain⟨hp,hw⟩:=St.JX hw
 unfold vU at hF
 split at hF
 case isFalse=>cases hF
 rename_i hl
 obtain rfl:=Option.some.inj hF
 refine W.enter (n:=19) Tryz.func47 rfl rfl Sub.refl (by simp) hw fun R hR=>?_
 refine W.mR fun Q1 wG=>?_
 refine WL.q (Y.assign (.pl rfl)) rfl ?_
 refine WL.q (Y.assign (.pl rfl)) rfl ?_
 refine WL.next wG (.cons (i:=0) rfl (.cons (i:=1) rfl (.nil))) ?_
 refine W.mR fun Q2 DB=>?_
 refine WL.q (Y.move (.pl rfl)) rfl ?_
 refine WL.step (WO.call (γ:=Unit) (fun g=>.tuple #[]) (fun g=>aw qZ 51 [(.pointer (some ⟨qZ,0,none⟩)),.slice nG (oQ).size lP]::eR nG lP 5 1 oQ.size (Lib.strCells oQ)::T) (fun g=>True) Xr (.cons (.pl rfl) (.nil)) rfl (fun wz hw=>QQ hp hw) ?_)
 rintro⟨⟩ -
 refine WL.next DB (.cons (i:=0) rfl (.cons (i:=1) rfl (.nil))) ?_
 refine W.mR fun Q3 P3=>?_
 refine WL.q (Y.move (.pl rfl)) rfl ?_
 refine WL.q (Y.move (.pl rfl)) rfl ?_
 refine WL.q (Y.nilCheck (.pl rfl)) rfl ?_
 refine WL.q (Y.dQ (off:=1) (ft:=49) Tryz.underlying51 rfl rm (.pl rfl)) rfl ?_
 refine WL.q (Y.lW (v:=.slice nG (oQ).size lP) Tryz.underlying49 rfl (.pl rfl) (i:=0) rfl rfl) rfl ?_
 refine WL.q (Y.move (.pl rfl)) rfl ?_
 refine WL.step (WO.S6 Tryz.underlying49 Tryz.underlying9 ⟨_,rfl,by kernel_rfl,by kernel_rfl,by kernel_rfl⟩ (.pl rfl) (.pl rfl) (i:=1) rfl hl rfl fun A' c'=>?_)
 refine WL.q (Y.nilCheck (.pl rfl)) rfl ?_
 refine WL.q (Y.dQ (off:=1) (ft:=49) Tryz.underlying51 rfl rm (.pl rfl)) rfl ?_
 refine WL.step (WO.dC (cs':=[(.pointer (some ⟨qZ,0,none⟩)),.slice A' (oQ.size+DN.size) c']) rm (.pl rfl) (.pl rfl) rfl (i:=0) rfl (iQ (m:=2) (by decide) rfl) rfl ?_)
 refine WL.next P3 (.cons (i:=0) rfl (.cons (i:=1) rfl (.nil))) ?_
 refine W.mR fun Q4 P4=>?_
 refine WL.q (Y.move (.pl rfl)) rfl ?_
 refine WL.q (Y.UY Tryz.underlying9 (.pl rfl)) rfl ?_
 refine WL.q (Y.assign (.pl rfl)) rfl ?_
 refine WL.q (Y.assign (.pl rfl)) rfl ?_
 refine WL.next P4 (.cons (i:=4) rfl (.cons (i:=5) rfl (.nil))) ?_
 refine W.lr (fn:=Tryz.f47) (vs:=[.int .i64 ((DN).size:Int),.nilIface]) Tryz.results47 ⟨.tmp rfl,.tmp rfl,trivial⟩ (fun _ _ h=>h) (fun wz hw=>?_)
 refine hR _ _ ⟨((.pointer (some ⟨qZ,0,none⟩)),A',c'),trivial,rfl,?_⟩
 refine St.S5 (l:=oQ++DN) ?_
 rw[ByteArray.size_append,F6]
 exact hw
theorem Ax{N oQ qZ QP nG lP res}(hF:FD N oQ=some res){w0 w T}(hw:St w0.heap.size w0 (lN 51 5 qZ QP nG lP oQ::T) w):Calls Tryz.prog 23 (List.toArray [.pointer (some ⟨qZ,0,none⟩)]) w (fun e w'=>∃g:Unit,(True)∧e= .returned (.string res)∧St w0.heap.size w0 (T) w'):=by
 obtain⟨hp,hw⟩:=St.JX hw
 unfold FD at hF
 split at hF
 ·cases hF
 rename_i hl
 obtain rfl:=Option.some.inj hF
 obtain⟨g,hA,hcap⟩: ∃g,nG=some ⟨g,0,none⟩∧lP≠0:=by
  obtain⟨h1,h2⟩:=hw.sat _ (List.mem_of_getElem? (i:=1) rfl)
  rcases h2 with⟨_,h3,_⟩|⟨g,cur,h3,_,h4,_⟩
  ·exact absurd h3 hl
  ·exact⟨g,h3,by omega⟩
 subst hA
 refine W.enter (n:=14) Tryz.func23 rfl rfl Sub.refl (by simp) hw fun R hR=>?_
 refine W.mR fun Q1 wG=>?_
 refine WL.q (Y.assign (.pl rfl)) rfl ?_
 refine WL.next wG (.cons (i:=0) rfl (.nil)) ?_
 refine W.zq 10 (by kernel_rfl) (by kernel_rfl) fun Q2 DB=>?_
 refine WS.q (Y.move (.pl rfl)) rfl ?_
 refine WS.q (Y.nilCheck (.pl rfl)) rfl ?_
 refine WS.q (Y.dQ (off:=1) (ft:=49) Tryz.underlying51 rfl rm (.pl rfl)) rfl ?_
 refine WS.q (Y.lW (v:=.slice (some ⟨g,0,none⟩) (oQ).size lP) Tryz.underlying49 rfl (.pl rfl) (i:=0) rfl rfl) rfl ?_
 refine WS.q (Y.M0 (.pl rfl) hcap) rfl ?_
 refine WS.q (Y.move (.pl rfl)) rfl ?_
 refine WS.q (Y.nilCheck (.pl rfl)) rfl ?_
 refine WS.q (Y.dQ (off:=1) (ft:=49) Tryz.underlying51 rfl rm (.pl rfl)) rfl ?_
 refine WS.q (Y.lW (v:=.slice (some ⟨g,0,none⟩) (oQ).size lP) Tryz.underlying49 rfl (.pl rfl) (i:=0) rfl rfl) rfl ?_
 refine WS.q (Y.len Tryz.underlying49 (.pl rfl)) rfl ?_
 refine WS.tail ?_
 refine WL.step (WO.aep (E:=5) Tryz.underlying117 Xq hl (.pl rfl) (.pl rfl) (i:=1) rfl rfl ?_)
 refine WL.q (Y.assign (.pl rfl)) rfl ?_
 refine WL.next DB (.cons (i:=2) rfl (.nil)) ?_
 refine W.lr (fn:=Tryz.f23) (vs:=[.string oQ]) Tryz.results23 ⟨.tmp rfl,trivial⟩ (fun _ _ h=>h) (fun wz hw=>?_)
 exact hR _ _ ⟨(),trivial,rfl,(cp.drop (M:=[_,_])).at _ _ _ hw⟩
def zN(N:Nat)(bn:(List Int)):(ByteArray×Int)→Option ((ByteArray×Int) ⊕ ByteArray)|(VD,v27)=>cond (decide (v27 < ((bn).length:Int))) (bd (ix bn v27) fun x28=>bd (xS N) fun Ab=>bd (ix ([(⟨#[]⟩:ByteArray),(⟨#[114,101,103]⟩:ByteArray),(⟨#[113,117,101,117,101]⟩:ByteArray),(⟨#[115,116,97,99,107]⟩:ByteArray),(⟨#[115,101,116]⟩:ByteArray),(⟨#[116,105,99,107,101,116]⟩:ByteArray)]:List ByteArray) x28) fun x31=>ck (Et (⟨#[32]⟩:ByteArray) x31) <| bd (vU N VD ((⟨#[32]⟩:ByteArray)++x31)) fun Bu=>ck (bB (v27+1)) <| some (.inl (Bu,(v27+1)))) (some (.inr VD))
def zO(N:Nat)(l6:(List Event)):(ByteArray×Int)→Option ((ByteArray×Int) ⊕ ByteArray)|(VE,v50)=>cond (decide (v50 < ((l6).length:Int))) (bd (ix l6 v50) fun aF=>bd (qq N aF.who) fun FE=>ck (Et FE (⟨#[32]⟩:ByteArray)) <| bd (qq N aF.aj) fun TU=>ck (Et (FE++(⟨#[32]⟩:ByteArray)) TU) <| ck (Et ((FE++(⟨#[32]⟩:ByteArray))++TU) (⟨#[32]⟩:ByteArray)) <| bd (xY N) fun r58=>bd (ix ([(⟨#[101,110,100]⟩:ByteArray),(⟨#[119,114,105,116,101]⟩:ByteArray),(⟨#[114,101,97,100]⟩:ByteArray),(⟨#[101,110,113]⟩:ByteArray),(⟨#[100,101,113]⟩:ByteArray),(⟨#[112,117,115,104]⟩:ByteArray),(⟨#[112,111,112]⟩:ByteArray),(⟨#[97,100,100]⟩:ByteArray),(⟨#[114,101,109,111,118,101]⟩:ByteArray),(⟨#[104,97,115]⟩:ByteArray),(⟨#[116,97,107,101]⟩:ByteArray)]:List ByteArray) aF.kind) fun xq=>ck (Et (((FE++(⟨#[32]⟩:ByteArray))++TU)++(⟨#[32]⟩:ByteArray)) xq) <| bd (vU N VE ((((FE++(⟨#[32]⟩:ByteArray))++TU)++(⟨#[32]⟩:ByteArray))++xq)) fun r62=>bd (F' N aF.kind) fun r66=>cond (!((((decide (aF.kind=2))||(decide (aF.kind=4)))||(decide (aF.kind=6)))||(decide (aF.kind=10)))) (bd (qq N aF.value) fun r67=>ck (Et (⟨#[32]⟩:ByteArray) r67) <| bd (vU N r62 ((⟨#[32]⟩:ByteArray)++r67)) fun r69=>bd (vU N r69 (⟨#[10]⟩:ByteArray)) fun r73=>ck (bB (v50+1)) <| some (.inl (r73,(v50+1)))) (bd (vU N r62 (⟨#[10]⟩:ByteArray)) fun r78=>ck (bB (v50+1)) <| some (.inl (r78,(v50+1))))) (some (.inr VE))
def Ay(N:Nat)(bn:(List Int))(l6:(List Event)):Option (ByteArray×Int):=bd (cB N bn l6) fun fa=>cond (!(decide (fa.2.2=0))) (some ((⟨#[]⟩:ByteArray),fa.2.2)) (bd (vU N ⟨#[]⟩ (⟨#[116,104,105,110,103,115]⟩:ByteArray)) fun gw=>bd (α:=ByteArray) (iter (zN N bn) N (gw,0)) <| fun aaZ=>bd (vU N aaZ (⟨#[10]⟩:ByteArray)) fun tZ=>bd (α:=ByteArray) (iter (zO N l6) N (tZ,0)) <| fun aa0=>bd (FD N aa0) fun r83=>some (r83,0))
theorem NZ{N bn l6 res}(hF:Ay N bn l6=some res)(w:World){v5}(hs4:bi (eI .i64) 1 w v5 bn){v10}(jU:bi az 4 w v10 l6)(hG:lO w):Pure Tryz.prog 38 [v5,v10] w (.tuple #[.string res.1,.int .i64 res.2]):=by
 obtain⟨A2,c3,rfl,jy,hs4⟩:=hs4.form;obtain⟨A7,c8,rfl,IO,jU⟩:=jU.form;refine We 73 Tryz.func38 (St.start w) fun R hR=>?_;obtain⟨fa,kz,hF⟩:=al hF;refine a_ ?_;refine kM yT (v2 rfl rfl) (fun wz hw=>jj kz wz (hs4.mono hw) (jU.mono hw)) ?_;rintro⟨vI,c13⟩ -;refine a_ ?_;refine Wc hF (fun fT hF=>?_) (fun fT hF=>?_)
 ·obtain rfl:=oi hF;refine a_ ?_;exact rP
 ·refine a_ ?_;refine WL.step (WO.alloc (cs:=#[.pointer none,.slice none 0 0]) afH rfl rfl fun gK=>?_);refine WL.AX (.sb0 5) ?_;obtain⟨gw,pj,hF⟩:=al hF;refine a_ ?_;refine kC q7 (v2 rfl rfl) (fun _ hw=>eM pj (sw hw)) ?_;rintro⟨al2,al3,al4⟩ -;obtain⟨o9,gF,hF⟩:=al hF;refine b_ ?_;refine W.s7 (fun a b c d=>[]) (fun a b c d=>[lN 51 5 gK b c d a]) (fun a b c d=>a=o9) (m_ 1 9) (fun Ta sv=>?_) ?_
  ·refine a_ ?_;refine Er gF (fun a b c d f=>[(27,.int .i64 b)]) (fun a b c d f=>[lN 51 5 gK c d f a]) (lE 1 9 25 26) fun VD v27 al5 A24 c25 k12 t12 jW Ql K13 Ew=>?_;refine a_ ?_;refine Wc jW (fun nL jW=>?_) (fun nL jW=>?_)
   ·obtain⟨x28,GR,jW⟩:=al jW;obtain⟨Ab,Jc,jW⟩:=al jW;refine a_ ?_;refine kM WJ v0 (fun wz hw=>zY Jc wz) ?_;rintro Kk -;obtain⟨x31,afu,jW⟩:=al jW;obtain⟨Gs,jW⟩:=bx jW;refine a_ ?_;refine WL.q (Y.Lw (.pl rfl) (.pl rfl) (Gs)) rfl ?_;obtain⟨Bu,I3,jW⟩:=al jW;refine kC q7 (v2 rfl rfl) (fun _ hw=>eM I3 (sw hw)) ?_;rintro⟨ajb,ajc,ajd⟩ -;obtain⟨Y2,jW⟩:=bx jW;refine a_ ?_;exact g5 Ew (oj jW Ql)
   ·refine a_ ?_;exact h4 sv (oj jW Ql)
  ·rintro aaZ afG Dv c21 rfl;obtain⟨tZ,I2,hF⟩:=al hF;refine a_ ?_;refine kC q7 (v2 rfl rfl) (fun _ hw=>eM I2 (sw hw)) ?_;rintro⟨al6,al7,al8⟩ -;obtain⟨Qu,nU,hF⟩:=al hF;refine b_ ?_;refine W.s7 (fun a b c d=>[]) (fun a b c d=>[lN 51 5 gK b c d a]) (fun a b c d=>a=Qu) (mM 9) (fun K23 EX=>?_) ?_
   ·refine a_ ?_;refine Er nU (fun a b c d f=>[(41,.int .i64 b)]) (fun a b c d f=>[lN 51 5 gK c d f a]) (fY 9 39 40) fun VE v50 al9 A47 c48 k25 t25 eZ ZF K26 LF=>?_;refine a_ ?_;refine Wc eZ (fun Y_ eZ=>?_) (fun Y_ eZ=>?_)
    ·obtain⟨aF,Vn,eZ⟩:=al eZ;refine a_ ?_;refine mA fun b52=>?_;refine b_ ?_;refine W.xL 15 (by kernel_rfl) fun K32 E7=>?_;refine Xp 0 rfl (fun _ _=>yf) ?_;refine Xt 1 rfl (fj) ?_;refine Xp 4 rfl (fun _ _=>yf) ?_;refine Xt 5 rfl (fj) ?_;refine Xp 10 rfl (fun _ _=>yf) ?_;refine Xt 11 rfl (fj) ?_;obtain⟨FE,ZG,eZ⟩:=al eZ;refine Xo 2 rfl (WO.jc Dt (.cons (.pl rfl) (.nil)) rfl (fun wz hw=>lY (ZG) wz (hG.mono hw)) ?_);obtain⟨ajq,eZ⟩:=bx eZ;refine Xp 3 rfl (fun _ _=>Y.Lw (.pl rfl) (.pl rfl) (ajq)) ?_;obtain⟨TU,ajr,eZ⟩:=al eZ;refine Xo 6 rfl (WO.jc Dt (.cons (.pl rfl) (.nil)) rfl (fun wz hw=>lY (ajr) wz (hG.mono hw)) ?_);obtain⟨ajs,eZ⟩:=bx eZ;refine Xp 7 rfl (fun _ _=>Y.Lw (.pl rfl) (.pl rfl) (ajs)) ?_;obtain⟨afe,eZ⟩:=bx eZ;refine Xp 8 rfl (fun _ _=>Y.Lw (.pl rfl) (.pl rfl) (afe)) ?_;obtain⟨r58,ajt,eZ⟩:=al eZ;refine Xo 9 rfl (WO.wg Pp (.nil) rfl (fun wz hw=>uf (ajt) wz) ?_);rintro A59 -;refine WX.now (fun wz hw=>St.tail [_] hw) ?_;obtain⟨xq,LZ,eZ⟩:=al eZ;refine Xt 12 rfl (Y.mU Tryz.underlying65 F8 (i:=0) rfl (.pl rfl) rfl (.pl rfl) (ai (LZ))) ?_;refine Xt 13 rfl (Y.gD (enc:=eS) (v:=.string xq) (a:=xq) (idx:=aF.kind) (j:=0) Tryz.underlying9 rfl (fun _=>rfl) (i:=0) rfl (.pl rfl) (aI (LZ)) rfl rfl) ?_;obtain⟨aju,eZ⟩:=bx eZ;refine Xp 14 rfl (fun _ _=>Y.Lw (.pl rfl) (.pl rfl) (aju)) ?_;obtain⟨r62,ajv,eZ⟩:=al eZ;refine Xs rfl (WO.call (γ:=(Value×Option Addr×Nat)) (fun g=>.tuple #[.int .i64 ((((((FE++(⟨#[32]⟩:ByteArray))++TU)++(⟨#[32]⟩:ByteArray))++xq)).size:Int),(A_ 0)]) (fun g=>[lN 51 5 gK g.1 g.2.1 g.2.2 r62,cR eS 1 A59 (([(⟨#[101,110,100]⟩:ByteArray),(⟨#[119,114,105,116,101]⟩:ByteArray),(⟨#[114,101,97,100]⟩:ByteArray),(⟨#[101,110,113]⟩:ByteArray),(⟨#[100,101,113]⟩:ByteArray),(⟨#[112,117,115,104]⟩:ByteArray),(⟨#[112,111,112]⟩:ByteArray),(⟨#[97,100,100]⟩:ByteArray),(⟨#[114,101,109,111,118,101]⟩:ByteArray),(⟨#[104,97,115]⟩:ByteArray),(⟨#[116,97,107,101]⟩:ByteArray)]:List ByteArray)).length 9 ([(⟨#[101,110,100]⟩:ByteArray),(⟨#[119,114,105,116,101]⟩:ByteArray),(⟨#[114,101,97,100]⟩:ByteArray),(⟨#[101,110,113]⟩:ByteArray),(⟨#[100,101,113]⟩:ByteArray),(⟨#[112,117,115,104]⟩:ByteArray),(⟨#[112,111,112]⟩:ByteArray),(⟨#[97,100,100]⟩:ByteArray),(⟨#[114,101,109,111,118,101]⟩:ByteArray),(⟨#[104,97,115]⟩:ByteArray),(⟨#[116,97,107,101]⟩:ByteArray)]:List ByteArray),aw b52 108 (az aF)]) (fun g=>True) q7 (.cons (.pl rfl) (.cons (.pl rfl) (.nil))) rfl (fun wz hw=>eM (T:=[cR eS 1 A59 (([(⟨#[101,110,100]⟩:ByteArray),(⟨#[119,114,105,116,101]⟩:ByteArray),(⟨#[114,101,97,100]⟩:ByteArray),(⟨#[101,110,113]⟩:ByteArray),(⟨#[100,101,113]⟩:ByteArray),(⟨#[112,117,115,104]⟩:ByteArray),(⟨#[112,111,112]⟩:ByteArray),(⟨#[97,100,100]⟩:ByteArray),(⟨#[114,101,109,111,118,101]⟩:ByteArray),(⟨#[104,97,115]⟩:ByteArray),(⟨#[116,97,107,101]⟩:ByteArray)]:List ByteArray)).length 9 ([(⟨#[101,110,100]⟩:ByteArray),(⟨#[119,114,105,116,101]⟩:ByteArray),(⟨#[114,101,97,100]⟩:ByteArray),(⟨#[101,110,113]⟩:ByteArray),(⟨#[100,101,113]⟩:ByteArray),(⟨#[112,117,115,104]⟩:ByteArray),(⟨#[112,111,112]⟩:ByteArray),(⟨#[97,100,100]⟩:ByteArray),(⟨#[114,101,109,111,118,101]⟩:ByteArray),(⟨#[104,97,115]⟩:ByteArray),(⟨#[116,97,107,101]⟩:ByteArray)]:List ByteArray),aw b52 108 (az aF)]) (ajv) (hw.pick [2,0,1] rfl)) ?_);rintro⟨al_,al',ama⟩ -;refine WA.done (by kernel_rfl) ?_;refine KK.next E7 (wl 9 13 39 40 41) ?_;obtain⟨r66,ajw,eZ⟩:=al eZ;refine a_ ?_;refine kP WK (v1 rfl) (fun wz hw=>Ga ajw wz) ?_;refine a_ ?_;refine Wc eZ (fun Pu eZ=>?_) (fun Pu eZ=>?_)
     ·obtain⟨r67,ajx,eZ⟩:=al eZ;refine a_ ?_;refine kP Dt (v1 rfl) (fun wz hw=>lY ajx wz (hG.mono hw)) ?_;obtain⟨ajy,eZ⟩:=bx eZ;refine WL.q (Y.Lw (.pl rfl) (.pl rfl) (ajy)) rfl ?_;obtain⟨r69,ajz,eZ⟩:=al eZ;refine kC q7 (v2 rfl rfl) (fun _ hw=>eM ajz (sw hw)) ?_;rintro⟨amb,amc,amd⟩ -;obtain⟨r73,ajA,eZ⟩:=al eZ;refine a_ ?_;refine kC q7 (v2 rfl rfl) (fun _ hw=>eM ajA (sw hw)) ?_;rintro⟨ame,amf,amg⟩ -;obtain⟨amh,eZ⟩:=bx eZ;refine a_ ?_;exact g5 LF (oj eZ ZF)
     ·obtain⟨r78,ajB,eZ⟩:=al eZ;refine a_ ?_;refine kC q7 (v2 rfl rfl) (fun _ hw=>eM ajB (sw hw)) ?_;rintro⟨ami,amj,amk⟩ -;obtain⟨aml,eZ⟩:=bx eZ;refine a_ ?_;exact g5 LF (oj eZ ZF)
    ·refine a_ ?_;exact h4 EX (oj eZ ZF)
   ·rintro aa0 amm Tr Ts rfl;obtain⟨r83,ajC,hF⟩:=al hF;refine a_ ?_;refine kC KF (v1 rfl) (fun _ hw=>Ax ajC (sw hw)) ?_;rintro _ -;obtain rfl:=oi hF;refine a_ ?_;exact rP
end Go.Proofs.YtjdkkabcenohcaaGreatDoor
set_option linter.unusedVariables false
set_option linter.defProp false
set_option linter.unusedSimpArgs false
set_option linter.unusedSectionVars false
set_option maxRecDepth 100000
namespace Go.Proofs.YtjdkkabcenohcaaGreatDoor
open Go.RowKit
attribute [local irreducible] Yd aD ik
def VF:=gg Tryz.func9
def afI:=gg Tryz.func13
def afJ:=gg Tryz.func38
def KH:=gg Tryz.func39
theorem QR:Lays.n99 Tryz.prog J5 where
 mixed:=by kernel_rfl
 f99:=Tryz.func13.trans (congrArg some (by kernel_rfl))
 f206:=Tryz.func31.trans (congrArg some (by kernel_rfl))
 t3:=Tryz.underlying3
 a3:=Tryz.isAgg3
 z3:=Tryz.sizeOf3
 v3:=Tryz.zeroValue3
 t4:=Tryz.underlying4
 a4:=Tryz.isAgg4
 z4:=Tryz.sizeOf4
 v4:=Tryz.zeroValue4
 t9:=Tryz.underlying9
 a9:=Tryz.isAgg9
 z9:=Tryz.sizeOf9
 v9:=Tryz.zeroValue9
theorem E8{N:Nat}{mN M7:ByteArray}{res:Bool}(hF:Pm N mN M7=some res)(w:World):Pure Tryz.prog 13 [.string mN,.string M7] w (.bool res):=YF QR hF w
theorem N0:Lays.n144 Tryz.prog J5 where
 mixed:=by kernel_rfl
 f143:=Tryz.func29.trans (congrArg some (by kernel_rfl))
 f144:=Tryz.func39.trans (congrArg some (by kernel_rfl))
 f217:=Tryz.func100.trans (congrArg some (by kernel_rfl))
 f219:=Tryz.func60.trans (congrArg some (by kernel_rfl))
 f224:=Tryz.func102.trans (congrArg some (by kernel_rfl))
 f225:=Tryz.func101.trans (congrArg some (by kernel_rfl))
 f266:=Tryz.func143.trans (congrArg some (by kernel_rfl))
 f267:=Tryz.func103.trans (congrArg some (by kernel_rfl))
 f314:=Tryz.func144.trans (congrArg some (by kernel_rfl))
 t3:=Tryz.underlying3
 a3:=Tryz.isAgg3
 z3:=Tryz.sizeOf3
 v3:=Tryz.zeroValue3
 t4:=Tryz.underlying4
 a4:=Tryz.isAgg4
 z4:=Tryz.sizeOf4
 v4:=Tryz.zeroValue4
 t5:=Tryz.underlying5
 a5:=Tryz.isAgg5
 z5:=Tryz.sizeOf5
 v5:=Tryz.zeroValue5
 t9:=Tryz.underlying9
 a9:=Tryz.isAgg9
 z9:=Tryz.sizeOf9
 v9:=Tryz.zeroValue9
 t46:=Tryz.underlying176
 a46:=Tryz.isAgg176
 z46:=Tryz.sizeOf176
 v46:=Tryz.zeroValue176
 t51:=Tryz.underlying255
 a51:=Tryz.isAgg255
 z51:=Tryz.sizeOf255
 v51:=Tryz.zeroValue255
 t146:=Tryz.underlying256
 a146:=Tryz.isAgg256
 z146:=Tryz.sizeOf256
 v146:=Tryz.zeroValue256
 g1:=by kernel_rfl
theorem od{N:Nat}{mN M7:ByteArray}{res:Bool}(hF:Eu N mN M7=some res)(w:World)(hG:lO w):Pure Tryz.prog 39 [.string mN,.string M7] w (.bool res):=YG N0 hF w hG
def jN(N:Nat)(bn:(List Int))(l6:(List Event)):Option Bool:=bd (Ay N bn l6) fun fa=>cond ((!(decide (fa.2=0)))||(decide (8192 < ((fa.1).size:Int)))) (some (decide (fa.2=0))) (bd (rp N fa.1) fun jV=>bd (Pm N jV (⟨#[99,97,108,108,115,32]⟩:ByteArray)) fun gU=>bd ((cond ((!gU)==false) (Eu N jV (⟨#[116,105,109,101,32,110]⟩:ByteArray)) (some false))) fun oD=>cond ((!gU)||oD) (some false) (bd (Eu N jV (⟨#[98,97,100,32]⟩:ByteArray)) fun gw=>bd ((cond ((!gw)==false) (Eu N jV (⟨#[98,97,100,32,110,111,110,101]⟩:ByteArray)) (some false))) fun r16=>bd ((cond (((!gw)||r16)==false) (Eu N jV (⟨#[98,97,100,32,101,114,114,111,114]⟩:ByteArray)) (some false))) fun rL=>some (((!gw)||r16)||rL)))
theorem wZ{N bn l6 res}(hF:jN N bn l6=some res)(w:World){v5}(hs4:bi (eI .i64) 1 w v5 bn){v10}(jU:bi az 4 w v10 l6)(hG:lO w):Pure Tryz.prog 17 [v5,v10] w (.bool res):=by
 obtain⟨A2,c3,rfl,jy,hs4⟩:=hs4.form;obtain⟨A7,c8,rfl,IO,jU⟩:=jU.form;refine We 43 Tryz.func17 (St.start w) fun R hR=>?_;obtain⟨fa,kz,hF⟩:=al hF;refine a_ ?_;refine kP afJ (v2 rfl rfl) (fun wz hw=>NZ kz wz (hs4.mono hw) (jU.mono hw) (hG.mono hw)) ?_;refine a_ ?_;refine WL.g (.pl rfl rfl rfl) (fun hg=>Y.UY Tryz.underlying9 (.gd (hg) rfl)) rfl ?_;refine a_ ?_;refine Wc hF (fun fT hF=>?_) (fun fT hF=>?_)
 ·obtain rfl:=oi hF;refine a_ ?_;exact rP
 ·obtain⟨jV,yi,hF⟩:=al hF;refine a_ ?_;refine kP VF (v1 rfl) (fun wz hw=>yz yi wz (hG.mono hw)) ?_;obtain⟨gU,k8,hF⟩:=al hF;refine a_ ?_;refine kP afI (v2 rfl rfl) (fun wz hw=>E8 k8 wz) ?_;obtain⟨oD,Br,hF⟩:=al hF;refine a_ ?_;refine WL.gP (.pl rfl rfl rfl) KH (fun hg=>(.cons (.gd (hg) rfl) (.cons (.pl rfl) (.nil)))) rfl (fun hg wz hw=>od (fq hg Br) wz (hG.mono hw)) ?_;refine a_ ?_;refine Wc hF (fun iL hF=>?_) (fun iL hF=>?_)
  ·obtain rfl:=oi hF;refine a_ ?_;exact rP
  ·obtain⟨gw,pj,hF⟩:=al hF;refine a_ ?_;refine kP KH (v2 rfl rfl) (fun wz hw=>od pj wz (hG.mono hw)) ?_;obtain⟨r16,mF,hF⟩:=al hF;refine a_ ?_;refine WL.gP (.pl rfl rfl rfl) KH (fun hg=>(.cons (.gd (hg) rfl) (.cons (.pl rfl) (.nil)))) rfl (fun hg wz hw=>od (fq hg mF) wz (hG.mono hw)) ?_;obtain⟨rL,Bh,hF⟩:=al hF;refine a_ ?_;refine WL.gP (.pl rfl rfl rfl) KH (fun hg=>(.cons (.gd (hg) rfl) (.cons (.pl rfl) (.nil)))) rfl (fun hg wz hw=>od (fq hg Bh) wz (hG.mono hw)) ?_;obtain rfl:=oi hF;refine a_ ?_;exact rP
def jp(N:Nat):Option Bool:=bd (rp N (⟨#[116,104,105,110,103,115,32,116,105,99,107,101,116,10,48,32,48,32,116,97,107,101,10,49,32,48,32,116,97,107,101,10,49,32,48,32,101,110,100,32,48,10,48,32,48,32,101,110,100,32,49,10]⟩:ByteArray)) fun r1=>bd ((cond ((decide (r1=(⟨#[99,97,108,108,115,32,50,10,116,105,109,101,32,121,32,49,32,48,32,48,32,49,10,112,101,111,112,108,101,32,121,10,99,97,108,109,32,121,10,98,97,100,32,110,111,110,101,10]⟩:ByteArray)))==true) (rp N (⟨#[116,104,105,110,103,115,32,116,105,99,107,101,116,10,48,32,48,32,116,97,107,101,10,48,32,48,32,101,110,100,32,49,10]⟩:ByteArray)) (some ⟨#[]⟩))) fun r2=>some ((decide (r1=(⟨#[99,97,108,108,115,32,50,10,116,105,109,101,32,121,32,49,32,48,32,48,32,49,10,112,101,111,112,108,101,32,121,10,99,97,108,109,32,121,10,98,97,100,32,110,111,110,101,10]⟩:ByteArray)))&&(decide (r2=(⟨#[99,97,108,108,115,32,49,10,116,105,109,101,32,110,10,112,101,111,112,108,101,32,110,10,99,97,108,109,32,110,10,98,97,100,32,56,32,48,32,48,10]⟩:ByteArray))))
theorem vo{N res}(hF:jp N=some res)(w:World)(hG:lO w):Pure Tryz.prog 16 [] w (.bool res):=by
 refine We 11 Tryz.func16 (St.start w) fun R hR=>?_;obtain⟨r1,za,hF⟩:=al hF;refine a_ ?_;refine kP VF (v1 rfl) (fun wz hw=>yz za wz (hG.mono hw)) ?_;refine WL.q (Y.Ph Tryz.underlying9 (.pl rfl) (.pl rfl)) rfl ?_;obtain⟨r2,hr2,hF⟩:=al hF;refine a_ ?_;refine WL.gP (.pl rfl rfl rfl) VF (fun hg=>(.cons (.gd (hg) rfl) (.nil))) rfl (fun hg wz hw=>yz (fq hg hr2) wz (hG.mono hw)) ?_;refine WL.g (.pl rfl rfl rfl) (fun hg=>Y.Ph Tryz.underlying9 (.gd (hg) rfl) (.pl rfl)) rfl ?_;obtain rfl:=oi hF;refine a_ ?_;exact rP
end Go.Proofs.YtjdkkabcenohcaaGreatDoor
