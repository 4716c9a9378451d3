/- read, at whatever length. -/
import Derived.Test.YtjdkkabcenohcaaGreatDoorAuto
import Derived.Test.YtjdkkabcenohcaaGreatDoorV5
import Derived.Test.YtjdkkabcenohcaaGreatDoorSort
set_option linter.unusedVariables false
set_option linter.defProp false
set_option linter.unusedSimpArgs false
set_option linter.unusedSectionVars false
set_option maxRecDepth 100000
namespace Go.Proofs.YtjdkkabcenohcaaGreatDoor
open Go.RowKit
attribute [local irreducible] Yd ap eu
def U3:Go.Shelf.Ren:=⟨fun x=>match x with|6=>128|14=>162|15=>159|20=>189|21=>190|22=>191|23=>192|24=>193|25=>194|26=>195|27=>196|28=>188|29=>176|46=>210|47=>206|48=>207|49=>211|50=>212|57=>225|n=>n,fun x=>match x with|0=>0|3=>3|4=>4|5=>5|9=>9|22=>230|24=>236|25=>238|39=>176|45=>288|46=>289|50=>158|53=>255|55=>263|66=>312|70=>316|76=>331|77=>332|n=>n,fun x=>x⟩
theorem Re:SlLaysF0.n6 Tryz.prog U3 where
 mixed:=by kernel_rfl
 f6:=⟨Tryz.f128.name,by kernel_rfl,Tryz.func128.trans (congrArg some (by kernel_rfl))⟩
 f14:=⟨Tryz.f162.name,by kernel_rfl,Tryz.func162.trans (congrArg some (by kernel_rfl))⟩
 f15:=Tryz.func159.trans (congrArg some (by kernel_rfl))
 f20:=⟨Tryz.f189.name,by kernel_rfl,Tryz.func189.trans (congrArg some (by kernel_rfl))⟩
 f21:=⟨Tryz.f190.name,by kernel_rfl,Tryz.func190.trans (congrArg some (by kernel_rfl))⟩
 f22:=⟨Tryz.f191.name,by kernel_rfl,Tryz.func191.trans (congrArg some (by kernel_rfl))⟩
 f23:=⟨Tryz.f192.name,by kernel_rfl,Tryz.func192.trans (congrArg some (by kernel_rfl))⟩
 f24:=⟨Tryz.f193.name,by kernel_rfl,Tryz.func193.trans (congrArg some (by kernel_rfl))⟩
 f25:=⟨Tryz.f194.name,by kernel_rfl,Tryz.func194.trans (congrArg some (by kernel_rfl))⟩
 f26:=⟨Tryz.f195.name,by kernel_rfl,Tryz.func195.trans (congrArg some (by kernel_rfl))⟩
 f27:=⟨Tryz.f196.name,by kernel_rfl,Tryz.func196.trans (congrArg some (by kernel_rfl))⟩
 f28:=Tryz.func188.trans (congrArg some (by kernel_rfl))
 f29:=Tryz.func176.trans (congrArg some (by kernel_rfl))
 f46:=⟨Tryz.f210.name,by kernel_rfl,Tryz.func210.trans (congrArg some (by kernel_rfl))⟩
 f47:=Tryz.func206.trans (congrArg some (by kernel_rfl))
 f48:=Tryz.func207.trans (congrArg some (by kernel_rfl))
 f49:=⟨Tryz.f211.name,by kernel_rfl,Tryz.func211.trans (congrArg some (by kernel_rfl))⟩
 f50:=⟨Tryz.f212.name,by kernel_rfl,Tryz.func212.trans (congrArg some (by kernel_rfl))⟩
 f57:=⟨Tryz.f225.name,by kernel_rfl,Tryz.func225.trans (congrArg some (by kernel_rfl))⟩
 t0:=Tryz.underlying0
 a0:=Tryz.isAgg0
 z0:=Tryz.sizeOf0
 v0:=Tryz.zeroValue0
 t3:=Tryz.underlying3
 a3:=Tryz.isAgg3
 z3:=Tryz.sizeOf3
 v3:=Tryz.zeroValue3
 t4:=Tryz.underlying4
 a4:=Tryz.isAgg4
 z4:=Tryz.sizeOf4
 v4:=Tryz.zeroValue4
 t5:=Tryz.underlying5
 a5:=Tryz.isAgg5
 z5:=Tryz.sizeOf5
 v5:=Tryz.zeroValue5
 t9:=Tryz.underlying9
 a9:=Tryz.isAgg9
 z9:=Tryz.sizeOf9
 v9:=Tryz.zeroValue9
 t22:=Tryz.underlying230
 a22:=Tryz.isAgg230
 z22:=Tryz.sizeOf230
 v22:=Tryz.zeroValue230
 t25:=Tryz.underlying238
 a25:=Tryz.isAgg238
 z25:=Tryz.sizeOf238
 v25:=Tryz.zeroValue238
 t39:=Tryz.underlying176
 a39:=Tryz.isAgg176
 z39:=Tryz.sizeOf176
 v39:=Tryz.zeroValue176
 t45:=Tryz.underlying288
 a45:=Tryz.isAgg288
 z45:=Tryz.sizeOf288
 v45:=Tryz.zeroValue288
 t46:=Tryz.underlying289
 a46:=Tryz.isAgg289
 z46:=Tryz.sizeOf289
 v46:=Tryz.zeroValue289
 t50:=Tryz.underlying158
 a50:=Tryz.isAgg158
 z50:=Tryz.sizeOf158
 v50:=Tryz.zeroValue158
 t53:=Tryz.underlying255
 a53:=Tryz.isAgg255
 z53:=Tryz.sizeOf255
 v53:=Tryz.zeroValue255
 t55:=Tryz.underlying263
 a55:=Tryz.isAgg263
 z55:=Tryz.sizeOf263
 v55:=Tryz.zeroValue263
 t66:=Tryz.underlying312
 a66:=Tryz.isAgg312
 z66:=Tryz.sizeOf312
 v66:=Tryz.zeroValue312
 t70:=Tryz.underlying316
 a70:=Tryz.isAgg316
 z70:=Tryz.sizeOf316
 v70:=Tryz.zeroValue316
 t76:=Tryz.underlying331
 a76:=Tryz.isAgg331
 z76:=Tryz.sizeOf331
 v76:=Tryz.zeroValue331
 t77:=Tryz.underlying332
 a77:=Tryz.isAgg332
 z77:=Tryz.sizeOf332
 v77:=Tryz.zeroValue332
def lX:ab→Bool:=fun x=>decide (-4611686018427387904≤x.n∧x.n≤4611686018427387903)
instance:Inhabited (dK lX):=⟨⟨ab.z,rfl⟩⟩
abbrev rR:ab→ab→Int:=fun a b=>a.n - b.n
theorem zz:Go.Sort.SWO (ltOf fun a b:dK lX=>rR a.1 b.1):=by
 refine⟨fun x=>?_,fun x y z h1 h2=>?_,fun x y z h1 h2=>?_⟩
 ·exact decide_eq_false (by show ¬x.1.n - x.1.n < 0;omega)
 ·have h1:x.1.n - y.1.n < 0:=of_decide_eq_true h1
  have h2:y.1.n - z.1.n < 0:=of_decide_eq_true h2
  exact decide_eq_true (by show x.1.n - z.1.n < 0;omega)
 ·have h1: ¬x.1.n - y.1.n < 0:=of_decide_eq_false h1
  have h2: ¬y.1.n - z.1.n < 0:=of_decide_eq_false h2
  exact decide_eq_false (by show ¬x.1.n - z.1.n < 0;omega)
theorem Ha(x y:ab)(hx:lX x=true)(hy:lX y=true)(W:World):Calls Tryz.prog 129 #[.agg (ae x).toArray,.agg (ae y).toArray] W fun e w'=>e= .returned (.int .i64 (rR x y))∧∃q os',w'=Go.Sort.grow (W.drewN q) os':=by
 have hx:=of_decide_eq_true hx
 have hy:=of_decide_eq_true hy
 have hwr:IntKind.i64.wrap (x.n - y.n)=x.n - y.n:=by simp[IntKind.wrap,IntKind.bits,IntKind.signed];omega
 obtain⟨a,b,c⟩:=x
 obtain⟨a2,b2,c2⟩:=y
 show Calls Tryz.prog 129 #[.agg #[.int .i64 a,.int .i64 b,.int .i64 c],.agg #[.int .i64 a2,.int .i64 b2,.int .i64 c2]] W _
 go_enter Tryz.func129,Tryz.ntmps129
 go_wp2
 go_ret
 exact⟨rfl,0,_,by rw[Go.Sort.alloc_eq_grow,Go.Sort.alloc_eq_grow,Go.Sort.grow_grow];rfl⟩
def CP(N:Nat)(xs:List ab):Option (List ab):=sN lX rR xs
theorem JG{N:Nat}{h_:(List ab)}{k8:Option Addr}{jV:Nat}{res:(List ab)}(hF:CP N h_=some res){w0 w:World}{T:List Chunk}(hw:St w0.heap.size w0 (cR ae 3 k8 jV 236 h_::T) w):
  Calls Tryz.prog 128 (List.toArray [.slice k8 (h_).length jV,.func (.func 129) #[] #[]]) w (fun e w'=>∃g:Unit,((res).length=(h_).length)∧e= .returned (.tuple #[])∧St w0.heap.size w0 (cR ae 3 k8 jV 236 res::T) w'):=
 Jq Re Tryz.isAgg236 Tryz.sizeOf236 dL lW zz (enters_of Tryz.func129 (by kernel_rfl) rfl) Ha (fun cap A _ _ _ hw=>((kN (N:=100) (x3:=[]) (by kernel_rfl) hw).mono fun _ _ ⟨_,_,h1,h2⟩=>⟨h1,h2⟩)) hF hw
def j7(N:Nat)(r7:((List Call)×Int×Int)):((List ab)×Int)→Option (((List ab)×Int) ⊕((List ab) ⊕(Bool×(List Call)×(List ab)×Int)))|(d9,v17)=>cond (decide (v17 < ((r7.1).length:Int))) (bd (ix r7.1 v17) fun cJ=>cond ((decide (cJ.kind=4))&&(decide (cJ.au=(-1)))) (some (.inr (.inr (false,[],[],6)))) (bd (α:=Bool) (cond ((decide (cJ.kind=3))==true) (bd (dM N r7.1 d9 cJ.arg) fun sK=>some ((decide (cJ.kind=3))&&(!(decide (sK < 0))))) (some ((decide (cJ.kind=3))&&false))) <| fun v20=>cond v20 (some (.inr (.inr (false,[],[],6)))) (cond (decide (cJ.kind=3)) (ck (dh 24 ((d9).length+(([(ab.mk cJ.arg v17 (-1))]:List ab)).length)) <| ck (aQ (v17+1)) <| some (.inl ((d9++([(ab.mk cJ.arg v17 (-1))]:List ab)),(v17+1)))) (ck (aQ (v17+1)) <| some (.inl (d9,(v17+1))))))) (some (.inr (.inl d9)))
def j8(N:Nat)(r7:((List Call)×Int×Int)):((List ab)×Int)→Option (((List ab)×Int) ⊕(List ab))|(cA,v32)=>cond (decide (v32 < ((r7.1).length:Int))) (bd (ix r7.1 v32) fun DF=>bd (dM N r7.1 cA DF.res) fun gG=>bd ((cond (((decide (DF.kind=4))&&(!(decide (gG < 0))))==true) (ix cA gG) (some ab.z))) fun Pi=>cond (((decide (DF.kind=4))&&(!(decide (gG < 0))))&&(decide (Pi.f_ < 0))) (bd (ix cA gG) fun rK=>ck (aQ (v32+1)) <| some (.inl ((cA.set gG.toNat (ab.mk rK.n rK.jq v32)),(v32+1)))) (ck (aQ (v32+1)) <| some (.inl (cA,(v32+1))))) (some (.inr cA))
def iq(N:Nat)(l1:(List Event)):Option (Bool×(List Call)×(List ab)×Int):=bd (bk N ([2]:List Int) l1) fun r7=>cond (!(decide (r7.2.2=0))) (some (false,[],[],r7.2.2)) (bd (α:=((List ab) ⊕(Bool×(List Call)×(List ab)×Int))) (iter (j7 N r7) N ([],0)) <| Sum.elim (fun rQ=>bd (CP N rQ) fun rC=>bd (α:=(List ab)) (iter (j8 N r7) N (rC,0)) <| fun vQ=>some (true,r7.1,vQ,0)) (fun p=>some p))
theorem CQ{N l1 res}(hF:iq N l1=some res)(w:World){v5}(hs4:aP aR 4 w v5 l1):Made Tryz.prog 91 [v5] w (fun g:(Option Nat×Option Addr×Nat×Option Addr×Nat)=>.tuple #[.pointer (Xc g.1),.int .i64 res.2.2.2]) (fun g=>[SW g.1 232 (Value.slice g.2.1 (res.2.1).length g.2.2.1::(Value.slice g.2.2.2.1 (res.2.2.1).length g.2.2.2.2::[])),cR ak 7 g.2.1 g.2.2.1 162 res.2.1,cR ae 3 g.2.2.2.1 g.2.2.2.2 236 res.2.2.1]) (fun g=>res.1=(g.1).isSome):=by
 obtain⟨A2,c3,rfl,g9,hs4⟩:=hs4.form;refine We 107 Tryz.func91 (St.start w) fun R hR=>?_;refine a_ ?_;refine WL.step (WO.bA (enc:=(eI .i64)) (ys:=([2]:List Int)) Tryz.underlying29 qv (.cons (.pl rfl) (.nil)) rfl (fun _=>rfl) rfl rfl (by decide) (by decide) rfl fun b6=>?_);obtain⟨r7,pN,hF⟩:=aj hF;refine a_ ?_;refine kM rh (v2 rfl rfl) (fun wz hw=>eY pN wz (so hw) (hs4.mono hw)) ?_;rintro⟨A8,c9⟩ -;refine a_ ?_;refine Wc hF (fun dG hF=>?_) (fun dG hF=>?_)
 ·obtain rfl:=oi hF;refine a_ ?_;refine W.ii (fn:=Tryz.f91) (vs:=[.pointer none,.int .i64 r7.2.2]) Tryz.results91 ⟨.tmp rfl,⟨.tmp rfl,trivial⟩⟩ (fun _ _ h=>h) (fun wz hw=>?_);exact hR _ _ ⟨(none,none,0,none,0),rfl,rfl,((St.kw (St.kw (St.I6 (hw.pick [] rfl) 232 (Value.slice none 0 0::(Value.slice none 0 0::[]))) ak 7 162) ae 3 236).pick [2,1,0] rfl)⟩
 ·refine a_ ?_;refine WL.q (Y.build (cs:=(Value.slice A8 (r7.1).length c9::(Value.slice none 0 0::[])).toArray) Nt (.cons (.pl rfl) (.nil)) (aX ⟨rfl,trivial⟩) rfl) rfl ?_;refine WL.step (WO.fg (.pl rfl) rfl fun mH=>?_);obtain⟨o8,kZ,hF⟩:=aj hF;refine b_ ?_;refine W.jI (fun a b c=>[]) (fun a b c=>[cR ak 7 A8 c9 162 r7.1,al mH 232 (Value.slice A8 (r7.1).length c9::(Value.slice b (a).length c::[])),cR ae 3 b c 236 a]) (fun a b c=>(.inl a)=o8) (mD 4 7) (fun K9 ut=>?_) ?_
  ·refine a_ ?_;refine s_ kZ (fun a b c d=>[(28,.int .i64 b)]) (fun a b c d=>[cR ak 7 A8 c9 162 r7.1,al mH 232 (Value.slice A8 (r7.1).length c9::(Value.slice c (a).length d::[])),cR ae 3 c d 236 a]) (lI 4 7 26 27) fun d9 v17 wg c15 Tl t11 aA lj rk di=>?_;refine a_ ?_;refine Wc aA (fun m7 aA=>?_) (fun m7 aA=>?_)
   ·obtain⟨cJ,np,aA⟩:=aj aA;refine a_ ?_;refine mA fun bZ=>?_;refine a_ ?_;refine Wc aA (fun pg aA=>?_) (fun pg aA=>?_)
    ·obtain rfl:=oi aA;obtain rfl:=dC lj;obtain rfl:=oi hF;refine a_ ?_;refine W.ii (fn:=Tryz.f91) (vs:=[.pointer none,.int .i64 6]) Tryz.results91 ⟨.tmp rfl,⟨.tmp rfl,trivial⟩⟩ (fun _ _ h=>h) (fun wz hw=>?_);exact hR _ _ ⟨(none,none,0,none,0),rfl,rfl,((St.kw (St.kw (St.I6 (hw.pick [] rfl) 232 (Value.slice none 0 0::(Value.slice none 0 0::[]))) ak 7 162) ae 3 236).pick [2,1,0] rfl)⟩
    ·obtain⟨Ts,bP,aA⟩:=aj aA;refine W.eh (fun a=>[(42,.bool a)]) (fun a=>[cR ak 7 A8 c9 162 r7.1,al mH 232 (Value.slice A8 (r7.1).length c9::(Value.slice wg (d9).length c15::[])),cR ae 3 wg c15 236 d9,al bZ 162 (ak cJ)]) (fun a=>a=Ts) (HG 4 7 8 9 26 27 28) (fun Tt qe=>?_) ?_
     ·refine a_ ?_;refine dl ((decide (cJ.kind=3))==true) (fun tZ=>?_) (fun tZ=>?_)
      ·replace bP:=fJ tZ bP;refine WL.gd (.pl rfl rfl rfl) (tZ) ?_;obtain⟨sK,Af,bP⟩:=aj bP;refine WL.step (WO.call (γ:=Unit) (fun g=>.pointer (ul wg sK 3)) (fun g=>[al mH 232 (Value.slice A8 (r7.1).length c9::(Value.slice wg (d9).length c15::[])),cR ak 7 A8 c9 162 r7.1,cR ae 3 wg c15 236 d9,al bZ 162 (ak cJ)]) (fun g=>True) uL (.cons (.gd (tZ) rfl) (.cons (.gd (tZ) rfl) (.nil))) rfl (fun wz hw=>iP (T:=[al bZ 162 (ak cJ)]) (Af) (hw.pick [2,1,3,0] rfl)) ?_);rintro _ -;refine WL.gd (.pl rfl rfl rfl) (tZ) ?_;refine WL.q (Y.S4 Tryz.underlying233 (.pl rfl)) rfl ?_;refine a_ ?_;exact h1 qe (oi bP)
      ·replace bP:=fK tZ bP;refine WL.gn (.pl rfl rfl rfl) tZ rfl ?_;refine WL.gn (.pl rfl rfl rfl) tZ rfl ?_;refine WL.q (Y.and (b:=false) (.pl rfl) (fun h2=>(AQ tZ h2).elim)) rfl ?_;refine a_ ?_;exact h1 qe (oi bP)
     ·rintro v20 rfl;refine Wc aA (fun Fk aA=>?_) (fun Fk aA=>?_)
      ·obtain rfl:=oi aA;obtain rfl:=dC lj;obtain rfl:=oi hF;refine a_ ?_;refine W.ii (fn:=Tryz.f91) (vs:=[.pointer none,.int .i64 6]) Tryz.results91 ⟨.tmp rfl,⟨.tmp rfl,trivial⟩⟩ (fun _ _ h=>h) (fun wz hw=>?_);exact hR _ _ ⟨(none,none,0,none,0),rfl,rfl,((St.kw (St.kw (St.I6 (hw.pick [] rfl) 232 (Value.slice none 0 0::(Value.slice none 0 0::[]))) ak 7 162) ae 3 236).pick [2,1,0] rfl)⟩
      ·refine a_ ?_;refine Wc aA (fun zU aA=>?_) (fun zU aA=>?_)
       ·refine W.zM 10 (by kernel_rfl) ?_;refine Xp 0 rfl (fun _ _=>ym) ?_;refine Xp 1 rfl (fun _ _=>ym) ?_;refine Xp 2 rfl (fun _ _=>yc) ?_;refine Xp 3 rfl (fun _ _=>yf) ?_;refine Xt 4 rfl (sA) ?_;refine Xp 5 rfl (fun _ _=>yf) ?_;refine Xt 6 rfl (yb3) ?_;refine Xp 7 rfl (fun _ _=>ym) ?_;refine Xp 8 rfl (fun _ _=>Y.build (cs:=(ae (ab.mk cJ.arg v17 (-1))).toArray) Nu (.cons (.pl rfl) (.cons (.pl rfl) (.cons (.pl rfl) (.nil)))) (aX ⟨rfl,⟨rfl,⟨rfl,trivial⟩⟩⟩) rfl) ?_;refine Xo 9 rfl (WO.bA (enc:=ae) (ys:=([(ab.mk cJ.arg v17 (-1))]:List ab)) Tryz.underlying230 WK (.cons (.pl rfl) (.nil)) rfl dL rfl rfl (by decide) (by decide) rfl fun b22=>?_);obtain⟨vJ,aA⟩:=aW aA;refine Xs rfl (WO.d4 (enc:=ae) Tryz.underlying230 WM dL lW (.pl rfl) rfl (.pl rfl) (i:=3) rfl (m2:=0) rfl (vJ) rfl fun wh c24=>?_) (fun _ hw=>St.tail [_] hw);refine WA.take 11 #[true,true,true,true,true,true,true,true,true,true,true,true,false,false] rfl (by kernel_rfl) (fun _ _=>Y.nilCheck (.pl rfl)) rfl ?_;refine WA.take 12 #[true,true,true,true,true,true,true,true,true,true,true,true,true,false] rfl (by kernel_rfl) (fun _ _=>Y.eT (off:=1) (ft:=230) Tryz.underlying232 rfl Ar (.pl rfl)) rfl ?_;refine WA.branch [13] (by kernel_rfl) ⟨?_,trivial⟩;refine WI.step #[true,true,true,true,true,true,true,true,true,true,true,true,true,true] rfl rfl (WO.dD (cs':=(Value.slice A8 (r7.1).length c9::(Value.slice wh ((d9++([(ab.mk cJ.arg v17 (-1))]:List ab))).length c24::[]))) Ar (.pl rfl) (.pl rfl) rfl (i:=2) rfl (kX (m:=2) (by decide) rfl) (rfl) ?_);refine WA.done (by kernel_rfl) ?_;obtain⟨Jo,aA⟩:=aW aA;refine a_ ?_;exact g4 di (oj aA lj)
       ·obtain⟨Jf,aA⟩:=aW aA;refine a_ ?_;exact g4 di (oj aA lj)
   ·refine a_ ?_;exact h3 ut (oj aA lj)
  ·rintro rQ bH c12 rfl;obtain⟨rC,MP,hF⟩:=aj hF;refine a_ ?_;refine kC QY (v2 rfl rfl) (fun _ hw=>JG MP (sw hw)) ?_;rintro _ U4;obtain⟨X0,qm,hF⟩:=aj hF;refine b_ ?_;refine W.eh (fun a=>[]) (fun a=>[al mH 232 (Value.slice A8 (r7.1).length c9::(Value.slice bH (a).length c12::[])),cR ak 7 A8 c9 162 r7.1,cR ae 3 bH c12 236 a]) (fun a=>a=X0) (lr 7) (fun K33 Ni=>?_) ?_
   ·refine a_ ?_;refine W.D8 (Em:=fun(cA:(List ab)) (v32:Int)=>[(78,.int .i64 v32)]) (M:=fun cA v32=>[al mH 232 (Value.slice A8 (r7.1).length c9::(Value.slice bH (cA).length c12::[])),cR ak 7 A8 c9 162 r7.1,cR ae 3 bH c12 236 cA]) (I:=fun cA v32 Pj=>iter (j8 N r7) Pj (cA,v32)=some X0) rC 0 N (qm) (.cons rfl (.nil)) (gx 7 76 77) (fun wz hw=>St.fL (L:=[al mH 232 (Value.slice A8 (r7.1).length c9::(Value.slice bH (rQ).length c12::[])),cR ak 7 A8 c9 162 r7.1,cR ae 3 bH c12 236 rC]) (hw.pick [2,1,0] rfl) (by simp only[List.length_set,List.nil_append,List.cons_append,U4])) (fun cA v32 Pj hI K36 Jw=>?_);obtain⟨Pj,t35,rfl,eD,Nv⟩:=eG hI;refine a_ ?_;refine Wc eD (fun MF eD=>?_) (fun MF eD=>?_)
    ·obtain⟨DF,abA,eD⟩:=aj eD;refine a_ ?_;refine mA fun b34=>?_;obtain⟨gG,Aa,eD⟩:=aj eD;refine a_ ?_;refine kC uL (v2 rfl rfl) (fun _ hw=>iP Aa (sw hw)) ?_;rintro _ -;refine a_ ?_;refine WL.g (.pl rfl rfl rfl) (fun hg=>Y.S4 Tryz.underlying233 (.gd (hg) rfl)) rfl ?_;obtain⟨Pi,ZR,eD⟩:=aj eD;refine a_ ?_;refine WL.g (.pl rfl rfl rfl) (fun hg=>Y.nI (aK (eC hg ZR)).1 (.gd (hg) rfl)) rfl ?_;refine a_ ?_;refine Wc eD (fun ZS eD=>?_) (fun ZS eD=>?_)
     ·obtain⟨rK,Jx,eD⟩:=aj eD;refine a_ ?_;refine WL.q (Y.nI (aK (Jx)).1 (.pl rfl)) rfl ?_;refine a_ ?_;refine WL.step (WO.EF (enc:=ae) (a:=rK) (a':=(ab.mk rK.n rK.jq v32)) (idx:=gG) (j:=2) bp (.pl rfl) (.pl rfl) rfl dL (i:=2) rfl (bx (Jx)) rfl (by decide) rfl ?_);obtain⟨T5,eD⟩:=aW eD;obtain rfl:=oi eD;refine a_ ?_;exact⟨W.EL Jw (cA.set gG.toNat (ab.mk rK.n rK.jq v32)) (v32+1) Pj Nv nl kr kr (fun wz hw=>St.fL (L:=[al mH 232 (Value.slice A8 (r7.1).length c9::(Value.slice bH (cA).length c12::[])),cR ak 7 A8 c9 162 r7.1,cR ae 3 bH c12 236 (cA.set gG.toNat (ab.mk rK.n rK.jq v32))]) (hw.pick [0,1,2] rfl) (by simp only[List.length_set,List.nil_append,List.cons_append,U4]))⟩
     ·obtain⟨Ua,eD⟩:=aW eD;refine a_ ?_;exact g2 Jw (oj eD Nv)
    ·refine a_ ?_;exact h1 Ni (oj eD Nv)
   ·rintro vQ rfl;obtain rfl:=oi hF;refine a_ ?_;refine W.ii (fn:=Tryz.f91) (vs:=[.pointer (some ⟨mH,0,none⟩),.int .i64 0]) Tryz.results91 ⟨.tmp rfl,⟨.tmp rfl,trivial⟩⟩ (fun _ _ h=>h) (fun wz hw=>?_);exact hR _ _ ⟨((some mH),A8,c9,bH,c12),rfl,rfl,(hw.pick [0,1,2] rfl)⟩
end Go.Proofs.YtjdkkabcenohcaaGreatDoor
