/- What Run computes, and the walks. -/
import Derived.Test.YtjdkkabcenohcaaGreatDoorAuto
import Derived.Test.YtjdkkabcenohcaaGreatDoorV8
set_option linter.unusedVariables false
set_option linter.defProp false
set_option linter.unusedSimpArgs false
set_option linter.unusedSectionVars false
set_option maxRecDepth 100000
namespace Go.Proofs.YtjdkkabcenohcaaGreatDoor
open Go.RowKit
attribute [local irreducible] Yd Evs Evl
theorem cells5 : Tryz.prog.cellsOf 5 = 0 + 1 := by kernel_rfl
theorem cells20 : Tryz.prog.cellsOf 20 = 0 + 1 := by kernel_rfl
theorem cells48 : Tryz.prog.cellsOf 48 = 0 + 1 := by kernel_rfl
theorem cells49 : Tryz.prog.cellsOf 49 = 0 + 1 := by kernel_rfl
theorem cells51 : Tryz.prog.cellsOf 51 = 1 + 1 := by kernel_rfl
def isGo21:=gg Tryz.func21
def isGo22:=gg Tryz.func22
def isGo23:=gg Tryz.func23
def isGo25:=gg Tryz.func25
def isGo26:=gg Tryz.func26
def isGo47:=gg Tryz.func47
def isGo52:=gg Tryz.func52
def isGo53:=gg Tryz.func53
def isGo54:=gg Tryz.func54
def isGo55:=gg Tryz.func55
def isGo56:=gg Tryz.func56
def isGo57:=gg Tryz.func57
def isGo58:=gg Tryz.func58
def isGo59:=gg Tryz.func59
def isGo76:=gg Tryz.func76
def isGo99:=gg Tryz.func99
theorem zero9 : ∃ i, Tryz.prog.info? 9 = some i ∧ i.zero = some (Value.string ⟨#[]⟩) := ⟨_, rfl, by kernel_rfl⟩
theorem zero33 : ∃ i, Tryz.prog.info? 33 = some i ∧ i.zero = some (Value.int .i64 0) := ⟨_, rfl, by kernel_rfl⟩
theorem zero128 : ∃ i, Tryz.prog.info? 128 = some i ∧ i.zero = some (Value.agg #[(Value.int .i64 0), (Value.int .i64 0)]) := ⟨_, rfl, by kernel_rfl⟩
@[reducible,instance] def u111 := UT.mk Tryz.underlying111
@[reducible,instance] def c20 := CT.mk cells20
@[reducible,instance] def c51 := CT.mk cells51
instance : FT Tryz.prog 53 0 0 51 := ⟨_, Tryz.underlying53, rfl⟩
@[reducible,instance] def c128 := CT.mk cells128
@[reducible,instance] def u128 := UT.mk Tryz.underlying128
instance : ON encStep := ⟨oneStep⟩
instance : FT Tryz.prog 128 0 0 3 := ⟨_, Tryz.underlying128, rfl⟩
instance : FT Tryz.prog 128 1 1 3 := ⟨_, Tryz.underlying128, rfl⟩
@[reducible,instance] def z128 := ZI.mk zero128
instance : FT Tryz.prog 131 1 1 3 := ⟨_, Tryz.underlying131, rfl⟩
instance : FT Tryz.prog 131 2 2 3 := ⟨_, Tryz.underlying131, rfl⟩
theorem bz20 : ∃ i, Tryz.prog.info? 20 = some i ∧ i.zero = some Value.nilIface ∧ i.size = 1 := ⟨_, rfl, by kernel_rfl, by kernel_rfl⟩
theorem ap20 : ∃ i z, Tryz.prog.info? 20 = some i ∧ i.zero = some z ∧ i.size = 1 ∧ i.bytes = 16 ∧ z.cells.size = 1 ∧ 0 < 1 := ⟨_, Value.nilIface, rfl, by kernel_rfl, by kernel_rfl, by kernel_rfl, by kernel_rfl, by decide⟩
theorem shape53 : Shape Tryz.prog 53 [(0, 2)] #[(Value.pointer none), (Value.slice none 0 0)] := ⟨_, _, Value.agg #[(Value.pointer none), (Value.slice none 0 0)], Tryz.underlying53, rfl, by kernel_rfl, rfl, by kernel_rfl, by decide⟩
def sbw (N : Nat) (l s : ByteArray) : Option ByteArray := if l.size + s.size ≤ 140737488351232 then some (l ++ s) else none
theorem copyCheckq53_ok {b p v} (hp:p = .pointer none ∨ p = .pointer (some ⟨b,0,none⟩)) {w0 w T} (hw:St w0.heap.size w0 (cBx b 53 [p,v]::T) w):Calls Tryz.prog 76 (List.toArray [.pointer (some ⟨b,0,none⟩)]) w (fun e w'=>∃ g:Unit,True∧e = .returned (.tuple #[])∧St w0.heap.size w0 (cBx b 53 [.pointer (some ⟨b,0,none⟩),v]::T) w'):=by
  refine W.enter (n:=20) Tryz.func76 rfl rfl Sub.refl (by simp) hw fun R hR=>?_
  obtain ⟨j,hj,hs⟩:=info_of_cells cells51
  replace hs:j.size ≠ 0:=by omega
  have hne:∀ u w,(callFunc 117 #[u]).run Tryz.prog w = .ok (.value u) w:=fun u w=>by
    rw [run_callFunc_extern Tryz.func117 (by kernel_rfl) (by kernel_rfl) (by kernel_rfl) (e:=Extern.AbiNoEscape.same) (by kernel_rfl),Lib.run_noEscape]
    rfl
  rcases hp with rfl | rfl
  · refine W.seqR fun Q1 hQ1=>?_
    refine WL.q (Y.move (.pl rfl)) rfl ?_
    refine WL.q (Y.nilCheck (.pl rfl)) rfl ?_
    refine WL.q (Y.fieldAddr0 (off:=0) (ft:=48) Tryz.underlying51 rfl cells48 (.pl rfl)) rfl ?_
    refine WL.q (Y.loadB (v:=.pointer none) Tryz.underlying48 rfl (.pl rfl) (i:=0) rfl rfl) rfl ?_
    refine WL.q (Y.eqNilQ Tryz.underlying48 (.pl rfl)) rfl ?_
    refine WL.next hQ1 (.cons (i:=0) rfl (.cons (i:=6) rfl (.nil))) ?_
    refine W.cond (.pl rfl) (fun _=>?_) (fun h=>nomatch h)
    refine W.reg ?_
    refine WL.q (Y.move (.pl rfl)) rfl ?_
    refine WL.q (Y.move (.pl rfl)) rfl ?_
    refine WL.q (Y.toU Tryz.underlying48 Tryz.underlying210 hj hs (.pl rfl) (i:=0) rfl (Nat.zero_lt_succ 1)) rfl ?_
    refine WL.q (Y.noEsc (hne _) (.pl rfl)) rfl ?_
    refine WL.q (Y.ofU Tryz.underlying210 Tryz.underlying48 hj (.pl rfl) (i:=0) rfl (by kernel_rfl)) rfl ?_
    refine WL.q (Y.nilCheck (.pl rfl)) rfl ?_
    refine WL.q (Y.fieldAddr0 (off:=0) (ft:=48) Tryz.underlying51 rfl cells48 (.pl rfl)) rfl ?_
    refine WL.step (WO.storeB (cs':=[.pointer (some ⟨b,0,none⟩),v]) cells48 (.pl rfl) (.pl rfl) rfl (i:=0) rfl (ltl (m:=2) (by decide) rfl) rfl ?_)
    refine WL.nil ?_
    refine W.endV (fn:=Tryz.f76) (vs:=[]) Tryz.results76 trivial (fun _ _ h=>h) (fun wz hw=>?_)
    exact hR _ _ ⟨(),trivial,rfl,hw⟩
  · refine W.seqR fun Q1 hQ1=>?_
    refine WL.q (Y.move (.pl rfl)) rfl ?_
    refine WL.q (Y.nilCheck (.pl rfl)) rfl ?_
    refine WL.q (Y.fieldAddr0 (off:=0) (ft:=48) Tryz.underlying51 rfl cells48 (.pl rfl)) rfl ?_
    refine WL.q (Y.loadB (v:=.pointer (some ⟨b,0,none⟩)) Tryz.underlying48 rfl (.pl rfl) (i:=0) rfl rfl) rfl ?_
    refine WL.q (Y.eqNilQ Tryz.underlying48 (.pl rfl)) rfl ?_
    refine WL.next hQ1 (.cons (i:=0) rfl (.cons (i:=6) rfl (.nil))) ?_
    refine W.cond (.pl rfl) (fun h=>nomatch h) (fun _=>?_)
    refine W.seqR fun Q2 hQ2=>?_
    refine WL.q (Y.move (.pl rfl)) rfl ?_
    refine WL.q (Y.nilCheck (.pl rfl)) rfl ?_
    refine WL.q (Y.fieldAddr0 (off:=0) (ft:=48) Tryz.underlying51 rfl cells48 (.pl rfl)) rfl ?_
    refine WL.q (Y.loadB (v:=.pointer (some ⟨b,0,none⟩)) Tryz.underlying48 rfl (.pl rfl) (i:=0) rfl rfl) rfl ?_
    refine WL.q (Y.move (.pl rfl)) rfl ?_
    refine WL.q (Y.neSame Tryz.underlying48 hj (.pl rfl) (.pl rfl)) rfl ?_
    refine WL.next hQ2 (.cons (i:=19) rfl (.nil)) ?_
    refine W.cond (.pl rfl) (fun h=>nomatch h) (fun _=>?_)
    refine W.skip ?_
    refine W.endV (fn:=Tryz.f76) (vs:=[]) Tryz.results76 trivial (fun _ _ h=>h) (fun wz hw=>?_)
    exact hR _ _ ⟨(),trivial,rfl,hw⟩
theorem strings_Builder_WriteStringq53_ok {N lI1 sI6 bI2 pI3 AI4 cI5 res} (hF:sbw N lI1 sI6 = some res) {w0 w T} (hw:St w0.heap.size w0 (cSB 53 5 bI2 pI3 AI4 cI5 lI1::T) w):Calls Tryz.prog 47 (List.toArray [.pointer (some ⟨bI2,0,none⟩),.string sI6]) w (fun e w'=>∃ g:(Value × Option Addr × Nat),(True)∧e = .returned (.tuple #[.int .i64 ((sI6).size:Int),(ifV 0)])∧St w0.heap.size w0 (cSB 53 5 bI2 g.1 g.2.1 g.2.2 res::T) w'):=by
  obtain ⟨hp,hw⟩:=St.sbOpen hw
  unfold sbw at hF
  split at hF
  case isFalse=>cases hF
  rename_i hl
  obtain rfl:=Option.some.inj hF
  refine W.enter (n:=19) Tryz.func47 rfl rfl Sub.refl (by simp) hw fun R hR=>?_
  refine W.seqR fun Q1 hQ1=>?_
  refine WL.q (Y.assign (.pl rfl)) rfl ?_
  refine WL.q (Y.assign (.pl rfl)) rfl ?_
  refine WL.next hQ1 (.cons (i:=0) rfl (.cons (i:=1) rfl (.nil))) ?_
  refine W.seqR fun Q2 hQ2=>?_
  refine WL.q (Y.move (.pl rfl)) rfl ?_
  refine WL.step (WO.call (γ:=Unit) (fun g=>.tuple #[]) (fun g=>cBx bI2 53 [(.pointer (some ⟨bI2,0,none⟩)),.slice AI4 (lI1).size cI5]::cRow AI4 cI5 5 1 lI1.size (Lib.strCells lI1)::T) (fun g=>True) isGo76 (.cons (.pl rfl) (.nil)) rfl (fun wz hw=>copyCheckq53_ok hp hw) ?_)
  rintro ⟨⟩ -
  refine WL.next hQ2 (.cons (i:=0) rfl (.cons (i:=1) rfl (.nil))) ?_
  refine W.seqR fun Q3 hQ3=>?_
  refine WL.q (Y.move (.pl rfl)) rfl ?_
  refine WL.q (Y.move (.pl rfl)) rfl ?_
  refine WL.q (Y.nilCheck (.pl rfl)) rfl ?_
  refine WL.q (Y.fieldAddr0 (off:=1) (ft:=49) Tryz.underlying51 rfl cells49 (.pl rfl)) rfl ?_
  refine WL.q (Y.loadB (v:=.slice AI4 (lI1).size cI5) Tryz.underlying49 rfl (.pl rfl) (i:=0) rfl rfl) rfl ?_
  refine WL.q (Y.move (.pl rfl)) rfl ?_
  refine WL.step (WO.appendT Tryz.underlying49 Tryz.underlying9 ⟨_,rfl,by kernel_rfl,by kernel_rfl,by kernel_rfl⟩ (.pl rfl) (.pl rfl) (i:=1) rfl hl rfl fun A' c'=>?_)
  refine WL.q (Y.nilCheck (.pl rfl)) rfl ?_
  refine WL.q (Y.fieldAddr0 (off:=1) (ft:=49) Tryz.underlying51 rfl cells49 (.pl rfl)) rfl ?_
  refine WL.step (WO.storeB (cs':=[(.pointer (some ⟨bI2,0,none⟩)),.slice A' (lI1.size + sI6.size) c']) cells49 (.pl rfl) (.pl rfl) rfl (i:=0) rfl (ltl (m:=2) (by decide) rfl) rfl ?_)
  refine WL.next hQ3 (.cons (i:=0) rfl (.cons (i:=1) rfl (.nil))) ?_
  refine W.seqR fun Q4 hQ4=>?_
  refine WL.q (Y.move (.pl rfl)) rfl ?_
  refine WL.q (Y.lenT Tryz.underlying9 (.pl rfl)) rfl ?_
  refine WL.q (Y.assign (.pl rfl)) rfl ?_
  refine WL.q (Y.assign (.pl rfl)) rfl ?_
  refine WL.next hQ4 (.cons (i:=4) rfl (.cons (i:=5) rfl (.nil))) ?_
  refine W.retV (fn:=Tryz.f47) (vs:=[.int .i64 ((sI6).size:Int),.nilIface]) Tryz.results47 ⟨.tmp rfl,.tmp rfl,trivial⟩ (fun _ _ h=>h) (fun wz hw=>?_)
  refine hR _ _ ⟨((.pointer (some ⟨bI2,0,none⟩)),A',c'),trivial,rfl,?_⟩
  refine St.sbClose (l:=lI1++sI6) ?_
  rw [ByteArray.size_append,strCells_app]
  exact hw
def verdict_report_line_L3 (N:Nat) (parts8:(List Pt)):(ByteArray × Int)→Option ((ByteArray × Int) ⊕ ByteArray) | (v16,v17)=>cond (decide (v17 < ((parts8).length:Int))) (bd (ix parts8 v17) fun x18=>bd (α:=ByteArray) (cond (decide (0 < v17)) (bd (sbw N v16 (⟨#[32]⟩ : ByteArray)) fun r23=>some r23) (some v16)) <| fun v22=>cond ((ptS (x18)).2) (bd (sbw N v22 ((ptS (x18)).1)) fun r27=>ck (ok64 (v17 + 1)) <| some (.inl (r27,(v17 + 1)))) (cond ((ptI (x18)).2) (bd (itoaO N ((ptI (x18)).1)) fun r32=>bd (sbw N v22 r32) fun r33=>ck (ok64 (v17 + 1)) <| some (.inl (r33,(v17 + 1)))) (cond ((ptE (x18)).2) (bd (itoaO N ((ptE (x18)).1)) fun r38=>bd (sbw N v22 r38) fun r39=>ck (ok64 (v17 + 1)) <| some (.inl (r39,(v17 + 1)))) (ck (ok64 (v17 + 1)) <| some (.inl (v22,(v17 + 1))))))) (some (.inr v16))
def verdict_report_line (N:Nat) (r5:ByteArray) (parts8:(List Pt)):Option ByteArray:=bd (α:=ByteArray) (iter (verdict_report_line_L3 N parts8) N (r5,0)) <| fun v12=>bd (sbw N v12 (⟨#[10]⟩ : ByteArray)) fun r45=>some r45
theorem verdict_report_line_ok {N r5 parts8 b1 pv2 A3 c4 A6 c7 res} (hF:verdict_report_line N r5 parts8 = some res) {w0 w T} (hw:St w0.heap.size w0 (cSB 53 5 b1 pv2 A3 c4 r5::cR (eAn 9 3 33) 1 A6 c7 20 parts8::T) w) (hG:GOkS w0):Calls Tryz.prog 22 (List.toArray [.pointer (some ⟨b1,0,none⟩),.slice A6 (parts8).length c7]) w (fun e w'=>∃ g:(Value × Option Addr × Nat),(True)∧e = .returned (.tuple #[])∧St w0.heap.size w0 (cSB 53 5 b1 g.1 g.2.1 g.2.2 res::cR (eAn 9 3 33) 1 A6 c7 20 parts8::T) w'):=by
  refine We 54 Tryz.func22 hw fun R hR=>?_;obtain ⟨o1,hF1,hF⟩:=bnd hF;refine W.join4 (fun a b c d=>[]) (fun a b c d=>(cSB 53 5 b1 b c d a::cR (eAn 9 3 33) 1 A6 c7 20 parts8::T)) (fun a b c d=>a = o1) (ks1 0) (fun K2 hK2=>?_) ?_
  · refine a_ ?_;refine l2_3 hF1 (fun a b c d f=>[(11,.int .i64 b)]) (fun a b c d f=>(cSB 53 5 b1 c d f a::cR (eAn 9 3 33) 1 A6 c7 20 parts8::T)) (ks3 0 9 10) fun v16 v17 pv13 A14 c15 k4 t4 hF4 hN4 K5 hK5=>?_;refine a_ ?_;refine Wc hF4 (fun hC8 hF4=>?_) (fun hC8 hF4=>?_)
    · obtain ⟨x18,hx18,hF4⟩:=bnd hF4;refine a_ ?_;refine WL.q (Y.loadR (enc:=(eAn 9 3 33)) (v:=(anV 9 3 33 x18)) (a:=x18) (idx:=v17) (j:=0) Tryz.underlying20 rfl (fun _=>rfl) (i:=1) rfl (.pl rfl) (ix_get (hx18)) rfl rfl) rfl ?_;obtain ⟨o11,hF11,hF4⟩:=bnd hF4;refine b_ ?_;refine W.join4 (fun a b c d=>[]) (fun a b c d=>(cSB 53 5 b1 b c d a::cR (eAn 9 3 33) 1 A6 c7 20 parts8::T)) (fun a b c d=>a = o11) (ks5 0 5 9 10 11) (fun K12 hK12=>?_) ?_
      · refine a_ ?_;refine Wc hF11 (fun hC14 hF11=>?_) (fun hC14 hF11=>?_)
        · obtain ⟨r23,hr23,hF11⟩:=bnd hF11;refine a_ ?_;refine kC isGo47 (v2 rfl rfl) (fun _ hw=>strings_Builder_WriteStringq53_ok hr23 (sw hw)) ?_;rintro ⟨pI24,AI25,cI26⟩ -;refine a_ ?_;exact h4 hK12 (oi hF11)
        · refine a_ ?_;exact h4 hK12 (oi hF11)
      · rintro v22 pv19 A20 c21 rfl;refine a_ ?_;refine WL.q (Y.asS Tryz.underlying9 rfl zero9 (by decide) (by decide) (.pl rfl)) rfl ?_;refine a_ ?_;refine Wc hF4 (fun hC18 hF4=>?_) (fun hC18 hF4=>?_)
        · obtain ⟨r27,hr27,hF4⟩:=bnd hF4;refine a_ ?_;refine kC isGo47 (v2 rfl rfl) (fun _ hw=>strings_Builder_WriteStringq53_ok hr27 (sw hw)) ?_;rintro ⟨pI28,AI29,cI30⟩ -;obtain ⟨hk31,hF4⟩:=ckh hF4;refine a_ ?_;exact g5 hK5 (oj hF4 hN4)
        · refine a_ ?_;refine WL.q (Y.asI Tryz.underlying3 rfl zero3 (by decide) (by decide) (.pl rfl)) rfl ?_;refine a_ ?_;refine Wc hF4 (fun hC23 hF4=>?_) (fun hC23 hF4=>?_)
          · refine b_ ?_;refine W.regX 5 (by kernel_rfl) ?_;refine Xp 0 rfl (fun _ _=>ym) ?_;refine Xp 1 rfl (fun _ _=>yc) ?_;refine Xp 2 rfl (fun _ _=>yf) ?_;refine Xp 3 rfl (fun _ _=>ym) ?_;obtain ⟨r32,hr32,hF4⟩:=bnd hF4;refine Xo 4 rfl (WO.callP isGo48 (.cons (.pl rfl) (.nil)) rfl (fun wz hw=>strconv_Itoa_ok (hr32) wz (hG.mono hw)) ?_);obtain ⟨r33,hr33,hF4⟩:=bnd hF4;refine Xs rfl (WO.call (γ:=(Value × Option Addr × Nat)) (fun g=>.tuple #[.int .i64 ((r32).size:Int),(ifV 0)]) (fun g=>(cSB 53 5 b1 g.1 g.2.1 g.2.2 r33::cR (eAn 9 3 33) 1 A6 c7 20 parts8::T)) (fun g=>True) isGo47 (.cons (.pl rfl) (.cons (.pl rfl) (.nil))) rfl (fun wz hw=>strings_Builder_WriteStringq53_ok (T:=(cR (eAn 9 3 33) 1 A6 c7 20 parts8::T)) (hr33) (hw.pickK 2 [0,1] rfl) ) ?_);rintro ⟨pI34,AI35,cI36⟩ -;refine WA.done (by kernel_rfl) ?_;obtain ⟨hk37,hF4⟩:=ckh hF4;refine a_ ?_;exact g5 hK5 (oj hF4 hN4)
          · refine a_ ?_;refine WL.q (Y.asE Tryz.underlying33 rfl zero33 (by decide) (by decide) (.pl rfl)) rfl ?_;refine a_ ?_;refine Wc hF4 (fun hC28 hF4=>?_) (fun hC28 hF4=>?_)
            · refine b_ ?_;refine W.regX 5 (by kernel_rfl) ?_;refine Xp 0 rfl (fun _ _=>ym) ?_;refine Xp 1 rfl (fun _ _=>yc) ?_;refine Xp 2 rfl (fun _ _=>yf) ?_;refine Xp 3 rfl (fun _ _=>ym) ?_;obtain ⟨r38,hr38,hF4⟩:=bnd hF4;refine Xo 4 rfl (WO.callP isGo48 (.cons (.pl rfl) (.nil)) rfl (fun wz hw=>strconv_Itoa_ok (hr38) wz (hG.mono hw)) ?_);obtain ⟨r39,hr39,hF4⟩:=bnd hF4;refine Xs rfl (WO.call (γ:=(Value × Option Addr × Nat)) (fun g=>.tuple #[.int .i64 ((r38).size:Int),(ifV 0)]) (fun g=>(cSB 53 5 b1 g.1 g.2.1 g.2.2 r39::cR (eAn 9 3 33) 1 A6 c7 20 parts8::T)) (fun g=>True) isGo47 (.cons (.pl rfl) (.cons (.pl rfl) (.nil))) rfl (fun wz hw=>strings_Builder_WriteStringq53_ok (T:=(cR (eAn 9 3 33) 1 A6 c7 20 parts8::T)) (hr39) (hw.pickK 2 [0,1] rfl) ) ?_);rintro ⟨pI40,AI41,cI42⟩ -;refine WA.done (by kernel_rfl) ?_;obtain ⟨hk43,hF4⟩:=ckh hF4;refine a_ ?_;exact g5 hK5 (oj hF4 hN4)
            · obtain ⟨hk44,hF4⟩:=ckh hF4;refine a_ ?_;exact g5 hK5 (oj hF4 hN4)
    · refine a_ ?_;exact h4 hK2 (oj hF4 hN4)
  · rintro v12 pv9 A10 c11 rfl;obtain ⟨r45,hr45,hF⟩:=bnd hF;refine a_ ?_;refine kC isGo47 (v2 rfl rfl) (fun _ hw=>strings_Builder_WriteStringq53_ok hr45 (sw hw)) ?_;rintro ⟨pI46,AI47,cI48⟩ -;obtain rfl:=oi hF;refine a_ ?_;exact rF (pI46,AI47,cI48)
def sbs (N : Nat) (l : ByteArray) : Option ByteArray := if l.size = 0 then none else some l
theorem strings_Builder_Stringq53_ok {N lI1 bI2 pI3 AI4 cI5 res} (hF:sbs N lI1 = some res) {w0 w T} (hw:St w0.heap.size w0 (cSB 53 5 bI2 pI3 AI4 cI5 lI1::T) w):Calls Tryz.prog 23 (List.toArray [.pointer (some ⟨bI2,0,none⟩)]) w (fun e w'=>∃ g:Unit,(True)∧e = .returned (.string res)∧St w0.heap.size w0 (T) w'):=by
  obtain ⟨hp,hw⟩:=St.sbOpen hw
  unfold sbs at hF
  split at hF
  · cases hF
  rename_i hl
  obtain rfl:=Option.some.inj hF
  obtain ⟨g,hA,hcap⟩ : ∃ g,AI4 = some ⟨g,0,none⟩∧cI5 ≠ 0:=by
    obtain ⟨h1,h2⟩:=hw.sat _ (List.mem_of_getElem? (i:=1) rfl)
    rcases h2 with ⟨_,h3,_⟩ | ⟨g,cur,h3,_,h4,_⟩
    · exact absurd h3 hl
    · exact ⟨g,h3,by omega⟩
  subst hA
  refine W.enter (n:=14) Tryz.func23 rfl rfl Sub.refl (by simp) hw fun R hR=>?_
  refine W.seqR fun Q1 hQ1=>?_
  refine WL.q (Y.assign (.pl rfl)) rfl ?_
  refine WL.next hQ1 (.cons (i:=0) rfl (.nil)) ?_
  refine W.seqT 10 (by kernel_rfl) (by kernel_rfl) fun Q2 hQ2=>?_
  refine WS.q (Y.move (.pl rfl)) rfl ?_
  refine WS.q (Y.nilCheck (.pl rfl)) rfl ?_
  refine WS.q (Y.fieldAddr0 (off:=1) (ft:=49) Tryz.underlying51 rfl cells49 (.pl rfl)) rfl ?_
  refine WS.q (Y.loadB (v:=.slice (some ⟨g,0,none⟩) (lI1).size cI5) Tryz.underlying49 rfl (.pl rfl) (i:=0) rfl rfl) rfl ?_
  refine WS.q (Y.sliceData (.pl rfl) hcap) rfl ?_
  refine WS.q (Y.move (.pl rfl)) rfl ?_
  refine WS.q (Y.nilCheck (.pl rfl)) rfl ?_
  refine WS.q (Y.fieldAddr0 (off:=1) (ft:=49) Tryz.underlying51 rfl cells49 (.pl rfl)) rfl ?_
  refine WS.q (Y.loadB (v:=.slice (some ⟨g,0,none⟩) (lI1).size cI5) Tryz.underlying49 rfl (.pl rfl) (i:=0) rfl rfl) rfl ?_
  refine WS.q (Y.len Tryz.underlying49 (.pl rfl)) rfl ?_
  refine WS.tail ?_
  refine WL.step (WO.ustr (E:=5) Tryz.underlying117 cells5 hl (.pl rfl) (.pl rfl) (i:=1) rfl rfl ?_)
  refine WL.q (Y.assign (.pl rfl)) rfl ?_
  refine WL.next hQ2 (.cons (i:=2) rfl (.nil)) ?_
  refine W.retV (fn:=Tryz.f23) (vs:=[.string lI1]) Tryz.results23 ⟨.tmp rfl,trivial⟩ (fun _ _ h=>h) (fun wz hw=>?_)
  exact hR _ _ ⟨(),trivial,rfl,(Ent.drop (M:=[_,_])).at _ _ _ hw⟩
def verdict_yes (N:Nat) (is1:Bool):Option ByteArray:=cond is1 (some (⟨#[121]⟩ : ByteArray)) (some (⟨#[110]⟩ : ByteArray))
theorem verdict_yes_ok {N is1 res} (hF:verdict_yes N is1 = some res) (w:World):Pure Tryz.prog 52 [.bool is1] w (.string res):=by
  refine We 4 Tryz.func52 (St.start w) fun R hR=>?_;refine a_ ?_;refine Wc hF (fun hC4 hF=>?_) (fun hC4 hF=>?_)
  · obtain rfl:=oi hF;refine a_ ?_;exact rP
  · obtain rfl:=oi hF;refine a_ ?_;exact rP
def verdict_report_witnesses_L3 (N:Nat) (r12:((List Step) × Bool × Int)):((List Pt) × Int)→Option (((List Pt) × Int) ⊕ (List Pt)) | (parts22,v23)=>cond (decide (v23 < ((r12.1).length:Int))) (bd (ix r12.1 v23) fun x24=>ck (limB 16 ((parts22).length + (([(Pt.i (x24.call)),(Pt.i (x24.res))]:List Pt)).length)) <| ck (ok64 (v23 + 1)) <| some (.inl ((parts22++([(Pt.i (x24.call)),(Pt.i (x24.res))]:List Pt)),(v23 + 1)))) (some (.inr parts22))
def verdict_report_witnesses (N:Nat) (r5:ByteArray) (types8:(List Int)) (l11:(List Event)):Option ByteArray:=bd (search_Find N types8 l11) fun r12=>bd (verdict_yes N r12.2.1) fun r15=>bd (α:=(List Pt)) (iter (verdict_report_witnesses_L3 N r12) N (([(Pt.s ((⟨#[116,105,109,101]⟩ : ByteArray))),(Pt.s (r15))]:List Pt),0)) <| fun parts19=>bd (verdict_report_line N r5 parts19) fun r31=>bd (seq_Find N types8 l11) fun r35=>bd (verdict_yes N r35.2.1) fun r38=>bd (verdict_report_line N r31 ([(Pt.s ((⟨#[112,101,111,112,108,101]⟩ : ByteArray))),(Pt.s (r38))]:List Pt)) fun r40=>bd (seq_Quiet N types8 l11) fun r44=>bd (verdict_yes N r44.2.1) fun r47=>bd (verdict_report_line N r40 ([(Pt.s ((⟨#[99,97,108,109]⟩ : ByteArray))),(Pt.s (r47))]:List Pt)) fun r49=>some r49
theorem verdict_report_witnesses_ok {N r5 types8 l11 b1 pv2 A3 c4 A6 c7 A9 c10 res} (hF:verdict_report_witnesses N r5 types8 l11 = some res) {w0 w T} (hw:St w0.heap.size w0 (cSB 53 5 b1 pv2 A3 c4 r5::cR (eI .i64) 1 A6 c7 3 types8::cR encEvent 4 A9 c10 108 l11::T) w) (hG:GOkS w0):Calls Tryz.prog 25 (List.toArray [.pointer (some ⟨b1,0,none⟩),.slice A6 (types8).length c7,.slice A9 (l11).length c10]) w (fun e w'=>∃ g:(Value × Option Addr × Nat),(True)∧e = .returned (.tuple #[])∧St w0.heap.size w0 (cSB 53 5 b1 g.1 g.2.1 g.2.2 res::cR (eI .i64) 1 A6 c7 3 types8::cR encEvent 4 A9 c10 108 l11::T) w'):=by
  refine We 71 Tryz.func25 hw fun R hR=>?_;obtain ⟨r12,hr12,hF⟩:=bnd hF;refine a_ ?_;refine kM isGo51 (v2 rfl rfl) (fun wz hw=>search_Find_ok hr12 wz (so hw) (so hw)) ?_;rintro ⟨A13,c14⟩ -;refine a_ ?_;refine WL.q (Y.mkAn (a:=9) (b:=3) (c:=33) (Pt.s ((⟨#[116,105,109,101]⟩ : ByteArray))) Tryz.underlying9 rfl (.pl rfl) rfl) rfl ?_;obtain ⟨r15,hr15,hF⟩:=bnd hF;refine a_ ?_;refine kP isGo52 (v1 rfl) (fun wz hw=>verdict_yes_ok hr15 wz) ?_;refine WL.q (Y.mkAn (a:=9) (b:=3) (c:=33) (Pt.s (r15)) Tryz.underlying9 rfl (.pl rfl) rfl) rfl ?_;refine WL.step (WO.bsliceC (enc:=(eAn 9 3 33)) (ys:=([(Pt.s ((⟨#[116,105,109,101]⟩ : ByteArray))),(Pt.s (r15))]:List Pt)) Tryz.underlying111 bz20 (.cons (.pl rfl) (.cons (.pl rfl) (.nil))) rfl (fun _=>rfl) rfl rfl (by decide) (by decide) rfl fun b16=>?_);obtain ⟨o3,hF3,hF⟩:=bnd hF;refine b_ ?_;refine W.join3 (fun a b c=>[(9,.slice b (a).length c)]) (fun a b c=>(cSB 53 5 b1 pv2 A3 c4 r5::cR (eI .i64) 1 A6 c7 3 types8::cR encEvent 4 A9 c10 108 l11::cR (eAn 9 3 33) 1 b c 20 a::T)) (fun a b c=>a = o3) (ks3 0 1 2) (fun K4 hK4=>?_) ?_
  · refine a_ ?_;refine l2_2 hF3 (fun a b c d=>[(9,.slice c (a).length d),(26,.int .i64 b)]) (fun a b c d=>(cSB 53 5 b1 pv2 A3 c4 r5::cR (eI .i64) 1 A6 c7 3 types8::cR encEvent 4 A9 c10 108 l11::cR (eAn 9 3 33) 1 c d 20 a::cR encStep 2 A13 c14 128 r12.1::T)) (ks5 0 1 2 24 25) fun parts22 v23 A20 c21 k6 t6 hF6 hN6 K7 hK7=>?_;refine a_ ?_;refine Wc hF6 (fun hC10 hF6=>?_) (fun hC10 hF6=>?_)
    · obtain ⟨x24,hx24,hF6⟩:=bnd hF6;refine a_ ?_;refine mA fun b25=>?_;refine a_ ?_;refine WL.q (Y.mkAn (a:=9) (b:=3) (c:=33) (Pt.i (x24.call)) Tryz.underlying3 rfl (.pl rfl) rfl) rfl ?_;refine a_ ?_;refine WL.q (Y.mkAn (a:=9) (b:=3) (c:=33) (Pt.i (x24.res)) Tryz.underlying3 rfl (.pl rfl) rfl) rfl ?_;refine WL.step (WO.bsliceC (enc:=(eAn 9 3 33)) (ys:=([(Pt.i (x24.call)),(Pt.i (x24.res))]:List Pt)) Tryz.underlying111 bz20 (.cons (.pl rfl) (.cons (.pl rfl) (.nil))) rfl (fun _=>rfl) rfl rfl (by decide) (by decide) rfl fun b26=>?_);obtain ⟨hk29,hF6⟩:=ckh hF6;refine WL.step (WO.appendC (enc:=(eAn 9 3 33)) Tryz.underlying111 ap20 (fun _=>rfl) oneAn (.pl rfl) rfl (.pl rfl) (i:=5) rfl (m2:=0) rfl (hk29) rfl fun A27 c28=>?_);obtain ⟨hk30,hF6⟩:=ckh hF6;refine a_ ?_;exact g4 hK7 (oj hF6 hN6)
    · refine a_ ?_;exact h3 hK4 (oj hF6 hN6)
  · rintro parts19 A17 c18 rfl;obtain ⟨r31,hr31,hF⟩:=bnd hF;refine a_ ?_;refine kC isGo22 (v2 rfl rfl) (fun _ hw=>verdict_report_line_ok hr31 (sw hw) hG) ?_;rintro ⟨pv32,A33,c34⟩ -;obtain ⟨r35,hr35,hF⟩:=bnd hF;refine a_ ?_;refine kM isGo53 (v2 rfl rfl) (fun wz hw=>seq_Find_ok hr35 wz (so hw) (so hw)) ?_;rintro ⟨A36,c37⟩ -;refine a_ ?_;refine WL.q (Y.mkAn (a:=9) (b:=3) (c:=33) (Pt.s ((⟨#[112,101,111,112,108,101]⟩ : ByteArray))) Tryz.underlying9 rfl (.pl rfl) rfl) rfl ?_;obtain ⟨r38,hr38,hF⟩:=bnd hF;refine a_ ?_;refine kP isGo52 (v1 rfl) (fun wz hw=>verdict_yes_ok hr38 wz) ?_;refine WL.q (Y.mkAn (a:=9) (b:=3) (c:=33) (Pt.s (r38)) Tryz.underlying9 rfl (.pl rfl) rfl) rfl ?_;refine WL.step (WO.bsliceC (enc:=(eAn 9 3 33)) (ys:=([(Pt.s ((⟨#[112,101,111,112,108,101]⟩ : ByteArray))),(Pt.s (r38))]:List Pt)) Tryz.underlying111 bz20 (.cons (.pl rfl) (.cons (.pl rfl) (.nil))) rfl (fun _=>rfl) rfl rfl (by decide) (by decide) rfl fun b39=>?_);obtain ⟨r40,hr40,hF⟩:=bnd hF;refine kC isGo22 (v2 rfl rfl) (fun _ hw=>verdict_report_line_ok hr40 (sw hw) hG) ?_;rintro ⟨pv41,A42,c43⟩ -;obtain ⟨r44,hr44,hF⟩:=bnd hF;refine a_ ?_;refine kM isGo54 (v2 rfl rfl) (fun wz hw=>seq_Quiet_ok hr44 wz (so hw) (so hw)) ?_;rintro ⟨A45,c46⟩ -;refine a_ ?_;refine WL.q (Y.mkAn (a:=9) (b:=3) (c:=33) (Pt.s ((⟨#[99,97,108,109]⟩ : ByteArray))) Tryz.underlying9 rfl (.pl rfl) rfl) rfl ?_;obtain ⟨r47,hr47,hF⟩:=bnd hF;refine a_ ?_;refine kP isGo52 (v1 rfl) (fun wz hw=>verdict_yes_ok hr47 wz) ?_;refine WL.q (Y.mkAn (a:=9) (b:=3) (c:=33) (Pt.s (r47)) Tryz.underlying9 rfl (.pl rfl) rfl) rfl ?_;refine WL.step (WO.bsliceC (enc:=(eAn 9 3 33)) (ys:=([(Pt.s ((⟨#[99,97,108,109]⟩ : ByteArray))),(Pt.s (r47))]:List Pt)) Tryz.underlying111 bz20 (.cons (.pl rfl) (.cons (.pl rfl) (.nil))) rfl (fun _=>rfl) rfl rfl (by decide) (by decide) rfl fun b48=>?_);obtain ⟨r49,hr49,hF⟩:=bnd hF;refine kC isGo22 (v2 rfl rfl) (fun _ hw=>verdict_report_line_ok hr49 (sw hw) hG) ?_;rintro ⟨pv50,A51,c52⟩ -;obtain rfl:=oi hF;refine a_ ?_;exact rF (pv50,A51,c52)
def verdict_report_bad (N:Nat) (r5:ByteArray) (ok6:Bool) (b7:Bad) (e8:Int):Option ByteArray:=cond (!(decide (e8 = 0))) (bd (verdict_report_line N r5 ([(Pt.s ((⟨#[98,97,100]⟩ : ByteArray))),(Pt.s ((⟨#[101,114,114,111,114]⟩ : ByteArray))),(Pt.e (e8))]:List Pt)) fun r11=>some r11) (cond ok6 (bd (verdict_report_line N r5 ([(Pt.s ((⟨#[98,97,100]⟩ : ByteArray))),(Pt.s ((⟨#[110,111,110,101]⟩ : ByteArray)))]:List Pt)) fun r16=>some r16) (bd (verdict_report_line N r5 ([(Pt.s ((⟨#[98,97,100]⟩ : ByteArray))),(Pt.i (b7.kind)),(Pt.i (b7.a)),(Pt.i (b7.b))]:List Pt)) fun r21=>some r21))
theorem verdict_report_bad_ok {N r5 ok6 b7 e8 b1 pv2 A3 c4 res} (hF:verdict_report_bad N r5 ok6 b7 e8 = some res) {w0 w T} (hw:St w0.heap.size w0 (cSB 53 5 b1 pv2 A3 c4 r5::T) w) (hG:GOkS w0):Calls Tryz.prog 55 (List.toArray [.pointer (some ⟨b1,0,none⟩),.bool ok6,.agg (encBad b7).toArray,.int .i64 e8]) w (fun e w'=>∃ g:(Value × Option Addr × Nat),(True)∧e = .returned (.tuple #[])∧St w0.heap.size w0 (cSB 53 5 b1 g.1 g.2.1 g.2.2 res::T) w'):=by
  refine We 38 Tryz.func55 hw fun R hR=>?_;refine a_ ?_;refine WL.step (WO.boxA (.pl rfl) rfl fun b9=>?_);refine a_ ?_;refine Wc hF (fun hC3 hF=>?_) (fun hC3 hF=>?_)
  · refine a_ ?_;refine WL.q (Y.mkAn (a:=9) (b:=3) (c:=33) (Pt.s ((⟨#[98,97,100]⟩ : ByteArray))) Tryz.underlying9 rfl (.pl rfl) rfl) rfl ?_;refine WL.q (Y.mkAn (a:=9) (b:=3) (c:=33) (Pt.s ((⟨#[101,114,114,111,114]⟩ : ByteArray))) Tryz.underlying9 rfl (.pl rfl) rfl) rfl ?_;refine a_ ?_;refine WL.q (Y.mkAn (a:=9) (b:=3) (c:=33) (Pt.e (e8)) Tryz.underlying33 rfl (.pl rfl) rfl) rfl ?_;refine WL.step (WO.bsliceC (enc:=(eAn 9 3 33)) (ys:=([(Pt.s ((⟨#[98,97,100]⟩ : ByteArray))),(Pt.s ((⟨#[101,114,114,111,114]⟩ : ByteArray))),(Pt.e (e8))]:List Pt)) Tryz.underlying111 bz20 (.cons (.pl rfl) (.cons (.pl rfl) (.cons (.pl rfl) (.nil)))) rfl (fun _=>rfl) rfl rfl (by decide) (by decide) rfl fun b10=>?_);obtain ⟨r11,hr11,hF⟩:=bnd hF;refine kC isGo22 (v2 rfl rfl) (fun _ hw=>verdict_report_line_ok hr11 (sw hw) hG) ?_;rintro ⟨pv12,A13,c14⟩ -;obtain rfl:=oi hF;refine a_ ?_;exact rF (pv12,A13,c14)
  · refine a_ ?_;refine Wc hF (fun hC6 hF=>?_) (fun hC6 hF=>?_)
    · refine a_ ?_;refine WL.q (Y.mkAn (a:=9) (b:=3) (c:=33) (Pt.s ((⟨#[98,97,100]⟩ : ByteArray))) Tryz.underlying9 rfl (.pl rfl) rfl) rfl ?_;refine WL.q (Y.mkAn (a:=9) (b:=3) (c:=33) (Pt.s ((⟨#[110,111,110,101]⟩ : ByteArray))) Tryz.underlying9 rfl (.pl rfl) rfl) rfl ?_;refine WL.step (WO.bsliceC (enc:=(eAn 9 3 33)) (ys:=([(Pt.s ((⟨#[98,97,100]⟩ : ByteArray))),(Pt.s ((⟨#[110,111,110,101]⟩ : ByteArray)))]:List Pt)) Tryz.underlying111 bz20 (.cons (.pl rfl) (.cons (.pl rfl) (.nil))) rfl (fun _=>rfl) rfl rfl (by decide) (by decide) rfl fun b15=>?_);obtain ⟨r16,hr16,hF⟩:=bnd hF;refine kC isGo22 (v2 rfl rfl) (fun _ hw=>verdict_report_line_ok hr16 (sw hw) hG) ?_;rintro ⟨pv17,A18,c19⟩ -;obtain rfl:=oi hF;refine a_ ?_;exact rF (pv17,A18,c19)
    · refine a_ ?_;refine WL.q (Y.mkAn (a:=9) (b:=3) (c:=33) (Pt.s ((⟨#[98,97,100]⟩ : ByteArray))) Tryz.underlying9 rfl (.pl rfl) rfl) rfl ?_;refine a_ ?_;refine WL.q (Y.mkAn (a:=9) (b:=3) (c:=33) (Pt.i (b7.kind)) Tryz.underlying3 rfl (.pl rfl) rfl) rfl ?_;refine a_ ?_;refine WL.q (Y.mkAn (a:=9) (b:=3) (c:=33) (Pt.i (b7.a)) Tryz.underlying3 rfl (.pl rfl) rfl) rfl ?_;refine a_ ?_;refine WL.q (Y.mkAn (a:=9) (b:=3) (c:=33) (Pt.i (b7.b)) Tryz.underlying3 rfl (.pl rfl) rfl) rfl ?_;refine WL.step (WO.bsliceC (enc:=(eAn 9 3 33)) (ys:=([(Pt.s ((⟨#[98,97,100]⟩ : ByteArray))),(Pt.i (b7.kind)),(Pt.i (b7.a)),(Pt.i (b7.b))]:List Pt)) Tryz.underlying111 bz20 (.cons (.pl rfl) (.cons (.pl rfl) (.cons (.pl rfl) (.cons (.pl rfl) (.nil))))) rfl (fun _=>rfl) rfl rfl (by decide) (by decide) rfl fun b20=>?_);obtain ⟨r21,hr21,hF⟩:=bnd hF;refine kC isGo22 (v2 rfl rfl) (fun _ hw=>verdict_report_line_ok hr21 (sw hw) hG) ?_;rintro ⟨pv22,A23,c24⟩ -;obtain rfl:=oi hF;refine a_ ?_;exact rF (pv22,A23,c24)
def verdict_report_elements_L3 (N:Nat) (r9:((List Int) × Int)):((List Pt) × Int)→Option (((List Pt) × Int) ⊕ (List Pt)) | (parts29,v30)=>cond (decide (v30 < ((r9.1).length:Int))) (bd (ix r9.1 v30) fun x31=>ck (limB 16 ((parts29).length + (([(Pt.i (x31))]:List Pt)).length)) <| ck (ok64 (v30 + 1)) <| some (.inl ((parts29++([(Pt.i (x31))]:List Pt)),(v30 + 1)))) (some (.inr parts29))
def verdict_report_elements (N:Nat) (r5:ByteArray) (l8:(List Event)):Option ByteArray:=bd (bags_Check N l8) fun r9=>bd (α:=(List Pt)) (cond (!(decide (r9.2 = 0))) (ck (limB 16 ((([(Pt.s ((⟨#[98,97,100]⟩ : ByteArray)))]:List Pt)).length + (([(Pt.s ((⟨#[101,114,114,111,114]⟩ : ByteArray))),(Pt.e (r9.2))]:List Pt)).length)) <| some (([(Pt.s ((⟨#[98,97,100]⟩ : ByteArray)))]:List Pt)++([(Pt.s ((⟨#[101,114,114,111,114]⟩ : ByteArray))),(Pt.e (r9.2))]:List Pt))) (cond (decide (((r9.1).length:Int) = 0)) (ck (limB 16 ((([(Pt.s ((⟨#[98,97,100]⟩ : ByteArray)))]:List Pt)).length + (([(Pt.s ((⟨#[110,111,110,101]⟩ : ByteArray)))]:List Pt)).length)) <| some (([(Pt.s ((⟨#[98,97,100]⟩ : ByteArray)))]:List Pt)++([(Pt.s ((⟨#[110,111,110,101]⟩ : ByteArray)))]:List Pt))) (some ([(Pt.s ((⟨#[98,97,100]⟩ : ByteArray)))]:List Pt)))) <| fun parts15=>bd (α:=(List Pt)) (iter (verdict_report_elements_L3 N r9) N (parts15,0)) <| fun parts26=>bd (verdict_report_line N r5 parts26) fun r37=>some r37
theorem verdict_report_elements_ok {N r5 l8 b1 pv2 A3 c4 A6 c7 res} (hF:verdict_report_elements N r5 l8 = some res) {w0 w T} (hw:St w0.heap.size w0 (cSB 53 5 b1 pv2 A3 c4 r5::cR encEvent 4 A6 c7 108 l8::T) w) (hG:GOkS w0):Calls Tryz.prog 59 (List.toArray [.pointer (some ⟨b1,0,none⟩),.slice A6 (l8).length c7]) w (fun e w'=>∃ g:(Value × Option Addr × Nat),(True)∧e = .returned (.tuple #[])∧St w0.heap.size w0 (cSB 53 5 b1 g.1 g.2.1 g.2.2 res::cR encEvent 4 A6 c7 108 l8::T) w'):=by
  refine We 48 Tryz.func59 hw fun R hR=>?_;obtain ⟨r9,hr9,hF⟩:=bnd hF;refine a_ ?_;refine kM isGo99 (v1 rfl) (fun wz hw=>bags_Check_ok hr9 wz (so hw)) ?_;rintro ⟨A10,c11⟩ -;refine a_ ?_;refine WL.q (Y.mkAn (a:=9) (b:=3) (c:=33) (Pt.s ((⟨#[98,97,100]⟩ : ByteArray))) Tryz.underlying9 rfl (.pl rfl) rfl) rfl ?_;refine WL.step (WO.bsliceC (enc:=(eAn 9 3 33)) (ys:=([(Pt.s ((⟨#[98,97,100]⟩ : ByteArray)))]:List Pt)) Tryz.underlying111 bz20 (.cons (.pl rfl) (.nil)) rfl (fun _=>rfl) rfl rfl (by decide) (by decide) rfl fun b12=>?_);obtain ⟨o3,hF3,hF⟩:=bnd hF;refine b_ ?_;refine W.join3 (fun a b c=>[(6,.slice b (a).length c)]) (fun a b c=>(cSB 53 5 b1 pv2 A3 c4 r5::cR encEvent 4 A6 c7 108 l8::cR (eI .i64) 1 A10 c11 3 r9.1::cR (eAn 9 3 33) 1 b c 20 a::T)) (fun a b c=>a = o3) (ks2 0 4) (fun K4 hK4=>?_) ?_
  · refine a_ ?_;refine Wc hF3 (fun hC6 hF3=>?_) (fun hC6 hF3=>?_)
    · refine a_ ?_;refine WL.q (Y.mkAn (a:=9) (b:=3) (c:=33) (Pt.s ((⟨#[101,114,114,111,114]⟩ : ByteArray))) Tryz.underlying9 rfl (.pl rfl) rfl) rfl ?_;refine a_ ?_;refine WL.q (Y.mkAn (a:=9) (b:=3) (c:=33) (Pt.e (r9.2)) Tryz.underlying33 rfl (.pl rfl) rfl) rfl ?_;refine WL.step (WO.bsliceC (enc:=(eAn 9 3 33)) (ys:=([(Pt.s ((⟨#[101,114,114,111,114]⟩ : ByteArray))),(Pt.e (r9.2))]:List Pt)) Tryz.underlying111 bz20 (.cons (.pl rfl) (.cons (.pl rfl) (.nil))) rfl (fun _=>rfl) rfl rfl (by decide) (by decide) rfl fun b16=>?_);obtain ⟨hk19,hF3⟩:=ckh hF3;refine WL.step (WO.appendC (enc:=(eAn 9 3 33)) Tryz.underlying111 ap20 (fun _=>rfl) oneAn (.pl rfl) rfl (.pl rfl) (i:=1) rfl (m2:=0) rfl (hk19) rfl fun A17 c18=>?_);refine a_ ?_;exact h3 hK4 (oi hF3)
    · refine a_ ?_;refine Wc hF3 (fun hC9 hF3=>?_) (fun hC9 hF3=>?_)
      · refine a_ ?_;refine WL.q (Y.mkAn (a:=9) (b:=3) (c:=33) (Pt.s ((⟨#[110,111,110,101]⟩ : ByteArray))) Tryz.underlying9 rfl (.pl rfl) rfl) rfl ?_;refine WL.step (WO.bsliceC (enc:=(eAn 9 3 33)) (ys:=([(Pt.s ((⟨#[110,111,110,101]⟩ : ByteArray)))]:List Pt)) Tryz.underlying111 bz20 (.cons (.pl rfl) (.nil)) rfl (fun _=>rfl) rfl rfl (by decide) (by decide) rfl fun b20=>?_);obtain ⟨hk23,hF3⟩:=ckh hF3;refine WL.step (WO.appendC (enc:=(eAn 9 3 33)) Tryz.underlying111 ap20 (fun _=>rfl) oneAn (.pl rfl) rfl (.pl rfl) (i:=1) rfl (m2:=0) rfl (hk23) rfl fun A21 c22=>?_);refine a_ ?_;exact h3 hK4 (oi hF3)
      · refine a_ ?_;exact h3 hK4 (oi hF3)
  · rintro parts15 A13 c14 rfl;obtain ⟨o11,hF11,hF⟩:=bnd hF;refine W.join3 (fun a b c=>[(6,.slice b (a).length c)]) (fun a b c=>(cSB 53 5 b1 pv2 A3 c4 r5::cR encEvent 4 A6 c7 108 l8::cR (eAn 9 3 33) 1 b c 20 a::T)) (fun a b c=>a = o11) (ks1 0) (fun K12 hK12=>?_) ?_
    · refine a_ ?_;refine l2_2 hF11 (fun a b c d=>[(6,.slice c (a).length d),(35,.int .i64 b)]) (fun a b c d=>(cSB 53 5 b1 pv2 A3 c4 r5::cR encEvent 4 A6 c7 108 l8::cR (eAn 9 3 33) 1 c d 20 a::cR (eI .i64) 1 A10 c11 3 r9.1::T)) (ks3 0 33 34) fun parts29 v30 A27 c28 k14 t14 hF14 hN14 K15 hK15=>?_;refine a_ ?_;refine Wc hF14 (fun hC18 hF14=>?_) (fun hC18 hF14=>?_)
      · obtain ⟨x31,hx31,hF14⟩:=bnd hF14;refine a_ ?_;refine WL.q (Y.mkAn (a:=9) (b:=3) (c:=33) (Pt.i (x31)) Tryz.underlying3 rfl (.pl rfl) rfl) rfl ?_;refine WL.step (WO.bsliceC (enc:=(eAn 9 3 33)) (ys:=([(Pt.i (x31))]:List Pt)) Tryz.underlying111 bz20 (.cons (.pl rfl) (.nil)) rfl (fun _=>rfl) rfl rfl (by decide) (by decide) rfl fun b32=>?_);obtain ⟨hk35,hF14⟩:=ckh hF14;refine WL.step (WO.appendC (enc:=(eAn 9 3 33)) Tryz.underlying111 ap20 (fun _=>rfl) oneAn (.pl rfl) rfl (.pl rfl) (i:=3) rfl (m2:=0) rfl (hk35) rfl fun A33 c34=>?_);obtain ⟨hk36,hF14⟩:=ckh hF14;refine a_ ?_;exact g4 hK15 (oj hF14 hN14)
      · refine a_ ?_;exact h3 hK12 (oj hF14 hN14)
    · rintro parts26 A24 c25 rfl;obtain ⟨r37,hr37,hF⟩:=bnd hF;refine a_ ?_;refine kC isGo22 (v2 rfl rfl) (fun _ hw=>verdict_report_line_ok hr37 (sw hw) hG) ?_;rintro ⟨pv38,A39,c40⟩ -;obtain rfl:=oi hF;refine a_ ?_;exact rF (pv38,A39,c40)
def verdict_report_single (N:Nat) (r5:ByteArray) (typ6:Int) (l9:(List Event)):Option ByteArray:=cond (decide (typ6 = 1)) (bd (zones_Check N l9) fun r10=>bd (verdict_report_bad N r5 r10.1 (Bad.mk r10.2.1 r10.2.2.1 r10.2.2.2.1) r10.2.2.2.2) fun r11=>some r11) (cond (decide (typ6 = 2)) (bd (rows_Check N l9) fun r15=>bd (verdict_report_bad N r5 r15.1 (Bad.mk r15.2.1 r15.2.2.1 r15.2.2.2.1) r15.2.2.2.2) fun r16=>some r16) (cond (decide (typ6 = 5)) (bd (tickets_Check N l9) fun r20=>bd (verdict_report_bad N r5 r20.1 (Bad.mk r20.2.1 r20.2.2.1 r20.2.2.2.1) r20.2.2.2.2) fun r21=>some r21) (cond (decide (typ6 = 4)) (bd (verdict_report_elements N r5 l9) fun r25=>some r25) (some r5))))
theorem verdict_report_single_ok {N r5 typ6 l9 b1 pv2 A3 c4 A7 c8 res} (hF:verdict_report_single N r5 typ6 l9 = some res) {w0 w T} (hw:St w0.heap.size w0 (cSB 53 5 b1 pv2 A3 c4 r5::cR encEvent 4 A7 c8 108 l9::T) w) (hG:GOkS w0):Calls Tryz.prog 26 (List.toArray [.pointer (some ⟨b1,0,none⟩),.int .i64 typ6,.slice A7 (l9).length c8]) w (fun e w'=>∃ g:(Value × Option Addr × Nat),(True)∧e = .returned (.tuple #[])∧St w0.heap.size w0 (cSB 53 5 b1 g.1 g.2.1 g.2.2 res::cR encEvent 4 A7 c8 108 l9::T) w'):=by
  refine We 39 Tryz.func26 hw fun R hR=>?_;refine a_ ?_;refine Wc hF (fun hC3 hF=>?_) (fun hC3 hF=>?_)
  · obtain ⟨r10,hr10,hF⟩:=bnd hF;refine a_ ?_;refine kP isGo56 (v1 rfl) (fun wz hw=>zones_Check_ok hr10 wz (so hw)) ?_;obtain ⟨r11,hr11,hF⟩:=bnd hF;refine a_ ?_;refine kC isGo55 (v4 rfl rfl rfl rfl) (fun _ hw=>verdict_report_bad_ok hr11 (sw hw) hG) ?_;rintro ⟨pv12,A13,c14⟩ -;obtain rfl:=oi hF;refine a_ ?_;exact rF (pv12,A13,c14)
  · refine a_ ?_;refine Wc hF (fun hC6 hF=>?_) (fun hC6 hF=>?_)
    · obtain ⟨r15,hr15,hF⟩:=bnd hF;refine a_ ?_;refine kP isGo57 (v1 rfl) (fun wz hw=>rows_Check_ok hr15 wz (so hw)) ?_;obtain ⟨r16,hr16,hF⟩:=bnd hF;refine a_ ?_;refine kC isGo55 (v4 rfl rfl rfl rfl) (fun _ hw=>verdict_report_bad_ok hr16 (sw hw) hG) ?_;rintro ⟨pv17,A18,c19⟩ -;obtain rfl:=oi hF;refine a_ ?_;exact rF (pv17,A18,c19)
    · refine a_ ?_;refine Wc hF (fun hC9 hF=>?_) (fun hC9 hF=>?_)
      · obtain ⟨r20,hr20,hF⟩:=bnd hF;refine a_ ?_;refine kP isGo58 (v1 rfl) (fun wz hw=>tickets_Check_ok hr20 wz (so hw)) ?_;obtain ⟨r21,hr21,hF⟩:=bnd hF;refine a_ ?_;refine kC isGo55 (v4 rfl rfl rfl rfl) (fun _ hw=>verdict_report_bad_ok hr21 (sw hw) hG) ?_;rintro ⟨pv22,A23,c24⟩ -;obtain rfl:=oi hF;refine a_ ?_;exact rF (pv22,A23,c24)
      · refine a_ ?_;refine Wc hF (fun hC12 hF=>?_) (fun hC12 hF=>?_)
        · obtain ⟨r25,hr25,hF⟩:=bnd hF;refine a_ ?_;refine kC isGo59 (v2 rfl rfl) (fun _ hw=>verdict_report_elements_ok hr25 (sw hw) hG) ?_;rintro ⟨pv26,A27,c28⟩ -;obtain rfl:=oi hF;refine a_ ?_;exact rF (pv26,A27,c28)
        · obtain rfl:=oi hF;refine a_ ?_;exact rF (pv2,A3,c4)
def verdict_Run (N:Nat) (s1:ByteArray):Option ByteArray:=bd (text_Read N s1) fun r3=>cond (!(decide (r3.2.2.2 = 0))) (bd (verdict_report_line N ⟨#[]⟩ ([(Pt.s ((⟨#[101,114,114,111,114]⟩ : ByteArray))),(Pt.e (r3.2.2.2)),(Pt.i (r3.2.2.1))]:List Pt)) fun r9=>bd (sbs N r9) fun r13=>some r13) (bd (history_Calls N r3.1 r3.2.1) fun r14=>bd (verdict_report_line N ⟨#[]⟩ ([(Pt.s ((⟨#[99,97,108,108,115]⟩ : ByteArray))),(Pt.i (((r14.1).length:Int)))]:List Pt)) fun r18=>bd (α:=ByteArray) (cond (decide (((r14.1).length:Int) ≤ 9)) (bd (verdict_report_witnesses N r18 r3.1 r3.2.1) fun r26=>some r26) (some r18)) <| fun r25=>cond (decide (((r3.1).length:Int) = 1)) (bd (ix r3.1 0) fun x30=>bd (verdict_report_single N r25 x30 r3.2.1) fun r31=>bd (sbs N r31) fun r35=>some r35) (bd (sbs N r25) fun r36=>some r36))
theorem verdict_Run_ok {N s1 res} (hF:verdict_Run N s1 = some res) (w:World) (hG:GOkS w):Pure Tryz.prog 9 [.string s1] w (.string res):=by
  refine We 68 Tryz.func9 (St.start w) fun R hR=>?_;refine a_ ?_;refine WL.q (Y.build (cs:=((Value.pointer none::(Value.slice none 0 0::[]))++[]).toArray) shape53 (.nil) (one_parts trivial) rfl) rfl ?_;refine WL.step (WO.boxA (.pl rfl) rfl fun b2=>?_);refine WL.ent (.sb0 5) ?_;obtain ⟨r3,hr3,hF⟩:=bnd hF;refine a_ ?_;refine kM isGo21 (v1 rfl) (fun wz hw=>text_Read_ok hr3 wz (hG.mono hw)) ?_;rintro ⟨A4,c5,A6,c7⟩ -;refine a_ ?_;refine Wc hF (fun hC6 hF=>?_) (fun hC6 hF=>?_)
  · refine a_ ?_;refine WL.q (Y.mkAn (a:=9) (b:=3) (c:=33) (Pt.s ((⟨#[101,114,114,111,114]⟩ : ByteArray))) Tryz.underlying9 rfl (.pl rfl) rfl) rfl ?_;refine a_ ?_;refine WL.q (Y.mkAn (a:=9) (b:=3) (c:=33) (Pt.e (r3.2.2.2)) Tryz.underlying33 rfl (.pl rfl) rfl) rfl ?_;refine a_ ?_;refine WL.q (Y.mkAn (a:=9) (b:=3) (c:=33) (Pt.i (r3.2.2.1)) Tryz.underlying3 rfl (.pl rfl) rfl) rfl ?_;refine WL.step (WO.bsliceC (enc:=(eAn 9 3 33)) (ys:=([(Pt.s ((⟨#[101,114,114,111,114]⟩ : ByteArray))),(Pt.e (r3.2.2.2)),(Pt.i (r3.2.2.1))]:List Pt)) Tryz.underlying111 bz20 (.cons (.pl rfl) (.cons (.pl rfl) (.cons (.pl rfl) (.nil)))) rfl (fun _=>rfl) rfl rfl (by decide) (by decide) rfl fun b8=>?_);obtain ⟨r9,hr9,hF⟩:=bnd hF;refine kC isGo22 (v2 rfl rfl) (fun _ hw=>verdict_report_line_ok hr9 (sw hw) hG) ?_;rintro ⟨pv10,A11,c12⟩ -;obtain ⟨r13,hr13,hF⟩:=bnd hF;refine a_ ?_;refine kC isGo23 (v1 rfl) (fun _ hw=>strings_Builder_Stringq53_ok hr13 (sw hw)) ?_;rintro _ -;obtain rfl:=oi hF;refine a_ ?_;exact rP
  · obtain ⟨r14,hr14,hF⟩:=bnd hF;refine a_ ?_;refine kM isGo24 (v2 rfl rfl) (fun wz hw=>history_Calls_ok hr14 wz (so hw) (so hw)) ?_;rintro ⟨A15,c16⟩ -;refine a_ ?_;refine WL.q (Y.mkAn (a:=9) (b:=3) (c:=33) (Pt.s ((⟨#[99,97,108,108,115]⟩ : ByteArray))) Tryz.underlying9 rfl (.pl rfl) rfl) rfl ?_;refine a_ ?_;refine WL.q (Y.mkAn (a:=9) (b:=3) (c:=33) (Pt.i (((r14.1).length:Int))) Tryz.underlying3 rfl (.pl rfl) rfl) rfl ?_;refine WL.step (WO.bsliceC (enc:=(eAn 9 3 33)) (ys:=([(Pt.s ((⟨#[99,97,108,108,115]⟩ : ByteArray))),(Pt.i (((r14.1).length:Int)))]:List Pt)) Tryz.underlying111 bz20 (.cons (.pl rfl) (.cons (.pl rfl) (.nil))) rfl (fun _=>rfl) rfl rfl (by decide) (by decide) rfl fun b17=>?_);obtain ⟨r18,hr18,hF⟩:=bnd hF;refine kC isGo22 (v2 rfl rfl) (fun _ hw=>verdict_report_line_ok hr18 (sw hw) hG) ?_;rintro ⟨pv19,A20,c21⟩ -;obtain ⟨o11,hF11,hF⟩:=bnd hF;refine b_ ?_;refine W.join4 (fun a b c d=>[]) (fun a b c d=>[cSB 53 5 b2 b c d a,cR (eI .i64) 1 A4 c5 3 r3.1,cR encEvent 4 A6 c7 108 r3.2.1]) (fun a b c d=>a = o11) (ks3 3 4 5) (fun K12 hK12=>?_) ?_
    · refine a_ ?_;refine Wc hF11 (fun hC14 hF11=>?_) (fun hC14 hF11=>?_)
      · obtain ⟨r26,hr26,hF11⟩:=bnd hF11;refine a_ ?_;refine kC isGo25 (v3 rfl rfl rfl) (fun _ hw=>verdict_report_witnesses_ok hr26 (sw hw) hG) ?_;rintro ⟨pv27,A28,c29⟩ -;refine a_ ?_;exact h4 hK12 (oi hF11)
      · refine a_ ?_;exact h4 hK12 (oi hF11)
    · rintro r25 pv22 A23 c24 rfl;refine a_ ?_;refine Wc hF (fun hC18 hF=>?_) (fun hC18 hF=>?_)
      · obtain ⟨x30,hx30,hF⟩:=bnd hF;obtain ⟨r31,hr31,hF⟩:=bnd hF;refine a_ ?_;refine kC isGo26 (v3 rfl rfl rfl) (fun _ hw=>verdict_report_single_ok hr31 (sw hw) hG) ?_;rintro ⟨pv32,A33,c34⟩ -;obtain ⟨r35,hr35,hF⟩:=bnd hF;refine a_ ?_;refine kC isGo23 (v1 rfl) (fun _ hw=>strings_Builder_Stringq53_ok hr35 (sw hw)) ?_;rintro _ -;obtain rfl:=oi hF;refine a_ ?_;exact rP
      · obtain ⟨r36,hr36,hF⟩:=bnd hF;refine a_ ?_;refine kC isGo23 (v1 rfl) (fun _ hw=>strings_Builder_Stringq53_ok hr36 (sw hw)) ?_;rintro _ -;obtain rfl:=oi hF;refine a_ ?_;exact rP
end Go.Proofs.YtjdkkabcenohcaaGreatDoor
