/- The laws: what their code computes, and the walks. -/
import Derived.Test.YtjdkkabcenohcaaGreatDoorAuto
import Derived.Test.YtjdkkabcenohcaaGreatDoorV9
set_option linter.unusedVariables false
set_option linter.defProp false
set_option linter.unusedSimpArgs false
set_option linter.unusedSectionVars false
set_option maxRecDepth 100000
namespace Go.Proofs.YtjdkkabcenohcaaGreatDoor
open Go.RowKit
attribute [local irreducible] Yd Evs Evl

def isGo9:=gg Tryz.func9
def isGo10:=gg Tryz.func10
def isGo11:=gg Tryz.func11
def isGo12:=gg Tryz.func12
def isGo13:=gg Tryz.func13
def isGo14:=gg Tryz.func14
def isGo33:=gg Tryz.func33
def alibkeep_verdictLives (N:Nat):Option Bool:=bd (verdict_Run N (⟨#[116,104,105,110,103,115,32,114,101,103,10,48,32,48,32,119,114,105,116,101,32,53,10,48,32,48,32,101,110,100,32,48,10,49,32,48,32,114,101,97,100,10,49,32,48,32,101,110,100,32,48,10]⟩ : ByteArray)) fun r1=>some (decide (r1 = (⟨#[99,97,108,108,115,32,50,10,116,105,109,101,32,110,10,112,101,111,112,108,101,32,121,10,99,97,108,109,32,110,10,98,97,100,32,53,32,48,32,53,10]⟩ : ByteArray)))
theorem alibkeep_verdictLives_ok {N res} (hF:alibkeep_verdictLives N = some res) (w:World) (hG:GOkS w):Pure Tryz.prog 11 [] w (.bool res):=by
  refine We 3 Tryz.func11 (St.start w) fun R hR=>?_;obtain ⟨r1,hr1,hF⟩:=bnd hF;refine a_ ?_;refine kP isGo9 (v1 rfl) (fun wz hw=>verdict_Run_ok hr1 wz (hG.mono hw)) ?_;refine WL.q (Y.eqlT Tryz.underlying9 (.pl rfl) (.pl rfl)) rfl ?_;obtain rfl:=oi hF;refine a_ ?_;exact rP
theorem lay_Lays_n99 : Lays.n99 Tryz.prog shren where
  mixed := by kernel_rfl
  f99 := Tryz.func13.trans (congrArg some (by kernel_rfl))
  f206 := Tryz.func31.trans (congrArg some (by kernel_rfl))
  t3 := Tryz.underlying3
  a3 := Tryz.isAgg3
  z3 := Tryz.sizeOf3
  v3 := Tryz.zeroValue3
  t4 := Tryz.underlying4
  a4 := Tryz.isAgg4
  z4 := Tryz.sizeOf4
  v4 := Tryz.zeroValue4
  t9 := Tryz.underlying9
  a9 := Tryz.isAgg9
  z9 := Tryz.sizeOf9
  v9 := Tryz.zeroValue9

theorem strings_HasPrefix_ok {N : Nat} {sI1 pI2 : ByteArray} {res : Bool} (hF : preO N sI1 pI2 = some res) (w : World) : Pure Tryz.prog 13 [.string sI1, .string pI2] w (.bool res) := pre_pure lay_Lays_n99 hF w

def alibkeep_VerdictLines (N:Nat) (s1:ByteArray):Option Bool:=bd (verdict_Run N s1) fun r2=>bd (countO N r2 (⟨#[10]⟩ : ByteArray)) fun r3=>bd (alibkeep_verdictLives N) fun r4=>bd ((cond ((!r4) == false) (sufO N r2 (⟨#[10]⟩ : ByteArray)) (some false))) fun r5=>cond ((!r4)||(!r5)) (some false) (bd (preO N r2 (⟨#[101,114,114,111,114,32]⟩ : ByteArray)) fun r6=>bd ((cond ((r6&&(decide (r3 = 1))) == false) (preO N r2 (⟨#[99,97,108,108,115,32]⟩ : ByteArray)) (some false))) fun r7=>some ((r6&&(decide (r3 = 1)))||(r7&&(decide (r3 ≤ 5)))))
theorem lay_Lays_n103 : Lays.n103 Tryz.prog shren where
  mixed := by kernel_rfl
  f103 := Tryz.func33.trans (congrArg some (by kernel_rfl))
  f206 := Tryz.func31.trans (congrArg some (by kernel_rfl))
  f210 := Tryz.func62.trans (congrArg some (by kernel_rfl))
  t3 := Tryz.underlying3
  a3 := Tryz.isAgg3
  z3 := Tryz.sizeOf3
  v3 := Tryz.zeroValue3
  t4 := Tryz.underlying4
  a4 := Tryz.isAgg4
  z4 := Tryz.sizeOf4
  v4 := Tryz.zeroValue4
  t9 := Tryz.underlying9
  a9 := Tryz.isAgg9
  z9 := Tryz.sizeOf9
  v9 := Tryz.zeroValue9
  t24 := Tryz.underlying27
  a24 := Tryz.isAgg27
  z24 := Tryz.sizeOf27
  v24 := Tryz.zeroValue27

theorem strings_CutPrefix_ok {N : Nat} {sI1 pI2 : ByteArray} {res : ByteArray × Bool} (hF : cutO N sI1 pI2 = some res) (w : World) : Pure Tryz.prog 33 [.string sI1, .string pI2] w (.tuple #[.string res.1, .bool res.2]) := cut_pure lay_Lays_n103 hF w

def alibkeep_answer_L3 (N:Nat) (r3:(List ByteArray)) (word2:ByteArray):Int→Option (Int ⊕ (Unit ⊕ (ByteArray × Bool))) | v6=>cond (decide (v6 < ((r3).length:Int))) (bd (ix r3 v6) fun x7=>ck (catB word2 (⟨#[32]⟩ : ByteArray)) <| bd (cutO N x7 (word2++(⟨#[32]⟩ : ByteArray))) fun r9=>cond r9.2 (some (.inr (.inr (r9.1,true)))) (ck (ok64 (v6 + 1)) <| some (.inl (v6 + 1)))) (some (.inr (.inl ())))
def alibkeep_answer (N:Nat) (s1:ByteArray) (word2:ByteArray):Option (ByteArray × Bool):=bd (α:=(Unit ⊕ (ByteArray × Bool))) (bd (splitO N s1 (⟨#[10]⟩ : ByteArray)) fun r3=>iter (alibkeep_answer_L3 N r3 word2) N 0) <| Sum.elim (fun _=>some ((⟨#[]⟩ : ByteArray),false)) (fun p=>some p)
theorem alibkeep_answer_ok {N s1 word2 res} (hF:alibkeep_answer N s1 word2 = some res) (w:World) (hG:GOkS w):Pure Tryz.prog 14 [.string s1,.string word2] w (.tuple #[.string res.1,.bool res.2]):=by
  refine We 27 Tryz.func14 (St.start w) fun R hR=>?_;obtain ⟨o2,hF2,hF⟩:=bnd hF;refine b_ ?_;refine W.join0 [] [] ((.inl ()) = o2) (.nil) (fun K3 hK3=>?_) ?_
  · obtain ⟨r3,hr3,hF2⟩:=bnd hF2;refine a_ ?_;refine kM isGo32 (v2 rfl rfl) (fun wz hw=>strings_Split_ok hr3 wz (hG.mono hw)) ?_;rintro ⟨AI4,cI5⟩ -;refine a_ ?_;refine l1_0 hF2 (fun a=>[(13,.int .i64 a)]) (fun a=>[cR eS 1 AI4 cI5 9 r3]) (ks3 1 11 12) fun v6 k5 t5 hF5 hN5 K6 hK6=>?_;refine a_ ?_;refine Wc hF5 (fun hC9 hF5=>?_) (fun hC9 hF5=>?_)
    · obtain ⟨x7,hx7,hF5⟩:=bnd hF5;obtain ⟨hk8,hF5⟩:=ckh hF5;refine a_ ?_;refine WL.q (Y.catT (.pl rfl) (.pl rfl) (hk8)) rfl ?_;obtain ⟨r9,hr9,hF5⟩:=bnd hF5;refine kP isGo33 (v2 rfl rfl) (fun wz hw=>strings_CutPrefix_ok hr9 wz) ?_;refine a_ ?_;refine Wc hF5 (fun hC14 hF5=>?_) (fun hC14 hF5=>?_)
      · obtain rfl:=oi hF5;obtain rfl:=einr hN5;obtain rfl:=oi hF;refine a_ ?_;exact rP
      · obtain ⟨hk10,hF5⟩:=ckh hF5;refine a_ ?_;exact g1 hK6 (oj hF5 hN5)
    · refine a_ ?_;exact h0 hK3 (oj hF5 hN5)
  · rintro  rfl;obtain rfl:=oi hF;refine a_ ?_;exact rP
def alibkeep_VerdictWeaker (N:Nat) (s1:ByteArray):Option Bool:=bd (verdict_Run N s1) fun r2=>bd (alibkeep_answer N r2 (⟨#[116,105,109,101]⟩ : ByteArray)) fun r3=>bd (alibkeep_answer N r2 (⟨#[112,101,111,112,108,101]⟩ : ByteArray)) fun r4=>bd (alibkeep_answer N r2 (⟨#[99,97,108,109]⟩ : ByteArray)) fun r5=>bd (alibkeep_verdictLives N) fun r6=>cond (((!r6)||(!(r3.2 == r4.2)))||(!(r4.2 == r5.2))) (some false) (bd (preO N r3.1 (⟨#[121]⟩ : ByteArray)) fun r7=>some ((!r7)||((decide (r4.1 = (⟨#[121]⟩ : ByteArray)))&&(decide (r5.1 = (⟨#[121]⟩ : ByteArray))))))
theorem alibkeep_VerdictWeaker_ok {N s1 res} (hF:alibkeep_VerdictWeaker N s1 = some res) (w:World) (hG:GOkS w):Pure Tryz.prog 5 [.string s1] w (.bool res):=by
  refine We 50 Tryz.func5 (St.start w) fun R hR=>?_;obtain ⟨r2,hr2,hF⟩:=bnd hF;refine a_ ?_;refine kP isGo9 (v1 rfl) (fun wz hw=>verdict_Run_ok hr2 wz (hG.mono hw)) ?_;obtain ⟨r3,hr3,hF⟩:=bnd hF;refine a_ ?_;refine kP isGo14 (v2 rfl rfl) (fun wz hw=>alibkeep_answer_ok hr3 wz (hG.mono hw)) ?_;obtain ⟨r4,hr4,hF⟩:=bnd hF;refine a_ ?_;refine kP isGo14 (v2 rfl rfl) (fun wz hw=>alibkeep_answer_ok hr4 wz (hG.mono hw)) ?_;obtain ⟨r5,hr5,hF⟩:=bnd hF;refine a_ ?_;refine kP isGo14 (v2 rfl rfl) (fun wz hw=>alibkeep_answer_ok hr5 wz (hG.mono hw)) ?_;obtain ⟨r6,hr6,hF⟩:=bnd hF;refine a_ ?_;refine kP isGo11 v0 (fun wz hw=>alibkeep_verdictLives_ok hr6 wz (hG.mono hw)) ?_;refine a_ ?_;refine WL.g (.pl rfl rfl rfl) (fun hg=>Y.neqB Tryz.underlying4 (.gd (hg) rfl) (.gd (hg) rfl)) rfl ?_;refine a_ ?_;refine WL.g (.pl rfl rfl rfl) (fun hg=>Y.neqB Tryz.underlying4 (.gd (hg) rfl) (.gd (hg) rfl)) rfl ?_;refine a_ ?_;refine Wc hF (fun hC8 hF=>?_) (fun hC8 hF=>?_)
  · obtain rfl:=oi hF;refine a_ ?_;exact rP
  · obtain ⟨r7,hr7,hF⟩:=bnd hF;refine a_ ?_;refine kP isGo13 (v2 rfl rfl) (fun wz hw=>strings_HasPrefix_ok hr7 wz) ?_;refine a_ ?_;refine WL.g (.pl rfl rfl rfl) (fun hg=>Y.eqlT Tryz.underlying9 (.gd (hg) rfl) (.pl rfl)) rfl ?_;refine a_ ?_;refine WL.g (.gd rfl rfl rfl) (fun hg=>Y.eqlT Tryz.underlying9 (.gd (hg) rfl) (.pl rfl)) rfl ?_;refine WL.g (.pl rfl rfl rfl) (fun hg=>Y.and (.gd (hg) rfl) (fun h2=>.gd (band hg (eqt h2)) rfl)) rfl ?_;obtain rfl:=oi hF;refine a_ ?_;exact rP
def alibkeep_VerdictAgree (N:Nat) (s1:ByteArray):Option Bool:=bd (verdict_Run N s1) fun r2=>bd (alibkeep_answer N r2 (⟨#[116,105,109,101]⟩ : ByteArray)) fun r3=>bd (alibkeep_answer N r2 (⟨#[98,97,100]⟩ : ByteArray)) fun r4=>bd (alibkeep_verdictLives N) fun r5=>bd ((cond ((((!r5)||(!r3.2))||(!r4.2)) == false) (preO N r4.1 (⟨#[101,114,114,111,114]⟩ : ByteArray)) (some false))) fun r6=>cond ((((!r5)||(!r3.2))||(!r4.2))||r6) (bd (alibkeep_verdictLives N) fun r7=>some r7) (bd (preO N r3.1 (⟨#[121]⟩ : ByteArray)) fun r8=>some (r8 == (decide (r4.1 = (⟨#[110,111,110,101]⟩ : ByteArray)))))
end Go.Proofs.YtjdkkabcenohcaaGreatDoor
