/- The laws: what their code computes, and the walks. -/
import Derived.Test.YtjdkkabcenohcaaGreatDoorAuto
import Derived.Test.YtjdkkabcenohcaaGreatDoorV9
set_option linter.unusedVariables false
set_option linter.defProp false
set_option linter.unusedSimpArgs false
set_option linter.unusedSectionVars false
set_option maxRecDepth 100000
namespace Go.Proofs.YtjdkkabcenohcaaGreatDoor
open Go.RowKit
attribute [local irreducible] Yd Evs Evl

def isGo9:=gg Tryz.func9
def isGo10:=gg Tryz.func10
def isGo11:=gg Tryz.func11
def isGo12:=gg Tryz.func12
def isGo13:=gg Tryz.func13
def isGo14:=gg Tryz.func14
def isGo33:=gg Tryz.func33
def alibkeep_verdictLives (N:Nat):Option Bool:=bd (verdict_Run N (⟨#[116,104,105,110,103,115,32,114,101,103,10,48,32,48,32,119,114,105,116,101,32,53,10,48,32,48,32,101,110,100,32,48,10,49,32,48,32,114,101,97,100,10,49,32,48,32,101,110,100,32,48,10]⟩ : ByteArray)) fun r1=>some (decide (r1 = (⟨#[99,97,108,108,115,32,50,10,116,105,109,101,32,110,10,112,101,111,112,108,101,32,121,10,99,97,108,109,32,110,10,98,97,100,32,53,32,48,32,53,10]⟩ : ByteArray)))
theorem alibkeep_verdictLives_ok {N res} (hF:alibkeep_verdictLives N = some res) (w:World) (hG:GOkS w):Pure Tryz.prog 11 [] w (.bool res):=by
  refine We 3 Tryz.func11 (St.start w) fun R hR=>?_;obtain ⟨r1,hr1,hF⟩:=bnd hF;refine a_ ?_;refine kP isGo9 (v1 rfl) (fun wz hw=>verdict_Run_ok hr1 wz (hG.mono hw)) ?_;refine WL.q (Y.eqlT Tryz.underlying9 (.pl rfl) (.pl rfl)) rfl ?_;obtain rfl:=oi hF;refine a_ ?_;exact rP
theorem lay_Lays_n138 : Lays.n138 Tryz.prog shren where
  mixed := by kernel_rfl
  f138 := Tryz.func10.trans (congrArg some (by kernel_rfl))
  f143 := Tryz.func29.trans (congrArg some (by kernel_rfl))
  f195 := Tryz.func27.trans (congrArg some (by kernel_rfl))
  f217 := Tryz.func100.trans (congrArg some (by kernel_rfl))
  f218 := Tryz.func28.trans (congrArg some (by kernel_rfl))
  f219 := Tryz.func60.trans (congrArg some (by kernel_rfl))
  f224 := Tryz.func102.trans (congrArg some (by kernel_rfl))
  f225 := Tryz.func101.trans (congrArg some (by kernel_rfl))
  f266 := Tryz.func143.trans (congrArg some (by kernel_rfl))
  f267 := Tryz.func103.trans (congrArg some (by kernel_rfl))
  f314 := Tryz.func144.trans (congrArg some (by kernel_rfl))
  t0 := Tryz.underlying0
  a0 := Tryz.isAgg0
  z0 := Tryz.sizeOf0
  v0 := Tryz.zeroValue0
  t3 := Tryz.underlying3
  a3 := Tryz.isAgg3
  z3 := Tryz.sizeOf3
  v3 := Tryz.zeroValue3
  t4 := Tryz.underlying4
  a4 := Tryz.isAgg4
  z4 := Tryz.sizeOf4
  v4 := Tryz.zeroValue4
  t5 := Tryz.underlying5
  a5 := Tryz.isAgg5
  z5 := Tryz.sizeOf5
  v5 := Tryz.zeroValue5
  t9 := Tryz.underlying9
  a9 := Tryz.isAgg9
  z9 := Tryz.sizeOf9
  v9 := Tryz.zeroValue9
  t46 := Tryz.underlying176
  a46 := Tryz.isAgg176
  z46 := Tryz.sizeOf176
  v46 := Tryz.zeroValue176
  t51 := Tryz.underlying255
  a51 := Tryz.isAgg255
  z51 := Tryz.sizeOf255
  v51 := Tryz.zeroValue255
  t146 := Tryz.underlying256
  a146 := Tryz.isAgg256
  z146 := Tryz.sizeOf256
  v146 := Tryz.zeroValue256
  g1 := by kernel_rfl

theorem strings_Count_ok {N : Nat} {sI1 pI2 : ByteArray} {res : Int} (hF : countO N sI1 pI2 = some res) (w : World) (hG : GOkS w) : Pure Tryz.prog 10 [.string sI1, .string pI2] w (.int .i64 res) := count_pure lay_Lays_n138 hF w hG

theorem lay_Lays_n100 : Lays.n100 Tryz.prog shren where
  mixed := by kernel_rfl
  f100 := Tryz.func12.trans (congrArg some (by kernel_rfl))
  f207 := Tryz.func30.trans (congrArg some (by kernel_rfl))
  t3 := Tryz.underlying3
  a3 := Tryz.isAgg3
  z3 := Tryz.sizeOf3
  v3 := Tryz.zeroValue3
  t4 := Tryz.underlying4
  a4 := Tryz.isAgg4
  z4 := Tryz.sizeOf4
  v4 := Tryz.zeroValue4
  t9 := Tryz.underlying9
  a9 := Tryz.isAgg9
  z9 := Tryz.sizeOf9
  v9 := Tryz.zeroValue9

theorem strings_HasSuffix_ok {N : Nat} {sI1 pI2 : ByteArray} {res : Bool} (hF : sufO N sI1 pI2 = some res) (w : World) : Pure Tryz.prog 12 [.string sI1, .string pI2] w (.bool res) := suf_pure lay_Lays_n100 hF w

theorem lay_Lays_n99 : Lays.n99 Tryz.prog shren where
  mixed := by kernel_rfl
  f99 := Tryz.func13.trans (congrArg some (by kernel_rfl))
  f206 := Tryz.func31.trans (congrArg some (by kernel_rfl))
  t3 := Tryz.underlying3
  a3 := Tryz.isAgg3
  z3 := Tryz.sizeOf3
  v3 := Tryz.zeroValue3
  t4 := Tryz.underlying4
  a4 := Tryz.isAgg4
  z4 := Tryz.sizeOf4
  v4 := Tryz.zeroValue4
  t9 := Tryz.underlying9
  a9 := Tryz.isAgg9
  z9 := Tryz.sizeOf9
  v9 := Tryz.zeroValue9

theorem strings_HasPrefix_ok {N : Nat} {sI1 pI2 : ByteArray} {res : Bool} (hF : preO N sI1 pI2 = some res) (w : World) : Pure Tryz.prog 13 [.string sI1, .string pI2] w (.bool res) := pre_pure lay_Lays_n99 hF w

def alibkeep_VerdictLines (N:Nat) (s1:ByteArray):Option Bool:=bd (verdict_Run N s1) fun r2=>bd (countO N r2 (⟨#[10]⟩ : ByteArray)) fun r3=>bd (alibkeep_verdictLives N) fun r4=>bd ((cond ((!r4) == false) (sufO N r2 (⟨#[10]⟩ : ByteArray)) (some false))) fun r5=>cond ((!r4)||(!r5)) (some false) (bd (preO N r2 (⟨#[101,114,114,111,114,32]⟩ : ByteArray)) fun r6=>bd ((cond ((r6&&(decide (r3 = 1))) == false) (preO N r2 (⟨#[99,97,108,108,115,32]⟩ : ByteArray)) (some false))) fun r7=>some ((r6&&(decide (r3 = 1)))||(r7&&(decide (r3 ≤ 5)))))
theorem alibkeep_VerdictLines_ok {N s1 res} (hF:alibkeep_VerdictLines N s1 = some res) (w:World) (hG:GOkS w):Pure Tryz.prog 3 [.string s1] w (.bool res):=by
  refine We 30 Tryz.func3 (St.start w) fun R hR=>?_;obtain ⟨r2,hr2,hF⟩:=bnd hF;refine a_ ?_;refine kP isGo9 (v1 rfl) (fun wz hw=>verdict_Run_ok hr2 wz (hG.mono hw)) ?_;obtain ⟨r3,hr3,hF⟩:=bnd hF;refine a_ ?_;refine kP isGo10 (v2 rfl rfl) (fun wz hw=>strings_Count_ok hr3 wz (hG.mono hw)) ?_;obtain ⟨r4,hr4,hF⟩:=bnd hF;refine a_ ?_;refine kP isGo11 v0 (fun wz hw=>alibkeep_verdictLives_ok hr4 wz (hG.mono hw)) ?_;obtain ⟨r5,hr5,hF⟩:=bnd hF;refine a_ ?_;refine WL.gP (.pl rfl rfl rfl) isGo12 (fun hg=>(.cons (.gd (hg) rfl) (.cons (.pl rfl) (.nil)))) rfl (fun hg wz hw=>strings_HasSuffix_ok (gpos hg hr5) wz ) ?_;refine a_ ?_;refine Wc hF (fun hC6 hF=>?_) (fun hC6 hF=>?_)
  · obtain rfl:=oi hF;refine a_ ?_;exact rP
  · obtain ⟨r6,hr6,hF⟩:=bnd hF;refine a_ ?_;refine kP isGo13 (v2 rfl rfl) (fun wz hw=>strings_HasPrefix_ok hr6 wz) ?_;obtain ⟨r7,hr7,hF⟩:=bnd hF;refine a_ ?_;refine WL.gP (.pl rfl rfl rfl) isGo13 (fun hg=>(.cons (.gd (hg) rfl) (.cons (.pl rfl) (.nil)))) rfl (fun hg wz hw=>strings_HasPrefix_ok (gpos hg hr7) wz ) ?_;refine a_ ?_;refine WL.g (.pl rfl rfl rfl) (fun hg=>Y.and (.gd (hg) rfl) (fun h2=>.gd (band hg (eqt h2)) rfl)) rfl ?_;obtain rfl:=oi hF;refine a_ ?_;exact rP
def alibkeep_answer_L3 (N:Nat) (r3:(List ByteArray)) (word2:ByteArray):Int→Option (Int ⊕ (Unit ⊕ (ByteArray × Bool))) | v6=>cond (decide (v6 < ((r3).length:Int))) (bd (ix r3 v6) fun x7=>ck (catB word2 (⟨#[32]⟩ : ByteArray)) <| bd (cutO N x7 (word2++(⟨#[32]⟩ : ByteArray))) fun r9=>cond r9.2 (some (.inr (.inr (r9.1,true)))) (ck (ok64 (v6 + 1)) <| some (.inl (v6 + 1)))) (some (.inr (.inl ())))
def alibkeep_answer (N:Nat) (s1:ByteArray) (word2:ByteArray):Option (ByteArray × Bool):=bd (α:=(Unit ⊕ (ByteArray × Bool))) (bd (splitO N s1 (⟨#[10]⟩ : ByteArray)) fun r3=>iter (alibkeep_answer_L3 N r3 word2) N 0) <| Sum.elim (fun _=>some ((⟨#[]⟩ : ByteArray),false)) (fun p=>some p)
def alibkeep_VerdictWeaker (N:Nat) (s1:ByteArray):Option Bool:=bd (verdict_Run N s1) fun r2=>bd (alibkeep_answer N r2 (⟨#[116,105,109,101]⟩ : ByteArray)) fun r3=>bd (alibkeep_answer N r2 (⟨#[112,101,111,112,108,101]⟩ : ByteArray)) fun r4=>bd (alibkeep_answer N r2 (⟨#[99,97,108,109]⟩ : ByteArray)) fun r5=>bd (alibkeep_verdictLives N) fun r6=>cond (((!r6)||(!(r3.2 == r4.2)))||(!(r4.2 == r5.2))) (some false) (bd (preO N r3.1 (⟨#[121]⟩ : ByteArray)) fun r7=>some ((!r7)||((decide (r4.1 = (⟨#[121]⟩ : ByteArray)))&&(decide (r5.1 = (⟨#[121]⟩ : ByteArray))))))
def alibkeep_VerdictAgree (N:Nat) (s1:ByteArray):Option Bool:=bd (verdict_Run N s1) fun r2=>bd (alibkeep_answer N r2 (⟨#[116,105,109,101]⟩ : ByteArray)) fun r3=>bd (alibkeep_answer N r2 (⟨#[98,97,100]⟩ : ByteArray)) fun r4=>bd (alibkeep_verdictLives N) fun r5=>bd ((cond ((((!r5)||(!r3.2))||(!r4.2)) == false) (preO N r4.1 (⟨#[101,114,114,111,114]⟩ : ByteArray)) (some false))) fun r6=>cond ((((!r5)||(!r3.2))||(!r4.2))||r6) (bd (alibkeep_verdictLives N) fun r7=>some r7) (bd (preO N r3.1 (⟨#[121]⟩ : ByteArray)) fun r8=>some (r8 == (decide (r4.1 = (⟨#[110,111,110,101]⟩ : ByteArray)))))
end Go.Proofs.YtjdkkabcenohcaaGreatDoor
