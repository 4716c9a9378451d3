/- StepsLost, StepsRight: what the code computes, and the walks. -/
import Derived.Test.YtkmmagekepoapaaA5
set_option linter.unusedVariables false
set_option linter.unusedSimpArgs false
set_option linter.unusedSectionVars false
set_option maxRecDepth 100000
namespace Go.Proofs.Ytkmmagekepoapaa
open Go.RowKit
theorem isGo26 : IsGo Try.prog 26 := ⟨_, Try.func26, by kernel_rfl, rfl⟩
def alibkeep_StepsLost (N : Nat) : Option Bool :=
  bd (alibkeep_twoTake N) fun (r1 : Unit) =>
  bd (steps_Play N 2 ([([(Ask.mk 0 10 0)] : List Ask), ([(Ask.mk 0 10 0)] : List Ask)] : List (List Ask)) ([0, 1, 0, 1, 0, 1, 0, 1] : List Int)) fun (r5 : ((List Event) × Int × Int)) =>
  bd (search_Find N ([5] : List Int) r5.1) fun (r9 : ((List Step) × Bool × Int)) =>
  bd (α := Bool) (bd (alibkeep_stepsLives N) fun (r13 : Bool) =>
    cond (r13 == true)
      (bd (alibkeep_ok N ([r5.2.2, r9.2.2] : List Int)) fun (r15 : Bool) =>
      bd ((cond ((((r13 && r15) && (!r9.2.1)) && (decide (((r5.1).length : Int) = 4))) == true) (ix r5.1 2) (some Event.z))) fun (x16 : Event) =>
      bd ((cond (((((r13 && r15) && (!r9.2.1)) && (decide (((r5.1).length : Int) = 4))) && (decide (x16.value = 0))) == true) (ix r5.1 3) (some Event.z))) fun (x17 : Event) =>
      some (((((r13 && r15) && (!r9.2.1)) && (decide (((r5.1).length : Int) = 4))) && (decide (x16.value = 0))) && (decide (x17.value = 0))))
      (bd ((cond ((((r13 && false) && (!r9.2.1)) && (decide (((r5.1).length : Int) = 4))) == true) (ix r5.1 2) (some Event.z))) fun (x18 : Event) =>
      bd ((cond (((((r13 && false) && (!r9.2.1)) && (decide (((r5.1).length : Int) = 4))) && (decide (x18.value = 0))) == true) (ix r5.1 3) (some Event.z))) fun (x19 : Event) =>
      some (((((r13 && false) && (!r9.2.1)) && (decide (((r5.1).length : Int) = 4))) && (decide (x18.value = 0))) && (decide (x19.value = 0))))) <|
  fun (v12 : Bool) => 
    some v12

def alibkeep_StepsRight (N : Nat) (algo1 : Int) (people2 : (List (List Ask))) (turns7 : (List Int)) : Option Bool :=
  bd (steps_Play N algo1 people2 turns7) fun (r12 : ((List Event) × Int × Int)) =>
  bd (alibkeep_stepsLives N) fun (r15 : Bool) =>
  cond (((!r15) || (!(decide (r12.2.2 = 0)))) || (decide (algo1 = 2)))
    (bd (alibkeep_stepsLives N) fun (r16 : Bool) =>
    some (r16 && ((decide (r12.2.2 = 0)) || (decide (((r12.1).length : Int) = 0)))))
    (bd (steps_Type N algo1) fun (r17 : Int) =>
    bd (search_Find N ([r17] : List Int) r12.1) fun (r19 : ((List Step) × Bool × Int)) =>
    some (((decide (r19.2.2 = 0)) && r19.2.1) || (decide (r19.2.2 = 2))))

theorem alibkeep_StepsRight_ok {N : Nat} {algo1 : Int} {people2 : (List (List Ask))} {turns7 : (List Int)} {A3 : Option Addr} {c4 : Nat} {hd5 : List Hd} {res : Bool} (hF : alibkeep_StepsRight N algo1 people2 turns7 = some res) (w : World) (hs6 : SlNN encAsk 3 w A3 c4 hd5 people2) {v11 : Value} (hs10 : SlIn (eI .i64) 1 w v11 turns7) :
    Pure Try.prog 7 [.int .i64 algo1, .slice A3 (people2).length c4, v11] w (.bool res) := by
  obtain ⟨A8, c9, rfl, hcc9, hs10⟩ := hs10.form
  refine W.enter (n := 59) Try.func7 rfl rfl Sub.refl (by simp) (St.start w) fun R hR => ?_
  unfold alibkeep_StepsRight at hF
  refine W.seqR fun Q1 hQ1 => ?_
  refine WL.q (Y.assign (.pl rfl)) rfl ?_
  refine WL.next hQ1 (.cons (i := 0) rfl (.cons (i := 1) rfl (.cons (i := 2) rfl (.nil)))) ?_
  refine W.seqR fun Q2 hQ2 => ?_
  refine WL.q (Y.move (.pl rfl)) rfl ?_
  refine WL.q (Y.move (.pl rfl)) rfl ?_
  refine WL.q (Y.move (.pl rfl)) rfl ?_
  obtain ⟨r12, hr12, hF⟩ := bnd hF
  refine WL.step (WO.callM isGo10 (.cons (.pl rfl) (.cons (.pl rfl) (.cons (.pl rfl) (.nil)))) rfl (fun wz hw => steps_Play_ok (hr12) wz (hs6.mono hw) (hs10.mono hw)) ?_)
  rintro ⟨A13, c14⟩ -
  refine WL.q (Y.move (.pl rfl)) rfl ?_
  refine WL.q (Y.extract (.pl rfl) rfl) rfl ?_
  refine WL.q (Y.extract (.pl rfl) rfl) rfl ?_
  refine WL.q (Y.extract (.pl rfl) rfl) rfl ?_
  refine WL.q (Y.assign (.pl rfl)) rfl ?_
  refine WL.q (Y.assign (.pl rfl)) rfl ?_
  refine WL.q (Y.assign (.pl rfl)) rfl ?_
  refine WL.next hQ2 (.cons (i := 0) rfl (.cons (i := 7) rfl (.cons (i := 9) rfl (.nil)))) ?_
  refine W.seq fun K3 hK3 => ?_
  refine W.seqR fun Q4 hQ4 => ?_
  obtain ⟨r15, hr15, hF⟩ := bnd hF
  refine WL.step (WO.callP isGo11 (.nil) rfl (fun wz hw => alibkeep_stepsLives_ok (hr15) wz ) ?_)
  refine WL.q (Y.not (.pl rfl)) rfl ?_
  refine WL.q (Y.move (.pl rfl)) rfl ?_
  refine WL.g (.pl rfl rfl rfl) (fun hg => Y.move (.pl rfl)) rfl ?_
  refine WL.g (.pl rfl rfl rfl) (fun hg => Y.neq (.gd (hg) rfl) (.pl rfl)) rfl ?_
  refine WL.q (Y.or (.pl rfl) (fun h2 => .gd (eqf h2) rfl)) rfl ?_
  refine WL.q (Y.move (.pl rfl)) rfl ?_
  refine WL.g (.pl rfl rfl rfl) (fun hg => Y.move (.pl rfl)) rfl ?_
  refine WL.g (.pl rfl rfl rfl) (fun hg => Y.eql (.gd (hg) rfl) (.pl rfl)) rfl ?_
  refine WL.q (Y.or (.pl rfl) (fun h2 => .gd (eqf h2) rfl)) rfl ?_
  refine WL.next hQ4 (.cons (i := 0) rfl (.cons (i := 7) rfl (.cons (i := 9) rfl (.cons (i := 30) rfl (.nil))))) ?_
  refine W.cond (.pl rfl) (fun hC5 => ?_) (fun hC5 => ?_)
  · replace hF := cpos hC5 hF
    refine W.seqR fun Q6 hQ6 => ?_
    obtain ⟨r16, hr16, hF⟩ := bnd hF
    refine WL.step (WO.callP isGo11 (.nil) rfl (fun wz hw => alibkeep_stepsLives_ok (hr16) wz ) ?_)
    refine WL.q (Y.move (.pl rfl)) rfl ?_
    refine WL.g (.pl rfl rfl rfl) (fun hg => Y.move (.pl rfl)) rfl ?_
    refine WL.g (.pl rfl rfl rfl) (fun hg => Y.eql (.gd (hg) rfl) (.pl rfl)) rfl ?_
    refine WL.g (.pl rfl rfl rfl) (fun hg => Y.move (.gd (hg) rfl)) rfl ?_
    refine WL.g (.gd rfl rfl rfl) (fun hg => Y.move (.pl rfl)) rfl ?_
    refine WL.g (.gd rfl rfl rfl) (fun hg => Y.len Try.underlying24 (.gd (hg) rfl)) rfl ?_
    refine WL.g (.gd rfl rfl rfl) (fun hg => Y.eql (.gd (hg) rfl) (.pl rfl)) rfl ?_
    refine WL.g (.pl rfl rfl rfl) (fun hg => Y.or (.gd (hg) rfl) (fun h2 => .gd (band hg (eqf h2)) rfl)) rfl ?_
    refine WL.q (Y.and (.pl rfl) (fun h2 => .gd (eqt h2) rfl)) rfl ?_
    refine WL.q (Y.assign (.pl rfl)) rfl ?_
    refine WL.next hQ6 (.cons (i := 6) rfl (.nil)) ?_
    obtain rfl := Option.some.inj hF
    refine W.retV (fn := Try.f7) (vs := [.bool (r16 && ((decide (r12.2.2 = 0)) || (decide (((r12.1).length : Int) = 0))))]) Try.results7 ⟨.tmp rfl, trivial⟩ (fun _ _ h => h) (fun wz hw => ?_)
    exact hR _ _ ⟨rfl, (hw.pick [] rfl)⟩
  · replace hF := cneg hC5 hF
    refine W.skip ?_
    refine W.go hK3 (.cons (i := 0) rfl (.cons (i := 7) rfl (.nil))) ?_
    refine W.seqR fun Q7 hQ7 => ?_
    refine WL.q (Y.move (.pl rfl)) rfl ?_
    obtain ⟨r17, hr17, hF⟩ := bnd hF
    refine WL.step (WO.callP isGo15 (.cons (.pl rfl) (.nil)) rfl (fun wz hw => steps_Type_ok (hr17) wz ) ?_)
    refine WL.step (WO.bsliceC (enc := (eI .i64)) (ys := ([r17] : List Int)) Try.underlying23 bz3 (.cons (.pl rfl) (.nil)) rfl (fun _ => rfl) rfl rfl (by decide) (by decide) rfl fun b18 => ?_)
    refine WL.q (Y.move (.pl rfl)) rfl ?_
    obtain ⟨r19, hr19, hF⟩ := bnd hF
    refine WL.step (WO.callM isGo26 (.cons (.pl rfl) (.cons (.pl rfl) (.nil))) rfl (fun wz hw => search_Find_ok (hr19) wz (SlIn.ofRow (fun _ => rfl) hw (i := 0) rfl) (SlIn.ofRow lenEvent hw (i := 1) rfl)) ?_)
    rintro ⟨A20, c21⟩ -
    refine WL.q (Y.move (.pl rfl)) rfl ?_
    refine WL.q (Y.extract (.pl rfl) rfl) rfl ?_
    refine WL.q (Y.extract (.pl rfl) rfl) rfl ?_
    refine WL.q (Y.extract (.pl rfl) rfl) rfl ?_
    refine WL.q (Y.assign (.pl rfl)) rfl ?_
    refine WL.q (Y.assign (.pl rfl)) rfl ?_
    refine WL.q (Y.assign (.pl rfl)) rfl ?_
    refine WL.next hQ7 (.cons (i := 11) rfl (.cons (i := 12) rfl (.nil))) ?_
    refine W.seqR fun Q8 hQ8 => ?_
    refine WL.q (Y.move (.pl rfl)) rfl ?_
    refine WL.q (Y.eql (.pl rfl) (.pl rfl)) rfl ?_
    refine WL.q (Y.move (.pl rfl)) rfl ?_
    refine WL.g (.pl rfl rfl rfl) (fun hg => Y.move (.pl rfl)) rfl ?_
    refine WL.q (Y.and (.pl rfl) (fun h2 => .gd (eqt h2) rfl)) rfl ?_
    refine WL.q (Y.move (.pl rfl)) rfl ?_
    refine WL.g (.pl rfl rfl rfl) (fun hg => Y.move (.pl rfl)) rfl ?_
    refine WL.g (.pl rfl rfl rfl) (fun hg => Y.eql (.gd (hg) rfl) (.pl rfl)) rfl ?_
    refine WL.q (Y.or (.pl rfl) (fun h2 => .gd (eqf h2) rfl)) rfl ?_
    refine WL.q (Y.assign (.pl rfl)) rfl ?_
    refine WL.next hQ8 (.cons (i := 6) rfl (.nil)) ?_
    obtain rfl := Option.some.inj hF
    refine W.retV (fn := Try.f7) (vs := [.bool (((decide (r19.2.2 = 0)) && r19.2.1) || (decide (r19.2.2 = 2)))]) Try.results7 ⟨.tmp rfl, trivial⟩ (fun _ _ h => h) (fun wz hw => ?_)
    exact hR _ _ ⟨rfl, (hw.pick [] rfl)⟩

end Go.Proofs.Ytkmmagekepoapaa
