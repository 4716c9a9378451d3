/- RegularFast: what the code computes, and the walk. -/
import Derived.Test.YteklmleiiiodfaaF1
set_option linter.unusedVariables false
set_option linter.unusedSimpArgs false
set_option linter.unusedSectionVars false
set_option maxRecDepth 100000
namespace Go.Proofs.Yteklmleiiiodfaa
open Go.RowKit
theorem isGo46 : IsGo Try.prog 46 := ⟨_, Try.func46, by kernel_rfl, rfl⟩
def alibkeep_RegularFast (N : Nat) (n1 : Int) (fast2 : Bool) (people3 : (List (List Ask))) (acts8 : (List Act)) : Option Bool :=
  bd (sites_Play_1 N n1 fast2 people3 acts8) fun (r13 : ((List Event) × (List Site) × Int)) =>
  bd (alibkeep_regularLives N) fun (r18 : Bool) =>
  cond ((!r18) || (!(decide (r13.2.2 = 0))))
    (bd (alibkeep_regularLives N) fun (r19 : Bool) =>
    some r19)
    (bd (regular_Check N r13.1) fun (r20 : (Int × Int)) =>
    some ((decide (r20.2 = 6)) || (((decide (r20.2 = 0)) && (decide (2 ≤ r20.1))) && (fast2 || (decide (r20.1 = 3))))))

theorem alibkeep_RegularFast_ok {N : Nat} {n1 : Int} {fast2 : Bool} {people3 : (List (List Ask))} {acts8 : (List Act)} {A4 : Option Addr} {c5 : Nat} {hd6 : List Hd} {res : Bool} (hF : alibkeep_RegularFast N n1 fast2 people3 acts8 = some res) (w : World) (hs7 : SlNN encAsk 3 w A4 c5 hd6 people3) {v12 : Value} (hs11 : SlIn encAct 2 w v12 acts8) :
    Pure Try.prog 17 [.int .i64 n1, .bool fast2, .slice A4 (people3).length c5, v12] w (.bool res) := by
  obtain ⟨A9, c10, rfl, hcc10, hs11⟩ := hs11.form
  refine W.enter (n := 52) Try.func17 rfl rfl Sub.refl (by simp) (St.start w) fun R hR => ?_
  unfold alibkeep_RegularFast at hF
  -- region 0: regular.go:35
  refine W.seqR fun Q1 hQ1 => ?_
  refine WL.q (Y.assign (.pl rfl)) rfl ?_
  refine WL.next hQ1 (.cons (i := 0) rfl (.cons (i := 1) rfl (.cons (i := 2) rfl (.cons (i := 3) rfl (.nil))))) ?_
  -- region 1: regular.go:36
  refine W.seqR fun Q2 hQ2 => ?_
  refine WL.q (Y.move (.pl rfl)) rfl ?_
  refine WL.q (Y.move (.pl rfl)) rfl ?_
  refine WL.q (Y.move (.pl rfl)) rfl ?_
  refine WL.q (Y.move (.pl rfl)) rfl ?_
  obtain ⟨r13, hr13, hF⟩ := bnd hF
  refine WL.step (WO.callM isGo20 (.cons (.pl rfl) (.cons (.pl rfl) (.cons (.pl rfl) (.cons (.pl rfl) (.nil))))) rfl (fun wz hw => sites_Play_1_ok (hr13) wz (hs7.mono hw) (hs11.mono hw)) ?_)
  rintro ⟨A14, c15, A16, c17⟩ -
  refine WL.q (Y.move (.pl rfl)) rfl ?_
  refine WL.q (Y.extract (.pl rfl) rfl) rfl ?_
  refine WL.q (Y.extract (.pl rfl) rfl) rfl ?_
  refine WL.q (Y.extract (.pl rfl) rfl) rfl ?_
  refine WL.q (Y.assign (.pl rfl)) rfl ?_
  refine WL.q (Y.assign (.pl rfl)) rfl ?_
  refine WL.q (Y.assign (.pl rfl)) rfl ?_
  refine WL.next hQ2 (.cons (i := 1) rfl (.cons (i := 9) rfl (.cons (i := 11) rfl (.nil)))) ?_
  refine W.seq fun K3 hK3 => ?_
  -- region 2: regular.go:37
  refine W.seqR fun Q4 hQ4 => ?_
  obtain ⟨r18, hr18, hF⟩ := bnd hF
  refine WL.step (WO.callP isGo46 (.nil) rfl (fun wz hw => alibkeep_regularLives_ok (hr18) wz ) ?_)
  refine WL.q (Y.not (.pl rfl)) rfl ?_
  refine WL.q (Y.move (.pl rfl)) rfl ?_
  refine WL.g (.pl rfl rfl rfl) (fun hg => Y.move (.pl rfl)) rfl ?_
  refine WL.g (.pl rfl rfl rfl) (fun hg => Y.neq (.gd (hg) rfl) (.pl rfl)) rfl ?_
  refine WL.q (Y.or (.pl rfl) (fun h2 => .gd (eqf h2) rfl)) rfl ?_
  refine WL.next hQ4 (.cons (i := 1) rfl (.cons (i := 9) rfl (.cons (i := 28) rfl (.nil)))) ?_
  refine W.cond (.pl rfl) (fun hC5 => ?_) (fun hC5 => ?_)
  · replace hF := cpos hC5 hF
    -- region 3: regular.go:38
    refine W.seqR fun Q6 hQ6 => ?_
    obtain ⟨r19, hr19, hF⟩ := bnd hF
    refine WL.step (WO.callP isGo46 (.nil) rfl (fun wz hw => alibkeep_regularLives_ok (hr19) wz ) ?_)
    refine WL.q (Y.assign (.pl rfl)) rfl ?_
    refine WL.next hQ6 (.cons (i := 8) rfl (.nil)) ?_
    obtain rfl := Option.some.inj hF
    refine W.retV (fn := Try.f17) (vs := [.bool r19]) Try.results17 ⟨.tmp rfl, trivial⟩ (fun _ _ h => h) (fun wz hw => ?_)
    exact hR _ _ ⟨rfl, (hw.pick [] rfl)⟩
  · replace hF := cneg hC5 hF
    refine W.skip ?_
    refine W.go hK3 (.cons (i := 1) rfl (.cons (i := 9) rfl (.nil))) ?_
    -- region 4: regular.go:40
    refine W.seqR fun Q7 hQ7 => ?_
    refine WL.q (Y.move (.pl rfl)) rfl ?_
    obtain ⟨r20, hr20, hF⟩ := bnd hF
    refine WL.step (WO.callP isGo45 (.cons (.pl rfl) (.nil)) rfl (fun wz hw => regular_Check_ok (hr20) wz (SlIn.ofRow lenEvent hw (i := 0) rfl)) ?_)
    refine WL.q (Y.move (.pl rfl)) rfl ?_
    refine WL.q (Y.extract (.pl rfl) rfl) rfl ?_
    refine WL.q (Y.extract (.pl rfl) rfl) rfl ?_
    refine WL.q (Y.assign (.pl rfl)) rfl ?_
    refine WL.q (Y.assign (.pl rfl)) rfl ?_
    refine WL.next hQ7 (.cons (i := 1) rfl (.cons (i := 12) rfl (.cons (i := 13) rfl (.nil)))) ?_
    -- region 5: regular.go:41
    refine W.seqR fun Q8 hQ8 => ?_
    refine WL.q (Y.move (.pl rfl)) rfl ?_
    refine WL.q (Y.eql (.pl rfl) (.pl rfl)) rfl ?_
    refine WL.q (Y.move (.pl rfl)) rfl ?_
    refine WL.g (.pl rfl rfl rfl) (fun hg => Y.move (.pl rfl)) rfl ?_
    refine WL.g (.pl rfl rfl rfl) (fun hg => Y.eql (.gd (hg) rfl) (.pl rfl)) rfl ?_
    refine WL.g (.pl rfl rfl rfl) (fun hg => Y.move (.gd (hg) rfl)) rfl ?_
    refine WL.g (.gd rfl rfl rfl) (fun hg => Y.move (.pl rfl)) rfl ?_
    refine WL.g (.gd rfl rfl rfl) (fun hg => Y.geq (.gd (hg) rfl) (.pl rfl)) rfl ?_
    refine WL.g (.pl rfl rfl rfl) (fun hg => Y.and (.gd (hg) rfl) (fun h2 => .gd (band hg (eqt h2)) rfl)) rfl ?_
    refine WL.g (.pl rfl rfl rfl) (fun hg => Y.move (.gd (hg) rfl)) rfl ?_
    refine WL.g (.gd rfl rfl rfl) (fun hg => Y.move (.pl rfl)) rfl ?_
    refine WL.g (.gd rfl rfl rfl) (fun hg => Y.move (.gd (hg) rfl)) rfl ?_
    refine WL.g (.gd rfl rfl rfl) (fun hg => Y.move (.pl rfl)) rfl ?_
    refine WL.g (.gd rfl rfl rfl) (fun hg => Y.eql (.gd (hg) rfl) (.pl rfl)) rfl ?_
    refine WL.g (.gd rfl rfl rfl) (fun hg => Y.or (.gd (hg) rfl) (fun h2 => .gd (band hg (eqf h2)) rfl)) rfl ?_
    refine WL.g (.pl rfl rfl rfl) (fun hg => Y.and (.gd (hg) rfl) (fun h2 => .gd (band hg (eqt h2)) rfl)) rfl ?_
    refine WL.q (Y.or (.pl rfl) (fun h2 => .gd (eqf h2) rfl)) rfl ?_
    refine WL.q (Y.assign (.pl rfl)) rfl ?_
    refine WL.next hQ8 (.cons (i := 8) rfl (.nil)) ?_
    obtain rfl := Option.some.inj hF
    refine W.retV (fn := Try.f17) (vs := [.bool ((decide (r20.2 = 6)) || (((decide (r20.2 = 0)) && (decide (2 ≤ r20.1))) && (fast2 || (decide (r20.1 = 3)))))]) Try.results17 ⟨.tmp rfl, trivial⟩ (fun _ _ h => h) (fun wz hw => ?_)
    exact hR _ _ ⟨rfl, (hw.pick [] rfl)⟩

end Go.Proofs.Yteklmleiiiodfaa
