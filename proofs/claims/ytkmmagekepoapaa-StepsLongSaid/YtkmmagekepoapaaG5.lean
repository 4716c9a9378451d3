/- StepsLong: what the code computes, and the walk. -/
import Derived.Test.YtkmmagekepoapaaG4
set_option linter.unusedVariables false
set_option linter.unusedSimpArgs false
set_option linter.unusedSectionVars false
set_option maxRecDepth 100000
namespace Go.Proofs.Ytkmmagekepoapaa
open Go.RowKit
theorem isGo11 : IsGo Try.prog 11 := ⟨_, Try.func11, by kernel_rfl, rfl⟩
theorem isGo28 : IsGo Try.prog 28 := ⟨_, Try.func28, by kernel_rfl, rfl⟩
theorem isGo29 : IsGo Try.prog 29 := ⟨_, Try.func29, by kernel_rfl, rfl⟩
def alibkeep_StepsLong (N : Nat) (people1 : (List (List Ask))) (turns6 : (List Int)) : Option Bool :=
  bd (steps_Play N 1 people1 turns6) fun (r11 : ((List Event) × Int × Int)) =>
  bd (α := (Unit ⊕ Bool)) (cond (decide (r11.2.2 = 0))
      (bd (tickets_Check N r11.1) fun (r14 : (Bool × Int × Int × Int × Int)) =>
      cond ((!(decide (r14.2.2.2.2 = 0))) || (!r14.1))
        (some (.inr false))
        (some (.inl ())))
      (some (.inl ()))) <|
  Sum.elim (fun _ => 
    bd (steps_Play N 4 people1 turns6) fun (r16 : ((List Event) × Int × Int)) =>
    bd (alibkeep_stepsLives N) fun (r19 : Bool) =>
    cond ((!r19) || (!(decide (r16.2.2 = 0))))
      (bd (alibkeep_stepsLives N) fun (r20 : Bool) =>
      some r20)
      (bd (rows_Check N r16.1) fun (r21 : (Bool × Int × Int × Int × Int)) =>
      some ((decide (r21.2.2.2.2 = 6)) || ((decide (r21.2.2.2.2 = 0)) && r21.1)))) (fun p => some p)

theorem alibkeep_StepsLong_ok {N : Nat} {people1 : (List (List Ask))} {turns6 : (List Int)} {A2 : Option Addr} {c3 : Nat} {hd4 : List Hd} {res : Bool} (hF : alibkeep_StepsLong N people1 turns6 = some res) (w : World) (hs5 : SlNN encAsk 3 w A2 c3 hd4 people1) {v10 : Value} (hs9 : SlIn (eI .i64) 1 w v10 turns6) :
    Pure Try.prog 9 [.slice A2 (people1).length c3, v10] w (.bool res) := by
  obtain ⟨A7, c8, rfl, hcc8, hs9⟩ := hs9.form
  refine W.enter (n := 66) Try.func9 rfl rfl Sub.refl (by simp) (St.start w) fun R hR => ?_
  unfold alibkeep_StepsLong at hF
  refine W.seqR fun Q1 hQ1 => ?_
  refine WL.q (Y.assign (.pl rfl)) rfl ?_
  refine WL.next hQ1 (.cons (i := 0) rfl (.cons (i := 1) rfl (.nil))) ?_
  refine W.seqR fun Q2 hQ2 => ?_
  refine WL.q (Y.move (.pl rfl)) rfl ?_
  refine WL.q (Y.move (.pl rfl)) rfl ?_
  obtain ⟨r11, hr11, hF⟩ := bnd hF
  refine WL.step (WO.callM isGo10 (.cons (.pl rfl) (.cons (.pl rfl) (.cons (.pl rfl) (.nil)))) rfl (fun wz hw => steps_Play_ok (hr11) wz (hs5.mono hw) (hs9.mono hw)) ?_)
  rintro ⟨A12, c13⟩ -
  refine WL.q (Y.move (.pl rfl)) rfl ?_
  refine WL.q (Y.extract (.pl rfl) rfl) rfl ?_
  refine WL.q (Y.extract (.pl rfl) rfl) rfl ?_
  refine WL.q (Y.extract (.pl rfl) rfl) rfl ?_
  refine WL.q (Y.assign (.pl rfl)) rfl ?_
  refine WL.q (Y.assign (.pl rfl)) rfl ?_
  refine WL.q (Y.assign (.pl rfl)) rfl ?_
  refine WL.next hQ2 (.cons (i := 0) rfl (.cons (i := 1) rfl (.cons (i := 5) rfl (.cons (i := 7) rfl (.nil))))) ?_
  obtain ⟨o3, hF3, hF⟩ := bnd hF
  refine W.join0 (Em := []) (M := []) (I := (.inl ()) = o3) (.cons (i := 0) rfl (.cons (i := 1) rfl (.nil))) (fun K4 hK4 => ?_) ?_
  · -- up to
    refine W.seqR fun Q5 hQ5 => ?_
    refine WL.q (Y.move (.pl rfl)) rfl ?_
    refine WL.q (Y.eql (.pl rfl) (.pl rfl)) rfl ?_
    refine WL.next hQ5 (.cons (i := 0) rfl (.cons (i := 1) rfl (.cons (i := 5) rfl (.cons (i := 24) rfl (.nil))))) ?_
    refine W.cond (.pl rfl) (fun hC6 => ?_) (fun hC6 => ?_)
    · replace hF3 := cpos hC6 hF3
      refine W.seqR fun Q7 hQ7 => ?_
      refine WL.q (Y.move (.pl rfl)) rfl ?_
      obtain ⟨r14, hr14, hF3⟩ := bnd hF3
      refine WL.step (WO.callP isGo28 (.cons (.pl rfl) (.nil)) rfl (fun wz hw => tickets_Check_ok (hr14) wz (SlIn.ofRow lenEvent hw (i := 0) rfl)) ?_)
      refine WL.q (Y.move (.pl rfl)) rfl ?_
      refine WL.q (Y.extract (.pl rfl) rfl) rfl ?_
      refine WL.q (Y.extract (.pl rfl) rfl) rfl ?_
      refine WL.q (Y.extract (.pl rfl) rfl) rfl ?_
      refine WL.step (WO.alloc (cs := (encBad (Bad.mk 0 0 0)).toArray) zero66 rfl rfl fun b15 => ?_)
      refine WL.q (Y.assign (.pl rfl)) rfl ?_
      refine WL.step (WO.storeBA (ds := (encBad (Bad.mk r14.2.1 r14.2.2.1 r14.2.2.2.1))) (cs' := (encBad (Bad.mk r14.2.1 r14.2.2.1 r14.2.2.2.1))) cells66 (.pl rfl) (.pl rfl) rfl (oneBad _) (i := 0) rfl (lel (o := 0) (l := 3) (m := 3) (by decide) rfl rfl) (putW rfl) ?_)
      refine WL.q (Y.assign (.pl rfl)) rfl ?_
      refine WL.next hQ7 (.cons (i := 0) rfl (.cons (i := 1) rfl (.cons (i := 8) rfl (.cons (i := 10) rfl (.nil))))) ?_
      refine W.seqR fun Q8 hQ8 => ?_
      refine WL.q (Y.move (.pl rfl)) rfl ?_
      refine WL.q (Y.neq (.pl rfl) (.pl rfl)) rfl ?_
      refine WL.q (Y.move (.pl rfl)) rfl ?_
      refine WL.g (.pl rfl rfl rfl) (fun hg => Y.move (.pl rfl)) rfl ?_
      refine WL.g (.pl rfl rfl rfl) (fun hg => Y.not (.gd (hg) rfl)) rfl ?_
      refine WL.q (Y.or (.pl rfl) (fun h2 => .gd (eqf h2) rfl)) rfl ?_
      refine WL.next hQ8 (.cons (i := 0) rfl (.cons (i := 1) rfl (.cons (i := 36) rfl (.nil)))) ?_
      refine W.cond (.pl rfl) (fun hC9 => ?_) (fun hC9 => ?_)
      · replace hF3 := cpos hC9 hF3
        refine W.seqR fun Q10 hQ10 => ?_
        refine WL.q (Y.assign (.pl rfl)) rfl ?_
        refine WL.next hQ10 (.cons (i := 4) rfl (.nil)) ?_
        obtain rfl := Option.some.inj hF3
        obtain rfl := Option.some.inj hF
        refine W.retV (fn := Try.f9) (vs := [.bool false]) Try.results9 ⟨.tmp rfl, trivial⟩ (fun _ _ h => h) (fun wz hw => ?_)
        exact hR _ _ ⟨rfl, (hw.pick [] rfl)⟩
      · replace hF3 := cneg hC9 hF3
        refine W.skip ?_
        exact W.joinAt0 hK4  (Option.some.inj hF3) (.nil) (.cons (i := 0) rfl (.cons (i := 1) rfl (.nil))) (fun wz hw => hw.pick [] rfl)
    · replace hF3 := cneg hC6 hF3
      refine W.skip ?_
      exact W.joinAt0 hK4  (Option.some.inj hF3) (.nil) (.cons (i := 0) rfl (.cons (i := 1) rfl (.nil))) (fun wz hw => hw.pick [] rfl)
  · -- behind
    rintro  rfl
    refine W.seqR fun Q11 hQ11 => ?_
    refine WL.q (Y.move (.pl rfl)) rfl ?_
    refine WL.q (Y.move (.pl rfl)) rfl ?_
    obtain ⟨r16, hr16, hF⟩ := bnd hF
    refine WL.step (WO.callM isGo10 (.cons (.pl rfl) (.cons (.pl rfl) (.cons (.pl rfl) (.nil)))) rfl (fun wz hw => steps_Play_ok (hr16) wz (hs5.mono hw) (hs9.mono hw)) ?_)
    rintro ⟨A17, c18⟩ -
    refine WL.q (Y.move (.pl rfl)) rfl ?_
    refine WL.q (Y.extract (.pl rfl) rfl) rfl ?_
    refine WL.q (Y.extract (.pl rfl) rfl) rfl ?_
    refine WL.q (Y.extract (.pl rfl) rfl) rfl ?_
    refine WL.q (Y.assign (.pl rfl)) rfl ?_
    refine WL.q (Y.assign (.pl rfl)) rfl ?_
    refine WL.q (Y.assign (.pl rfl)) rfl ?_
    refine WL.next hQ11 (.cons (i := 7) rfl (.cons (i := 11) rfl (.nil))) ?_
    refine W.seq fun K12 hK12 => ?_
    refine W.seqR fun Q13 hQ13 => ?_
    obtain ⟨r19, hr19, hF⟩ := bnd hF
    refine WL.step (WO.callP isGo11 (.nil) rfl (fun wz hw => alibkeep_stepsLives_ok (hr19) wz ) ?_)
    refine WL.q (Y.not (.pl rfl)) rfl ?_
    refine WL.q (Y.move (.pl rfl)) rfl ?_
    refine WL.g (.pl rfl rfl rfl) (fun hg => Y.move (.pl rfl)) rfl ?_
    refine WL.g (.pl rfl rfl rfl) (fun hg => Y.neq (.gd (hg) rfl) (.pl rfl)) rfl ?_
    refine WL.q (Y.or (.pl rfl) (fun h2 => .gd (eqf h2) rfl)) rfl ?_
    refine WL.next hQ13 (.cons (i := 11) rfl (.cons (i := 49) rfl (.nil))) ?_
    refine W.cond (.pl rfl) (fun hC14 => ?_) (fun hC14 => ?_)
    · replace hF := cpos hC14 hF
      refine W.seqR fun Q15 hQ15 => ?_
      obtain ⟨r20, hr20, hF⟩ := bnd hF
      refine WL.step (WO.callP isGo11 (.nil) rfl (fun wz hw => alibkeep_stepsLives_ok (hr20) wz ) ?_)
      refine WL.q (Y.assign (.pl rfl)) rfl ?_
      refine WL.next hQ15 (.cons (i := 4) rfl (.nil)) ?_
      obtain rfl := Option.some.inj hF
      refine W.retV (fn := Try.f9) (vs := [.bool r20]) Try.results9 ⟨.tmp rfl, trivial⟩ (fun _ _ h => h) (fun wz hw => ?_)
      exact hR _ _ ⟨rfl, (hw.pick [] rfl)⟩
    · replace hF := cneg hC14 hF
      refine W.skip ?_
      refine W.go hK12 (.cons (i := 11) rfl (.nil)) ?_
      refine W.seqR fun Q16 hQ16 => ?_
      refine WL.q (Y.move (.pl rfl)) rfl ?_
      obtain ⟨r21, hr21, hF⟩ := bnd hF
      refine WL.step (WO.callP isGo29 (.cons (.pl rfl) (.nil)) rfl (fun wz hw => rows_Check_ok (hr21) wz (SlIn.ofRow lenEvent hw (i := 0) rfl)) ?_)
      refine WL.q (Y.move (.pl rfl)) rfl ?_
      refine WL.q (Y.extract (.pl rfl) rfl) rfl ?_
      refine WL.q (Y.extract (.pl rfl) rfl) rfl ?_
      refine WL.q (Y.extract (.pl rfl) rfl) rfl ?_
      refine WL.step (WO.alloc (cs := (encBad (Bad.mk 0 0 0)).toArray) zero66 rfl rfl fun b22 => ?_)
      refine WL.q (Y.assign (.pl rfl)) rfl ?_
      refine WL.step (WO.storeBA (ds := (encBad (Bad.mk r21.2.1 r21.2.2.1 r21.2.2.2.1))) (cs' := (encBad (Bad.mk r21.2.1 r21.2.2.1 r21.2.2.2.1))) cells66 (.pl rfl) (.pl rfl) rfl (oneBad _) (i := 0) rfl (lel (o := 0) (l := 3) (m := 3) (by decide) rfl rfl) (putW rfl) ?_)
      refine WL.q (Y.assign (.pl rfl)) rfl ?_
      refine WL.next hQ16 (.cons (i := 13) rfl (.cons (i := 15) rfl (.nil))) ?_
      refine W.seqR fun Q17 hQ17 => ?_
      refine WL.q (Y.move (.pl rfl)) rfl ?_
      refine WL.q (Y.eql (.pl rfl) (.pl rfl)) rfl ?_
      refine WL.q (Y.move (.pl rfl)) rfl ?_
      refine WL.g (.pl rfl rfl rfl) (fun hg => Y.move (.pl rfl)) rfl ?_
      refine WL.g (.pl rfl rfl rfl) (fun hg => Y.eql (.gd (hg) rfl) (.pl rfl)) rfl ?_
      refine WL.g (.pl rfl rfl rfl) (fun hg => Y.move (.gd (hg) rfl)) rfl ?_
      refine WL.g (.gd rfl rfl rfl) (fun hg => Y.move (.pl rfl)) rfl ?_
      refine WL.g (.pl rfl rfl rfl) (fun hg => Y.and (.gd (hg) rfl) (fun h2 => .gd (band hg (eqt h2)) rfl)) rfl ?_
      refine WL.q (Y.or (.pl rfl) (fun h2 => .gd (eqf h2) rfl)) rfl ?_
      refine WL.q (Y.assign (.pl rfl)) rfl ?_
      refine WL.next hQ17 (.cons (i := 4) rfl (.nil)) ?_
      obtain rfl := Option.some.inj hF
      refine W.retV (fn := Try.f9) (vs := [.bool ((decide (r21.2.2.2.2 = 6)) || ((decide (r21.2.2.2.2 = 0)) && r21.1))]) Try.results9 ⟨.tmp rfl, trivial⟩ (fun _ _ h => h) (fun wz hw => ?_)
      exact hR _ _ ⟨rfl, (hw.pick [] rfl)⟩

end Go.Proofs.Ytkmmagekepoapaa
