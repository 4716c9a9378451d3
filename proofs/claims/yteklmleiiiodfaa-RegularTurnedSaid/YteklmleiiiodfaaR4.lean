/- RegularTurned: what the code computes, and the walk. -/
import Derived.Test.YteklmleiiiodfaaR3
set_option linter.unusedVariables false
set_option linter.unusedSimpArgs false
set_option linter.unusedSectionVars false
set_option maxRecDepth 100000
namespace Go.Proofs.Yteklmleiiiodfaa
open Go.RowKit
theorem isGo31 : IsGo Try.prog 31 := ⟨_, Try.func31, by kernel_rfl, rfl⟩
theorem isGo46 : IsGo Try.prog 46 := ⟨_, Try.func46, by kernel_rfl, rfl⟩
def alibkeep_RegularTurned (N : Nat) (l1 : (List Event)) : Option Bool :=
  bd (regular_Turned N l1) fun (r6 : (Int × Int × Bool × Int)) =>
  bd (history_Calls N ([1] : List Int) l1) fun (r8 : ((List Call) × Int × Int)) =>
  bd (α := Bool) (bd (alibkeep_regularLives N) fun (r12 : Bool) =>
    cond ((!r12) == false)
      (bd (alibkeep_ok N ([r6.2.2.2, r8.2.2] : List Int)) fun (r14 : Bool) =>
      some (((!r12) || (!r14)) || (!r6.2.2.1)))
      (some (((!r12) || false) || (!r6.2.2.1)))) <|
  fun (v11 : Bool) => 
    cond v11
      (bd (alibkeep_regularLives N) fun (r15 : Bool) =>
      some ((r15 && (decide (r6.1 = 0))) && (decide (r6.2.1 = 0))))
      (bd ((cond (((((decide (r6.1 < 0)) || (decide (r6.2.1 < 0))) || (decide (((r8.1).length : Int) ≤ r6.1))) || (decide (((r8.1).length : Int) ≤ r6.2.1))) == false) (ix r8.1 r6.1) (some Call.z))) fun (x16 : Call) =>
      bd ((cond ((((((decide (r6.1 < 0)) || (decide (r6.2.1 < 0))) || (decide (((r8.1).length : Int) ≤ r6.1))) || (decide (((r8.1).length : Int) ≤ r6.2.1))) || (!(decide (x16.kind = 2)))) == false) (ix r8.1 r6.2.1) (some Call.z))) fun (x17 : Call) =>
      bd ((cond (((((((decide (r6.1 < 0)) || (decide (r6.2.1 < 0))) || (decide (((r8.1).length : Int) ≤ r6.1))) || (decide (((r8.1).length : Int) ≤ r6.2.1))) || (!(decide (x16.kind = 2)))) || (!(decide (x17.kind = 2)))) == false) (ix r8.1 r6.1) (some Call.z))) fun (x18 : Call) =>
      bd ((cond ((((((((decide (r6.1 < 0)) || (decide (r6.2.1 < 0))) || (decide (((r8.1).length : Int) ≤ r6.1))) || (decide (((r8.1).length : Int) ≤ r6.2.1))) || (!(decide (x16.kind = 2)))) || (!(decide (x17.kind = 2)))) || (decide (x18.to_ = (-1)))) == false) (ix r8.1 r6.1) (some Call.z))) fun (x19 : Call) =>
      bd ((cond ((((((((decide (r6.1 < 0)) || (decide (r6.2.1 < 0))) || (decide (((r8.1).length : Int) ≤ r6.1))) || (decide (((r8.1).length : Int) ≤ r6.2.1))) || (!(decide (x16.kind = 2)))) || (!(decide (x17.kind = 2)))) || (decide (x18.to_ = (-1)))) == false) (ix r8.1 r6.2.1) (some Call.z))) fun (x20 : Call) =>
      bd ((cond (((((((((decide (r6.1 < 0)) || (decide (r6.2.1 < 0))) || (decide (((r8.1).length : Int) ≤ r6.1))) || (decide (((r8.1).length : Int) ≤ r6.2.1))) || (!(decide (x16.kind = 2)))) || (!(decide (x17.kind = 2)))) || (decide (x18.to_ = (-1)))) || (decide (x20.from_ ≤ x19.to_))) == false) (ix r8.1 r6.1) (some Call.z))) fun (x21 : Call) =>
      bd ((cond (((((((((decide (r6.1 < 0)) || (decide (r6.2.1 < 0))) || (decide (((r8.1).length : Int) ≤ r6.1))) || (decide (((r8.1).length : Int) ≤ r6.2.1))) || (!(decide (x16.kind = 2)))) || (!(decide (x17.kind = 2)))) || (decide (x18.to_ = (-1)))) || (decide (x20.from_ ≤ x19.to_))) == false) (ix r8.1 r6.2.1) (some Call.z))) fun (x22 : Call) =>
      cond (((((((((decide (r6.1 < 0)) || (decide (r6.2.1 < 0))) || (decide (((r8.1).length : Int) ≤ r6.1))) || (decide (((r8.1).length : Int) ≤ r6.2.1))) || (!(decide (x16.kind = 2)))) || (!(decide (x17.kind = 2)))) || (decide (x18.to_ = (-1)))) || (decide (x20.from_ ≤ x19.to_))) || (decide (x21.res = x22.res)))
        (some false)
        (bd (search_Find N ([1] : List Int) l1) fun (r24 : ((List Step) × Bool × Int)) =>
        some ((!(decide (r24.2.2 = 0))) || (!r24.2.1))))

theorem alibkeep_RegularTurned_ok {N : Nat} {l1 : (List Event)} {res : Bool} (hF : alibkeep_RegularTurned N l1 = some res) (w : World) {v5 : Value} (hs4 : SlIn encEvent 4 w v5 l1) :
    Pure Try.prog 18 [v5] w (.bool res) := by
  obtain ⟨A2, c3, rfl, hcc3, hs4⟩ := hs4.form
  refine W.enter (n := 130) Try.func18 rfl rfl Sub.refl (by simp) (St.start w) fun R hR => ?_
  unfold alibkeep_RegularTurned at hF
  -- region 0: regular.go:69
  refine W.seqR fun Q1 hQ1 => ?_
  refine WL.q (Y.assign (.pl rfl)) rfl ?_
  refine WL.next hQ1 (.cons (i := 0) rfl (.nil)) ?_
  -- region 1: regular.go:70
  refine W.seqR fun Q2 hQ2 => ?_
  refine WL.q (Y.move (.pl rfl)) rfl ?_
  obtain ⟨r6, hr6, hF⟩ := bnd hF
  refine WL.step (WO.callP isGo49 (.cons (.pl rfl) (.nil)) rfl (fun wz hw => regular_Turned_ok (hr6) wz (hs4.mono hw)) ?_)
  refine WL.q (Y.move (.pl rfl)) rfl ?_
  refine WL.q (Y.extract (.pl rfl) rfl) rfl ?_
  refine WL.q (Y.extract (.pl rfl) rfl) rfl ?_
  refine WL.q (Y.extract (.pl rfl) rfl) rfl ?_
  refine WL.q (Y.extract (.pl rfl) rfl) rfl ?_
  refine WL.q (Y.assign (.pl rfl)) rfl ?_
  refine WL.q (Y.assign (.pl rfl)) rfl ?_
  refine WL.q (Y.assign (.pl rfl)) rfl ?_
  refine WL.q (Y.assign (.pl rfl)) rfl ?_
  refine WL.next hQ2 (.cons (i := 0) rfl (.cons (i := 3) rfl (.cons (i := 4) rfl (.cons (i := 5) rfl (.cons (i := 6) rfl (.nil)))))) ?_
  -- region 2: regular.go:71
  refine W.seqR fun Q3 hQ3 => ?_
  refine WL.step (WO.bsliceC (enc := (eI .i64)) (ys := ([1] : List Int)) Try.underlying47 bz3 (.cons (.pl rfl) (.nil)) rfl (fun _ => rfl) rfl rfl (by decide) (by decide) rfl fun b7 => ?_)
  refine WL.q (Y.move (.pl rfl)) rfl ?_
  obtain ⟨r8, hr8, hF⟩ := bnd hF
  refine WL.step (WO.callM isGo27 (.cons (.pl rfl) (.cons (.pl rfl) (.nil))) rfl (fun wz hw => history_Calls_ok (hr8) wz (SlIn.ofRow (fun _ => rfl) hw (i := 0) rfl) (hs4.mono hw)) ?_)
  rintro ⟨A9, c10⟩ -
  refine WL.q (Y.move (.pl rfl)) rfl ?_
  refine WL.q (Y.extract (.pl rfl) rfl) rfl ?_
  refine WL.q (Y.extract (.pl rfl) rfl) rfl ?_
  refine WL.q (Y.extract (.pl rfl) rfl) rfl ?_
  refine WL.q (Y.assign (.pl rfl)) rfl ?_
  refine WL.q (Y.assign (.pl rfl)) rfl ?_
  refine WL.q (Y.assign (.pl rfl)) rfl ?_
  refine WL.next hQ3 (.cons (i := 0) rfl (.cons (i := 3) rfl (.cons (i := 4) rfl (.cons (i := 5) rfl (.cons (i := 6) rfl (.cons (i := 7) rfl (.cons (i := 9) rfl (.nil)))))))) ?_
  refine W.seq fun K4 hK4 => ?_
  obtain ⟨o5, hF5, hF⟩ := bnd hF
  refine W.join1 (Em := fun (v11 : Bool) => [(39, .bool v11)]) (M := fun v11 => [cR encCall 7 A9 c10 51 r8.1]) (I := fun v11 => v11 = o5) (.cons (i := 0) rfl (.cons (i := 3) rfl (.cons (i := 4) rfl (.cons (i := 7) rfl (.nil))))) (fun K6 hK6 => ?_) ?_
  · -- up to
    -- region 3: regular.go:72
    refine W.reg ?_
    obtain ⟨r12, hr12, hF5⟩ := bnd hF5
    refine WL.step (WO.callP isGo46 (.nil) rfl (fun wz hw => alibkeep_regularLives_ok (hr12) wz ) ?_)
    refine WL.q (Y.not (.pl rfl)) rfl ?_
    refine WL.q (Y.move (.pl rfl)) rfl ?_
    refine WL.g (.pl rfl rfl rfl) (fun hg => Y.move (.pl rfl)) rfl ?_
    refine WL.g (.pl rfl rfl rfl) (fun hg => Y.move (.pl rfl)) rfl ?_
    refine bsplit ((!r12) == false) (fun hg7 => ?_) (fun hg7 => ?_)
    · replace hF5 := cpos hg7 hF5
      refine WL.gd (.pl rfl rfl rfl) (hg7) ?_
      refine WL.step (WO.bsliceC (enc := (eI .i64)) (ys := ([r6.2.2.2, r8.2.2] : List Int)) Try.underlying108 bz28 (.cons (.gd (hg7) rfl) (.cons (.gd (hg7) rfl) (.nil))) rfl (fun _ => rfl) rfl rfl (by decide) (by decide) rfl fun b13 => ?_)
      refine WL.gd (.pl rfl rfl rfl) (hg7) ?_
      obtain ⟨r14, hr14, hF5⟩ := bnd hF5
      refine WL.step (WO.callP isGo28 (.cons (.pl rfl) (.nil)) rfl (fun wz hw => alibkeep_ok_ok (hr14) wz (SlIn.ofRow (fun _ => rfl) hw (i := 0) rfl)) ?_)
      refine WL.gd (.pl rfl rfl rfl) (hg7) ?_
      refine WL.q (Y.not (.pl rfl)) rfl ?_
      refine WL.q (Y.or (.pl rfl) (fun _ => .pl rfl)) rfl ?_
      refine WL.q (Y.move (.pl rfl)) rfl ?_
      refine WL.g (.pl rfl rfl rfl) (fun hg => Y.move (.pl rfl)) rfl ?_
      refine WL.g (.pl rfl rfl rfl) (fun hg => Y.not (.gd (hg) rfl)) rfl ?_
      refine WL.q (Y.or (.pl rfl) (fun h2 => .gd (eqf h2) rfl)) rfl ?_
      refine WL.nil ?_
      exact W.joinAt1 hK6 (((!r12) || (!r14)) || (!r6.2.2.1)) (Option.some.inj hF5) (.cons rfl (.nil)) (.cons (i := 0) rfl (.cons (i := 3) rfl (.cons (i := 4) rfl (.cons (i := 7) rfl (.nil))))) (fun wz hw => hw.pick [1] rfl)
    · replace hF5 := cneg hg7 hF5
      refine WL.gn (.pl rfl rfl rfl) hg7 rfl ?_
      refine WL.gn (.pl rfl rfl rfl) hg7 rfl ?_
      refine WL.gn (.pl rfl rfl rfl) hg7 rfl ?_
      refine WL.q (Y.or (b := false) (.pl rfl) (fun h2 => (gabsO hg7 h2).elim)) rfl ?_
      refine WL.q (Y.move (.pl rfl)) rfl ?_
      refine WL.g (.pl rfl rfl rfl) (fun hg => Y.move (.pl rfl)) rfl ?_
      refine WL.g (.pl rfl rfl rfl) (fun hg => Y.not (.gd (hg) rfl)) rfl ?_
      refine WL.q (Y.or (.pl rfl) (fun h2 => .gd (eqf h2) rfl)) rfl ?_
      refine WL.nil ?_
      exact W.joinAt1 hK6 (((!r12) || false) || (!r6.2.2.1)) (Option.some.inj hF5) (.cons rfl (.nil)) (.cons (i := 0) rfl (.cons (i := 3) rfl (.cons (i := 4) rfl (.cons (i := 7) rfl (.nil))))) (fun wz hw => hw.pick [0] rfl)
  · -- behind
    rintro v11 rfl
    refine W.cond (.pl rfl) (fun hC8 => ?_) (fun hC8 => ?_)
    · replace hF := cpos hC8 hF
      -- region 4: regular.go:73
      refine W.seqR fun Q9 hQ9 => ?_
      obtain ⟨r15, hr15, hF⟩ := bnd hF
      refine WL.step (WO.callP isGo46 (.nil) rfl (fun wz hw => alibkeep_regularLives_ok (hr15) wz ) ?_)
      refine WL.q (Y.move (.pl rfl)) rfl ?_
      refine WL.g (.pl rfl rfl rfl) (fun hg => Y.move (.pl rfl)) rfl ?_
      refine WL.g (.pl rfl rfl rfl) (fun hg => Y.eql (.gd (hg) rfl) (.pl rfl)) rfl ?_
      refine WL.q (Y.and (.pl rfl) (fun h2 => .gd (eqt h2) rfl)) rfl ?_
      refine WL.q (Y.move (.pl rfl)) rfl ?_
      refine WL.g (.pl rfl rfl rfl) (fun hg => Y.move (.pl rfl)) rfl ?_
      refine WL.g (.pl rfl rfl rfl) (fun hg => Y.eql (.gd (hg) rfl) (.pl rfl)) rfl ?_
      refine WL.q (Y.and (.pl rfl) (fun h2 => .gd (eqt h2) rfl)) rfl ?_
      refine WL.q (Y.assign (.pl rfl)) rfl ?_
      refine WL.next hQ9 (.cons (i := 2) rfl (.nil)) ?_
      obtain rfl := Option.some.inj hF
      refine W.retV (fn := Try.f18) (vs := [.bool ((r15 && (decide (r6.1 = 0))) && (decide (r6.2.1 = 0)))]) Try.results18 ⟨.tmp rfl, trivial⟩ (fun _ _ h => h) (fun wz hw => ?_)
      exact hR _ _ ⟨rfl, (hw.pick [] rfl)⟩
    · replace hF := cneg hC8 hF
      refine W.skip ?_
      refine W.go hK4 (.cons (i := 0) rfl (.cons (i := 3) rfl (.cons (i := 4) rfl (.cons (i := 7) rfl (.nil))))) ?_
      refine W.seq fun K10 hK10 => ?_
      -- region 5: regular.go:75
      refine W.seqD (by kernel_rfl) (by kernel_rfl) fun R11 hR11 => ?_
      refine WD.q (Y.move (.pl rfl)) rfl ?_
      refine WD.q (Y.lss (.pl rfl) (.pl rfl)) rfl ?_
      refine WD.q (Y.move (.pl rfl)) rfl ?_
      refine WD.g (.pl rfl rfl rfl) (fun hg => Y.move (.pl rfl)) rfl ?_
      refine WD.g (.pl rfl rfl rfl) (fun hg => Y.lss (.gd (hg) rfl) (.pl rfl)) rfl ?_
      refine WD.q (Y.or (.pl rfl) (fun h2 => .gd (eqf h2) rfl)) rfl ?_
      refine WD.q (Y.move (.pl rfl)) rfl ?_
      refine WD.g (.pl rfl rfl rfl) (fun hg => Y.move (.pl rfl)) rfl ?_
      refine WD.g (.pl rfl rfl rfl) (fun hg => Y.move (.pl rfl)) rfl ?_
      refine WD.g (.pl rfl rfl rfl) (fun hg => Y.len Try.underlying44 (.gd (hg) rfl)) rfl ?_
      refine WD.g (.pl rfl rfl rfl) (fun hg => Y.geq (.gd (hg) rfl) (.gd (hg) rfl)) rfl ?_
      refine WD.q (Y.or (.pl rfl) (fun h2 => .gd (eqf h2) rfl)) rfl ?_
      refine WD.q (Y.move (.pl rfl)) rfl ?_
      refine WD.g (.pl rfl rfl rfl) (fun hg => Y.move (.pl rfl)) rfl ?_
      refine WD.g (.pl rfl rfl rfl) (fun hg => Y.move (.pl rfl)) rfl ?_
      refine WD.g (.pl rfl rfl rfl) (fun hg => Y.len Try.underlying44 (.gd (hg) rfl)) rfl ?_
      refine WD.g (.pl rfl rfl rfl) (fun hg => Y.geq (.gd (hg) rfl) (.gd (hg) rfl)) rfl ?_
      refine WD.q (Y.or (.pl rfl) (fun h2 => .gd (eqf h2) rfl)) rfl ?_
      refine WD.q (Y.move (.pl rfl)) rfl ?_
      refine WD.g (.pl rfl rfl rfl) (fun hg => Y.move (.pl rfl)) rfl ?_
      refine WD.g (.pl rfl rfl rfl) (fun hg => Y.move (.pl rfl)) rfl ?_
      obtain ⟨x16, hx16, hF⟩ := bnd hF
      refine WD.g (.pl rfl rfl rfl) (fun hg => Y.rowEl Try.underlying44 cells51 (i := 0) rfl (.gd (hg) rfl) rfl (.gd (hg) rfl) (ix_lt (gpos hg hx16))) rfl ?_
      refine WD.g (.pl rfl rfl rfl) (fun hg => Y.rowField (off := 2) (ft := 3) Try.underlying51 rfl cells3 (i' := 0) rfl (ix_lt (gpos hg hx16)) (.gd (hg) rfl)) rfl ?_
      refine WD.g (.pl rfl rfl rfl) (fun hg => Y.loadR (enc := encCall) (v := .int .i64 x16.kind) (a := x16) (idx := r6.1) (j := 2) Try.underlying3 rfl lenCall (i := 0) rfl (.gd (hg) rfl) (ix_get (gpos hg hx16)) rfl rfl) rfl ?_
      refine WD.g (.pl rfl rfl rfl) (fun hg => Y.neq (.gd (hg) rfl) (.pl rfl)) rfl ?_
      refine WD.q (Y.or (.pl rfl) (fun h2 => .gd (eqf h2) rfl)) rfl ?_
      refine WD.q (Y.move (.pl rfl)) rfl ?_
      refine WD.g (.pl rfl rfl rfl) (fun hg => Y.move (.pl rfl)) rfl ?_
      refine WD.g (.pl rfl rfl rfl) (fun hg => Y.move (.pl rfl)) rfl ?_
      obtain ⟨x17, hx17, hF⟩ := bnd hF
      refine WD.g (.pl rfl rfl rfl) (fun hg => Y.rowEl Try.underlying44 cells51 (i := 0) rfl (.gd (hg) rfl) rfl (.gd (hg) rfl) (ix_lt (gpos hg hx17))) rfl ?_
      refine WD.g (.pl rfl rfl rfl) (fun hg => Y.rowField (off := 2) (ft := 3) Try.underlying51 rfl cells3 (i' := 0) rfl (ix_lt (gpos hg hx17)) (.gd (hg) rfl)) rfl ?_
      refine WD.g (.pl rfl rfl rfl) (fun hg => Y.loadR (enc := encCall) (v := .int .i64 x17.kind) (a := x17) (idx := r6.2.1) (j := 2) Try.underlying3 rfl lenCall (i := 0) rfl (.gd (hg) rfl) (ix_get (gpos hg hx17)) rfl rfl) rfl ?_
      refine WD.g (.pl rfl rfl rfl) (fun hg => Y.neq (.gd (hg) rfl) (.pl rfl)) rfl ?_
      refine WD.q (Y.or (.pl rfl) (fun h2 => .gd (eqf h2) rfl)) rfl ?_
      refine WD.q (Y.move (.pl rfl)) rfl ?_
      refine WD.g (.pl rfl rfl rfl) (fun hg => Y.move (.pl rfl)) rfl ?_
      refine WD.g (.pl rfl rfl rfl) (fun hg => Y.move (.pl rfl)) rfl ?_
      obtain ⟨x18, hx18, hF⟩ := bnd hF
      refine WD.g (.pl rfl rfl rfl) (fun hg => Y.rowEl Try.underlying44 cells51 (i := 0) rfl (.gd (hg) rfl) rfl (.gd (hg) rfl) (ix_lt (gpos hg hx18))) rfl ?_
      refine WD.g (.pl rfl rfl rfl) (fun hg => Y.rowField (off := 6) (ft := 3) Try.underlying51 rfl cells3 (i' := 0) rfl (ix_lt (gpos hg hx18)) (.gd (hg) rfl)) rfl ?_
      refine WD.g (.pl rfl rfl rfl) (fun hg => Y.loadR (enc := encCall) (v := .int .i64 x18.to_) (a := x18) (idx := r6.1) (j := 6) Try.underlying3 rfl lenCall (i := 0) rfl (.gd (hg) rfl) (ix_get (gpos hg hx18)) rfl rfl) rfl ?_
      refine WD.g (.pl rfl rfl rfl) (fun hg => Y.eql (.gd (hg) rfl) (.pl rfl)) rfl ?_
      refine WD.q (Y.or (.pl rfl) (fun h2 => .gd (eqf h2) rfl)) rfl ?_
      refine WD.q (Y.move (.pl rfl)) rfl ?_
      refine WD.g (.pl rfl rfl rfl) (fun hg => Y.move (.pl rfl)) rfl ?_
      refine WD.g (.pl rfl rfl rfl) (fun hg => Y.move (.pl rfl)) rfl ?_
      obtain ⟨x19, hx19, hF⟩ := bnd hF
      refine WD.g (.pl rfl rfl rfl) (fun hg => Y.rowEl Try.underlying44 cells51 (i := 0) rfl (.gd (hg) rfl) rfl (.gd (hg) rfl) (ix_lt (gpos hg hx19))) rfl ?_
      refine WD.g (.pl rfl rfl rfl) (fun hg => Y.rowField (off := 6) (ft := 3) Try.underlying51 rfl cells3 (i' := 0) rfl (ix_lt (gpos hg hx19)) (.gd (hg) rfl)) rfl ?_
      refine WD.g (.pl rfl rfl rfl) (fun hg => Y.loadR (enc := encCall) (v := .int .i64 x19.to_) (a := x19) (idx := r6.1) (j := 6) Try.underlying3 rfl lenCall (i := 0) rfl (.gd (hg) rfl) (ix_get (gpos hg hx19)) rfl rfl) rfl ?_
      refine WD.g (.pl rfl rfl rfl) (fun hg => Y.move (.pl rfl)) rfl ?_
      refine WD.g (.pl rfl rfl rfl) (fun hg => Y.move (.pl rfl)) rfl ?_
      obtain ⟨x20, hx20, hF⟩ := bnd hF
      refine WD.g (.pl rfl rfl rfl) (fun hg => Y.rowEl Try.underlying44 cells51 (i := 0) rfl (.gd (hg) rfl) rfl (.gd (hg) rfl) (ix_lt (gpos hg hx20))) rfl ?_
      refine WD.g (.pl rfl rfl rfl) (fun hg => Y.rowField (off := 5) (ft := 3) Try.underlying51 rfl cells3 (i' := 0) rfl (ix_lt (gpos hg hx20)) (.gd (hg) rfl)) rfl ?_
      refine WD.g (.pl rfl rfl rfl) (fun hg => Y.loadR (enc := encCall) (v := .int .i64 x20.from_) (a := x20) (idx := r6.2.1) (j := 5) Try.underlying3 rfl lenCall (i := 0) rfl (.gd (hg) rfl) (ix_get (gpos hg hx20)) rfl rfl) rfl ?_
      refine WD.g (.pl rfl rfl rfl) (fun hg => Y.geq (.gd (hg) rfl) (.gd (hg) rfl)) rfl ?_
      refine WD.q (Y.or (.pl rfl) (fun h2 => .gd (eqf h2) rfl)) rfl ?_
      refine WD.q (Y.move (.pl rfl)) rfl ?_
      refine WD.g (.pl rfl rfl rfl) (fun hg => Y.move (.pl rfl)) rfl ?_
      refine WD.g (.pl rfl rfl rfl) (fun hg => Y.move (.pl rfl)) rfl ?_
      obtain ⟨x21, hx21, hF⟩ := bnd hF
      refine WD.g (.pl rfl rfl rfl) (fun hg => Y.rowEl Try.underlying44 cells51 (i := 0) rfl (.gd (hg) rfl) rfl (.gd (hg) rfl) (ix_lt (gpos hg hx21))) rfl ?_
      refine WD.g (.pl rfl rfl rfl) (fun hg => Y.rowField (off := 4) (ft := 3) Try.underlying51 rfl cells3 (i' := 0) rfl (ix_lt (gpos hg hx21)) (.gd (hg) rfl)) rfl ?_
      refine WD.g (.pl rfl rfl rfl) (fun hg => Y.loadR (enc := encCall) (v := .int .i64 x21.res) (a := x21) (idx := r6.1) (j := 4) Try.underlying3 rfl lenCall (i := 0) rfl (.gd (hg) rfl) (ix_get (gpos hg hx21)) rfl rfl) rfl ?_
      refine WD.g (.pl rfl rfl rfl) (fun hg => Y.move (.pl rfl)) rfl ?_
      refine WD.g (.pl rfl rfl rfl) (fun hg => Y.move (.pl rfl)) rfl ?_
      obtain ⟨x22, hx22, hF⟩ := bnd hF
      refine WD.g (.pl rfl rfl rfl) (fun hg => Y.rowEl Try.underlying44 cells51 (i := 0) rfl (.gd (hg) rfl) rfl (.gd (hg) rfl) (ix_lt (gpos hg hx22))) rfl ?_
      refine WD.g (.pl rfl rfl rfl) (fun hg => Y.rowField (off := 4) (ft := 3) Try.underlying51 rfl cells3 (i' := 0) rfl (ix_lt (gpos hg hx22)) (.gd (hg) rfl)) rfl ?_
      refine WD.g (.pl rfl rfl rfl) (fun hg => Y.loadR (enc := encCall) (v := .int .i64 x22.res) (a := x22) (idx := r6.2.1) (j := 4) Try.underlying3 rfl lenCall (i := 0) rfl (.gd (hg) rfl) (ix_get (gpos hg hx22)) rfl rfl) rfl ?_
      refine WD.g (.pl rfl rfl rfl) (fun hg => Y.eql (.gd (hg) rfl) (.gd (hg) rfl)) rfl ?_
      refine WD.q (Y.or (.pl rfl) (fun h2 => .gd (eqf h2) rfl)) rfl ?_
      refine WD.next hR11 (.cons (i := 0) rfl (.cons (i := 116) rfl (.nil))) ?_
      refine W.cond (.pl rfl) (fun hC12 => ?_) (fun hC12 => ?_)
      · replace hF := cpos hC12 hF
        -- region 6: regular.go:76
        refine W.seqR fun Q13 hQ13 => ?_
        refine WL.q (Y.assign (.pl rfl)) rfl ?_
        refine WL.next hQ13 (.cons (i := 2) rfl (.nil)) ?_
        obtain rfl := Option.some.inj hF
        refine W.retV (fn := Try.f18) (vs := [.bool false]) Try.results18 ⟨.tmp rfl, trivial⟩ (fun _ _ h => h) (fun wz hw => ?_)
        exact hR _ _ ⟨rfl, (hw.pick [] rfl)⟩
      · replace hF := cneg hC12 hF
        refine W.skip ?_
        refine W.go hK10 (.cons (i := 0) rfl (.nil)) ?_
        -- region 7: regular.go:78
        refine W.seqR fun Q14 hQ14 => ?_
        refine WL.step (WO.bsliceC (enc := (eI .i64)) (ys := ([1] : List Int)) Try.underlying47 bz3 (.cons (.pl rfl) (.nil)) rfl (fun _ => rfl) rfl rfl (by decide) (by decide) rfl fun b23 => ?_)
        refine WL.q (Y.move (.pl rfl)) rfl ?_
        obtain ⟨r24, hr24, hF⟩ := bnd hF
        refine WL.step (WO.callM isGo31 (.cons (.pl rfl) (.cons (.pl rfl) (.nil))) rfl (fun wz hw => search_Find_ok (hr24) wz (SlIn.ofRow (fun _ => rfl) hw (i := 0) rfl) (hs4.mono hw)) ?_)
        rintro ⟨A25, c26⟩ -
        refine WL.q (Y.move (.pl rfl)) rfl ?_
        refine WL.q (Y.extract (.pl rfl) rfl) rfl ?_
        refine WL.q (Y.extract (.pl rfl) rfl) rfl ?_
        refine WL.q (Y.extract (.pl rfl) rfl) rfl ?_
        refine WL.q (Y.assign (.pl rfl)) rfl ?_
        refine WL.q (Y.assign (.pl rfl)) rfl ?_
        refine WL.q (Y.assign (.pl rfl)) rfl ?_
        refine WL.next hQ14 (.cons (i := 11) rfl (.cons (i := 12) rfl (.nil))) ?_
        -- region 8: regular.go:79
        refine W.seqR fun Q15 hQ15 => ?_
        refine WL.q (Y.move (.pl rfl)) rfl ?_
        refine WL.q (Y.neq (.pl rfl) (.pl rfl)) rfl ?_
        refine WL.q (Y.move (.pl rfl)) rfl ?_
        refine WL.g (.pl rfl rfl rfl) (fun hg => Y.move (.pl rfl)) rfl ?_
        refine WL.g (.pl rfl rfl rfl) (fun hg => Y.not (.gd (hg) rfl)) rfl ?_
        refine WL.q (Y.or (.pl rfl) (fun h2 => .gd (eqf h2) rfl)) rfl ?_
        refine WL.q (Y.assign (.pl rfl)) rfl ?_
        refine WL.next hQ15 (.cons (i := 2) rfl (.nil)) ?_
        obtain rfl := Option.some.inj hF
        refine W.retV (fn := Try.f18) (vs := [.bool ((!(decide (r24.2.2 = 0))) || (!r24.2.1))]) Try.results18 ⟨.tmp rfl, trivial⟩ (fun _ _ h => h) (fun wz hw => ?_)
        exact hR _ _ ⟨rfl, (hw.pick [] rfl)⟩

end Go.Proofs.Yteklmleiiiodfaa
