/- ZonesSearch: what the code computes, and the walk. -/
import Derived.Test.YtolneilkgjglkaaA2
import Derived.Test.YtolneilkgjglkaaZ3
set_option linter.unusedVariables false
set_option linter.unusedSimpArgs false
set_option linter.unusedSectionVars false
set_option maxRecDepth 100000
namespace Go.Proofs.Ytolneilkgjglkaa
open Go.RowKit
theorem isGo38 : IsGo Try.prog 38 := ⟨_, Try.func38, by kernel_rfl, rfl⟩
def alibkeep_ZonesSearch (N : Nat) (l1 : (List Event)) : Option Bool :=
  bd (zones_Check N l1) fun (r6 : (Bool × Int × Int × Int × Int)) =>
  bd (search_Find N ([1] : List Int) l1) fun (r9 : ((List Step) × Bool × Int)) =>
  bd (alibkeep_zonesLives N) fun (r12 : Bool) =>
  cond ((!r12) || (!(decide (r6.2.2.2.2 = 0))))
    (bd (alibkeep_zonesLives N) fun (r13 : Bool) =>
    some ((r13 && (!r6.1)) && (decide ((Bad.mk r6.2.1 r6.2.2.1 r6.2.2.2.1) = (Bad.mk 0 0 0)))))
    (some ((r6.1 == (decide ((Bad.mk r6.2.1 r6.2.2.1 r6.2.2.2.1) = (Bad.mk 0 0 0)))) && ((!(decide (r9.2.2 = 0))) || (r6.1 == r9.2.1))))

theorem alibkeep_ZonesSearch_ok {N : Nat} {l1 : (List Event)} {res : Bool} (hF : alibkeep_ZonesSearch N l1 = some res) (w : World) {v5 : Value} (hs4 : SlIn encEvent 4 w v5 l1) :
    Pure Try.prog 15 [v5] w (.bool res) := by
  obtain ⟨A2, c3, rfl, hcc3, hs4⟩ := hs4.form
  refine W.enter (n := 52) Try.func15 rfl rfl Sub.refl (by simp) (St.start w) fun R hR => ?_
  unfold alibkeep_ZonesSearch at hF
  -- region 0: zones.go:21
  refine W.seqR fun Q1 hQ1 => ?_
  refine WL.q (Y.assign (.pl rfl)) rfl ?_
  refine WL.next hQ1 (.cons (i := 0) rfl (.nil)) ?_
  -- region 1: zones.go:22
  refine W.seqR fun Q2 hQ2 => ?_
  refine WL.q (Y.move (.pl rfl)) rfl ?_
  obtain ⟨r6, hr6, hF⟩ := bnd hF
  refine WL.step (WO.callP isGo25 (.cons (.pl rfl) (.nil)) rfl (fun wz hw => zones_Check_ok (hr6) wz (hs4.mono hw)) ?_)
  refine WL.q (Y.move (.pl rfl)) rfl ?_
  refine WL.q (Y.extract (.pl rfl) rfl) rfl ?_
  refine WL.q (Y.extract (.pl rfl) rfl) rfl ?_
  refine WL.q (Y.extract (.pl rfl) rfl) rfl ?_
  refine WL.step (WO.alloc (cs := (encBad (Bad.mk 0 0 0)).toArray) zero34 rfl rfl fun b7 => ?_)
  refine WL.q (Y.assign (.pl rfl)) rfl ?_
  refine WL.step (WO.storeBA (ds := (encBad (Bad.mk r6.2.1 r6.2.2.1 r6.2.2.2.1))) (cs' := (encBad (Bad.mk r6.2.1 r6.2.2.1 r6.2.2.2.1))) cells34 (.pl rfl) (.pl rfl) rfl (oneBad _) (i := 0) rfl (lel (o := 0) (l := 3) (m := 3) (by decide) rfl rfl) (putW rfl) ?_)
  refine WL.q (Y.assign (.pl rfl)) rfl ?_
  refine WL.next hQ2 (.cons (i := 0) rfl (.cons (i := 3) rfl (.cons (i := 4) rfl (.cons (i := 5) rfl (.nil))))) ?_
  -- region 2: zones.go:23
  refine W.seqR fun Q3 hQ3 => ?_
  refine WL.step (WO.bsliceC (enc := (eI .i64)) (ys := ([1] : List Int)) Try.underlying45 bz3 (.cons (.pl rfl) (.nil)) rfl (fun _ => rfl) rfl rfl (by decide) (by decide) rfl fun b8 => ?_)
  refine WL.q (Y.move (.pl rfl)) rfl ?_
  obtain ⟨r9, hr9, hF⟩ := bnd hF
  refine WL.step (WO.callM isGo38 (.cons (.pl rfl) (.cons (.pl rfl) (.nil))) rfl (fun wz hw => search_Find_ok (hr9) wz (SlIn.ofRow (fun _ => rfl) hw (i := 0) rfl) (hs4.mono hw)) ?_)
  rintro ⟨A10, c11⟩ -
  refine WL.q (Y.move (.pl rfl)) rfl ?_
  refine WL.q (Y.extract (.pl rfl) rfl) rfl ?_
  refine WL.q (Y.extract (.pl rfl) rfl) rfl ?_
  refine WL.q (Y.extract (.pl rfl) rfl) rfl ?_
  refine WL.q (Y.assign (.pl rfl)) rfl ?_
  refine WL.q (Y.assign (.pl rfl)) rfl ?_
  refine WL.q (Y.assign (.pl rfl)) rfl ?_
  refine WL.next hQ3 (.cons (i := 3) rfl (.cons (i := 4) rfl (.cons (i := 5) rfl (.cons (i := 7) rfl (.cons (i := 8) rfl (.nil)))))) ?_
  refine W.seq fun K4 hK4 => ?_
  -- region 3: zones.go:24
  refine W.seqR fun Q5 hQ5 => ?_
  obtain ⟨r12, hr12, hF⟩ := bnd hF
  refine WL.step (WO.callP isGo27 (.nil) rfl (fun wz hw => alibkeep_zonesLives_ok (hr12) wz ) ?_)
  refine WL.q (Y.not (.pl rfl)) rfl ?_
  refine WL.q (Y.move (.pl rfl)) rfl ?_
  refine WL.g (.pl rfl rfl rfl) (fun hg => Y.move (.pl rfl)) rfl ?_
  refine WL.g (.pl rfl rfl rfl) (fun hg => Y.neq (.gd (hg) rfl) (.pl rfl)) rfl ?_
  refine WL.q (Y.or (.pl rfl) (fun h2 => .gd (eqf h2) rfl)) rfl ?_
  refine WL.next hQ5 (.cons (i := 3) rfl (.cons (i := 4) rfl (.cons (i := 7) rfl (.cons (i := 8) rfl (.cons (i := 27) rfl (.nil)))))) ?_
  refine W.cond (.pl rfl) (fun hC6 => ?_) (fun hC6 => ?_)
  · replace hF := cpos hC6 hF
    -- region 4: zones.go:25
    refine W.seqR fun Q7 hQ7 => ?_
    obtain ⟨r13, hr13, hF⟩ := bnd hF
    refine WL.step (WO.callP isGo27 (.nil) rfl (fun wz hw => alibkeep_zonesLives_ok (hr13) wz ) ?_)
    refine WL.q (Y.move (.pl rfl)) rfl ?_
    refine WL.g (.pl rfl rfl rfl) (fun hg => Y.move (.pl rfl)) rfl ?_
    refine WL.g (.pl rfl rfl rfl) (fun hg => Y.not (.gd (hg) rfl)) rfl ?_
    refine WL.q (Y.and (.pl rfl) (fun h2 => .gd (eqt h2) rfl)) rfl ?_
    refine WL.q (Y.move (.pl rfl)) rfl ?_
    refine WL.g (.pl rfl rfl rfl) (fun hg => Y.loadBA (ds := (encBad (Bad.mk r6.2.1 r6.2.2.1 r6.2.2.2.1))) Try.underlying34 rfl cells34 (.pl rfl) (i := 2) rfl rfl subW) rfl ?_
    refine WL.g (.pl rfl rfl rfl) (fun hg => Y.build (cs := (encBad (Bad.mk 0 0 0)).toArray) shape34 (.nil) (one_parts trivial) rfl) rfl ?_
    refine WL.g (.pl rfl rfl rfl) (fun hg => Y.eqlS eqs34 (.gd (hg) rfl) (.gd (hg) rfl) (eqBad (Bad.mk r6.2.1 r6.2.2.1 r6.2.2.2.1) (Bad.mk 0 0 0))) rfl ?_
    refine WL.q (Y.and (.pl rfl) (fun h2 => .gd (eqt h2) rfl)) rfl ?_
    refine WL.q (Y.assign (.pl rfl)) rfl ?_
    refine WL.next hQ7 (.cons (i := 2) rfl (.nil)) ?_
    obtain rfl := Option.some.inj hF
    refine W.retV (fn := Try.f15) (vs := [.bool ((r13 && (!r6.1)) && (decide ((Bad.mk r6.2.1 r6.2.2.1 r6.2.2.2.1) = (Bad.mk 0 0 0))))]) Try.results15 ⟨.tmp rfl, trivial⟩ (fun _ _ h => h) (fun wz hw => ?_)
    exact hR _ _ ⟨rfl, (hw.pick [] rfl)⟩
  · replace hF := cneg hC6 hF
    refine W.skip ?_
    refine W.go hK4 (.cons (i := 3) rfl (.cons (i := 4) rfl (.cons (i := 7) rfl (.cons (i := 8) rfl (.nil))))) ?_
    -- region 5: zones.go:27
    refine W.seqR fun Q8 hQ8 => ?_
    refine WL.q (Y.move (.pl rfl)) rfl ?_
    refine WL.q (Y.loadBA (ds := (encBad (Bad.mk r6.2.1 r6.2.2.1 r6.2.2.2.1))) Try.underlying34 rfl cells34 (.pl rfl) (i := 2) rfl rfl subW) rfl ?_
    refine WL.q (Y.build (cs := (encBad (Bad.mk 0 0 0)).toArray) shape34 (.nil) (one_parts trivial) rfl) rfl ?_
    refine WL.q (Y.eqlS eqs34 (.pl rfl) (.pl rfl) (eqBad (Bad.mk r6.2.1 r6.2.2.1 r6.2.2.2.1) (Bad.mk 0 0 0))) rfl ?_
    refine WL.q (Y.eqlB Try.underlying4 (.pl rfl) (.pl rfl)) rfl ?_
    refine WL.q (Y.move (.pl rfl)) rfl ?_
    refine WL.g (.pl rfl rfl rfl) (fun hg => Y.move (.pl rfl)) rfl ?_
    refine WL.g (.pl rfl rfl rfl) (fun hg => Y.neq (.gd (hg) rfl) (.pl rfl)) rfl ?_
    refine WL.g (.pl rfl rfl rfl) (fun hg => Y.move (.gd (hg) rfl)) rfl ?_
    refine WL.g (.gd rfl rfl rfl) (fun hg => Y.move (.pl rfl)) rfl ?_
    refine WL.g (.gd rfl rfl rfl) (fun hg => Y.move (.pl rfl)) rfl ?_
    refine WL.g (.gd rfl rfl rfl) (fun hg => Y.eqlB Try.underlying4 (.gd (hg) rfl) (.gd (hg) rfl)) rfl ?_
    refine WL.g (.pl rfl rfl rfl) (fun hg => Y.or (.gd (hg) rfl) (fun h2 => .gd (band hg (eqf h2)) rfl)) rfl ?_
    refine WL.q (Y.and (.pl rfl) (fun h2 => .gd (eqt h2) rfl)) rfl ?_
    refine WL.q (Y.assign (.pl rfl)) rfl ?_
    refine WL.next hQ8 (.cons (i := 2) rfl (.nil)) ?_
    obtain rfl := Option.some.inj hF
    refine W.retV (fn := Try.f15) (vs := [.bool ((r6.1 == (decide ((Bad.mk r6.2.1 r6.2.2.1 r6.2.2.2.1) = (Bad.mk 0 0 0)))) && ((!(decide (r9.2.2 = 0))) || (r6.1 == r9.2.1)))]) Try.results15 ⟨.tmp rfl, trivial⟩ (fun _ _ h => h) (fun wz hw => ?_)
    exact hR _ _ ⟨rfl, (hw.pick [] rfl)⟩

end Go.Proofs.Ytolneilkgjglkaa
