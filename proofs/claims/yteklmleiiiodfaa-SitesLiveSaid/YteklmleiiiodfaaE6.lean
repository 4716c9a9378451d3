/- SitesRight: what the code computes, and the walk. -/
import Derived.Test.YteklmleiiiodfaaE5
set_option linter.unusedVariables false
set_option linter.unusedSimpArgs false
set_option linter.unusedSectionVars false
set_option maxRecDepth 100000
namespace Go.Proofs.Yteklmleiiiodfaa
open Go.RowKit
theorem isGo21 : IsGo Try.prog 21 := ⟨_, Try.func21, by kernel_rfl, rfl⟩
theorem isGo31 : IsGo Try.prog 31 := ⟨_, Try.func31, by kernel_rfl, rfl⟩
def alibkeep_SitesRight (N : Nat) (n1 : Int) (people2 : (List (List Ask))) (acts7 : (List Act)) : Option Bool :=
  bd (sites_Play_1 N n1 false people2 acts7) fun (r12 : ((List Event) × (List Site) × Int)) =>
  bd (alibkeep_sitesLives N) fun (r17 : Bool) =>
  cond ((!r17) || (!(decide (r12.2.2 = 0))))
    (bd (alibkeep_sitesLives N) fun (r18 : Bool) =>
    some (r18 && (decide (((r12.1).length : Int) = 0))))
    (bd (search_Find N ([1] : List Int) r12.1) fun (r20 : ((List Step) × Bool × Int)) =>
    some (((decide (r20.2.2 = 0)) && r20.2.1) || (decide (r20.2.2 = 2))))

theorem alibkeep_SitesRight_ok {N : Nat} {n1 : Int} {people2 : (List (List Ask))} {acts7 : (List Act)} {A3 : Option Addr} {c4 : Nat} {hd5 : List Hd} {res : Bool} (hF : alibkeep_SitesRight N n1 people2 acts7 = some res) (w : World) (hs6 : SlNN encAsk 3 w A3 c4 hd5 people2) {v11 : Value} (hs10 : SlIn encAct 2 w v11 acts7) :
    Pure Try.prog 6 [.int .i64 n1, .slice A3 (people2).length c4, v11] w (.bool res) := by
  obtain ⟨A8, c9, rfl, hcc9, hs10⟩ := hs10.form
  refine W.enter (n := 49) Try.func6 rfl rfl Sub.refl (by simp) (St.start w) fun R hR => ?_
  unfold alibkeep_SitesRight at hF
  -- region 0: sites.go:30
  refine W.seqR fun Q1 hQ1 => ?_
  refine WL.q (Y.assign (.pl rfl)) rfl ?_
  refine WL.next hQ1 (.cons (i := 0) rfl (.cons (i := 1) rfl (.cons (i := 2) rfl (.nil)))) ?_
  -- region 1: sites.go:31
  refine W.seqR fun Q2 hQ2 => ?_
  refine WL.q (Y.move (.pl rfl)) rfl ?_
  refine WL.q (Y.move (.pl rfl)) rfl ?_
  refine WL.q (Y.move (.pl rfl)) rfl ?_
  obtain ⟨r12, hr12, hF⟩ := bnd hF
  refine WL.step (WO.callM isGo20 (.cons (.pl rfl) (.cons (.pl rfl) (.cons (.pl rfl) (.cons (.pl rfl) (.nil))))) rfl (fun wz hw => sites_Play_1_ok (hr12) wz (hs6.mono hw) (hs10.mono hw)) ?_)
  rintro ⟨A13, c14, A15, c16⟩ -
  refine WL.q (Y.move (.pl rfl)) rfl ?_
  refine WL.q (Y.extract (.pl rfl) rfl) rfl ?_
  refine WL.q (Y.extract (.pl rfl) rfl) rfl ?_
  refine WL.q (Y.extract (.pl rfl) rfl) rfl ?_
  refine WL.q (Y.assign (.pl rfl)) rfl ?_
  refine WL.q (Y.assign (.pl rfl)) rfl ?_
  refine WL.q (Y.assign (.pl rfl)) rfl ?_
  refine WL.next hQ2 (.cons (i := 7) rfl (.cons (i := 9) rfl (.nil))) ?_
  refine W.seq fun K3 hK3 => ?_
  -- region 2: sites.go:32
  refine W.seqR fun Q4 hQ4 => ?_
  obtain ⟨r17, hr17, hF⟩ := bnd hF
  refine WL.step (WO.callP isGo21 (.nil) rfl (fun wz hw => alibkeep_sitesLives_ok (hr17) wz ) ?_)
  refine WL.q (Y.not (.pl rfl)) rfl ?_
  refine WL.q (Y.move (.pl rfl)) rfl ?_
  refine WL.g (.pl rfl rfl rfl) (fun hg => Y.move (.pl rfl)) rfl ?_
  refine WL.g (.pl rfl rfl rfl) (fun hg => Y.neq (.gd (hg) rfl) (.pl rfl)) rfl ?_
  refine WL.q (Y.or (.pl rfl) (fun h2 => .gd (eqf h2) rfl)) rfl ?_
  refine WL.next hQ4 (.cons (i := 7) rfl (.cons (i := 26) rfl (.nil))) ?_
  refine W.cond (.pl rfl) (fun hC5 => ?_) (fun hC5 => ?_)
  · replace hF := cpos hC5 hF
    -- region 3: sites.go:33
    refine W.seqR fun Q6 hQ6 => ?_
    obtain ⟨r18, hr18, hF⟩ := bnd hF
    refine WL.step (WO.callP isGo21 (.nil) rfl (fun wz hw => alibkeep_sitesLives_ok (hr18) wz ) ?_)
    refine WL.q (Y.move (.pl rfl)) rfl ?_
    refine WL.g (.pl rfl rfl rfl) (fun hg => Y.move (.pl rfl)) rfl ?_
    refine WL.g (.pl rfl rfl rfl) (fun hg => Y.len Try.underlying26 (.gd (hg) rfl)) rfl ?_
    refine WL.g (.pl rfl rfl rfl) (fun hg => Y.eql (.gd (hg) rfl) (.pl rfl)) rfl ?_
    refine WL.q (Y.and (.pl rfl) (fun h2 => .gd (eqt h2) rfl)) rfl ?_
    refine WL.q (Y.assign (.pl rfl)) rfl ?_
    refine WL.next hQ6 (.cons (i := 6) rfl (.nil)) ?_
    obtain rfl := Option.some.inj hF
    refine W.retV (fn := Try.f6) (vs := [.bool (r18 && (decide (((r12.1).length : Int) = 0)))]) Try.results6 ⟨.tmp rfl, trivial⟩ (fun _ _ h => h) (fun wz hw => ?_)
    exact hR _ _ ⟨rfl, (hw.pick [] rfl)⟩
  · replace hF := cneg hC5 hF
    refine W.skip ?_
    refine W.go hK3 (.cons (i := 7) rfl (.nil)) ?_
    -- region 4: sites.go:35
    refine W.seqR fun Q7 hQ7 => ?_
    refine WL.step (WO.bsliceC (enc := (eI .i64)) (ys := ([1] : List Int)) Try.underlying47 bz3 (.cons (.pl rfl) (.nil)) rfl (fun _ => rfl) rfl rfl (by decide) (by decide) rfl fun b19 => ?_)
    refine WL.q (Y.move (.pl rfl)) rfl ?_
    obtain ⟨r20, hr20, hF⟩ := bnd hF
    refine WL.step (WO.callM isGo31 (.cons (.pl rfl) (.cons (.pl rfl) (.nil))) rfl (fun wz hw => search_Find_ok (hr20) wz (SlIn.ofRow (fun _ => rfl) hw (i := 0) rfl) (SlIn.ofRow lenEvent hw (i := 1) rfl)) ?_)
    rintro ⟨A21, c22⟩ -
    refine WL.q (Y.move (.pl rfl)) rfl ?_
    refine WL.q (Y.extract (.pl rfl) rfl) rfl ?_
    refine WL.q (Y.extract (.pl rfl) rfl) rfl ?_
    refine WL.q (Y.extract (.pl rfl) rfl) rfl ?_
    refine WL.q (Y.assign (.pl rfl)) rfl ?_
    refine WL.q (Y.assign (.pl rfl)) rfl ?_
    refine WL.q (Y.assign (.pl rfl)) rfl ?_
    refine WL.next hQ7 (.cons (i := 11) rfl (.cons (i := 12) rfl (.nil))) ?_
    -- region 5: sites.go:36
    refine W.seqR fun Q8 hQ8 => ?_
    refine WL.q (Y.move (.pl rfl)) rfl ?_
    refine WL.q (Y.eql (.pl rfl) (.pl rfl)) rfl ?_
    refine WL.q (Y.move (.pl rfl)) rfl ?_
    refine WL.g (.pl rfl rfl rfl) (fun hg => Y.move (.pl rfl)) rfl ?_
    refine WL.q (Y.and (.pl rfl) (fun h2 => .gd (eqt h2) rfl)) rfl ?_
    refine WL.q (Y.move (.pl rfl)) rfl ?_
    refine WL.g (.pl rfl rfl rfl) (fun hg => Y.move (.pl rfl)) rfl ?_
    refine WL.g (.pl rfl rfl rfl) (fun hg => Y.eql (.gd (hg) rfl) (.pl rfl)) rfl ?_
    refine WL.q (Y.or (.pl rfl) (fun h2 => .gd (eqf h2) rfl)) rfl ?_
    refine WL.q (Y.assign (.pl rfl)) rfl ?_
    refine WL.next hQ8 (.cons (i := 6) rfl (.nil)) ?_
    obtain rfl := Option.some.inj hF
    refine W.retV (fn := Try.f6) (vs := [.bool (((decide (r20.2.2 = 0)) && r20.2.1) || (decide (r20.2.2 = 2)))]) Try.results6 ⟨.tmp rfl, trivial⟩ (fun _ _ h => h) (fun wz hw => ?_)
    exact hR _ _ ⟨rfl, (hw.pick [] rfl)⟩

end Go.Proofs.Yteklmleiiiodfaa
