/- The walk of AgreeNaive. -/
import Derived.Test.YtglhflmecmidkaaA5
set_option linter.unusedVariables false
set_option linter.unusedSimpArgs false
set_option linter.unusedSectionVars false
set_option maxRecDepth 100000
namespace Go.Proofs.Ytglhflmecmidkaa
open Go.RowKit
theorem isGo8 : IsGo Try.prog 8 := ⟨_, Try.func8, by kernel_rfl, rfl⟩
theorem naive_law (w : World) : Pure Try.prog 3 [] w (.bool true) := by
  refine W.enter (n := 40) Try.func3 rfl rfl Sub.refl (by simp) (St.start w) fun R hR => ?_
  -- region 0: agree.go:41
  refine W.seqR fun Q1 hQ1 => ?_
  refine WL.q (Y.assign (.pl rfl)) rfl ?_
  refine WL.next hQ1 (.nil) ?_
  -- region 1: agree.go:42
  refine W.seqR fun Q2 hQ2 => ?_
  refine WL.step (WO.bslice Try.underlying22 bz3 (.cons (.pl rfl) (.cons (.pl rfl) (.nil))) rfl (by simp [Value.cells]) (by decide) rfl fun b4 => ?_)
  refine WL.step (WO.bslice Try.underlying22 bz3 (.cons (.pl rfl) (.cons (.pl rfl) (.cons (.pl rfl) (.cons (.pl rfl) (.nil))))) rfl (by simp [Value.cells]) (by decide) rfl fun b5 => ?_)
  refine WL.step (WO.callM isGo7 (.cons (.pl rfl) (.cons (.pl rfl) (.cons (.pl rfl) (.nil)))) rfl (fun w hw => play_any 3 _ _ [5, 3] [0, 0, 1, 1] w (.lit hw (i := 1) rfl) (.lit hw (i := 0) rfl) (by decide) (by decide) (by decide)) ?_)
  intro bb _
  refine WL.q (Y.move (.pl rfl)) rfl ?_
  refine WL.q (Y.extract (.pl rfl) rfl) rfl ?_
  refine WL.q (Y.extract (.pl rfl) rfl) rfl ?_
  refine WL.q (Y.assign (.pl rfl)) rfl ?_
  refine WL.q (Y.assign (.pl rfl)) rfl ?_
  refine WL.next hQ2 (.cons (i := 1) rfl (.cons (i := 2) rfl (.nil))) ?_
  -- region 2: agree.go:43
  refine W.seqD (by kernel_rfl) (by kernel_rfl) fun R3 hR3 => ?_
  refine WD.callP isGo8 (.nil) rfl (fun w hw => lives_ok w) ?_
  refine WD.q (Y.move (.pl rfl)) rfl ?_
  refine WD.gd (.pl rfl rfl rfl) (by decide) ?_
  refine WD.q (Y.move (.pl rfl)) rfl ?_
  refine WD.gd (.pl rfl rfl rfl) (by decide) ?_
  refine WD.q (Y.eql (.pl rfl) (.pl rfl)) rfl ?_
  refine WD.q (Y.and (.pl rfl) (fun _ => .pl rfl)) rfl ?_
  refine WD.q (Y.move (.pl rfl)) rfl ?_
  refine WD.gd (.pl rfl rfl rfl) (by decide) ?_
  refine WD.q (Y.move (.pl rfl)) rfl ?_
  refine WD.gd (.pl rfl rfl rfl) (by decide) ?_
  refine WD.q (Y.len Try.underlying22 (.pl rfl)) rfl ?_
  refine WD.gd (.pl rfl rfl rfl) (by decide) ?_
  refine WD.q (Y.eql (.pl rfl) (.pl rfl)) rfl ?_
  refine WD.q (Y.and (.pl rfl) (fun _ => .pl rfl)) rfl ?_
  refine WD.q (Y.move (.pl rfl)) rfl ?_
  refine WD.gd (.pl rfl rfl rfl) (by decide) ?_
  refine WD.q (Y.move (.pl rfl)) rfl ?_
  refine WD.gd (.pl rfl rfl rfl) (by decide) ?_
  refine WD.q (Y.own1N (i := 0) Try.underlying22 cells3 (.pl rfl) (.pl rfl) (by decide)) rfl ?_
  refine WD.gd (.pl rfl rfl rfl) (by decide) ?_
  refine WD.q (Y.load Try.underlying3 rfl (.pl rfl) (fun w hw => hw.row (i := 0) (xs := playF 3 [5, 3] [0, 0, 1, 1]) (k := 0) rfl (by decide))) rfl ?_
  refine WD.gd (.pl rfl rfl rfl) (by decide) ?_
  refine WD.q (Y.move (.pl rfl)) rfl ?_
  refine WD.gd (.pl rfl rfl rfl) (by decide) ?_
  refine WD.q (Y.own1N (i := 1) Try.underlying22 cells3 (.pl rfl) (.pl rfl) (by decide)) rfl ?_
  refine WD.gd (.pl rfl rfl rfl) (by decide) ?_
  refine WD.q (Y.load Try.underlying3 rfl (.pl rfl) (fun w hw => hw.row (i := 0) (xs := playF 3 [5, 3] [0, 0, 1, 1]) (k := 1) rfl (by decide))) rfl ?_
  refine WD.gd (.pl rfl rfl rfl) (by decide) ?_
  refine WD.q (Y.neq (.pl rfl) (.pl rfl)) rfl ?_
  refine WD.q (Y.and (.pl rfl) (fun _ => .pl rfl)) rfl ?_
  refine WD.q (Y.move (.pl rfl)) rfl ?_
  refine WD.gd (.pl rfl rfl rfl) (by decide) ?_
  refine WD.q (Y.move (.pl rfl)) rfl ?_
  refine WD.gd (.pl rfl rfl rfl) (by decide) ?_
  refine WD.q (Y.own1N (i := 0) Try.underlying22 cells3 (.pl rfl) (.pl rfl) (by decide)) rfl ?_
  refine WD.gd (.pl rfl rfl rfl) (by decide) ?_
  refine WD.q (Y.load Try.underlying3 rfl (.pl rfl) (fun w hw => hw.row (i := 0) (xs := playF 3 [5, 3] [0, 0, 1, 1]) (k := 0) rfl (by decide))) rfl ?_
  refine WD.gd (.pl rfl rfl rfl) (by decide) ?_
  refine WD.q (Y.geq (.pl rfl) (.pl rfl)) rfl ?_
  refine WD.q (Y.and (.pl rfl) (fun _ => .pl rfl)) rfl ?_
  refine WD.q (Y.move (.pl rfl)) rfl ?_
  refine WD.gd (.pl rfl rfl rfl) (by decide) ?_
  refine WD.q (Y.move (.pl rfl)) rfl ?_
  refine WD.gd (.pl rfl rfl rfl) (by decide) ?_
  refine WD.q (Y.own1N (i := 1) Try.underlying22 cells3 (.pl rfl) (.pl rfl) (by decide)) rfl ?_
  refine WD.gd (.pl rfl rfl rfl) (by decide) ?_
  refine WD.q (Y.load Try.underlying3 rfl (.pl rfl) (fun w hw => hw.row (i := 0) (xs := playF 3 [5, 3] [0, 0, 1, 1]) (k := 1) rfl (by decide))) rfl ?_
  refine WD.gd (.pl rfl rfl rfl) (by decide) ?_
  refine WD.q (Y.geq (.pl rfl) (.pl rfl)) rfl ?_
  refine WD.q (Y.and (.pl rfl) (fun _ => .pl rfl)) rfl ?_
  refine WD.q (Y.assign (.pl rfl)) rfl ?_
  refine WD.next hR3 (.cons (i := 0) rfl (.nil)) ?_
  refine W.ret1 (fn := Try.f3) Try.results3 rfl (fun _ _ h => h) (fun w hw => ?_)
  refine hR _ _ ?_
  exact ⟨rfl, hw.sub ⟨_, by rw [List.nil_append]⟩⟩

end Go.Proofs.Ytglhflmecmidkaa
