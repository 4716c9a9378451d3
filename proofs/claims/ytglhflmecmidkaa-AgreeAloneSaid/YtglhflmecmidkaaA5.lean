/- The walk of agreeLives. -/
import Derived.Test.YtglhflmecmidkaaA4
set_option linter.unusedVariables false
set_option linter.unusedSimpArgs false
set_option linter.unusedSectionVars false
set_option maxRecDepth 100000
namespace Go.Proofs.Ytglhflmecmidkaa
open Go.RowKit
theorem isGo7 : IsGo Try.prog 7 := ⟨_, Try.func7, by kernel_rfl, rfl⟩
theorem isGo15 : IsGo Try.prog 15 := ⟨_, Try.func15, by kernel_rfl, rfl⟩
theorem isGo16 : IsGo Try.prog 16 := ⟨_, Try.func16, by kernel_rfl, rfl⟩
theorem bz3 : ∃ i, Try.prog.info? 3 = some i ∧ i.zero = some (Value.int .i64 0) ∧ i.size = 1 := ⟨_, rfl, by kernel_rfl, by kernel_rfl⟩
theorem bz23 : ∃ i, Try.prog.info? 23 = some i ∧ i.zero = some (Value.int .i64 0) ∧ i.size = 1 := ⟨_, rfl, by kernel_rfl, by kernel_rfl⟩
theorem IntsIn.lit {base : Nat} {w0 w : World} {L : List Chunk} (h : St base w0 L w) {i b m cap : Nat} {T : TypeId} {xs : List Int} (hi : L[i]? = some (cObj b (.cells (ints xs).toArray T (0, 0)))) (hm : m = xs.length := by rfl) (hc : m ≤ cap := by simp) : IntsIn w (.slice (some ⟨b, 0, none⟩) m cap) xs := by
  subst hm
  exact ⟨_, _, rfl, hc, fun j hj => ⟨⟨rfl, fun p hp => by cases hp; rfl⟩, by simpa [elA] using cell_of_obj (h.obj hi) (ints_get hj)⟩⟩
theorem play_any (algo : Int) (v1 v2 : Value) (vs ls : List Int) (w : World) (h1 : IntsIn w v1 vs) (h2 : IntsIn w v2 ls) (hl1 : vs.length ≤ maxLen) (hl2 : ls.length ≤ maxLen) (he : checkF algo vs ls = 0) :
    Made Try.prog 7 [.int .i64 algo, v1, v2] w (fun b => .tuple #[.slice (some ⟨b, 0, none⟩) vs.length vs.length, .int .i64 0]) (fun b => [row b (playF algo vs ls)]) (fun _ => True) := by
  have hr : algo = 1 ∨ algo = 2 ∨ algo = 3 := by
    unfold checkF at he
    split at he
    · omega
    · omega
  rcases hr with rfl | rfl | rfl
  · exact play_cas v1 v2 vs ls w h1 h2 hl1 hl2 he
  · exact play_tic v1 v2 vs ls w h1 h2 hl1 hl2 he
  · exact play_nai v1 v2 vs ls w h1 h2 hl1 hl2 he

theorem lives_ok (w : World) : Pure Try.prog 8 [] w (.bool true) := by
  refine W.enter (n := 31) Try.func8 rfl rfl Sub.refl (by simp) (St.start w) fun R hR => ?_
  -- region 0: agree.go:11
  refine W.seqR fun Q1 hQ1 => ?_
  refine WL.q (Y.assign (.pl rfl)) rfl ?_
  refine WL.next hQ1 (.nil) ?_
  -- region 1: agree.go:12
  refine W.seqR fun Q2 hQ2 => ?_
  refine WL.step (WO.bslice Try.underlying22 bz3 (.cons (.pl rfl) (.cons (.pl rfl) (.nil))) rfl (by simp [Value.cells]) (by decide) rfl fun b6 => ?_)
  refine WL.step (WO.bslice Try.underlying22 bz3 (.cons (.pl rfl) (.cons (.pl rfl) (.cons (.pl rfl) (.cons (.pl rfl) (.cons (.pl rfl) (.cons (.pl rfl) (.nil))))))) rfl (by simp [Value.cells]) (by decide) rfl fun b7 => ?_)
  refine WL.step (WO.callM isGo7 (.cons (.pl rfl) (.cons (.pl rfl) (.cons (.pl rfl) (.nil)))) rfl (fun w hw => play_any 2 _ _ [5, 3] [0, 1, 1, 0, 1, 0] w (.lit hw (i := 1) rfl) (.lit hw (i := 0) rfl) (by decide) (by decide) (by decide)) ?_)
  intro ba _
  refine WL.q (Y.move (.pl rfl)) rfl ?_
  refine WL.q (Y.extract (.pl rfl) rfl) rfl ?_
  refine WL.q (Y.extract (.pl rfl) rfl) rfl ?_
  refine WL.q (Y.assign (.pl rfl)) rfl ?_
  refine WL.q (Y.assign (.pl rfl)) rfl ?_
  refine WL.next hQ2 (.cons (i := 1) rfl (.cons (i := 2) rfl (.nil))) ?_
  -- region 2: agree.go:13
  refine W.seqR fun Q3 hQ3 => ?_
  refine WL.step (WO.bslice Try.underlying22 bz3 (.cons (.pl rfl) (.cons (.pl rfl) (.nil))) rfl (by simp [Value.cells]) (by decide) rfl fun b12 => ?_)
  refine WL.step (WO.bslice Try.underlying22 bz3 (.cons (.pl rfl) (.cons (.pl rfl) (.cons (.pl rfl) (.cons (.pl rfl) (.nil))))) rfl (by simp [Value.cells]) (by decide) rfl fun b13 => ?_)
  refine WL.step (WO.callM isGo7 (.cons (.pl rfl) (.cons (.pl rfl) (.cons (.pl rfl) (.nil)))) rfl (fun w hw => play_any 3 _ _ [5, 3] [0, 0, 1, 1] w (.lit hw (i := 1) rfl) (.lit hw (i := 0) rfl) (by decide) (by decide) (by decide)) ?_)
  intro bb _
  refine WL.q (Y.move (.pl rfl)) rfl ?_
  refine WL.q (Y.extract (.pl rfl) rfl) rfl ?_
  refine WL.q (Y.extract (.pl rfl) rfl) rfl ?_
  refine WL.q (Y.assign (.pl rfl)) rfl ?_
  refine WL.q (Y.assign (.pl rfl)) rfl ?_
  refine WL.next hQ3 (.cons (i := 1) rfl (.cons (i := 2) rfl (.cons (i := 3) rfl (.cons (i := 4) rfl (.nil))))) ?_
  -- region 3: agree.go:14
  refine W.seqR fun Q4 hQ4 => ?_
  refine WL.q (Y.move (.pl rfl)) rfl ?_
  refine WL.q (Y.move (.pl rfl)) rfl ?_
  refine WL.step (WO.bslice Try.underlying42 bz23 (.cons (.pl rfl) (.cons (.pl rfl) (.nil))) rfl (by simp [Value.cells]) (by decide) rfl fun b19 => ?_)
  refine WL.step (WO.callP isGo15 (.cons (.pl rfl) (.nil)) rfl (fun w hw => okk_ok _ [0, 0] w (.lit hw (i := 0) rfl) (by decide)) ?_)
  refine WL.q (Y.move (.pl rfl)) rfl ?_
  refine WL.gd (.pl rfl rfl rfl) (rfl) ?_
  refine WL.q (Y.move (.pl rfl)) rfl ?_
  refine WL.gd (.pl rfl rfl rfl) (rfl) ?_
  refine WL.step (WO.bslice Try.underlying22 bz3 (.cons (.pl rfl) (.cons (.pl rfl) (.nil))) rfl (by simp [Value.cells]) (by decide) rfl fun b23 => ?_)
  refine WL.gd (.pl rfl rfl rfl) (rfl) ?_
  refine WL.step (WO.callP isGo16 (.cons (.pl rfl) (.cons (.pl rfl) (.nil))) rfl (fun w hw => equal_ok _ _ (playF 2 [5, 3] [0, 1, 1, 0, 1, 0]) [3, 3] w (.lit hw (i := 5) rfl) (.lit hw (i := 0) rfl) (by decide)) ?_)
  refine WL.q (Y.and (.pl rfl) (fun _ => .pl rfl)) rfl ?_
  refine WL.q (Y.move (.pl rfl)) rfl ?_
  refine WL.gd (.pl rfl rfl rfl) (rfl) ?_
  refine WL.q (Y.move (.pl rfl)) rfl ?_
  refine WL.gd (.pl rfl rfl rfl) (rfl) ?_
  refine WL.step (WO.bslice Try.underlying22 bz3 (.cons (.pl rfl) (.cons (.pl rfl) (.nil))) rfl (by simp [Value.cells]) (by decide) rfl fun b28 => ?_)
  refine WL.gd (.pl rfl rfl rfl) (rfl) ?_
  refine WL.step (WO.callP isGo16 (.cons (.pl rfl) (.cons (.pl rfl) (.nil))) rfl (fun w hw => equal_ok _ _ (playF 3 [5, 3] [0, 0, 1, 1]) [5, 3] w (.lit hw (i := 3) rfl) (.lit hw (i := 0) rfl) (by decide)) ?_)
  refine WL.q (Y.and (.pl rfl) (fun _ => .pl rfl)) rfl ?_
  refine WL.q (Y.assign (.pl rfl)) rfl ?_
  refine WL.next hQ4 (.cons (i := 0) rfl (.nil)) ?_
  refine W.ret1 (fn := Try.f8) Try.results8 rfl (fun _ _ h => h) (fun w hw => ?_)
  refine hR _ _ ?_
  exact ⟨rfl, hw.sub ⟨_, by rw [List.nil_append]⟩⟩

end Go.Proofs.Ytglhflmecmidkaa
