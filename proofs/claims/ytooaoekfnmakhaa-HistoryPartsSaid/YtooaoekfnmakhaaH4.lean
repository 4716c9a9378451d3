/- historyLives. -/
import Derived.Test.YtooaoekfnmakhaaH3
set_option linter.unusedVariables false
set_option linter.unusedSimpArgs false
set_option linter.unusedSectionVars false
set_option maxRecDepth 100000
namespace Go.Proofs.Ytooaoekfnmakhaa
open Go.RowKit
theorem isGo15 : IsGo Try.prog 15 := ⟨_, Try.func15, by kernel_rfl, rfl⟩
theorem isGo23 : IsGo Try.prog 23 := ⟨_, Try.func23, by kernel_rfl, rfl⟩
theorem isGo39 : IsGo Try.prog 39 := ⟨_, Try.func39, by kernel_rfl, rfl⟩
theorem bz3 : ∃ i, Try.prog.info? 3 = some i ∧ i.zero = some (Value.int .i64 0) ∧ i.size = 1 := ⟨_, rfl, by kernel_rfl, by kernel_rfl⟩
theorem bz36 : ∃ i, Try.prog.info? 36 = some i ∧ i.zero = some (Value.agg #[(Value.int .i64 0), (Value.int .i64 0), (Value.int .i64 0), (Value.int .i64 0)]) ∧ i.size = 4 := ⟨_, rfl, by kernel_rfl, by kernel_rfl⟩
theorem eqs30 : EqShape Try.prog 30 [true, true, true, true, true, true, true] := ⟨_, Try.underlying30, by kernel_rfl, by kernel_rfl, by kernel_rfl⟩
theorem shape36 : Shape Try.prog 36 [(0, 1), (1, 1), (2, 1), (3, 1)] #[(Value.int .i64 0), (Value.int .i64 0), (Value.int .i64 0), (Value.int .i64 0)] := ⟨_, _, Value.agg #[(Value.int .i64 0), (Value.int .i64 0), (Value.int .i64 0), (Value.int .i64 0)], Try.underlying36, rfl, by kernel_rfl, rfl, by kernel_rfl, by decide⟩
theorem equalC_eq (c d : Cl) : (decide (c.who = d.who) && (decide (c.thing = d.thing) && (decide (c.kind = d.kind) && (decide (c.arg = d.arg) && (decide (c.res = d.res) && (decide (c.from' = d.from') && decide (c.to = d.to))))))) = decide (c = d) := by
  obtain ⟨a0, a1, a2, a3, a4, a5, a6⟩ := c
  obtain ⟨b0, b1, b2, b3, b4, b5, b6⟩ := d
  rw [Bool.eq_iff_iff]
  simp
theorem equalC_ok (v1 v2 : Value) (xs ys : List Cl) (w : World) (h1 : SlIn encC 7 w v1 xs) (h2 : SlIn encC 7 w v2 ys) (hl : xs.length ≤ maxLen) : Pure Try.prog 23 [v1, v2] w (.bool (decide (xs = ys))) := by
  obtain ⟨a1, c1, rfl, hcap1, hv⟩ := h1
  obtain ⟨a2, c2, rfl, hcap2, hu⟩ := h2
  unfold maxLen at hl
  refine W.enter (n := 26) Try.func23 rfl rfl Sub.refl (by simp) (St.start w) fun R hR => ?_
  -- region 0: slices.go:20
  refine W.seqR fun Q1 hQ1 => ?_
  refine WL.q (Y.assign (.pl rfl)) rfl ?_
  refine WL.next hQ1 (.cons (i := 0) rfl (.cons (i := 1) rfl (.nil))) ?_
  refine W.seq fun K2 hK2 => ?_
  -- region 1: slices.go:21
  refine W.seqR fun Q3 hQ3 => ?_
  refine WL.q (Y.move (.pl rfl)) rfl ?_
  refine WL.q (Y.len Try.underlying24 (.pl rfl)) rfl ?_
  refine WL.q (Y.move (.pl rfl)) rfl ?_
  refine WL.q (Y.len Try.underlying24 (.pl rfl)) rfl ?_
  refine WL.q (Y.neq (.pl rfl) (.pl rfl)) rfl ?_
  refine WL.next hQ3 (.cons (i := 0) rfl (.cons (i := 1) rfl (.cons (i := 10) rfl (.nil)))) ?_
  refine W.cond (.pl rfl) (fun hC0 => ?_) (fun hC0 => ?_)
  · -- C0 yes
    try simp only [Bool.or_eq_true, Bool.and_eq_true, Bool.not_eq_true', decide_eq_true_eq, decide_eq_false_iff_not, Bool.or_eq_false_iff, Bool.and_eq_false_iff, Bool.not_eq_false', Bool.not_eq_eq_eq_not, Bool.not_true, Bool.not_false] at hC0
    have hF : decide (xs = ys) = false := by simp; intro h; exact hC0 (by rw [h])
    -- region 2: slices.go:22
    refine W.seqR fun Q4 hQ4 => ?_
    refine WL.q (Y.assign (.pl rfl)) rfl ?_
    refine WL.next hQ4 (.cons (i := 4) rfl (.nil)) ?_
    refine W.ret1 (fn := Try.f23) Try.results23 rfl (fun _ _ h => h) (fun w hw => ?_)
    refine hR _ _ ?_
    rw [hF]
    exact ⟨rfl, hw⟩
  · -- C0 no
    try simp only [Bool.or_eq_true, Bool.and_eq_true, Bool.not_eq_true', decide_eq_true_eq, decide_eq_false_iff_not, Bool.or_eq_false_iff, Bool.and_eq_false_iff, Bool.not_eq_false', Bool.not_eq_eq_eq_not, Bool.not_true, Bool.not_false] at hC0
    refine W.skip ?_
    refine W.go hK2 (.cons (i := 0) rfl (.cons (i := 1) rfl (.nil))) ?_
    refine W.seq fun K5 hK5 => ?_
    -- region 3: slices.go:24
    refine W.seqR fun Q6 hQ6 => ?_
    refine WL.q (Y.move (.pl rfl)) rfl ?_
    refine WL.q (Y.len Try.underlying24 (.pl rfl)) rfl ?_
    refine WL.q (Y.move (.pl rfl)) rfl ?_
    refine WL.next hQ6 (.cons (i := 0) rfl (.cons (i := 1) rfl (.cons (i := 12) rfl (.cons (i := 13) rfl (.nil))))) ?_
    refine W.block ?_
    refine W.loop (γ := Nat) (Em := fun k => [(13, .int .i64 (k : Int))]) (M := fun _ => []) (I := fun k => k ≤ xs.length ∧ xs.take k = ys.take k) (m := fun k => xs.length - k) (0) (⟨Nat.zero_le _, by simp⟩) (.cons rfl (.nil)) (.cons (i := 0) rfl (.cons (i := 1) rfl (.cons (i := 12) rfl (.nil)))) (fun w hw => hw) (fun k hI K7 hK7 => ?_)
    -- region 4: slices.go:24
    refine W.seqR fun Q8 hQ8 => ?_
    refine WL.q (Y.lss (.pl rfl) (.pl rfl)) rfl ?_
    refine WL.next hQ8 (.cons (i := 0) rfl (.cons (i := 1) rfl (.cons (i := 12) rfl (.cons (i := 13) rfl (.cons (i := 14) rfl (.nil)))))) ?_
    refine W.seq fun K9 hK9 => ?_
    refine W.cond (.pl rfl) (fun hC1 => ?_) (fun hC1 => ?_)
    · -- C1 yes
      try simp only [Bool.or_eq_true, Bool.and_eq_true, Bool.not_eq_true', decide_eq_true_eq, decide_eq_false_iff_not, Bool.or_eq_false_iff, Bool.and_eq_false_iff, Bool.not_eq_false', Bool.not_eq_eq_eq_not, Bool.not_true, Bool.not_false] at hC1
      have hk : k < xs.length := by omega
      have hk2 : k < ys.length := by omega
      refine W.skip ?_
      refine W.go hK9 (.cons (i := 0) rfl (.cons (i := 1) rfl (.cons (i := 12) rfl (.cons (i := 13) rfl (.nil))))) ?_
      refine W.seq fun K10 hK10 => ?_
      refine W.block ?_
      -- region 5: slices.go:24
      refine W.seqR fun Q11 hQ11 => ?_
      refine WL.q (Y.move (.pl rfl)) rfl ?_
      refine WL.q (Y.assign (.pl rfl)) rfl ?_
      refine WL.next hQ11 (.cons (i := 0) rfl (.cons (i := 1) rfl (.cons (i := 5) rfl (.cons (i := 12) rfl (.cons (i := 13) rfl (.nil)))))) ?_
      -- region 6: slices.go:25
      refine W.seqD (by kernel_rfl) (by kernel_rfl) fun R12 hR12 => ?_
      refine WD.q (Y.move (.pl rfl)) rfl ?_
      refine WD.q (Y.move (.pl rfl)) rfl ?_
      refine WD.q (Y.elemN Try.underlying24 cells30 (.pl rfl) (.pl rfl) (by omega) (hv k (by omega)).1) rfl ?_
      refine WD.q (Y.loadAggE Try.underlying30 rfl cells30 (hv k (by omega)).1.1 (.pl rfl) rfl (fun w hw => hw.roA (hv k (by omega)).2)) rfl ?_
      refine WD.q (Y.move (.pl rfl)) rfl ?_
      refine WD.q (Y.move (.pl rfl)) rfl ?_
      refine WD.q (Y.elemN Try.underlying24 cells30 (.pl rfl) (.pl rfl) (by omega) (hu k (by omega)).1) rfl ?_
      refine WD.q (Y.loadAggE Try.underlying30 rfl cells30 (hu k (by omega)).1.1 (.pl rfl) rfl (fun w hw => hw.roA (hu k (by omega)).2)) rfl ?_
      refine WD.q (Y.cast (Y.neqS eqs30 (.pl rfl) (.pl rfl) rfl) (v' := .bool (!decide (xs[k] = ys[k]))) (by rw [← equalC_eq])) rfl ?_
      refine WD.next hR12 (.cons (i := 0) rfl (.cons (i := 1) rfl (.cons (i := 12) rfl (.cons (i := 13) rfl (.cons (i := 24) rfl (.nil)))))) ?_
      refine W.cond (.pl rfl) (fun hC2 => ?_) (fun hC2 => ?_)
      · -- C2 yes
        simp only [Bool.not_eq_true', Bool.not_eq_false', decide_eq_true_eq, decide_eq_false_iff_not] at hC2
        have hF : decide (xs = ys) = false := by simp; intro h; subst h; exact hC2 rfl
        -- region 7: slices.go:26
        refine W.seqR fun Q13 hQ13 => ?_
        refine WL.q (Y.assign (.pl rfl)) rfl ?_
        refine WL.next hQ13 (.cons (i := 4) rfl (.nil)) ?_
        refine W.ret1 (fn := Try.f23) Try.results23 rfl (fun _ _ h => h) (fun w hw => ?_)
        refine hR _ _ ?_
        rw [hF]
        exact ⟨rfl, hw⟩
      · -- C2 no
        simp only [Bool.not_eq_true', Bool.not_eq_false', decide_eq_true_eq, decide_eq_false_iff_not] at hC2
        have hN : xs.take (k + 1) = ys.take (k + 1) := by rw [List.take_succ_eq_append_getElem hk, List.take_succ_eq_append_getElem (by omega), hI.2, hC2]
        refine W.skip ?_
        refine W.go hK10 (.cons (i := 0) rfl (.cons (i := 1) rfl (.cons (i := 12) rfl (.cons (i := 13) rfl (.nil))))) ?_
        -- region 8: slices.go:24
        refine W.reg ?_
        refine WL.q (Y.add (.pl rfl) (.pl rfl) (by omega)) rfl ?_
        refine WL.q (Y.move (.pl rfl)) rfl ?_
        refine WL.nil ?_
        exact W.again hK7 (k + 1) (⟨by omega, hN⟩) (by omega) (.cons (rfl) (.nil)) (.cons (i := 0) rfl (.cons (i := 1) rfl (.cons (i := 12) rfl (.nil)))) (fun w hw => hw)
    · -- C1 no
      try simp only [Bool.or_eq_true, Bool.and_eq_true, Bool.not_eq_true', decide_eq_true_eq, decide_eq_false_iff_not, Bool.or_eq_false_iff, Bool.and_eq_false_iff, Bool.not_eq_false', Bool.not_eq_eq_eq_not, Bool.not_true, Bool.not_false] at hC1
      obtain rfl : k = xs.length := by omega
      have h2 : xs = ys := by have h := hI.2; rw [List.take_length] at h; exact h.trans (List.take_of_length_le (by omega))
      have hF : decide (xs = ys) = true := by simp [h2]
      refine W.exit ?_
      refine W.go hK5 (.nil) ?_
      -- region 9: slices.go:29
      refine W.seqR fun Q14 hQ14 => ?_
      refine WL.q (Y.assign (.pl rfl)) rfl ?_
      refine WL.next hQ14 (.cons (i := 4) rfl (.nil)) ?_
      refine W.ret1 (fn := Try.f23) Try.results23 rfl (fun _ _ h => h) (fun w hw => ?_)
      refine hR _ _ ?_
      rw [hF]
      exact ⟨rfl, hw⟩

def twoL : List Ev := [⟨0, 0, 1, 5⟩, ⟨1, 0, 2, 0⟩, ⟨1, 0, 0, 5⟩, ⟨0, 0, 0, 0⟩]
theorem two_ok (w : World) : Made Try.prog 39 [] w (fun b => .slice (some ⟨b, 0, none⟩) 4 4) (fun b => [cObj b (.cells (twoL.flatMap encE).toArray 36 (0, 0))]) (fun _ => True) := by
  refine W.enter (n := 6) Try.func39 rfl rfl Sub.refl (by simp) (St.start w) fun R hR => ?_
  -- region 0: history.go:13
  refine W.seqR fun Q1 hQ1 => ?_
  refine WL.q (Y.assign (.pl rfl)) rfl ?_
  refine WL.next hQ1 (.nil) ?_
  -- region 1: history.go:14
  refine W.seqR fun Q2 hQ2 => ?_
  refine WL.q (Y.build shape36 (.cons (.pl rfl) (.cons (.pl rfl) (.cons (.pl rfl) (.nil)))) (by simp [Value.oneCell']) rfl) rfl ?_
  refine WL.q (Y.build shape36 (.cons (.pl rfl) (.cons (.pl rfl) (.nil))) (by simp [Value.oneCell']) rfl) rfl ?_
  refine WL.q (Y.build shape36 (.cons (.pl rfl) (.cons (.pl rfl) (.nil))) (by simp [Value.oneCell']) rfl) rfl ?_
  refine WL.q (Y.build shape36 (.cons (.pl rfl) (.nil)) (by simp [Value.oneCell']) rfl) rfl ?_
  refine WL.step (WO.bslice Try.underlying23 bz36 (.cons (.pl rfl) (.cons (.pl rfl) (.cons (.pl rfl) (.cons (.pl rfl) (.nil))))) rfl (by simp [Value.cells]) (by decide) rfl fun b5 => ?_)
  refine WL.q (Y.assign (.pl rfl)) rfl ?_
  refine WL.next hQ2 (.cons (i := 0) rfl (.nil)) ?_
  refine W.ret1 (fn := Try.f39) Try.results39 rfl (fun _ _ h => h) (fun w hw => ?_)
  refine hR _ _ ?_
  exact ⟨b5, trivial, rfl, hw.cong rfl⟩

theorem lives_ok (w : World) : Pure Try.prog 16 [] w (.bool true) := by
  refine W.enter (n := 43) Try.func16 rfl rfl Sub.refl (by simp) (St.start w) fun R hR => ?_
  -- region 0: history.go:18
  refine W.seqR fun Q1 hQ1 => ?_
  refine WL.q (Y.assign (.pl rfl)) rfl ?_
  refine WL.next hQ1 (.nil) ?_
  -- region 1: history.go:19
  refine W.seqR fun Q2 hQ2 => ?_
  refine WL.step (WO.bslice Try.underlying22 bz3 (.cons (.pl rfl) (.nil)) rfl (by simp [Value.cells]) (by decide) rfl fun b8 => ?_)
  refine WL.step (WO.callM isGo39 (.nil) rfl (fun w hw => two_ok w) ?_)
  intro bt _
  refine WL.step (WO.callM isGo15 (.cons (.pl rfl) (.cons (.pl rfl) (.nil))) rfl (fun w hw => calls_ok _ _ [1] twoL w (.lit hw (i := 1) rfl) (.lit lenE hw (i := 0) rfl) (by decide) (by decide)) ?_)
  rintro ⟨A1, k1⟩ _
  refine WL.q (Y.move (.pl rfl)) rfl ?_
  refine WL.q (Y.extract (.pl rfl) rfl) rfl ?_
  refine WL.q (Y.extract (.pl rfl) rfl) rfl ?_
  refine WL.q (Y.extract (.pl rfl) rfl) rfl ?_
  refine WL.q (Y.assign (.pl rfl)) rfl ?_
  refine WL.q (Y.assign (.pl rfl)) rfl ?_
  refine WL.q (Y.assign (.pl rfl)) rfl ?_
  refine WL.next hQ2 (.cons (i := 1) rfl (.cons (i := 2) rfl (.cons (i := 3) rfl (.nil)))) ?_
  -- region 2: history.go:20
  refine W.seqR fun Q3 hQ3 => ?_
  refine WL.step (WO.bslice Try.underlying22 bz3 (.cons (.pl rfl) (.nil)) rfl (by simp [Value.cells]) (by decide) rfl fun b15 => ?_)
  refine WL.step (WO.callM isGo39 (.nil) rfl (fun w hw => two_ok w) ?_)
  intro bt _
  refine WL.q (Y.sliceFrom (j := 2) Try.underlying23 cells36 (.pl rfl) (.pl rfl) (by omega)) rfl ?_
  refine WL.step (WO.callM isGo15 (.cons (.pl rfl) (.cons (.pl rfl) (.nil))) rfl (fun w hw => calls_ok _ _ [1] (twoL.drop 2) w (.lit hw (i := 1) rfl) (.litFrom lenE hw (i := 0) rfl) (by decide) (by decide)) ?_)
  rintro ⟨A2, k2⟩ _
  refine WL.q (Y.move (.pl rfl)) rfl ?_
  refine WL.q (Y.extract (.pl rfl) rfl) rfl ?_
  refine WL.q (Y.extract (.pl rfl) rfl) rfl ?_
  refine WL.q (Y.extract (.pl rfl) rfl) rfl ?_
  refine WL.q (Y.assign (.pl rfl)) rfl ?_
  refine WL.q (Y.assign (.pl rfl)) rfl ?_
  refine WL.q (Y.assign (.pl rfl)) rfl ?_
  refine WL.next hQ3 (.cons (i := 1) rfl (.cons (i := 2) rfl (.cons (i := 3) rfl (.cons (i := 5) rfl (.cons (i := 6) rfl (.nil)))))) ?_
  -- region 3: history.go:21
  refine W.seqR fun Q4 hQ4 => ?_
  refine WL.q (Y.move (.pl rfl)) rfl ?_
  refine WL.q (Y.eql (.pl rfl) (.pl rfl)) rfl ?_
  refine WL.q (Y.move (.pl rfl)) rfl ?_
  refine WL.gd (.pl rfl rfl rfl) (by decide) ?_
  refine WL.q (Y.move (.pl rfl)) rfl ?_
  refine WL.gd (.pl rfl rfl rfl) (by decide) ?_
  refine WL.q (Y.eql (.pl rfl) (.pl rfl)) rfl ?_
  refine WL.q (Y.and (.pl rfl) (fun _ => .pl rfl)) rfl ?_
  refine WL.q (Y.move (.pl rfl)) rfl ?_
  refine WL.gd (.pl rfl rfl rfl) (by decide) ?_
  refine WL.q (Y.move (.pl rfl)) rfl ?_
  refine WL.gd (.pl rfl rfl rfl) (by decide) ?_
  refine WL.q (Y.eql (.pl rfl) (.pl rfl)) rfl ?_
  refine WL.q (Y.and (.pl rfl) (fun _ => .pl rfl)) rfl ?_
  refine WL.q (Y.move (.pl rfl)) rfl ?_
  refine WL.gd (.pl rfl rfl rfl) (by decide) ?_
  refine WL.q (Y.move (.pl rfl)) rfl ?_
  refine WL.gd (.pl rfl rfl rfl) (by decide) ?_
  refine WL.q (Y.eql (.pl rfl) (.pl rfl)) rfl ?_
  refine WL.q (Y.and (.pl rfl) (fun _ => .pl rfl)) rfl ?_
  refine WL.q (Y.move (.pl rfl)) rfl ?_
  refine WL.gd (.pl rfl rfl rfl) (by decide) ?_
  refine WL.q (Y.move (.pl rfl)) rfl ?_
  refine WL.gd (.pl rfl rfl rfl) (by decide) ?_
  refine WL.q (Y.build shape30 (.cons (.pl rfl) (.cons (.pl rfl) (.cons (.pl rfl) (.cons (.pl rfl) (.cons (.pl rfl) (.nil)))))) (by simp [Value.oneCell']) rfl) rfl ?_
  refine WL.gd (.pl rfl rfl rfl) (by decide) ?_
  refine WL.q (Y.build shape30 (.cons (.pl rfl) (.cons (.pl rfl) (.cons (.pl rfl) (.cons (.pl rfl) (.cons (.pl rfl) (.nil)))))) (by simp [Value.oneCell']) rfl) rfl ?_
  refine WL.gd (.pl rfl rfl rfl) (by decide) ?_
  refine WL.step (WO.bslice Try.underlying24 bz30 (.cons (.pl rfl) (.cons (.pl rfl) (.nil))) rfl (by simp [Value.cells]) (by decide) rfl fun b40 => ?_)
  refine WL.gd (.pl rfl rfl rfl) (by decide) ?_
  refine WL.step (WO.callP isGo23 (.cons (.pl rfl) (.cons (.pl rfl) (.nil))) rfl (fun w hw => equalC_ok _ _ (callsF [1] twoL).1 [⟨0, 0, 1, 5, 0, 0, 3⟩, ⟨1, 0, 2, 0, 5, 1, 2⟩] w (SlIn.row lenC hw (i := 4) rfl) (.lit lenC hw (i := 0) rfl) (by decide)) ?_)
  refine WL.q (Y.and (.pl rfl) (fun _ => .pl rfl)) rfl ?_
  refine WL.q (Y.assign (.pl rfl)) rfl ?_
  refine WL.next hQ4 (.cons (i := 0) rfl (.nil)) ?_
  refine W.ret1 (fn := Try.f16) Try.results16 rfl (fun _ _ h => h) (fun w hw => ?_)
  refine hR _ _ ?_
  exact ⟨rfl, hw.sub ⟨_, by rw [List.nil_append]⟩⟩

end Go.Proofs.Ytooaoekfnmakhaa
