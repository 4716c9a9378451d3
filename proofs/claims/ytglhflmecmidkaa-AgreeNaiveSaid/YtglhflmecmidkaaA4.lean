/- The walks of slices.Equal and of ok. -/
import Derived.Test.YtglhflmecmidkaaA3
set_option linter.unusedVariables false
set_option linter.unusedSimpArgs false
set_option linter.unusedSectionVars false
set_option maxRecDepth 100000
namespace Go.Proofs.Ytglhflmecmidkaa
open Go.RowKit
theorem cells23 : Try.prog.cellsOf 23 = 0 + 1 := by kernel_rfl
theorem equal_ok (v1 v2 : Value) (xs ys : List Int) (w : World) (h1 : IntsIn w v1 xs) (h2 : IntsIn w v2 ys) (hl : xs.length ≤ maxLen) : Pure Try.prog 16 [v1, v2] w (.bool (decide (xs = ys))) := by
  obtain ⟨a1, c1, rfl, hcap1, hv⟩ := h1
  obtain ⟨a2, c2, rfl, hcap2, hu⟩ := h2
  unfold maxLen at hl
  refine W.enter (n := 26) Try.func16 rfl rfl Sub.refl (by simp) (St.start w) fun R hR => ?_
  -- region 0: slices.go:20
  refine W.seqR fun Q1 hQ1 => ?_
  refine WL.q (Y.assign (.pl rfl)) rfl ?_
  refine WL.next hQ1 (.cons (i := 0) rfl (.cons (i := 1) rfl (.nil))) ?_
  refine W.seq fun K2 hK2 => ?_
  -- region 1: slices.go:21
  refine W.seqR fun Q3 hQ3 => ?_
  refine WL.q (Y.move (.pl rfl)) rfl ?_
  refine WL.q (Y.len Try.underlying22 (.pl rfl)) rfl ?_
  refine WL.q (Y.move (.pl rfl)) rfl ?_
  refine WL.q (Y.len Try.underlying22 (.pl rfl)) rfl ?_
  refine WL.q (Y.neq (.pl rfl) (.pl rfl)) rfl ?_
  refine WL.next hQ3 (.cons (i := 0) rfl (.cons (i := 1) rfl (.cons (i := 10) rfl (.nil)))) ?_
  refine W.cond (.pl rfl) (fun hC0 => ?_) (fun hC0 => ?_)
  · -- C0 yes
    try simp only [Bool.or_eq_true, Bool.and_eq_true, Bool.not_eq_true', decide_eq_true_eq, decide_eq_false_iff_not, Bool.or_eq_false_iff, Bool.and_eq_false_iff, Bool.not_eq_false', Bool.not_eq_eq_eq_not, Bool.not_true, Bool.not_false] at hC0
    have hF : decide (xs = ys) = false := by simp; intro h; exact hC0 (by rw [h])
    -- region 2: slices.go:22
    refine W.seqR fun Q4 hQ4 => ?_
    refine WL.q (Y.assign (.pl rfl)) rfl ?_
    refine WL.next hQ4 (.cons (i := 4) rfl (.nil)) ?_
    refine W.ret1 (fn := Try.f16) Try.results16 rfl (fun _ _ h => h) (fun w hw => ?_)
    refine hR _ _ ?_
    rw [hF]
    exact ⟨rfl, hw⟩
  · -- C0 no
    try simp only [Bool.or_eq_true, Bool.and_eq_true, Bool.not_eq_true', decide_eq_true_eq, decide_eq_false_iff_not, Bool.or_eq_false_iff, Bool.and_eq_false_iff, Bool.not_eq_false', Bool.not_eq_eq_eq_not, Bool.not_true, Bool.not_false] at hC0
    refine W.skip ?_
    refine W.go hK2 (.cons (i := 0) rfl (.cons (i := 1) rfl (.nil))) ?_
    refine W.seq fun K5 hK5 => ?_
    -- region 3: slices.go:24
    refine W.seqR fun Q6 hQ6 => ?_
    refine WL.q (Y.move (.pl rfl)) rfl ?_
    refine WL.q (Y.len Try.underlying22 (.pl rfl)) rfl ?_
    refine WL.q (Y.move (.pl rfl)) rfl ?_
    refine WL.next hQ6 (.cons (i := 0) rfl (.cons (i := 1) rfl (.cons (i := 12) rfl (.cons (i := 13) rfl (.nil))))) ?_
    refine W.block ?_
    refine W.loop (γ := Nat) (Em := fun k => [(13, .int .i64 (k : Int))]) (M := fun _ => []) (I := fun k => k ≤ xs.length ∧ xs.take k = ys.take k) (m := fun k => xs.length - k) (0) (⟨Nat.zero_le _, by simp⟩) (.cons rfl (.nil)) (.cons (i := 0) rfl (.cons (i := 1) rfl (.cons (i := 12) rfl (.nil)))) (fun w hw => hw) (fun k hI K7 hK7 => ?_)
    -- region 4: slices.go:24
    refine W.seqR fun Q8 hQ8 => ?_
    refine WL.q (Y.lss (.pl rfl) (.pl rfl)) rfl ?_
    refine WL.next hQ8 (.cons (i := 0) rfl (.cons (i := 1) rfl (.cons (i := 12) rfl (.cons (i := 13) rfl (.cons (i := 14) rfl (.nil)))))) ?_
    refine W.seq fun K9 hK9 => ?_
    refine W.cond (.pl rfl) (fun hC1 => ?_) (fun hC1 => ?_)
    · -- C1 yes
      try simp only [Bool.or_eq_true, Bool.and_eq_true, Bool.not_eq_true', decide_eq_true_eq, decide_eq_false_iff_not, Bool.or_eq_false_iff, Bool.and_eq_false_iff, Bool.not_eq_false', Bool.not_eq_eq_eq_not, Bool.not_true, Bool.not_false] at hC1
      have hk : k < xs.length := by omega
      refine W.skip ?_
      refine W.go hK9 (.cons (i := 0) rfl (.cons (i := 1) rfl (.cons (i := 12) rfl (.cons (i := 13) rfl (.nil))))) ?_
      refine W.seq fun K10 hK10 => ?_
      refine W.block ?_
      -- region 5: slices.go:24
      refine W.seqR fun Q11 hQ11 => ?_
      refine WL.q (Y.move (.pl rfl)) rfl ?_
      refine WL.q (Y.assign (.pl rfl)) rfl ?_
      refine WL.next hQ11 (.cons (i := 0) rfl (.cons (i := 1) rfl (.cons (i := 5) rfl (.cons (i := 12) rfl (.cons (i := 13) rfl (.nil)))))) ?_
      -- region 6: slices.go:25
      refine W.seqD (by kernel_rfl) (by kernel_rfl) fun R12 hR12 => ?_
      refine WD.q (Y.move (.pl rfl)) rfl ?_
      refine WD.q (Y.move (.pl rfl)) rfl ?_
      refine WD.q (Y.elem1N Try.underlying22 cells3 (.pl rfl) (.pl rfl) (by omega) (hv k (by omega)).1) rfl ?_
      refine WD.q (Y.load Try.underlying3 rfl (.pl rfl) (fun w hw => hw.roW (hv k (by omega)).2)) rfl ?_
      refine WD.q (Y.move (.pl rfl)) rfl ?_
      refine WD.q (Y.move (.pl rfl)) rfl ?_
      refine WD.q (Y.elem1N Try.underlying22 cells3 (.pl rfl) (.pl rfl) (by omega) (hu k (by omega)).1) rfl ?_
      refine WD.q (Y.load Try.underlying3 rfl (.pl rfl) (fun w hw => hw.roW (hu k (by omega)).2)) rfl ?_
      refine WD.q (Y.neq (.pl rfl) (.pl rfl)) rfl ?_
      refine WD.next hR12 (.cons (i := 0) rfl (.cons (i := 1) rfl (.cons (i := 12) rfl (.cons (i := 13) rfl (.cons (i := 24) rfl (.nil)))))) ?_
      refine W.cond (.pl rfl) (fun hC2 => ?_) (fun hC2 => ?_)
      · -- C2 yes
        try simp only [Bool.or_eq_true, Bool.and_eq_true, Bool.not_eq_true', decide_eq_true_eq, decide_eq_false_iff_not, Bool.or_eq_false_iff, Bool.and_eq_false_iff, Bool.not_eq_false', Bool.not_eq_eq_eq_not, Bool.not_true, Bool.not_false] at hC2
        have hF : decide (xs = ys) = false := by simp; intro h; subst h; exact hC2 rfl
        -- region 7: slices.go:26
        refine W.seqR fun Q13 hQ13 => ?_
        refine WL.q (Y.assign (.pl rfl)) rfl ?_
        refine WL.next hQ13 (.cons (i := 4) rfl (.nil)) ?_
        refine W.ret1 (fn := Try.f16) Try.results16 rfl (fun _ _ h => h) (fun w hw => ?_)
        refine hR _ _ ?_
        rw [hF]
        exact ⟨rfl, hw⟩
      · -- C2 no
        try simp only [Bool.or_eq_true, Bool.and_eq_true, Bool.not_eq_true', decide_eq_true_eq, decide_eq_false_iff_not, Bool.or_eq_false_iff, Bool.and_eq_false_iff, Bool.not_eq_false', Bool.not_eq_eq_eq_not, Bool.not_true, Bool.not_false] at hC2
        have hN : xs.take (k + 1) = ys.take (k + 1) := by rw [List.take_succ_eq_append_getElem hk, List.take_succ_eq_append_getElem (by omega), hI.2, hC2]
        refine W.skip ?_
        refine W.go hK10 (.cons (i := 0) rfl (.cons (i := 1) rfl (.cons (i := 12) rfl (.cons (i := 13) rfl (.nil))))) ?_
        -- region 8: slices.go:24
        refine W.reg ?_
        refine WL.q (Y.add (.pl rfl) (.pl rfl) (by omega)) rfl ?_
        refine WL.q (Y.move (.pl rfl)) rfl ?_
        refine WL.nil ?_
        exact W.again hK7 (k + 1) (⟨by omega, hN⟩) (by omega) (.cons (rfl) (.nil)) (.cons (i := 0) rfl (.cons (i := 1) rfl (.cons (i := 12) rfl (.nil)))) (fun w hw => hw)
    · -- C1 no
      try simp only [Bool.or_eq_true, Bool.and_eq_true, Bool.not_eq_true', decide_eq_true_eq, decide_eq_false_iff_not, Bool.or_eq_false_iff, Bool.and_eq_false_iff, Bool.not_eq_false', Bool.not_eq_eq_eq_not, Bool.not_true, Bool.not_false] at hC1
      obtain rfl : k = xs.length := by omega
      have h2 : xs = ys := by have h := hI.2; rw [List.take_length] at h; exact h.trans (List.take_of_length_le (by omega))
      have hF : decide (xs = ys) = true := by simp [h2]
      refine W.exit ?_
      refine W.go hK5 (.nil) ?_
      -- region 9: slices.go:29
      refine W.seqR fun Q14 hQ14 => ?_
      refine WL.q (Y.assign (.pl rfl)) rfl ?_
      refine WL.next hQ14 (.cons (i := 4) rfl (.nil)) ?_
      refine W.ret1 (fn := Try.f16) Try.results16 rfl (fun _ _ h => h) (fun w hw => ?_)
      refine hR _ _ ?_
      rw [hF]
      exact ⟨rfl, hw⟩

theorem okk_ok (v1 : Value) (xs : List Int) (w : World) (h1 : IntsIn w v1 xs) (hl : xs.length ≤ maxLen) : Pure Try.prog 15 [v1] w (.bool (xs.all fun x => decide (x = 0))) := by
  obtain ⟨a1, c1, rfl, hcap1, hv⟩ := h1
  unfold maxLen at hl
  refine W.enter (n := 14) Try.func15 rfl rfl Sub.refl (by simp) (St.start w) fun R hR => ?_
  -- region 0: order.go:22
  refine W.seqR fun Q1 hQ1 => ?_
  refine WL.q (Y.assign (.pl rfl)) rfl ?_
  refine WL.next hQ1 (.cons (i := 0) rfl (.nil)) ?_
  refine W.seq fun K2 hK2 => ?_
  -- region 1: order.go:23
  refine W.seqR fun Q3 hQ3 => ?_
  refine WL.q (Y.move (.pl rfl)) rfl ?_
  refine WL.q (Y.len Try.underlying42 (.pl rfl)) rfl ?_
  refine WL.q (Y.move (.pl rfl)) rfl ?_
  refine WL.next hQ3 (.cons (i := 5) rfl (.cons (i := 6) rfl (.cons (i := 7) rfl (.nil)))) ?_
  refine W.block ?_
  refine W.loop (γ := Nat) (Em := fun k => [(7, .int .i64 (k : Int))]) (M := fun _ => []) (I := fun k => k ≤ xs.length ∧ ((xs.take k).all fun x => decide (x = 0)) = true) (m := fun k => xs.length - k) (0) (⟨Nat.zero_le _, by simp⟩) (.cons rfl (.nil)) (.cons (i := 5) rfl (.cons (i := 6) rfl (.nil))) (fun w hw => hw) (fun k hI K4 hK4 => ?_)
  -- region 2: order.go:23
  refine W.seqR fun Q5 hQ5 => ?_
  refine WL.q (Y.lss (.pl rfl) (.pl rfl)) rfl ?_
  refine WL.next hQ5 (.cons (i := 5) rfl (.cons (i := 6) rfl (.cons (i := 7) rfl (.cons (i := 8) rfl (.nil))))) ?_
  refine W.seq fun K6 hK6 => ?_
  refine W.cond (.pl rfl) (fun hC0 => ?_) (fun hC0 => ?_)
  · -- C0 yes
    try simp only [Bool.or_eq_true, Bool.and_eq_true, Bool.not_eq_true', decide_eq_true_eq, decide_eq_false_iff_not, Bool.or_eq_false_iff, Bool.and_eq_false_iff, Bool.not_eq_false', Bool.not_eq_eq_eq_not, Bool.not_true, Bool.not_false] at hC0
    have hk : k < xs.length := by omega
    refine W.skip ?_
    refine W.go hK6 (.cons (i := 5) rfl (.cons (i := 6) rfl (.cons (i := 7) rfl (.nil)))) ?_
    refine W.seq fun K7 hK7 => ?_
    refine W.block ?_
    -- region 3: order.go:23
    refine W.seqR fun Q8 hQ8 => ?_
    refine WL.q (Y.elem1N Try.underlying42 cells23 (.pl rfl) (.pl rfl) (by omega) (hv k (by omega)).1) rfl ?_
    refine WL.q (Y.load Try.underlying23 rfl (.pl rfl) (fun w hw => hw.roW (hv k (by omega)).2)) rfl ?_
    refine WL.q (Y.assign (.pl rfl)) rfl ?_
    refine WL.next hQ8 (.cons (i := 4) rfl (.cons (i := 5) rfl (.cons (i := 6) rfl (.cons (i := 7) rfl (.nil))))) ?_
    -- region 4: order.go:24
    refine W.seqR fun Q9 hQ9 => ?_
    refine WL.q (Y.move (.pl rfl)) rfl ?_
    refine WL.q (Y.neq (.pl rfl) (.pl rfl)) rfl ?_
    refine WL.next hQ9 (.cons (i := 5) rfl (.cons (i := 6) rfl (.cons (i := 7) rfl (.cons (i := 12) rfl (.nil))))) ?_
    refine W.cond (.pl rfl) (fun hC1 => ?_) (fun hC1 => ?_)
    · -- C1 yes
      try simp only [Bool.or_eq_true, Bool.and_eq_true, Bool.not_eq_true', decide_eq_true_eq, decide_eq_false_iff_not, Bool.or_eq_false_iff, Bool.and_eq_false_iff, Bool.not_eq_false', Bool.not_eq_eq_eq_not, Bool.not_true, Bool.not_false] at hC1
      have hF : (xs.all fun x => decide (x = 0)) = false := by rw [List.all_eq_false]; exact ⟨_, List.getElem_mem hk, by simpa using hC1⟩
      -- region 5: order.go:25
      refine W.seqR fun Q10 hQ10 => ?_
      refine WL.q (Y.assign (.pl rfl)) rfl ?_
      refine WL.next hQ10 (.cons (i := 2) rfl (.nil)) ?_
      refine W.ret1 (fn := Try.f15) Try.results15 rfl (fun _ _ h => h) (fun w hw => ?_)
      refine hR _ _ ?_
      rw [hF]
      exact ⟨rfl, hw⟩
    · -- C1 no
      try simp only [Bool.or_eq_true, Bool.and_eq_true, Bool.not_eq_true', decide_eq_true_eq, decide_eq_false_iff_not, Bool.or_eq_false_iff, Bool.and_eq_false_iff, Bool.not_eq_false', Bool.not_eq_eq_eq_not, Bool.not_true, Bool.not_false] at hC1
      have hN : ((xs.take (k + 1)).all fun x => decide (x = 0)) = true := by rw [List.take_succ_eq_append_getElem hk, List.all_append, hI.2]; simpa using hC1
      refine W.skip ?_
      refine W.go hK7 (.cons (i := 5) rfl (.cons (i := 6) rfl (.cons (i := 7) rfl (.nil)))) ?_
      -- region 6: order.go:23
      refine W.reg ?_
      refine WL.q (Y.add (.pl rfl) (.pl rfl) (by omega)) rfl ?_
      refine WL.q (Y.move (.pl rfl)) rfl ?_
      refine WL.nil ?_
      exact W.again hK4 (k + 1) (⟨by omega, hN⟩) (by omega) (.cons (rfl) (.nil)) (.cons (i := 5) rfl (.cons (i := 6) rfl (.nil))) (fun w hw => hw)
  · -- C0 no
    try simp only [Bool.or_eq_true, Bool.and_eq_true, Bool.not_eq_true', decide_eq_true_eq, decide_eq_false_iff_not, Bool.or_eq_false_iff, Bool.and_eq_false_iff, Bool.not_eq_false', Bool.not_eq_eq_eq_not, Bool.not_true, Bool.not_false] at hC0
    obtain rfl : k = xs.length := by omega
    have hF : (xs.all fun x => decide (x = 0)) = true := by have h := hI.2; rw [List.take_length] at h; exact h
    refine W.exit ?_
    refine W.go hK2 (.nil) ?_
    -- region 7: order.go:28
    refine W.seqR fun Q11 hQ11 => ?_
    refine WL.q (Y.assign (.pl rfl)) rfl ?_
    refine WL.next hQ11 (.cons (i := 2) rfl (.nil)) ?_
    refine W.ret1 (fn := Try.f15) Try.results15 rfl (fun _ _ h => h) (fun w hw => ?_)
    refine hR _ _ ?_
    rw [hF]
    exact ⟨rfl, hw⟩

end Go.Proofs.Ytglhflmecmidkaa
