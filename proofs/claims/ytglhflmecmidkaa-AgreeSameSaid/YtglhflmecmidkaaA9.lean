/- The walks of slices.ContainsFunc and the closure of AgreeSame. -/
import Derived.Test.YtglhflmecmidkaaA8
import Derived.Test.YtglhflmecmidkaaL3
set_option linter.unusedVariables false
set_option linter.unusedSimpArgs false
set_option linter.unusedSectionVars false
set_option maxRecDepth 100000
namespace Go.Proofs.Ytglhflmecmidkaa
open Go.RowKit
theorem isGo17 : IsGo Try.prog 17 := ⟨_, Try.func17, by kernel_rfl, rfl⟩
theorem same1_ok (z x : Int) (b4 b10 : Nat) (v1 : Value) (vs : List Int) (w : World) (h1 : IntsIn w v1 vs) (hl1 : vs.length ≤ maxLen) (h4 : w.cell? ⟨b4, 0, none⟩ = some v1) (h10 : w.cell? ⟨b10, 0, none⟩ = some (.int .i64 x)) :
    Pure Try.prog 10 [.int .i64 z, .pointer (some ⟨b4, 0, none⟩), .pointer (some ⟨b10, 0, none⟩)] w (.bool (decide (0 ≤ z) && decide (z < vs.length) && decide (vs.getD z.toNat 0 = x))) := by
  obtain ⟨a1, c1, rfl, hcap1, hv⟩ := h1
  have hvD : ∀ i, i < vs.length → w.cell? (elA a1 i) = some (.int .i64 (vs.getD i 0)) := fun i hi => by rw [getD_get hi]; exact (hv i hi).2
  unfold maxLen at hl1
  refine W.enter (n := 21) Try.func10 rfl rfl Sub.refl (by simp) (St.start w) fun R hR => ?_
  -- region 0: agree.go:27
  refine W.seqR fun Q1 hQ1 => ?_
  refine WL.q (Y.assign (.pl rfl)) rfl ?_
  refine WL.next hQ1 (.cons (i := 0) rfl (.cons (i := 1) rfl (.cons (i := 2) rfl (.nil)))) ?_
  -- region 1: agree.go:27
  refine W.seqD (by kernel_rfl) (by kernel_rfl) fun R2 hR2 => ?_
  refine WD.q (Y.move (.pl rfl)) rfl ?_
  refine WD.q (Y.geq (.pl rfl) (.pl rfl)) rfl ?_
  refine WD.q (Y.move (.pl rfl)) rfl ?_
  refine WD.g (.pl rfl rfl rfl) (fun _ => Y.move (.pl rfl)) rfl ?_
  refine WD.g (.pl rfl rfl rfl) (fun _ => Y.load Try.underlying22 rfl (.pl rfl) (fun w hw => hw.roW h4)) rfl ?_
  refine WD.g (.pl rfl rfl rfl) (fun hg => Y.len Try.underlying22 (.gd (hg) rfl)) rfl ?_
  refine WD.g (.pl rfl rfl rfl) (fun hg => Y.lss (.gd (hg) rfl) (.gd (hg) rfl)) rfl ?_
  refine WD.q (Y.and (.pl rfl) (fun h2 => .gd (eqt h2) rfl)) rfl ?_
  refine WD.q (Y.move (.pl rfl)) rfl ?_
  refine WD.g (.pl rfl rfl rfl) (fun _ => Y.load Try.underlying22 rfl (.pl rfl) (fun w hw => hw.roW h4)) rfl ?_
  refine WD.g (.pl rfl rfl rfl) (fun _ => Y.move (.pl rfl)) rfl ?_
  refine WD.g (.pl rfl rfl rfl) (fun hg => Y.elem1Z Try.underlying22 cells3 (.gd (hg) rfl) (.gd (hg) rfl) (by simp at hg; omega) (hv z.toNat (by simp at hg; omega)).1) rfl ?_
  refine WD.g (.pl rfl rfl rfl) (fun hg => Y.load Try.underlying3 rfl (.gd (hg) rfl) (fun w hw => hw.roW (hvD z.toNat (by simp at hg; omega)))) rfl ?_
  refine WD.g (.pl rfl rfl rfl) (fun _ => Y.load Try.underlying3 rfl (.pl rfl) (fun w hw => hw.roW h10)) rfl ?_
  refine WD.g (.pl rfl rfl rfl) (fun hg => Y.eql (.gd (hg) rfl) (.gd (hg) rfl)) rfl ?_
  refine WD.q (Y.and (.pl rfl) (fun h2 => .gd (eqt h2) rfl)) rfl ?_
  refine WD.q (Y.assign (.pl rfl)) rfl ?_
  refine WD.next hR2 (.cons (i := 4) rfl (.nil)) ?_
  refine W.ret1 (fn := Try.f10) Try.results10 rfl (fun _ _ h => h) (fun w hw => ?_)
  refine hR _ _ ?_
  exact ⟨rfl, hw⟩

theorem findIdx_of {xs : List Int} {p : Int → Bool} {k : Nat} (hk : k < xs.length) (h : p xs[k] = true) (h0 : (xs.take k).any p = false) : xs.findIdx p = k := by
  rw [List.findIdx_eq hk]
  refine ⟨h, fun j hj => ?_⟩
  rw [List.any_eq_false] at h0
  have := h0 xs[j] (by rw [List.mem_iff_getElem]; exact ⟨j, by simp; omega, by simp⟩)
  simpa using this

theorem indexFunc_ok (f : FuncId) (cap : List Value) (hf : IsGo Try.prog f) (v1 : Value) (xs : List Int) (p : Int → Bool) (w : World) (h1 : IntsIn w v1 xs) (hl1 : xs.length ≤ maxLen) (hp : ∀ w', St w.heap.size w [] w' → ∀ x ∈ xs, Pure Try.prog f (.int .i64 x :: cap) w' (.bool (p x))) :
    Pure Try.prog 17 [v1, .func (.func f) #[] cap.toArray] w (.int .i64 (if xs.any p then ((xs.findIdx p : Nat) : Int) else -1)) := by
  obtain ⟨a1, c1, rfl, hcap1, hv⟩ := h1
  unfold maxLen at hl1
  refine W.enter (n := 19) Try.func17 rfl rfl Sub.refl (by simp) (St.start w) fun R hR => ?_
  -- region 0: slices.go:107
  refine W.seqR fun Q1 hQ1 => ?_
  refine WL.q (Y.assign (.pl rfl)) rfl ?_
  refine WL.next hQ1 (.cons (i := 0) rfl (.cons (i := 1) rfl (.nil))) ?_
  refine W.seq fun K2 hK2 => ?_
  -- region 1: slices.go:108
  refine W.seqR fun Q3 hQ3 => ?_
  refine WL.q (Y.move (.pl rfl)) rfl ?_
  refine WL.q (Y.len Try.underlying22 (.pl rfl)) rfl ?_
  refine WL.q (Y.move (.pl rfl)) rfl ?_
  refine WL.next hQ3 (.cons (i := 0) rfl (.cons (i := 1) rfl (.cons (i := 7) rfl (.cons (i := 8) rfl (.nil))))) ?_
  refine W.block ?_
  refine W.loop (γ := Nat) (Em := fun k => [(8, .int .i64 (k : Int))]) (M := fun _ => []) (I := fun k => k ≤ xs.length ∧ (xs.take k).any p = false) (m := fun k => xs.length - k) (0) (⟨Nat.zero_le _, by simp⟩) (.cons rfl (.nil)) (.cons (i := 0) rfl (.cons (i := 1) rfl (.cons (i := 7) rfl (.nil)))) (fun w hw => hw) (fun k hI K4 hK4 => ?_)
  -- region 2: slices.go:108
  refine W.seqR fun Q5 hQ5 => ?_
  refine WL.q (Y.lss (.pl rfl) (.pl rfl)) rfl ?_
  refine WL.next hQ5 (.cons (i := 0) rfl (.cons (i := 1) rfl (.cons (i := 7) rfl (.cons (i := 8) rfl (.cons (i := 9) rfl (.nil)))))) ?_
  refine W.seq fun K6 hK6 => ?_
  refine W.cond (.pl rfl) (fun hC0 => ?_) (fun hC0 => ?_)
  · -- C0 yes
    try simp only [Bool.or_eq_true, Bool.and_eq_true, Bool.not_eq_true', decide_eq_true_eq, decide_eq_false_iff_not, Bool.or_eq_false_iff, Bool.and_eq_false_iff, Bool.not_eq_false', Bool.not_eq_eq_eq_not, Bool.not_true, Bool.not_false] at hC0
    have hk : k < xs.length := by omega
    refine W.skip ?_
    refine W.go hK6 (.cons (i := 0) rfl (.cons (i := 1) rfl (.cons (i := 7) rfl (.cons (i := 8) rfl (.nil))))) ?_
    refine W.seq fun K7 hK7 => ?_
    refine W.block ?_
    -- region 3: slices.go:108
    refine W.seqR fun Q8 hQ8 => ?_
    refine WL.q (Y.move (.pl rfl)) rfl ?_
    refine WL.q (Y.assign (.pl rfl)) rfl ?_
    refine WL.next hQ8 (.cons (i := 0) rfl (.cons (i := 1) rfl (.cons (i := 5) rfl (.cons (i := 7) rfl (.cons (i := 8) rfl (.nil)))))) ?_
    -- region 4: slices.go:109
    refine W.seqR fun Q9 hQ9 => ?_
    refine WL.q (Y.move (.pl rfl)) rfl ?_
    refine WL.q (Y.move (.pl rfl)) rfl ?_
    refine WL.q (Y.move (.pl rfl)) rfl ?_
    refine WL.q (Y.elem1N Try.underlying22 cells3 (.pl rfl) (.pl rfl) (by omega) (hv k (by omega)).1) rfl ?_
    refine WL.q (Y.load Try.underlying3 rfl (.pl rfl) (fun w hw => hw.roW (hv k (by omega)).2)) rfl ?_
    refine WL.step (WO.callVP (hf) (.pl rfl) (.cons (.pl rfl) (.nil)) rfl (fun w hw => hp w hw _ (List.getElem_mem hk)) ?_)
    refine WL.next hQ9 (.cons (i := 0) rfl (.cons (i := 1) rfl (.cons (i := 5) rfl (.cons (i := 7) rfl (.cons (i := 8) rfl (.cons (i := 16) rfl (.nil))))))) ?_
    refine W.cond (.pl rfl) (fun hC1 => ?_) (fun hC1 => ?_)
    · -- C1 yes
      try simp only [Bool.or_eq_true, Bool.and_eq_true, Bool.not_eq_true', decide_eq_true_eq, decide_eq_false_iff_not, Bool.or_eq_false_iff, Bool.and_eq_false_iff, Bool.not_eq_false', Bool.not_eq_eq_eq_not, Bool.not_true, Bool.not_false] at hC1
      have hA : xs.any p = true := any_of_get hk hC1
      have hX : xs.findIdx p = k := findIdx_of hk hC1 hI.2
      -- region 5: slices.go:110
      refine W.seqR fun Q10 hQ10 => ?_
      refine WL.q (Y.move (.pl rfl)) rfl ?_
      refine WL.q (Y.assign (.pl rfl)) rfl ?_
      refine WL.next hQ10 (.cons (i := 4) rfl (.nil)) ?_
      refine W.ret1 (fn := Try.f17) Try.results17 rfl (fun _ _ h => h) (fun w hw => ?_)
      refine hR _ _ ?_
      rw [if_pos hA, hX]
      exact ⟨rfl, hw⟩
    · -- C1 no
      try simp only [Bool.or_eq_true, Bool.and_eq_true, Bool.not_eq_true', decide_eq_true_eq, decide_eq_false_iff_not, Bool.or_eq_false_iff, Bool.and_eq_false_iff, Bool.not_eq_false', Bool.not_eq_eq_eq_not, Bool.not_true, Bool.not_false] at hC1
      have hN := any_take_succ hk hI.2 hC1
      refine W.skip ?_
      refine W.go hK7 (.cons (i := 0) rfl (.cons (i := 1) rfl (.cons (i := 7) rfl (.cons (i := 8) rfl (.nil))))) ?_
      -- region 6: slices.go:108
      refine W.reg ?_
      refine WL.q (Y.add (.pl rfl) (.pl rfl) (by omega)) rfl ?_
      refine WL.q (Y.move (.pl rfl)) rfl ?_
      refine WL.nil ?_
      exact W.again hK4 (k + 1) (⟨by omega, hN⟩) (by omega) (.cons (rfl) (.nil)) (.cons (i := 0) rfl (.cons (i := 1) rfl (.cons (i := 7) rfl (.nil)))) (fun w hw => hw)
  · -- C0 no
    try simp only [Bool.or_eq_true, Bool.and_eq_true, Bool.not_eq_true', decide_eq_true_eq, decide_eq_false_iff_not, Bool.or_eq_false_iff, Bool.and_eq_false_iff, Bool.not_eq_false', Bool.not_eq_eq_eq_not, Bool.not_true, Bool.not_false] at hC0
    obtain rfl : k = xs.length := by omega
    have hA := hI.2
    rw [List.take_length] at hA
    refine W.exit ?_
    refine W.go hK2 (.nil) ?_
    -- region 7: slices.go:113
    refine W.seqR fun Q11 hQ11 => ?_
    refine WL.q (Y.assign (.pl rfl)) rfl ?_
    refine WL.next hQ11 (.cons (i := 4) rfl (.nil)) ?_
    refine W.ret1 (fn := Try.f17) Try.results17 rfl (fun _ _ h => h) (fun w hw => ?_)
    refine hR _ _ ?_
    rw [hA]
    exact ⟨rfl, hw⟩

theorem containsFunc_ok (f : FuncId) (cap : List Value) (hf : IsGo Try.prog f) (v1 : Value) (xs : List Int) (p : Int → Bool) (w : World) (h1 : IntsIn w v1 xs) (hl1 : xs.length ≤ maxLen) (hp : ∀ w', St w.heap.size w [] w' → ∀ x ∈ xs, Pure Try.prog f (.int .i64 x :: cap) w' (.bool (p x))) :
    Pure Try.prog 9 [v1, .func (.func f) #[] cap.toArray] w (.bool (xs.any p)) := by
  refine W.enter (n := 9) Try.func9 rfl rfl Sub.refl (by simp) (St.start w) fun R hR => ?_
  -- region 0: slices.go:124
  refine W.seqR fun Q1 hQ1 => ?_
  refine WL.q (Y.assign (.pl rfl)) rfl ?_
  refine WL.next hQ1 (.cons (i := 0) rfl (.cons (i := 1) rfl (.nil))) ?_
  -- region 1: slices.go:125
  refine W.seqR fun Q2 hQ2 => ?_
  refine WL.q (Y.move (.pl rfl)) rfl ?_
  refine WL.q (Y.move (.pl rfl)) rfl ?_
  refine WL.step (WO.callP isGo17 (.cons (.pl rfl) (.cons (.pl rfl) (.nil))) rfl (fun w hw => indexFunc_ok f cap hf v1 xs p w (h1.mono hw) hl1 (fun w2 h2 => hp w2 (hw.same h2))) ?_)
  refine WL.q (Y.geq (.pl rfl) (.pl rfl)) rfl ?_
  refine WL.q (Y.assign (.pl rfl)) rfl ?_
  refine WL.next hQ2 (.cons (i := 4) rfl (.nil)) ?_
  refine W.ret1 (fn := Try.f9) Try.results9 rfl (fun _ _ h => h) (fun w hw => ?_)
  refine hR _ _ ?_
  refine ⟨?_, hw⟩
  cases xs.any p <;> simp

end Go.Proofs.Ytglhflmecmidkaa
