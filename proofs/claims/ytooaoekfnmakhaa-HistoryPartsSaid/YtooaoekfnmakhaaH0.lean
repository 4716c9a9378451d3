/- Lists, and the library. -/
import Derived.Test.YtooaoekfnmakhaaProg
import Derived.Test.YtooaoekfnmakhaaAny
import Derived.KernelRfl
set_option linter.unusedVariables false
set_option linter.unusedSimpArgs false
set_option linter.unusedSectionVars false
set_option maxRecDepth 100000
namespace Go.Proofs.Ytooaoekfnmakhaa
open Go.RowKit
theorem cells3 : Try.prog.cellsOf 3 = 0 + 1 := by kernel_rfl
theorem isGo66 : IsGo Try.prog 66 := ⟨_, Try.func66, by kernel_rfl, rfl⟩
theorem any_take_succ {α : Type} {xs : List α} {p : α → Bool} {k : Nat} (hk : k < xs.length) (h : (xs.take k).any p = false) (hp : p xs[k] = false) : (xs.take (k + 1)).any p = false := by
  rw [List.take_succ_eq_append_getElem hk, List.any_append, h]; simp [hp]
theorem any_of_get {α : Type} {xs : List α} {p : α → Bool} {k : Nat} (hk : k < xs.length) (hp : p xs[k] = true) : xs.any p = true := List.any_eq_true.2 ⟨_, List.getElem_mem hk, hp⟩
theorem findIdx_of {α : Type} {xs : List α} {p : α → Bool} {k : Nat} (hk : k < xs.length) (h : p xs[k] = true) (h0 : (xs.take k).any p = false) : xs.findIdx p = k := by
  rw [List.findIdx_eq hk]
  refine ⟨h, fun j hj => ?_⟩
  rw [List.any_eq_false] at h0
  have := h0 xs[j] (by rw [List.mem_iff_getElem]; exact ⟨j, by simp; omega, by simp⟩)
  simpa using this
theorem ints_get {xs : List Int} {k : Nat} (h : k < xs.length) : (ints xs).toArray[k]? = some (.int .i64 xs[k]) := by simp [ints, h]
theorem ints_size (xs : List Int) : (ints xs).toArray.size = xs.length := by simp [ints]
theorem ints_set (xs : List Int) (k : Nat) (v : Int) : (ints xs).toArray.setIfInBounds k (.int .i64 v) = (ints (xs.set k v)).toArray := by simp [ints, List.map_set]
theorem St.cong {base : Nat} {w0 w : World} {L L' : List Chunk} (h : St base w0 L w) (e : L = L') : St base w0 L' w := e ▸ h
theorem getD_get {xs : List Int} {k : Nat} (h : k < xs.length) : xs.getD k 0 = xs[k] := by simp [h]
theorem getD_set {xs : List Int} {j k : Nat} {v : Int} (h : j < xs.length) : (xs.set j v).getD k 0 = if k = j then v else xs.getD k 0 := by
  by_cases hk : k = j
  · subst hk; rw [if_pos rfl]; simp [h]
  · rw [if_neg hk]; simp [List.getElem?_set_ne (Ne.symm hk)]
theorem IntsIn.take {w : World} {a : Option Addr} {m c : Nat} {xs : List Int} {j : Nat} (h : IntsIn w (.slice a m c) xs) (hj : j ≤ xs.length) : IntsIn w (.slice a j c) (xs.take j) := by
  obtain ⟨a', c', e, hc, hi⟩ := h
  cases e
  have hl : (xs.take j).length = j := by simp; omega
  refine ⟨a, c, by rw [hl], by omega, fun i hh => ?_⟩
  rw [List.getElem_take]
  exact hi i (by omega)
theorem IntsIn.lit {base : Nat} {w0 w : World} {L : List Chunk} (h : St base w0 L w) {i b m cap : Nat} {T : TypeId} {xs : List Int} (hi : L[i]? = some (cObj b (.cells (ints xs).toArray T (0, 0)))) (hm : m = xs.length := by rfl) (hc : m ≤ cap := by simp) : IntsIn w (.slice (some ⟨b, 0, none⟩) m cap) xs := by
  subst hm
  exact ⟨_, _, rfl, hc, fun j hj => ⟨⟨rfl, fun p hp => by cases hp; rfl⟩, by simpa [elA] using cell_of_obj (h.obj hi) (ints_get hj)⟩⟩

theorem indexFunc_ok (f : FuncId) (cap : List Value) (hf : IsGo Try.prog f) (v1 : Value) (xs : List Int) (p : Int → Bool) (w : World) (h1 : IntsIn w v1 xs) (hl1 : xs.length ≤ maxLen) (hp : ∀ w', St w.heap.size w [] w' → ∀ x ∈ xs, Pure Try.prog f (.int .i64 x :: cap) w' (.bool (p x))) :
    Pure Try.prog 66 [v1, .func (.func f) #[] cap.toArray] w (.int .i64 (if xs.any p then ((xs.findIdx p : Nat) : Int) else -1)) := by
  obtain ⟨a1, c1, rfl, hcap1, hv⟩ := h1
  unfold maxLen at hl1
  refine W.enter (n := 19) Try.func66 rfl rfl Sub.refl (by simp) (St.start w) fun R hR => ?_
  -- region 0: slices.go:107
  refine W.seqR fun Q1 hQ1 => ?_
  refine WL.q (Y.assign (.pl rfl)) rfl ?_
  refine WL.next hQ1 (.cons (i := 0) rfl (.cons (i := 1) rfl (.nil))) ?_
  refine W.seq fun K2 hK2 => ?_
  -- region 1: slices.go:108
  refine W.seqR fun Q3 hQ3 => ?_
  refine WL.q (Y.move (.pl rfl)) rfl ?_
  refine WL.q (Y.len Try.underlying22 (.pl rfl)) rfl ?_
  refine WL.q (Y.move (.pl rfl)) rfl ?_
  refine WL.next hQ3 (.cons (i := 0) rfl (.cons (i := 1) rfl (.cons (i := 7) rfl (.cons (i := 8) rfl (.nil))))) ?_
  refine W.block ?_
  refine W.loop (γ := Nat) (Em := fun k => [(8, .int .i64 (k : Int))]) (M := fun _ => []) (I := fun k => k ≤ xs.length ∧ (xs.take k).any p = false) (m := fun k => xs.length - k) (0) (⟨Nat.zero_le _, by simp⟩) (.cons rfl (.nil)) (.cons (i := 0) rfl (.cons (i := 1) rfl (.cons (i := 7) rfl (.nil)))) (fun w hw => hw) (fun k hI K4 hK4 => ?_)
  -- region 2: slices.go:108
  refine W.seqR fun Q5 hQ5 => ?_
  refine WL.q (Y.lss (.pl rfl) (.pl rfl)) rfl ?_
  refine WL.next hQ5 (.cons (i := 0) rfl (.cons (i := 1) rfl (.cons (i := 7) rfl (.cons (i := 8) rfl (.cons (i := 9) rfl (.nil)))))) ?_
  refine W.seq fun K6 hK6 => ?_
  refine W.cond (.pl rfl) (fun hC0 => ?_) (fun hC0 => ?_)
  · -- C0 yes
    try simp only [Bool.or_eq_true, Bool.and_eq_true, Bool.not_eq_true', decide_eq_true_eq, decide_eq_false_iff_not, Bool.or_eq_false_iff, Bool.and_eq_false_iff, Bool.not_eq_false', Bool.not_eq_eq_eq_not, Bool.not_true, Bool.not_false] at hC0
    have hk : k < xs.length := by omega
    refine W.skip ?_
    refine W.go hK6 (.cons (i := 0) rfl (.cons (i := 1) rfl (.cons (i := 7) rfl (.cons (i := 8) rfl (.nil))))) ?_
    refine W.seq fun K7 hK7 => ?_
    refine W.block ?_
    -- region 3: slices.go:108
    refine W.seqR fun Q8 hQ8 => ?_
    refine WL.q (Y.move (.pl rfl)) rfl ?_
    refine WL.q (Y.assign (.pl rfl)) rfl ?_
    refine WL.next hQ8 (.cons (i := 0) rfl (.cons (i := 1) rfl (.cons (i := 5) rfl (.cons (i := 7) rfl (.cons (i := 8) rfl (.nil)))))) ?_
    -- region 4: slices.go:109
    refine W.seqR fun Q9 hQ9 => ?_
    refine WL.q (Y.move (.pl rfl)) rfl ?_
    refine WL.q (Y.move (.pl rfl)) rfl ?_
    refine WL.q (Y.move (.pl rfl)) rfl ?_
    refine WL.q (Y.elem1N Try.underlying22 cells3 (.pl rfl) (.pl rfl) (by omega) (hv k (by omega)).1) rfl ?_
    refine WL.q (Y.load Try.underlying3 rfl (.pl rfl) (fun w hw => hw.roW (hv k (by omega)).2)) rfl ?_
    refine WL.step (WO.callVP (hf) (.pl rfl) (.cons (.pl rfl) (.nil)) rfl (fun w hw => hp w hw _ (List.getElem_mem hk)) ?_)
    refine WL.next hQ9 (.cons (i := 0) rfl (.cons (i := 1) rfl (.cons (i := 5) rfl (.cons (i := 7) rfl (.cons (i := 8) rfl (.cons (i := 16) rfl (.nil))))))) ?_
    refine W.cond (.pl rfl) (fun hC1 => ?_) (fun hC1 => ?_)
    · -- C1 yes
      try simp only [Bool.or_eq_true, Bool.and_eq_true, Bool.not_eq_true', decide_eq_true_eq, decide_eq_false_iff_not, Bool.or_eq_false_iff, Bool.and_eq_false_iff, Bool.not_eq_false', Bool.not_eq_eq_eq_not, Bool.not_true, Bool.not_false] at hC1
      have hA : xs.any p = true := any_of_get hk hC1
      have hX : xs.findIdx p = k := findIdx_of hk hC1 hI.2
      -- region 5: slices.go:110
      refine W.seqR fun Q10 hQ10 => ?_
      refine WL.q (Y.move (.pl rfl)) rfl ?_
      refine WL.q (Y.assign (.pl rfl)) rfl ?_
      refine WL.next hQ10 (.cons (i := 4) rfl (.nil)) ?_
      refine W.ret1 (fn := Try.f66) Try.results66 rfl (fun _ _ h => h) (fun w hw => ?_)
      refine hR _ _ ?_
      rw [if_pos hA, hX]
      exact ⟨rfl, hw⟩
    · -- C1 no
      try simp only [Bool.or_eq_true, Bool.and_eq_true, Bool.not_eq_true', decide_eq_true_eq, decide_eq_false_iff_not, Bool.or_eq_false_iff, Bool.and_eq_false_iff, Bool.not_eq_false', Bool.not_eq_eq_eq_not, Bool.not_true, Bool.not_false] at hC1
      have hN := any_take_succ hk hI.2 hC1
      refine W.skip ?_
      refine W.go hK7 (.cons (i := 0) rfl (.cons (i := 1) rfl (.cons (i := 7) rfl (.cons (i := 8) rfl (.nil))))) ?_
      -- region 6: slices.go:108
      refine W.reg ?_
      refine WL.q (Y.add (.pl rfl) (.pl rfl) (by omega)) rfl ?_
      refine WL.q (Y.move (.pl rfl)) rfl ?_
      refine WL.nil ?_
      exact W.again hK4 (k + 1) (⟨by omega, hN⟩) (by omega) (.cons (rfl) (.nil)) (.cons (i := 0) rfl (.cons (i := 1) rfl (.cons (i := 7) rfl (.nil)))) (fun w hw => hw)
  · -- C0 no
    try simp only [Bool.or_eq_true, Bool.and_eq_true, Bool.not_eq_true', decide_eq_true_eq, decide_eq_false_iff_not, Bool.or_eq_false_iff, Bool.and_eq_false_iff, Bool.not_eq_false', Bool.not_eq_eq_eq_not, Bool.not_true, Bool.not_false] at hC0
    obtain rfl : k = xs.length := by omega
    have hA := hI.2
    rw [List.take_length] at hA
    refine W.exit ?_
    refine W.go hK2 (.nil) ?_
    -- region 7: slices.go:113
    refine W.seqR fun Q11 hQ11 => ?_
    refine WL.q (Y.assign (.pl rfl)) rfl ?_
    refine WL.next hQ11 (.cons (i := 4) rfl (.nil)) ?_
    refine W.ret1 (fn := Try.f66) Try.results66 rfl (fun _ _ h => h) (fun w hw => ?_)
    refine hR _ _ ?_
    rw [hA]
    exact ⟨rfl, hw⟩

theorem containsFunc_ok (f : FuncId) (cap : List Value) (hf : IsGo Try.prog f) (v1 : Value) (xs : List Int) (p : Int → Bool) (w : World) (h1 : IntsIn w v1 xs) (hl1 : xs.length ≤ maxLen) (hp : ∀ w', St w.heap.size w [] w' → ∀ x ∈ xs, Pure Try.prog f (.int .i64 x :: cap) w' (.bool (p x))) :
    Pure Try.prog 58 [v1, .func (.func f) #[] cap.toArray] w (.bool (xs.any p)) := by
  refine W.enter (n := 9) Try.func58 rfl rfl Sub.refl (by simp) (St.start w) fun R hR => ?_
  -- region 0: slices.go:124
  refine W.seqR fun Q1 hQ1 => ?_
  refine WL.q (Y.assign (.pl rfl)) rfl ?_
  refine WL.next hQ1 (.cons (i := 0) rfl (.cons (i := 1) rfl (.nil))) ?_
  -- region 1: slices.go:125
  refine W.seqR fun Q2 hQ2 => ?_
  refine WL.q (Y.move (.pl rfl)) rfl ?_
  refine WL.q (Y.move (.pl rfl)) rfl ?_
  refine WL.step (WO.callP isGo66 (.cons (.pl rfl) (.cons (.pl rfl) (.nil))) rfl (fun w hw => indexFunc_ok f cap hf v1 xs p w (h1.mono hw) hl1 (fun w2 h2 => hp w2 (hw.same h2))) ?_)
  refine WL.q (Y.geq (.pl rfl) (.pl rfl)) rfl ?_
  refine WL.q (Y.assign (.pl rfl)) rfl ?_
  refine WL.next hQ2 (.cons (i := 4) rfl (.nil)) ?_
  refine W.ret1 (fn := Try.f58) Try.results58 rfl (fun _ _ h => h) (fun w hw => ?_)
  refine hR _ _ ?_
  refine ⟨?_, hw⟩
  cases xs.any p <;> simp

end Go.Proofs.Ytooaoekfnmakhaa
