/- The walk of HistoryParts. -/
import Derived.Test.YtooaoekfnmakhaaP2
import Derived.Test.YtooaoekfnmakhaaH5
set_option linter.unusedVariables false
set_option linter.unusedSimpArgs false
set_option linter.unusedSectionVars false
set_option maxRecDepth 100000
namespace Go.Proofs.Ytooaoekfnmakhaa
open Go.RowKit
theorem isGo17 : IsGo Try.prog 17 := ⟨_, Try.func17, by kernel_rfl, rfl⟩
theorem isGo18 : IsGo Try.prog 18 := ⟨_, Try.func18, by kernel_rfl, rfl⟩
theorem isGo19 : IsGo Try.prog 19 := ⟨_, Try.func19, by kernel_rfl, rfl⟩
theorem isGo40 : IsGo Try.prog 40 := ⟨_, Try.func40, by kernel_rfl, rfl⟩
theorem zero3 : ∃ i, Try.prog.info? 3 = some i ∧ i.zero = some (Value.int .i64 0) := ⟨_, rfl, by kernel_rfl⟩
theorem ap36 : ∃ i z, Try.prog.info? 36 = some i ∧ i.zero = some z ∧ i.size = 4 ∧ i.bytes = 32 ∧ z.cells.size = 4 ∧ 0 < 4 := ⟨_, (Value.agg #[(Value.int .i64 0), (Value.int .i64 0), (Value.int .i64 0), (Value.int .i64 0)]), rfl, by kernel_rfl, by kernel_rfl, by kernel_rfl, by kernel_rfl, by decide⟩
theorem indexE_ok (f : FuncId) (cap : List Value) (hf : IsGo Try.prog f) (v1 : Value) (xs : List Ev) (p : Ev → Bool) (w : World) (h1 : SlIn encE 4 w v1 xs) (hl1 : xs.length ≤ maxLen) (hp : ∀ w', St w.heap.size w [] w' → ∀ x ∈ xs, Pure Try.prog f (.agg (encE x).toArray :: cap) w' (.bool (p x))) :
    Pure Try.prog 40 [v1, .func (.func f) #[] cap.toArray] w (.int .i64 (if xs.any p then ((xs.findIdx p : Nat) : Int) else -1)) := by
  obtain ⟨a1, c1, rfl, hcap1, hv⟩ := h1
  unfold maxLen at hl1
  refine W.enter (n := 19) Try.func40 rfl rfl Sub.refl (by simp) (St.start w) fun R hR => ?_
  -- region 0: slices.go:107
  refine W.seqR fun Q1 hQ1 => ?_
  refine WL.q (Y.assign (.pl rfl)) rfl ?_
  refine WL.next hQ1 (.cons (i := 0) rfl (.cons (i := 1) rfl (.nil))) ?_
  refine W.seq fun K2 hK2 => ?_
  -- region 1: slices.go:108
  refine W.seqR fun Q3 hQ3 => ?_
  refine WL.q (Y.move (.pl rfl)) rfl ?_
  refine WL.q (Y.len Try.underlying23 (.pl rfl)) rfl ?_
  refine WL.q (Y.move (.pl rfl)) rfl ?_
  refine WL.next hQ3 (.cons (i := 0) rfl (.cons (i := 1) rfl (.cons (i := 7) rfl (.cons (i := 8) rfl (.nil))))) ?_
  refine W.block ?_
  refine W.loop (γ := Nat) (Em := fun k => [(8, .int .i64 (k : Int))]) (M := fun _ => []) (I := fun k => k ≤ xs.length ∧ (xs.take k).any p = false) (m := fun k => xs.length - k) (0) (⟨Nat.zero_le _, by simp⟩) (.cons rfl (.nil)) (.cons (i := 0) rfl (.cons (i := 1) rfl (.cons (i := 7) rfl (.nil)))) (fun w hw => hw) (fun k hI K4 hK4 => ?_)
  -- region 2: slices.go:108
  refine W.seqR fun Q5 hQ5 => ?_
  refine WL.q (Y.lss (.pl rfl) (.pl rfl)) rfl ?_
  refine WL.next hQ5 (.cons (i := 0) rfl (.cons (i := 1) rfl (.cons (i := 7) rfl (.cons (i := 8) rfl (.cons (i := 9) rfl (.nil)))))) ?_
  refine W.seq fun K6 hK6 => ?_
  refine W.cond (.pl rfl) (fun hC0 => ?_) (fun hC0 => ?_)
  · -- C0 yes
    try simp only [Bool.or_eq_true, Bool.and_eq_true, Bool.not_eq_true', decide_eq_true_eq, decide_eq_false_iff_not, Bool.or_eq_false_iff, Bool.and_eq_false_iff, Bool.not_eq_false', Bool.not_eq_eq_eq_not, Bool.not_true, Bool.not_false] at hC0
    have hk : k < xs.length := by omega
    refine W.skip ?_
    refine W.go hK6 (.cons (i := 0) rfl (.cons (i := 1) rfl (.cons (i := 7) rfl (.cons (i := 8) rfl (.nil))))) ?_
    refine W.seq fun K7 hK7 => ?_
    refine W.block ?_
    -- region 3: slices.go:108
    refine W.seqR fun Q8 hQ8 => ?_
    refine WL.q (Y.move (.pl rfl)) rfl ?_
    refine WL.q (Y.assign (.pl rfl)) rfl ?_
    refine WL.next hQ8 (.cons (i := 0) rfl (.cons (i := 1) rfl (.cons (i := 5) rfl (.cons (i := 7) rfl (.cons (i := 8) rfl (.nil)))))) ?_
    -- region 4: slices.go:109
    refine W.seqR fun Q9 hQ9 => ?_
    refine WL.q (Y.move (.pl rfl)) rfl ?_
    refine WL.q (Y.move (.pl rfl)) rfl ?_
    refine WL.q (Y.move (.pl rfl)) rfl ?_
    refine WL.q (Y.elemN Try.underlying23 cells36 (.pl rfl) (.pl rfl) (by omega) (hv k (by omega)).1) rfl ?_
    refine WL.q (Y.loadAggE Try.underlying36 rfl cells36 (hv k (by omega)).1.1 (.pl rfl) rfl (fun w hw => hw.roA (hv k (by omega)).2)) rfl ?_
    refine WL.step (WO.callVP (hf) (.pl rfl) (.cons (.pl rfl) (.nil)) rfl (fun w hw => hp w hw _ (List.getElem_mem hk)) ?_)
    refine WL.next hQ9 (.cons (i := 0) rfl (.cons (i := 1) rfl (.cons (i := 5) rfl (.cons (i := 7) rfl (.cons (i := 8) rfl (.cons (i := 16) rfl (.nil))))))) ?_
    refine W.cond (.pl rfl) (fun hC1 => ?_) (fun hC1 => ?_)
    · -- C1 yes
      try simp only [Bool.or_eq_true, Bool.and_eq_true, Bool.not_eq_true', decide_eq_true_eq, decide_eq_false_iff_not, Bool.or_eq_false_iff, Bool.and_eq_false_iff, Bool.not_eq_false', Bool.not_eq_eq_eq_not, Bool.not_true, Bool.not_false] at hC1
      have hA : xs.any p = true := any_of_get hk hC1
      have hX : xs.findIdx p = k := findIdx_of hk hC1 hI.2
      -- region 5: slices.go:110
      refine W.seqR fun Q10 hQ10 => ?_
      refine WL.q (Y.move (.pl rfl)) rfl ?_
      refine WL.q (Y.assign (.pl rfl)) rfl ?_
      refine WL.next hQ10 (.cons (i := 4) rfl (.nil)) ?_
      refine W.ret1 (fn := Try.f40) Try.results40 rfl (fun _ _ h => h) (fun w hw => ?_)
      refine hR _ _ ?_
      rw [if_pos hA, hX]
      exact ⟨rfl, hw⟩
    · -- C1 no
      try simp only [Bool.or_eq_true, Bool.and_eq_true, Bool.not_eq_true', decide_eq_true_eq, decide_eq_false_iff_not, Bool.or_eq_false_iff, Bool.and_eq_false_iff, Bool.not_eq_false', Bool.not_eq_eq_eq_not, Bool.not_true, Bool.not_false] at hC1
      have hN := any_take_succ hk hI.2 hC1
      refine W.skip ?_
      refine W.go hK7 (.cons (i := 0) rfl (.cons (i := 1) rfl (.cons (i := 7) rfl (.cons (i := 8) rfl (.nil))))) ?_
      -- region 6: slices.go:108
      refine W.reg ?_
      refine WL.q (Y.add (.pl rfl) (.pl rfl) (by omega)) rfl ?_
      refine WL.q (Y.move (.pl rfl)) rfl ?_
      refine WL.nil ?_
      exact W.again hK4 (k + 1) (⟨by omega, hN⟩) (by omega) (.cons (rfl) (.nil)) (.cons (i := 0) rfl (.cons (i := 1) rfl (.cons (i := 7) rfl (.nil)))) (fun w hw => hw)
  · -- C0 no
    try simp only [Bool.or_eq_true, Bool.and_eq_true, Bool.not_eq_true', decide_eq_true_eq, decide_eq_false_iff_not, Bool.or_eq_false_iff, Bool.and_eq_false_iff, Bool.not_eq_false', Bool.not_eq_eq_eq_not, Bool.not_true, Bool.not_false] at hC0
    obtain rfl : k = xs.length := by omega
    have hA := hI.2
    rw [List.take_length] at hA
    refine W.exit ?_
    refine W.go hK2 (.nil) ?_
    -- region 7: slices.go:113
    refine W.seqR fun Q11 hQ11 => ?_
    refine WL.q (Y.assign (.pl rfl)) rfl ?_
    refine WL.next hQ11 (.cons (i := 4) rfl (.nil)) ?_
    refine W.ret1 (fn := Try.f40) Try.results40 rfl (fun _ _ h => h) (fun w hw => ?_)
    refine hR _ _ ?_
    rw [hA]
    exact ⟨rfl, hw⟩

theorem containsE_ok (f : FuncId) (cap : List Value) (hf : IsGo Try.prog f) (v1 : Value) (xs : List Ev) (p : Ev → Bool) (w : World) (h1 : SlIn encE 4 w v1 xs) (hl1 : xs.length ≤ maxLen) (hp : ∀ w', St w.heap.size w [] w' → ∀ x ∈ xs, Pure Try.prog f (.agg (encE x).toArray :: cap) w' (.bool (p x))) :
    Pure Try.prog 18 [v1, .func (.func f) #[] cap.toArray] w (.bool (xs.any p)) := by
  refine W.enter (n := 9) Try.func18 rfl rfl Sub.refl (by simp) (St.start w) fun R hR => ?_
  -- region 0: slices.go:124
  refine W.seqR fun Q1 hQ1 => ?_
  refine WL.q (Y.assign (.pl rfl)) rfl ?_
  refine WL.next hQ1 (.cons (i := 0) rfl (.cons (i := 1) rfl (.nil))) ?_
  -- region 1: slices.go:125
  refine W.seqR fun Q2 hQ2 => ?_
  refine WL.q (Y.move (.pl rfl)) rfl ?_
  refine WL.q (Y.move (.pl rfl)) rfl ?_
  refine WL.step (WO.callP isGo40 (.cons (.pl rfl) (.cons (.pl rfl) (.nil))) rfl (fun w hw => indexE_ok f cap hf v1 xs p w (h1.mono hw) hl1 (fun w2 h2 => hp w2 (hw.same h2))) ?_)
  refine WL.q (Y.geq (.pl rfl) (.pl rfl)) rfl ?_
  refine WL.q (Y.assign (.pl rfl)) rfl ?_
  refine WL.next hQ2 (.cons (i := 4) rfl (.nil)) ?_
  refine W.ret1 (fn := Try.f18) Try.results18 rfl (fun _ _ h => h) (fun w hw => ?_)
  refine hR _ _ ?_
  refine ⟨?_, hw⟩
  cases xs.any p <;> simp

theorem part_walk (v1 v2 : Value) (ts : List Int) (l : List Ev) (k : Nat) (w : World) (h1 : IntsIn w v1 ts) (h2 : SlIn encE 4 w v2 l) (hl1 : ts.length ≤ maxLen) (hl2 : l.length ≤ maxLen) (he : (callsF ts l).2.2 = 0) (hk : k < ts.length) :
    Made Try.prog 17 [v1, v2, .int .i64 k] w (fun g : Option Addr × Nat => .tuple #[.slice g.1 (partF l k).length g.2, .int .i64 0]) (fun g => [cRow g.1 g.2 36 4 (partF l k).length ((partF l k).flatMap encE)]) (fun _ => True) := by
  have h1i := h1
  have h2i := h2
  obtain ⟨a1, c1, rfl, hcap1, hv⟩ := h1
  obtain ⟨a2, c2, rfl, hcap2, hlc⟩ := h2
  have hm1 := hl1
  have hm2 := hl2
  unfold maxLen at hm1 hm2
  obtain ⟨hz1, hz2, hz3⟩ := calls_zero he
  refine W.enter (n := 48) Try.func17 rfl rfl Sub.refl (by simp) (St.start w) fun R hR => ?_
  -- region 0: history.go:158
  refine W.seqR fun Q1 hQ1 => ?_
  refine WL.q (Y.assign (.pl rfl)) rfl ?_
  refine WL.q (Y.assign (.pl rfl)) rfl ?_
  refine WL.next hQ1 (.cons (i := 0) rfl (.cons (i := 1) rfl (.cons (i := 2) rfl (.nil)))) ?_
  refine W.seq fun K2 hK2 => ?_
  -- region 1: history.go:159
  refine W.seqR fun Q3 hQ3 => ?_
  refine WL.q (Y.move (.pl rfl)) rfl ?_
  refine WL.q (Y.move (.pl rfl)) rfl ?_
  refine WL.step (WO.callM isGo15 (.cons (.pl rfl) (.cons (.pl rfl) (.nil))) rfl (fun w hw => calls_ok _ _ ts l w (h1i.mono hw) (h2i.mono hw) hl1 hl2) ?_)
  rintro ⟨A1, k1⟩ _
  refine WL.q (Y.move (.pl rfl)) rfl ?_
  refine WL.q (Y.extract (.pl rfl) rfl) rfl ?_
  refine WL.q (Y.extract (.pl rfl) rfl) rfl ?_
  refine WL.q (Y.extract (.pl rfl) rfl) rfl ?_
  refine WL.q (Y.assign (.pl rfl)) rfl ?_
  refine WL.q (Y.assign (.pl rfl)) rfl ?_
  refine WL.q (Y.assign (.pl rfl)) rfl ?_
  refine WL.next hQ3 (.cons (i := 0) rfl (.cons (i := 1) rfl (.cons (i := 2) rfl (.cons (i := 10) rfl (.nil))))) ?_
  -- region 2: history.go:159
  refine W.seqR fun Q4 hQ4 => ?_
  refine WL.q (Y.move (.pl rfl)) rfl ?_
  refine WL.q (Y.neq (.pl rfl) (.pl rfl)) rfl ?_
  refine WL.next hQ4 (.cons (i := 0) rfl (.cons (i := 1) rfl (.cons (i := 2) rfl (.cons (i := 10) rfl (.cons (i := 22) rfl (.nil)))))) ?_
  refine W.cond (.pl rfl) (fun hC0 => ?_) (fun hC0 => ?_)
  · -- C0 yes
    try simp only [Bool.or_eq_true, Bool.and_eq_true, Bool.not_eq_true', decide_eq_true_eq, decide_eq_false_iff_not, Bool.or_eq_false_iff, Bool.and_eq_false_iff, Bool.not_eq_false', Bool.not_eq_eq_eq_not, Bool.not_true, Bool.not_false] at hC0
    exact absurd he hC0
  · -- C0 no
    try simp only [Bool.or_eq_true, Bool.and_eq_true, Bool.not_eq_true', decide_eq_true_eq, decide_eq_false_iff_not, Bool.or_eq_false_iff, Bool.and_eq_false_iff, Bool.not_eq_false', Bool.not_eq_eq_eq_not, Bool.not_true, Bool.not_false] at hC0
    refine W.skip ?_
    refine W.go hK2 (.cons (i := 0) rfl (.cons (i := 1) rfl (.cons (i := 2) rfl (.nil)))) ?_
    refine W.seq fun K5 hK5 => ?_
    -- region 4: history.go:162
    refine W.seqR fun Q6 hQ6 => ?_
    refine WL.q (Y.move (.pl rfl)) rfl ?_
    refine WL.q (Y.lss (.pl rfl) (.pl rfl)) rfl ?_
    refine WL.q (Y.move (.pl rfl)) rfl ?_
    refine WL.g (.pl rfl rfl rfl) (fun _ => Y.move (.pl rfl)) rfl ?_
    refine WL.g (.pl rfl rfl rfl) (fun _ => Y.move (.pl rfl)) rfl ?_
    refine WL.g (.pl rfl rfl rfl) (fun hg => Y.len Try.underlying22 (.gd (hg) rfl)) rfl ?_
    refine WL.g (.pl rfl rfl rfl) (fun hg => Y.geq (.gd (hg) rfl) (.gd (hg) rfl)) rfl ?_
    refine WL.q (Y.or (.pl rfl) (fun h2 => .gd (eqf h2) rfl)) rfl ?_
    refine WL.next hQ6 (.cons (i := 1) rfl (.cons (i := 2) rfl (.cons (i := 31) rfl (.nil)))) ?_
    refine W.cond (.pl rfl) (fun hC1 => ?_) (fun hC1 => ?_)
    · -- C1 yes
      skip
      simp at hC1
      omega
    · -- C1 no
      skip
      refine W.skip ?_
      refine W.go hK5 (.cons (i := 1) rfl (.cons (i := 2) rfl (.nil))) ?_
      -- region 6: history.go:165
      refine W.seqR fun Q7 hQ7 => ?_
      refine WL.q (Y.assign (.pl rfl)) rfl ?_
      refine WL.next hQ7 (.cons (i := 1) rfl (.cons (i := 2) rfl (.cons (i := 11) rfl (.nil)))) ?_
      refine W.seq fun K8 hK8 => ?_
      -- region 7: history.go:166
      refine W.seqR fun Q9 hQ9 => ?_
      refine WL.q (Y.move (.pl rfl)) rfl ?_
      refine WL.q (Y.len Try.underlying23 (.pl rfl)) rfl ?_
      refine WL.q (Y.move (.pl rfl)) rfl ?_
      refine WL.next hQ9 (.cons (i := 2) rfl (.cons (i := 11) rfl (.cons (i := 32) rfl (.cons (i := 33) rfl (.cons (i := 34) rfl (.nil)))))) ?_
      refine W.block ?_
      refine W.loop (γ := Nat × Option Addr × Nat) (Em := fun x => [(11, .slice x.2.1 (partF (l.take x.1) k).length x.2.2), (34, .int .i64 (x.1 : Int))]) (M := fun x => [cRow x.2.1 x.2.2 36 4 (partF (l.take x.1) k).length ((partF (l.take x.1) k).flatMap encE)]) (I := fun x => x.1 ≤ l.length) (m := fun x => l.length - x.1) ((0, none, 0)) (Nat.zero_le _) (.cons rfl (.cons rfl (.nil))) (.cons (i := 2) rfl (.cons (i := 32) rfl (.cons (i := 33) rfl (.nil)))) (fun w hw => (St.nilRow (hw.pick [] rfl) 36 4).cong rfl) (fun ⟨q, A, cap⟩ hI K10 hK10 => ?_)
      dsimp only at hI ⊢
      -- region 8: history.go:166
      refine W.seqR fun Q11 hQ11 => ?_
      refine WL.q (Y.lss (.pl rfl) (.pl rfl)) rfl ?_
      refine WL.next hQ11 (.cons (i := 2) rfl (.cons (i := 11) rfl (.cons (i := 32) rfl (.cons (i := 33) rfl (.cons (i := 34) rfl (.cons (i := 35) rfl (.nil))))))) ?_
      refine W.seq fun K12 hK12 => ?_
      refine W.cond (.pl rfl) (fun hC2 => ?_) (fun hC2 => ?_)
      · -- C2 yes
        try simp only [Bool.or_eq_true, Bool.and_eq_true, Bool.not_eq_true', decide_eq_true_eq, decide_eq_false_iff_not, Bool.or_eq_false_iff, Bool.and_eq_false_iff, Bool.not_eq_false', Bool.not_eq_eq_eq_not, Bool.not_true, Bool.not_false] at hC2
        have hq : q < l.length := by omega
        have hpl : (partF (l.take q) k).length ≤ 200 := Nat.le_trans (List.length_filter_le _ _) (by rw [List.length_take]; omega)
        refine W.skip ?_
        refine W.go hK12 (.cons (i := 2) rfl (.cons (i := 11) rfl (.cons (i := 32) rfl (.cons (i := 33) rfl (.cons (i := 34) rfl (.nil)))))) ?_
        refine W.seq fun K13 hK13 => ?_
        refine W.block ?_
        -- region 9: history.go:166
        refine W.seqR fun Q14 hQ14 => ?_
        refine WL.q (Y.elemN Try.underlying23 cells36 (.pl rfl) (.pl rfl) (by omega) (hlc q (by omega)).1) rfl ?_
        refine WL.q (Y.loadAggE Try.underlying36 rfl cells36 (hlc q (by omega)).1.1 (.pl rfl) rfl (fun w hw => hw.roA (hlc q (by omega)).2)) rfl ?_
        refine WL.step (WO.alloc (cs := #[(Value.int .i64 0), (Value.int .i64 0), (Value.int .i64 0), (Value.int .i64 0)]) zero36 rfl rfl fun b13 => ?_)
        refine WL.step (WO.storeA cells36 (.pl rfl) (.pl rfl) rfl (by simp [encE, Value.oneCell']) (i := 0) rfl (by simp [encE]) ?_)
        refine WL.next hQ14 (.cons (i := 2) rfl (.cons (i := 11) rfl (.cons (i := 13) rfl (.cons (i := 32) rfl (.cons (i := 33) rfl (.cons (i := 34) rfl (.nil))))))) ?_
        -- region 10: history.go:167
        refine W.seqR fun Q15 hQ15 => ?_
        refine WL.q ((by first | exact Y.fieldAddr0 (off := 1) (ft := 3) Try.underlying36 rfl cells3 (.pl rfl) | exact Y.fieldAddr (off := 1) (ft := 3) Try.underlying36 rfl cells3 (.pl rfl))) rfl ?_
        refine WL.q (Y.load Try.underlying3 rfl (.pl rfl) (fun w hw => cell_lit (hw.obj (i := 0) rfl) rfl)) rfl ?_
        refine WL.q (Y.move (.pl rfl)) rfl ?_
        refine WL.q (Y.eql (.pl rfl) (.pl rfl)) rfl ?_
        refine WL.next hQ15 (.cons (i := 2) rfl (.cons (i := 11) rfl (.cons (i := 13) rfl (.cons (i := 32) rfl (.cons (i := 33) rfl (.cons (i := 34) rfl (.cons (i := 41) rfl (.nil)))))))) ?_
        refine W.cond (.pl rfl) (fun hC3 => ?_) (fun hC3 => ?_)
        · -- C3 yes
          try simp only [Bool.or_eq_true, Bool.and_eq_true, Bool.not_eq_true', decide_eq_true_eq, decide_eq_false_iff_not, Bool.or_eq_false_iff, Bool.and_eq_false_iff, Bool.not_eq_false', Bool.not_eq_eq_eq_not, Bool.not_true, Bool.not_false] at hC3
          have hfs := part_take (k := (k : Int)) hq
          rw [if_pos hC3] at hfs
          -- region 11: history.go:168
          refine W.reg ?_
          refine WL.q (Y.move (.pl rfl)) rfl ?_
          refine WL.q (Y.loadAgg Try.underlying36 rfl cells36 (.pl rfl) rfl (fun w hw => at_obj hw (i := 0) rfl (cs := encE l[q]) (by intro j v hj; rw [Nat.zero_add]; simpa [putAt, encE] using hj))) rfl ?_
          refine WL.step (WO.bslice Try.underlying23 bz36 (.cons (.pl rfl) (.nil)) rfl (by simp [Value.cells, encE]) (by decide) rfl fun b44 => ?_)
          refine WL.step (WO.append Try.underlying23 ap36 (.pl rfl) (.pl rfl) (i := 2) rfl (news := encE l[q]) rfl (fun w hw => news_lit hw (i := 0) rfl) (by simp [encE, Value.oneCell']) (by unfold maxLen; omega) (by omega) rfl fun A45 c45 => ?_)
          refine WL.q (Y.assign (.pl rfl)) rfl ?_
          refine WL.nil ?_
          refine W.go hK13 (.cons (i := 2) rfl (.cons (i := 11) rfl (.cons (i := 32) rfl (.cons (i := 33) rfl (.cons (i := 34) rfl (.nil)))))) ?_
          -- region 12: history.go:166
          refine W.reg ?_
          refine WL.q (Y.add (.pl rfl) (.pl rfl) (by omega)) rfl ?_
          refine WL.q (Y.move (.pl rfl)) rfl ?_
          refine WL.nil ?_
          exact W.again hK10 ((q + 1, A45, c45)) (hq) (by omega) (.cons (by simp only [hfs, List.length_append]; rfl) (.cons (rfl) (.nil))) (.cons (i := 2) rfl (.cons (i := 32) rfl (.cons (i := 33) rfl (.nil)))) (fun w hw => (hw.pick [2] rfl).cong (by simp only [hfs, List.length_append, List.flatMap_append, List.filterMap_cons, List.filterMap_nil, List.getElem?_cons_succ, List.getElem?_cons_zero, List.set_cons_succ, List.set_cons_zero, List.flatMap_cons, List.flatMap_nil, List.append_nil]; rfl))
        · -- C3 no
          try simp only [Bool.or_eq_true, Bool.and_eq_true, Bool.not_eq_true', decide_eq_true_eq, decide_eq_false_iff_not, Bool.or_eq_false_iff, Bool.and_eq_false_iff, Bool.not_eq_false', Bool.not_eq_eq_eq_not, Bool.not_true, Bool.not_false] at hC3
          have hfs := part_take (k := (k : Int)) hq
          rw [if_neg hC3] at hfs
          refine W.skip ?_
          refine W.go hK13 (.cons (i := 2) rfl (.cons (i := 11) rfl (.cons (i := 32) rfl (.cons (i := 33) rfl (.cons (i := 34) rfl (.nil)))))) ?_
          -- region 12: history.go:166
          refine W.reg ?_
          refine WL.q (Y.add (.pl rfl) (.pl rfl) (by omega)) rfl ?_
          refine WL.q (Y.move (.pl rfl)) rfl ?_
          refine WL.nil ?_
          exact W.again hK10 ((q + 1, A, cap)) (hq) (by omega) (.cons (by simp only [hfs]; rfl) (.cons (rfl) (.nil))) (.cons (i := 2) rfl (.cons (i := 32) rfl (.cons (i := 33) rfl (.nil)))) (fun w hw => (hw.pick [1] rfl).cong (by simp only [hfs]; rfl))
      · -- C2 no
        try simp only [Bool.or_eq_true, Bool.and_eq_true, Bool.not_eq_true', decide_eq_true_eq, decide_eq_false_iff_not, Bool.or_eq_false_iff, Bool.and_eq_false_iff, Bool.not_eq_false', Bool.not_eq_eq_eq_not, Bool.not_true, Bool.not_false] at hC2
        obtain rfl : q = l.length := by omega
        refine W.exit ?_
        refine W.go hK8 (.cons (i := 11) rfl (.nil)) ?_
        -- region 13: history.go:171
        refine W.seqR fun Q16 hQ16 => ?_
        refine WL.q (Y.move (.pl rfl)) rfl ?_
        refine WL.q (Y.assign (.pl rfl)) rfl ?_
        refine WL.q (Y.assign (.pl rfl)) rfl ?_
        refine WL.next hQ16 (.cons (i := 6) rfl (.cons (i := 7) rfl (.nil))) ?_
        refine W.ret2 (fn := Try.f17) Try.results17 rfl rfl (fun _ _ h => h) (fun w hw => ?_)
        refine hR _ _ ?_
        refine ⟨(A, cap), trivial, ?_, ?_⟩
        · simp only [List.take_length]
        · exact (hw.pick [0] rfl).cong (by simp only [List.take_length]; rfl)

theorem parts1_ok (x : Ev) (k : Int) (b : Nat) (w : World) (hb : w.cell? ⟨b, 0, none⟩ = some (.int .i64 k)) : Pure Try.prog 19 [.agg (encE x).toArray, .pointer (some ⟨b, 0, none⟩)] w (.bool (!decide (x.thing = k))) := by
  refine W.enter (n := 8) Try.func19 rfl rfl Sub.refl (by simp) (St.start w) fun R hR => ?_
  -- region 0: history.go:87
  refine W.seqR fun Q1 hQ1 => ?_
  refine WL.step (WO.boxA (.pl rfl) rfl fun b2 => ?_)
  refine WL.q (Y.assign (.pl rfl)) rfl ?_
  refine WL.next hQ1 (.cons (i := 1) rfl (.cons (i := 2) rfl (.nil))) ?_
  -- region 1: history.go:87
  refine W.seqR fun Q2 hQ2 => ?_
  refine WL.q ((by first | exact Y.fieldAddr0 (off := 1) (ft := 3) Try.underlying36 rfl cells3 (.pl rfl) | exact Y.fieldAddr (off := 1) (ft := 3) Try.underlying36 rfl cells3 (.pl rfl))) rfl ?_
  refine WL.q (Y.load Try.underlying3 rfl (.pl rfl) (fun w hw => cell_lit (hw.obj (i := 0) rfl) rfl)) rfl ?_
  refine WL.q (Y.load Try.underlying3 rfl (.pl rfl) (fun w hw => hw.roW hb)) rfl ?_
  refine WL.q (Y.neq (.pl rfl) (.pl rfl)) rfl ?_
  refine WL.q (Y.assign (.pl rfl)) rfl ?_
  refine WL.next hQ2 (.cons (i := 3) rfl (.nil)) ?_
  refine W.ret1 (fn := Try.f19) Try.results19 rfl (fun _ _ h => h) (fun w hw => ?_)
  refine hR _ _ ?_
  exact ⟨rfl, hw.sub ⟨_, by rw [List.nil_append]⟩⟩

theorem parts_err (v1 v2 : Value) (ts : List Int) (l : List Ev) (w : World) (h1 : IntsIn w v1 ts) (h2 : SlIn encE 4 w v2 l) (hl1 : ts.length ≤ maxLen) (hl2 : l.length ≤ maxLen) (he : (callsF ts l).2.2 ≠ 0) :
    Pure Try.prog 4 [v1, v2] w (.bool true) := by
  have h1i := h1
  have h2i := h2
  obtain ⟨a1, c1, rfl, hcap1, hv⟩ := h1
  obtain ⟨a2, c2, rfl, hcap2, hlc⟩ := h2
  have hm1 := hl1
  have hm2 := hl2
  unfold maxLen at hm1 hm2
  refine W.enter (n := 68) Try.func4 rfl rfl Sub.refl (by simp) (St.start w) fun R hR => ?_
  -- region 0: history.go:79
  refine W.seqR fun Q1 hQ1 => ?_
  refine WL.q (Y.assign (.pl rfl)) rfl ?_
  refine WL.next hQ1 (.cons (i := 0) rfl (.cons (i := 1) rfl (.nil))) ?_
  refine W.seq fun K2 hK2 => ?_
  -- region 1: history.go:80
  refine W.seqR fun Q3 hQ3 => ?_
  refine WL.q (Y.move (.pl rfl)) rfl ?_
  refine WL.q (Y.move (.pl rfl)) rfl ?_
  refine WL.step (WO.callM isGo15 (.cons (.pl rfl) (.cons (.pl rfl) (.nil))) rfl (fun w hw => calls_ok _ _ ts l w (h1i.mono hw) (h2i.mono hw) hl1 hl2) ?_)
  rintro ⟨A1, k1⟩ _
  refine WL.q (Y.move (.pl rfl)) rfl ?_
  refine WL.q (Y.extract (.pl rfl) rfl) rfl ?_
  refine WL.q (Y.extract (.pl rfl) rfl) rfl ?_
  refine WL.q (Y.extract (.pl rfl) rfl) rfl ?_
  refine WL.q (Y.assign (.pl rfl)) rfl ?_
  refine WL.q (Y.assign (.pl rfl)) rfl ?_
  refine WL.q (Y.assign (.pl rfl)) rfl ?_
  refine WL.next hQ3 (.cons (i := 0) rfl (.cons (i := 1) rfl (.cons (i := 7) rfl (.nil)))) ?_
  -- region 2: history.go:80
  refine W.seqR fun Q4 hQ4 => ?_
  refine WL.step (WO.callP isGo16 (.nil) rfl (fun w hw => lives_ok w) ?_)
  refine WL.q (Y.not (.pl rfl)) rfl ?_
  refine WL.q (Y.move (.pl rfl)) rfl ?_
  refine WL.g (.pl rfl rfl rfl) (fun _ => Y.move (.pl rfl)) rfl ?_
  refine WL.g (.pl rfl rfl rfl) (fun hg => Y.neq (.gd (hg) rfl) (.pl rfl)) rfl ?_
  refine WL.q (Y.or (.pl rfl) (fun h2 => .gd (eqf h2) rfl)) rfl ?_
  refine WL.next hQ4 (.cons (i := 0) rfl (.cons (i := 1) rfl (.cons (i := 27) rfl (.nil)))) ?_
  refine W.cond (.pl rfl) (fun hC0 => ?_) (fun hC0 => ?_)
  · -- C0 yes
    skip
    -- region 3: history.go:81
    refine W.seqR fun Q5 hQ5 => ?_
    refine WL.step (WO.callP isGo16 (.nil) rfl (fun w hw => lives_ok w) ?_)
    refine WL.q (Y.assign (.pl rfl)) rfl ?_
    refine WL.next hQ5 (.cons (i := 4) rfl (.nil)) ?_
    refine W.ret1 (fn := Try.f4) Try.results4 rfl (fun _ _ h => h) (fun w hw => ?_)
    refine hR _ _ ?_
    exact ⟨rfl, hw.sub ⟨_, by rw [List.nil_append]⟩⟩
  · -- C0 no
    skip
    simp [he] at hC0

theorem parts_ok (v1 v2 : Value) (ts : List Int) (l : List Ev) (w : World) (h1 : IntsIn w v1 ts) (h2 : SlIn encE 4 w v2 l) (hl1 : ts.length ≤ maxLen) (hl2 : l.length ≤ maxLen) (he : (callsF ts l).2.2 = 0) :
    Pure Try.prog 4 [v1, v2] w (.bool true) := by
  have h1i := h1
  have h2i := h2
  obtain ⟨a1, c1, rfl, hcap1, hv⟩ := h1
  obtain ⟨a2, c2, rfl, hcap2, hlc⟩ := h2
  have hm1 := hl1
  have hm2 := hl2
  unfold maxLen at hm1 hm2
  obtain ⟨hz1, hz2, hz3⟩ := calls_zero he
  have hts4 := types_le hz1
  refine W.enter (n := 68) Try.func4 rfl rfl Sub.refl (by simp) (St.start w) fun R hR => ?_
  -- region 0: history.go:79
  refine W.seqR fun Q1 hQ1 => ?_
  refine WL.q (Y.assign (.pl rfl)) rfl ?_
  refine WL.next hQ1 (.cons (i := 0) rfl (.cons (i := 1) rfl (.nil))) ?_
  refine W.seq fun K2 hK2 => ?_
  -- region 1: history.go:80
  refine W.seqR fun Q3 hQ3 => ?_
  refine WL.q (Y.move (.pl rfl)) rfl ?_
  refine WL.q (Y.move (.pl rfl)) rfl ?_
  refine WL.step (WO.callM isGo15 (.cons (.pl rfl) (.cons (.pl rfl) (.nil))) rfl (fun w hw => calls_ok _ _ ts l w (h1i.mono hw) (h2i.mono hw) hl1 hl2) ?_)
  rintro ⟨A1, k1⟩ _
  refine WL.q (Y.move (.pl rfl)) rfl ?_
  refine WL.q (Y.extract (.pl rfl) rfl) rfl ?_
  refine WL.q (Y.extract (.pl rfl) rfl) rfl ?_
  refine WL.q (Y.extract (.pl rfl) rfl) rfl ?_
  refine WL.q (Y.assign (.pl rfl)) rfl ?_
  refine WL.q (Y.assign (.pl rfl)) rfl ?_
  refine WL.q (Y.assign (.pl rfl)) rfl ?_
  refine WL.next hQ3 (.cons (i := 0) rfl (.cons (i := 1) rfl (.cons (i := 7) rfl (.nil)))) ?_
  -- region 2: history.go:80
  refine W.seqR fun Q4 hQ4 => ?_
  refine WL.step (WO.callP isGo16 (.nil) rfl (fun w hw => lives_ok w) ?_)
  refine WL.q (Y.not (.pl rfl)) rfl ?_
  refine WL.q (Y.move (.pl rfl)) rfl ?_
  refine WL.g (.pl rfl rfl rfl) (fun _ => Y.move (.pl rfl)) rfl ?_
  refine WL.g (.pl rfl rfl rfl) (fun hg => Y.neq (.gd (hg) rfl) (.pl rfl)) rfl ?_
  refine WL.q (Y.or (.pl rfl) (fun h2 => .gd (eqf h2) rfl)) rfl ?_
  refine WL.next hQ4 (.cons (i := 0) rfl (.cons (i := 1) rfl (.cons (i := 27) rfl (.nil)))) ?_
  refine W.cond (.pl rfl) (fun hC0 => ?_) (fun hC0 => ?_)
  · -- C0 yes
    skip
    simp [he] at hC0
  · -- C0 no
    skip
    refine W.skip ?_
    refine W.go hK2 (.cons (i := 0) rfl (.cons (i := 1) rfl (.nil))) ?_
    -- region 4: history.go:83
    refine W.seqR fun Q5 hQ5 => ?_
    refine WL.q (Y.assign (.pl rfl)) rfl ?_
    refine WL.next hQ5 (.cons (i := 0) rfl (.cons (i := 1) rfl (.cons (i := 8) rfl (.nil)))) ?_
    refine W.seq fun K6 hK6 => ?_
    -- region 5: history.go:84
    refine W.seqR fun Q7 hQ7 => ?_
    refine WL.q (Y.move (.pl rfl)) rfl ?_
    refine WL.q (Y.len Try.underlying22 (.pl rfl)) rfl ?_
    refine WL.q (Y.move (.pl rfl)) rfl ?_
    refine WL.next hQ7 (.cons (i := 0) rfl (.cons (i := 1) rfl (.cons (i := 8) rfl (.cons (i := 30) rfl (.cons (i := 31) rfl (.nil)))))) ?_
    refine W.block ?_
    refine W.loop (γ := Nat) (Em := fun k => [(8, .int .i64 (sumF l k : Nat)), (31, .int .i64 (k : Int))]) (M := fun _ => []) (I := fun k => k ≤ ts.length) (m := fun k => ts.length - k) (0) (Nat.zero_le _) (.cons rfl (.cons rfl (.nil))) (.cons (i := 0) rfl (.cons (i := 1) rfl (.cons (i := 30) rfl (.nil)))) (fun w hw => hw.pick [] rfl) (fun k hI K8 hK8 => ?_)
    -- region 6: history.go:84
    refine W.seqR fun Q9 hQ9 => ?_
    refine WL.q (Y.lss (.pl rfl) (.pl rfl)) rfl ?_
    refine WL.next hQ9 (.cons (i := 0) rfl (.cons (i := 1) rfl (.cons (i := 8) rfl (.cons (i := 30) rfl (.cons (i := 31) rfl (.cons (i := 32) rfl (.nil))))))) ?_
    refine W.seq fun K10 hK10 => ?_
    refine W.cond (.pl rfl) (fun hC1 => ?_) (fun hC1 => ?_)
    · -- C1 yes
      try simp only [Bool.or_eq_true, Bool.and_eq_true, Bool.not_eq_true', decide_eq_true_eq, decide_eq_false_iff_not, Bool.or_eq_false_iff, Bool.and_eq_false_iff, Bool.not_eq_false', Bool.not_eq_eq_eq_not, Bool.not_true, Bool.not_false] at hC1
      have hk : k < ts.length := by omega
      have hpl : (partF l k).length ≤ maxLen := Nat.le_trans (List.length_filter_le _ _) hl2
      have hpl2 : (partF l k).length ≤ 200 := Nat.le_trans (List.length_filter_le _ _) hz2
      have hsl := sum_le l k
      have hsl2 : k * l.length ≤ 4 * 200 := Nat.mul_le_mul (by omega) hz2
      have hpo := part_ok (k : Int) he
      refine W.skip ?_
      refine W.go hK10 (.cons (i := 0) rfl (.cons (i := 1) rfl (.cons (i := 8) rfl (.cons (i := 30) rfl (.cons (i := 31) rfl (.nil)))))) ?_
      refine W.seq fun K11 hK11 => ?_
      refine W.block ?_
      -- region 7: history.go:84
      refine W.seqR fun Q12 hQ12 => ?_
      refine WL.q (Y.move (.pl rfl)) rfl ?_
      refine WL.step (WO.alloc zero3 rfl rfl fun b9 => ?_)
      refine WL.step (WO.store cells3 (.pl rfl) (.pl rfl) rfl (i := 0) rfl Nat.one_pos ?_)
      refine WL.next hQ12 (.cons (i := 0) rfl (.cons (i := 1) rfl (.cons (i := 8) rfl (.cons (i := 9) rfl (.cons (i := 30) rfl (.cons (i := 31) rfl (.nil))))))) ?_
      -- region 8: history.go:85
      refine W.seqR fun Q13 hQ13 => ?_
      refine WL.q (Y.move (.pl rfl)) rfl ?_
      refine WL.q (Y.move (.pl rfl)) rfl ?_
      refine WL.q (Y.load Try.underlying3 rfl (.pl rfl) (fun w hw => cell_lit (hw.obj (i := 0) rfl) rfl)) rfl ?_
      refine WL.step (WO.callM isGo17 (.cons (.pl rfl) (.cons (.pl rfl) (.cons (.pl rfl) (.nil)))) rfl (fun w hw => part_walk _ _ ts l k w (h1i.mono hw) (h2i.mono hw) hl1 hl2 he (by omega)) ?_)
      rintro ⟨A2, k2⟩ _
      refine WL.q (Y.move (.pl rfl)) rfl ?_
      refine WL.q (Y.extract (.pl rfl) rfl) rfl ?_
      refine WL.q (Y.extract (.pl rfl) rfl) rfl ?_
      refine WL.q (Y.assign (.pl rfl)) rfl ?_
      refine WL.q (Y.assign (.pl rfl)) rfl ?_
      refine WL.next hQ13 (.cons (i := 0) rfl (.cons (i := 1) rfl (.cons (i := 8) rfl (.cons (i := 9) rfl (.cons (i := 10) rfl (.cons (i := 11) rfl (.cons (i := 30) rfl (.cons (i := 31) rfl (.nil))))))))) ?_
      -- region 9: history.go:86
      refine W.seqR fun Q14 hQ14 => ?_
      refine WL.q (Y.move (.pl rfl)) rfl ?_
      refine WL.q (Y.move (.pl rfl)) rfl ?_
      refine WL.step (WO.callM isGo15 (.cons (.pl rfl) (.cons (.pl rfl) (.nil))) rfl (fun w hw => calls_ok _ _ ts (partF l k) w (h1i.mono hw) (SlIn.row lenE hw (i := 0) rfl) hl1 hpl) ?_)
      rintro ⟨A3, k3⟩ _
      refine WL.q (Y.move (.pl rfl)) rfl ?_
      refine WL.q (Y.extract (.pl rfl) rfl) rfl ?_
      refine WL.q (Y.extract (.pl rfl) rfl) rfl ?_
      refine WL.q (Y.extract (.pl rfl) rfl) rfl ?_
      refine WL.q (Y.assign (.pl rfl)) rfl ?_
      refine WL.q (Y.assign (.pl rfl)) rfl ?_
      refine WL.q (Y.assign (.pl rfl)) rfl ?_
      refine WL.next hQ14 (.cons (i := 0) rfl (.cons (i := 1) rfl (.cons (i := 8) rfl (.cons (i := 9) rfl (.cons (i := 10) rfl (.cons (i := 11) rfl (.cons (i := 14) rfl (.cons (i := 30) rfl (.cons (i := 31) rfl (.nil)))))))))) ?_
      refine W.seq fun K15 hK15 => ?_
      -- region 10: history.go:87
      refine W.seqR fun Q16 hQ16 => ?_
      refine WL.q (Y.move (.pl rfl)) rfl ?_
      refine WL.q (Y.neq (.pl rfl) (.pl rfl)) rfl ?_
      refine WL.q (Y.move (.pl rfl)) rfl ?_
      refine WL.g (.pl rfl rfl rfl) (fun _ => Y.move (.pl rfl)) rfl ?_
      refine WL.g (.pl rfl rfl rfl) (fun hg => Y.neq (.gd (hg) rfl) (.pl rfl)) rfl ?_
      refine WL.q (Y.or (.pl rfl) (fun h2 => .gd (eqf h2) rfl)) rfl ?_
      refine WL.q (Y.move (.pl rfl)) rfl ?_
      refine WL.g (.pl rfl rfl rfl) (fun _ => Y.move (.pl rfl)) rfl ?_
      refine WL.g (.pl rfl rfl rfl) (fun _ => Y.fnC (.cons (.pl rfl) (.nil))) rfl ?_
      refine WL.gP (.pl rfl rfl rfl) isGo18 (fun hg => (.cons (.gd (hg) rfl) (.cons (.gd (hg) rfl) (.nil)))) rfl (fun hg w hw => containsE_ok _ [_] isGo19 _ (partF l k) (fun x => !decide (x.thing = (k : Int))) w (SlIn.row lenE hw (i := 1) rfl) hpl (fun w2 h2 x hx => parts1_ok x k _ w2 (h2.roW (cell_lit (hw.obj (i := 2) rfl) rfl)))) ?_
      refine WL.q (Y.or (.pl rfl) (fun h2 => .gd (eqf h2) rfl)) rfl ?_
      refine WL.next hQ16 (.cons (i := 0) rfl (.cons (i := 1) rfl (.cons (i := 8) rfl (.cons (i := 10) rfl (.cons (i := 30) rfl (.cons (i := 31) rfl (.cons (i := 58) rfl (.nil)))))))) ?_
      refine W.cond (.pl rfl) (fun hC2 => ?_) (fun hC2 => ?_)
      · -- C2 yes
        skip
        exfalso
        have hany : ((partF l k).any fun x => !decide (x.thing = (k : Int))) = false := by
          rw [List.any_eq_false]
          intro x hx
          have := (List.mem_filter.1 hx).2
          simpa using this
        simp only [hpo, hany] at hC2
        simp at hC2
      · -- C2 no
        skip
        refine W.skip ?_
        refine W.go hK15 (.cons (i := 0) rfl (.cons (i := 1) rfl (.cons (i := 8) rfl (.cons (i := 10) rfl (.cons (i := 30) rfl (.cons (i := 31) rfl (.nil))))))) ?_
        -- region 12: history.go:90
        refine W.reg ?_
        refine WL.q (Y.move (.pl rfl)) rfl ?_
        refine WL.q (Y.move (.pl rfl)) rfl ?_
        refine WL.q (Y.len Try.underlying23 (.pl rfl)) rfl ?_
        refine WL.q (Y.add (.pl rfl) (.pl rfl) (by omega)) rfl ?_
        refine WL.q (Y.assign (.pl rfl)) rfl ?_
        refine WL.nil ?_
        refine W.go hK11 (.cons (i := 0) rfl (.cons (i := 1) rfl (.cons (i := 8) rfl (.cons (i := 30) rfl (.cons (i := 31) rfl (.nil)))))) ?_
        -- region 13: history.go:84
        refine W.reg ?_
        refine WL.q (Y.add (.pl rfl) (.pl rfl) (by omega)) rfl ?_
        refine WL.q (Y.move (.pl rfl)) rfl ?_
        refine WL.nil ?_
        exact W.again hK8 (k + 1) (by first | trivial | omega) (by omega) (.cons (rfl) (.cons (rfl) (.nil))) (.cons (i := 0) rfl (.cons (i := 1) rfl (.cons (i := 30) rfl (.nil)))) (fun w hw => hw.pick [] rfl)
    · -- C1 no
      try simp only [Bool.or_eq_true, Bool.and_eq_true, Bool.not_eq_true', decide_eq_true_eq, decide_eq_false_iff_not, Bool.or_eq_false_iff, Bool.and_eq_false_iff, Bool.not_eq_false', Bool.not_eq_eq_eq_not, Bool.not_true, Bool.not_false] at hC1
      obtain rfl : k = ts.length := by omega
      refine W.exit ?_
      refine W.go hK6 (.cons (i := 1) rfl (.cons (i := 8) rfl (.nil))) ?_
      -- region 14: history.go:92
      refine W.seqR fun Q17 hQ17 => ?_
      refine WL.q (Y.move (.pl rfl)) rfl ?_
      refine WL.q (Y.move (.pl rfl)) rfl ?_
      refine WL.q (Y.len Try.underlying23 (.pl rfl)) rfl ?_
      refine WL.q (Y.eql (.pl rfl) (.pl rfl)) rfl ?_
      refine WL.q (Y.assign (.pl rfl)) rfl ?_
      refine WL.next hQ17 (.cons (i := 4) rfl (.nil)) ?_
      refine W.ret1 (fn := Try.f4) Try.results4 rfl (fun _ _ h => h) (fun w hw => ?_)
      refine hR _ _ ?_
      refine ⟨?_, hw⟩
      rw [sum_all l ts.length (evs_thing l _ _ hz3)]
      simp

theorem parts_law (v1 v2 : Value) (ts : List Int) (l : List Ev) (w : World) (h1 : IntsIn w v1 ts) (h2 : SlIn encE 4 w v2 l) (hl1 : ts.length ≤ maxLen) (hl2 : l.length ≤ maxLen) : Pure Try.prog 4 [v1, v2] w (.bool true) := by
  by_cases he : (callsF ts l).2.2 = 0
  · exact parts_ok v1 v2 ts l w h1 h2 hl1 hl2 he
  · exact parts_err v1 v2 ts l w h1 h2 hl1 hl2 he

end Go.Proofs.Ytooaoekfnmakhaa
