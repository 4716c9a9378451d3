/- The walk of HistoryFront. -/
import Derived.Test.YtooaoekfnmakhaaP1
set_option linter.unusedVariables false
set_option linter.unusedSimpArgs false
set_option linter.unusedSectionVars false
set_option maxRecDepth 100000
namespace Go.Proofs.Ytooaoekfnmakhaa
open Go.RowKit
theorem isGo16 : IsGo Try.prog 16 := ⟨_, Try.func16, by kernel_rfl, rfl⟩
theorem zero30 : ∃ i, Try.prog.info? 30 = some i ∧ i.zero = some (Value.agg #[(Value.int .i64 0), (Value.int .i64 0), (Value.int .i64 0), (Value.int .i64 0), (Value.int .i64 0), (Value.int .i64 0), (Value.int .i64 0)]) := ⟨_, rfl, by kernel_rfl⟩
theorem front_out (v1 v2 : Value) (ts : List Int) (l : List Ev) (m : Int) (w : World) (h1 : IntsIn w v1 ts) (h2 : SlIn encE 4 w v2 l) (hl1 : ts.length ≤ maxLen) (hl2 : l.length ≤ maxLen) (hn : m < 0 ∨ l.length < m) :
    Pure Try.prog 3 [v1, v2, .int .i64 m] w (.bool true) := by
  have h1i := h1
  have h2i := h2
  obtain ⟨a1, c1, rfl, hcap1, hv⟩ := h1
  obtain ⟨a2, c2, rfl, hcap2, hlc⟩ := h2
  have hm1 := hl1
  have hm2 := hl2
  unfold maxLen at hm1 hm2
  refine W.enter (n := 118) Try.func3 rfl rfl Sub.refl (by simp) (St.start w) fun R hR => ?_
  -- region 0: history.go:49
  refine W.seqR fun Q1 hQ1 => ?_
  refine WL.q (Y.assign (.pl rfl)) rfl ?_
  refine WL.next hQ1 (.cons (i := 0) rfl (.cons (i := 1) rfl (.cons (i := 2) rfl (.nil)))) ?_
  -- region 1: history.go:50
  refine W.seqR fun Q2 hQ2 => ?_
  refine WL.q (Y.move (.pl rfl)) rfl ?_
  refine WL.q (Y.move (.pl rfl)) rfl ?_
  refine WL.step (WO.callM isGo15 (.cons (.pl rfl) (.cons (.pl rfl) (.nil))) rfl (fun w hw => calls_ok _ _ ts l w (h1i.mono hw) (h2i.mono hw) hl1 hl2) ?_)
  rintro ⟨A1, k1⟩ _
  refine WL.q (Y.move (.pl rfl)) rfl ?_
  refine WL.q (Y.extract (.pl rfl) rfl) rfl ?_
  refine WL.q (Y.extract (.pl rfl) rfl) rfl ?_
  refine WL.q (Y.extract (.pl rfl) rfl) rfl ?_
  refine WL.q (Y.assign (.pl rfl)) rfl ?_
  refine WL.q (Y.assign (.pl rfl)) rfl ?_
  refine WL.q (Y.assign (.pl rfl)) rfl ?_
  refine WL.next hQ2 (.cons (i := 0) rfl (.cons (i := 1) rfl (.cons (i := 2) rfl (.cons (i := 7) rfl (.cons (i := 8) rfl (.cons (i := 9) rfl (.nil))))))) ?_
  refine W.seq fun K3 hK3 => ?_
  -- region 2: history.go:51
  refine W.seqR fun Q4 hQ4 => ?_
  refine WL.step (WO.callP isGo16 (.nil) rfl (fun w hw => lives_ok w) ?_)
  refine WL.q (Y.not (.pl rfl)) rfl ?_
  refine WL.q (Y.move (.pl rfl)) rfl ?_
  refine WL.g (.pl rfl rfl rfl) (fun _ => Y.move (.pl rfl)) rfl ?_
  refine WL.g (.pl rfl rfl rfl) (fun hg => Y.lss (.gd (hg) rfl) (.pl rfl)) rfl ?_
  refine WL.q (Y.or (.pl rfl) (fun h2 => .gd (eqf h2) rfl)) rfl ?_
  refine WL.q (Y.move (.pl rfl)) rfl ?_
  refine WL.g (.pl rfl rfl rfl) (fun _ => Y.move (.pl rfl)) rfl ?_
  refine WL.g (.pl rfl rfl rfl) (fun _ => Y.move (.pl rfl)) rfl ?_
  refine WL.g (.pl rfl rfl rfl) (fun hg => Y.len Try.underlying23 (.gd (hg) rfl)) rfl ?_
  refine WL.g (.pl rfl rfl rfl) (fun hg => Y.gtr (.gd (hg) rfl) (.gd (hg) rfl)) rfl ?_
  refine WL.q (Y.or (.pl rfl) (fun h2 => .gd (eqf h2) rfl)) rfl ?_
  refine WL.next hQ4 (.cons (i := 0) rfl (.cons (i := 1) rfl (.cons (i := 2) rfl (.cons (i := 7) rfl (.cons (i := 8) rfl (.cons (i := 9) rfl (.cons (i := 33) rfl (.nil)))))))) ?_
  refine W.cond (.pl rfl) (fun hC0 => ?_) (fun hC0 => ?_)
  · -- C0 yes
    skip
    -- region 3: history.go:52
    refine W.seqR fun Q5 hQ5 => ?_
    refine WL.step (WO.callP isGo16 (.nil) rfl (fun w hw => lives_ok w) ?_)
    refine WL.q (Y.assign (.pl rfl)) rfl ?_
    refine WL.next hQ5 (.cons (i := 6) rfl (.nil)) ?_
    refine W.ret1 (fn := Try.f3) Try.results3 rfl (fun _ _ h => h) (fun w hw => ?_)
    refine hR _ _ ?_
    exact ⟨rfl, hw.sub ⟨_, by rw [List.nil_append]⟩⟩
  · -- C0 no
    skip
    simp at hC0
    omega

theorem front_ok (v1 v2 : Value) (ts : List Int) (l : List Ev) (m : Nat) (w : World) (h1 : IntsIn w v1 ts) (h2 : SlIn encE 4 w v2 l) (hl1 : ts.length ≤ maxLen) (hl2 : l.length ≤ maxLen) (hn : m ≤ l.length) :
    Pure Try.prog 3 [v1, v2, .int .i64 m] w (.bool true) := by
  have h1i := h1
  have h2i := h2
  obtain ⟨a1, c1, rfl, hcap1, hv⟩ := h1
  obtain ⟨a2, c2, rfl, hcap2, hlc⟩ := h2
  have hm1 := hl1
  have hm2 := hl2
  unfold maxLen at hm1 hm2
  refine W.enter (n := 118) Try.func3 rfl rfl Sub.refl (by simp) (St.start w) fun R hR => ?_
  -- region 0: history.go:49
  refine W.seqR fun Q1 hQ1 => ?_
  refine WL.q (Y.assign (.pl rfl)) rfl ?_
  refine WL.next hQ1 (.cons (i := 0) rfl (.cons (i := 1) rfl (.cons (i := 2) rfl (.nil)))) ?_
  -- region 1: history.go:50
  refine W.seqR fun Q2 hQ2 => ?_
  refine WL.q (Y.move (.pl rfl)) rfl ?_
  refine WL.q (Y.move (.pl rfl)) rfl ?_
  refine WL.step (WO.callM isGo15 (.cons (.pl rfl) (.cons (.pl rfl) (.nil))) rfl (fun w hw => calls_ok _ _ ts l w (h1i.mono hw) (h2i.mono hw) hl1 hl2) ?_)
  rintro ⟨A1, k1⟩ _
  refine WL.q (Y.move (.pl rfl)) rfl ?_
  refine WL.q (Y.extract (.pl rfl) rfl) rfl ?_
  refine WL.q (Y.extract (.pl rfl) rfl) rfl ?_
  refine WL.q (Y.extract (.pl rfl) rfl) rfl ?_
  refine WL.q (Y.assign (.pl rfl)) rfl ?_
  refine WL.q (Y.assign (.pl rfl)) rfl ?_
  refine WL.q (Y.assign (.pl rfl)) rfl ?_
  refine WL.next hQ2 (.cons (i := 0) rfl (.cons (i := 1) rfl (.cons (i := 2) rfl (.cons (i := 7) rfl (.cons (i := 8) rfl (.cons (i := 9) rfl (.nil))))))) ?_
  refine W.seq fun K3 hK3 => ?_
  -- region 2: history.go:51
  refine W.seqR fun Q4 hQ4 => ?_
  refine WL.step (WO.callP isGo16 (.nil) rfl (fun w hw => lives_ok w) ?_)
  refine WL.q (Y.not (.pl rfl)) rfl ?_
  refine WL.q (Y.move (.pl rfl)) rfl ?_
  refine WL.g (.pl rfl rfl rfl) (fun _ => Y.move (.pl rfl)) rfl ?_
  refine WL.g (.pl rfl rfl rfl) (fun hg => Y.lss (.gd (hg) rfl) (.pl rfl)) rfl ?_
  refine WL.q (Y.or (.pl rfl) (fun h2 => .gd (eqf h2) rfl)) rfl ?_
  refine WL.q (Y.move (.pl rfl)) rfl ?_
  refine WL.g (.pl rfl rfl rfl) (fun _ => Y.move (.pl rfl)) rfl ?_
  refine WL.g (.pl rfl rfl rfl) (fun _ => Y.move (.pl rfl)) rfl ?_
  refine WL.g (.pl rfl rfl rfl) (fun hg => Y.len Try.underlying23 (.gd (hg) rfl)) rfl ?_
  refine WL.g (.pl rfl rfl rfl) (fun hg => Y.gtr (.gd (hg) rfl) (.gd (hg) rfl)) rfl ?_
  refine WL.q (Y.or (.pl rfl) (fun h2 => .gd (eqf h2) rfl)) rfl ?_
  refine WL.next hQ4 (.cons (i := 0) rfl (.cons (i := 1) rfl (.cons (i := 2) rfl (.cons (i := 7) rfl (.cons (i := 8) rfl (.cons (i := 9) rfl (.cons (i := 33) rfl (.nil)))))))) ?_
  refine W.cond (.pl rfl) (fun hC0 => ?_) (fun hC0 => ?_)
  · -- C0 yes
    skip
    simp at hC0
    omega
  · -- C0 no
    skip
    refine W.skip ?_
    refine W.go hK3 (.cons (i := 0) rfl (.cons (i := 1) rfl (.cons (i := 2) rfl (.cons (i := 7) rfl (.cons (i := 8) rfl (.cons (i := 9) rfl (.nil))))))) ?_
    -- region 4: history.go:54
    refine W.seqR fun Q5 hQ5 => ?_
    refine WL.q (Y.move (.pl rfl)) rfl ?_
    refine WL.q (Y.move (.pl rfl)) rfl ?_
    refine WL.q (Y.move (.pl rfl)) rfl ?_
    refine WL.q (Y.sliceTo Try.underlying23 cells36 (.pl rfl) (.pl rfl) (by omega)) rfl ?_
    refine WL.step (WO.callM isGo15 (.cons (.pl rfl) (.cons (.pl rfl) (.nil))) rfl (fun w hw => calls_ok _ _ ts (l.take m) w (h1i.mono hw) ((h2i.mono hw).take (j := m) hn) hl1 (by rw [List.length_take]; exact Nat.le_trans (Nat.min_le_right _ _) hl2)) ?_)
    rintro ⟨A2, k2⟩ _
    refine WL.q (Y.move (.pl rfl)) rfl ?_
    refine WL.q (Y.extract (.pl rfl) rfl) rfl ?_
    refine WL.q (Y.extract (.pl rfl) rfl) rfl ?_
    refine WL.q (Y.extract (.pl rfl) rfl) rfl ?_
    refine WL.q (Y.assign (.pl rfl)) rfl ?_
    refine WL.q (Y.assign (.pl rfl)) rfl ?_
    refine WL.q (Y.assign (.pl rfl)) rfl ?_
    refine WL.next hQ5 (.cons (i := 2) rfl (.cons (i := 7) rfl (.cons (i := 8) rfl (.cons (i := 9) rfl (.cons (i := 10) rfl (.cons (i := 11) rfl (.cons (i := 12) rfl (.nil)))))))) ?_
    refine W.seq fun K6 hK6 => ?_
    refine W.block ?_
    -- region 5: history.go:56
    refine W.seqR fun Q7 hQ7 => ?_
    refine WL.q (Y.move (.pl rfl)) rfl ?_
    refine WL.q (Y.eql (.pl rfl) (.pl rfl)) rfl ?_
    refine WL.q (Y.assign (.pl rfl)) rfl ?_
    refine WL.next hQ7 (.cons (i := 2) rfl (.cons (i := 7) rfl (.cons (i := 8) rfl (.cons (i := 9) rfl (.cons (i := 10) rfl (.cons (i := 11) rfl (.cons (i := 12) rfl (.cons (i := 44) rfl (.nil))))))))) ?_
    refine W.cond (.pl rfl) (fun hC1 => ?_) (fun hC1 => ?_)
    · -- C1 yes
      try simp only [Bool.or_eq_true, Bool.and_eq_true, Bool.not_eq_true', decide_eq_true_eq, decide_eq_false_iff_not, Bool.or_eq_false_iff, Bool.and_eq_false_iff, Bool.not_eq_false', Bool.not_eq_eq_eq_not, Bool.not_true, Bool.not_false] at hC1
      -- region 6: history.go:57
      refine W.seqR fun Q8 hQ8 => ?_
      refine WL.q (Y.assign (.pl rfl)) rfl ?_
      refine WL.next hQ8 (.cons (i := 6) rfl (.nil)) ?_
      refine W.ret1 (fn := Try.f3) Try.results3 rfl (fun _ _ h => h) (fun w hw => ?_)
      refine hR _ _ ?_
      exact ⟨rfl, hw.sub ⟨_, by rw [List.nil_append]⟩⟩
    · -- C1 no
      try simp only [Bool.or_eq_true, Bool.and_eq_true, Bool.not_eq_true', decide_eq_true_eq, decide_eq_false_iff_not, Bool.or_eq_false_iff, Bool.and_eq_false_iff, Bool.not_eq_false', Bool.not_eq_eq_eq_not, Bool.not_true, Bool.not_false] at hC1
      have hfr := front hn hC1
      -- region 7: history.go:58
      refine W.seqR fun Q9 hQ9 => ?_
      refine WL.q (Y.move (.pl rfl)) rfl ?_
      refine WL.q (Y.eql (.pl rfl) (.pl rfl)) rfl ?_
      refine WL.q (Y.move (.pl rfl)) rfl ?_
      refine WL.g (.pl rfl rfl rfl) (fun _ => Y.move (.pl rfl)) rfl ?_
      refine WL.g (.pl rfl rfl rfl) (fun hg => Y.neq (.gd (hg) rfl) (.pl rfl)) rfl ?_
      refine WL.g (.pl rfl rfl rfl) (fun hg => Y.move (.gd (hg) rfl)) rfl ?_
      refine WL.g (.gd rfl rfl rfl) (fun _ => Y.move (.pl rfl)) rfl ?_
      refine WL.g (.gd rfl rfl rfl) (fun _ => Y.move (.pl rfl)) rfl ?_
      refine WL.g (.gd rfl rfl rfl) (fun hg => Y.gtr (.gd (hg) rfl) (.gd (hg) rfl)) rfl ?_
      refine WL.g (.pl rfl rfl rfl) (fun hg => Y.and (.gd (hg) rfl) (fun h2 => .gd (band hg (eqt h2)) rfl)) rfl ?_
      refine WL.q (Y.or (.pl rfl) (fun h2 => .gd (eqf h2) rfl)) rfl ?_
      refine WL.q (Y.assign (.pl rfl)) rfl ?_
      refine WL.next hQ9 (.cons (i := 2) rfl (.cons (i := 7) rfl (.cons (i := 8) rfl (.cons (i := 9) rfl (.cons (i := 10) rfl (.cons (i := 11) rfl (.cons (i := 12) rfl (.cons (i := 47) rfl (.nil))))))))) ?_
      refine W.cond (.pl rfl) (fun hC2 => ?_) (fun hC2 => ?_)
      · -- C2 yes
        try simp only [Bool.or_eq_true, Bool.and_eq_true, Bool.not_eq_true', decide_eq_true_eq, decide_eq_false_iff_not, Bool.or_eq_false_iff, Bool.and_eq_false_iff, Bool.not_eq_false', Bool.not_eq_eq_eq_not, Bool.not_true, Bool.not_false] at hC2
        have hg := hfr.1 hC2
        -- region 8: history.go:59
        refine W.seqR fun Q10 hQ10 => ?_
        refine WL.q (Y.move (.pl rfl)) rfl ?_
        refine WL.q (Y.move (.pl rfl)) rfl ?_
        refine WL.q (Y.eql (.pl rfl) (.pl rfl)) rfl ?_
        refine WL.q (Y.move (.pl rfl)) rfl ?_
        refine WL.g (.pl rfl rfl rfl) (fun _ => Y.move (.pl rfl)) rfl ?_
        refine WL.g (.pl rfl rfl rfl) (fun _ => Y.move (.pl rfl)) rfl ?_
        refine WL.g (.pl rfl rfl rfl) (fun hg => Y.eql (.gd (hg) rfl) (.gd (hg) rfl)) rfl ?_
        refine WL.q (Y.and (.pl rfl) (fun h2 => .gd (eqt h2) rfl)) rfl ?_
        refine WL.q (Y.assign (.pl rfl)) rfl ?_
        refine WL.next hQ10 (.cons (i := 6) rfl (.nil)) ?_
        refine W.ret1 (fn := Try.f3) Try.results3 rfl (fun _ _ h => h) (fun w hw => ?_)
        refine hR _ _ ?_
        exact ⟨by rw [hg.1, hg.2]; simp, hw.sub ⟨_, by rw [List.nil_append]⟩⟩
      · -- C2 no
        try simp only [Bool.or_eq_true, Bool.and_eq_true, Bool.not_eq_true', decide_eq_true_eq, decide_eq_false_iff_not, Bool.or_eq_false_iff, Bool.and_eq_false_iff, Bool.not_eq_false', Bool.not_eq_eq_eq_not, Bool.not_true, Bool.not_false] at hC2
        -- region 9: history.go:60
        refine W.seqR fun Q11 hQ11 => ?_
        refine WL.q (Y.move (.pl rfl)) rfl ?_
        refine WL.q (Y.neq (.pl rfl) (.pl rfl)) rfl ?_
        refine WL.q (Y.assign (.pl rfl)) rfl ?_
        refine WL.next hQ11 (.cons (i := 2) rfl (.cons (i := 7) rfl (.cons (i := 10) rfl (.cons (i := 12) rfl (.cons (i := 67) rfl (.nil)))))) ?_
        refine W.cond (.pl rfl) (fun hC3 => ?_) (fun hC3 => ?_)
        · -- C3 yes
          try simp only [Bool.or_eq_true, Bool.and_eq_true, Bool.not_eq_true', decide_eq_true_eq, decide_eq_false_iff_not, Bool.or_eq_false_iff, Bool.and_eq_false_iff, Bool.not_eq_false', Bool.not_eq_eq_eq_not, Bool.not_true, Bool.not_false] at hC3
          have hg := hfr.2.1 (fun h => hC2.1 h) hC3 (by have := hC2.2; omega)
          -- region 10: history.go:61
          refine W.seqR fun Q12 hQ12 => ?_
          refine WL.q (Y.move (.pl rfl)) rfl ?_
          refine WL.q (Y.eql (.pl rfl) (.pl rfl)) rfl ?_
          refine WL.q (Y.assign (.pl rfl)) rfl ?_
          refine WL.next hQ12 (.cons (i := 6) rfl (.nil)) ?_
          refine W.ret1 (fn := Try.f3) Try.results3 rfl (fun _ _ h => h) (fun w hw => ?_)
          refine hR _ _ ?_
          exact ⟨by rw [hg]; rfl, hw.sub ⟨_, by rw [List.nil_append]⟩⟩
        · -- C3 no
          try simp only [Bool.or_eq_true, Bool.and_eq_true, Bool.not_eq_true', decide_eq_true_eq, decide_eq_false_iff_not, Bool.or_eq_false_iff, Bool.and_eq_false_iff, Bool.not_eq_false', Bool.not_eq_eq_eq_not, Bool.not_true, Bool.not_false] at hC3
          obtain ⟨g1, g2⟩ := hfr.2.2 hC3
          have hlen := g2.len
          have hl200 := calls_len ts l
          refine W.skip ?_
          refine W.go hK6 (.cons (i := 2) rfl (.cons (i := 7) rfl (.cons (i := 10) rfl (.cons (i := 12) rfl (.nil))))) ?_
          refine W.seq fun K13 hK13 => ?_
          -- region 11: history.go:63
          refine W.seqR fun Q14 hQ14 => ?_
          refine WL.q (Y.move (.pl rfl)) rfl ?_
          refine WL.q (Y.neq (.pl rfl) (.pl rfl)) rfl ?_
          refine WL.q (Y.move (.pl rfl)) rfl ?_
          refine WL.g (.pl rfl rfl rfl) (fun _ => Y.move (.pl rfl)) rfl ?_
          refine WL.g (.pl rfl rfl rfl) (fun hg => Y.len Try.underlying24 (.gd (hg) rfl)) rfl ?_
          refine WL.g (.pl rfl rfl rfl) (fun _ => Y.move (.pl rfl)) rfl ?_
          refine WL.g (.pl rfl rfl rfl) (fun hg => Y.len Try.underlying24 (.gd (hg) rfl)) rfl ?_
          refine WL.g (.pl rfl rfl rfl) (fun hg => Y.gtr (.gd (hg) rfl) (.gd (hg) rfl)) rfl ?_
          refine WL.q (Y.or (.pl rfl) (fun h2 => .gd (eqf h2) rfl)) rfl ?_
          refine WL.next hQ14 (.cons (i := 2) rfl (.cons (i := 7) rfl (.cons (i := 10) rfl (.cons (i := 80) rfl (.nil))))) ?_
          refine W.cond (.pl rfl) (fun hC4 => ?_) (fun hC4 => ?_)
          · -- C4 yes
            skip
            simp [g1] at hC4
            omega
          · -- C4 no
            skip
            refine W.skip ?_
            refine W.go hK13 (.cons (i := 2) rfl (.cons (i := 7) rfl (.cons (i := 10) rfl (.nil)))) ?_
            refine W.seq fun K15 hK15 => ?_
            -- region 13: history.go:66
            refine W.seqR fun Q16 hQ16 => ?_
            refine WL.q (Y.move (.pl rfl)) rfl ?_
            refine WL.q (Y.len Try.underlying24 (.pl rfl)) rfl ?_
            refine WL.q (Y.move (.pl rfl)) rfl ?_
            refine WL.next hQ16 (.cons (i := 2) rfl (.cons (i := 7) rfl (.cons (i := 10) rfl (.cons (i := 82) rfl (.cons (i := 83) rfl (.nil)))))) ?_
            refine W.block ?_
            refine W.loop (γ := Nat) (Em := fun k => [(83, .int .i64 (k : Int))]) (M := fun _ => [cRow A2 k2 30 7 (callsF ts (l.take m)).1.length ((callsF ts (l.take m)).1.flatMap encC), cRow A1 k1 30 7 (callsF ts l).1.length ((callsF ts l).1.flatMap encC)]) (I := fun k => k ≤ (callsF ts (l.take m)).1.length) (m := fun k => (callsF ts (l.take m)).1.length - k) (0) (Nat.zero_le _) (.cons rfl (.nil)) (.cons (i := 2) rfl (.cons (i := 7) rfl (.cons (i := 10) rfl (.cons (i := 82) rfl (.nil))))) (fun w hw => hw) (fun k hI K17 hK17 => ?_)
            -- region 14: history.go:66
            refine W.seqR fun Q18 hQ18 => ?_
            refine WL.q (Y.lss (.pl rfl) (.pl rfl)) rfl ?_
            refine WL.next hQ18 (.cons (i := 2) rfl (.cons (i := 7) rfl (.cons (i := 10) rfl (.cons (i := 82) rfl (.cons (i := 83) rfl (.cons (i := 84) rfl (.nil))))))) ?_
            refine W.seq fun K19 hK19 => ?_
            refine W.cond (.pl rfl) (fun hC5 => ?_) (fun hC5 => ?_)
            · -- C5 yes
              try simp only [Bool.or_eq_true, Bool.and_eq_true, Bool.not_eq_true', decide_eq_true_eq, decide_eq_false_iff_not, Bool.or_eq_false_iff, Bool.and_eq_false_iff, Bool.not_eq_false', Bool.not_eq_eq_eq_not, Bool.not_true, Bool.not_false] at hC5
              have hk : k < (callsF ts (l.take m)).1.length := by omega
              have hkc : k < (callsF ts l).1.length := by omega
              refine W.know (fun w hw => hw.row_lim (i := 1) rfl) fun hA1 => ?_
              refine W.know (fun w hw => hw.row_lim (i := 0) rfl) fun hA2 => ?_
              refine W.skip ?_
              refine W.go hK19 (.cons (i := 2) rfl (.cons (i := 7) rfl (.cons (i := 10) rfl (.cons (i := 82) rfl (.cons (i := 83) rfl (.nil)))))) ?_
              refine W.seq fun K20 hK20 => ?_
              refine W.block ?_
              -- region 15: history.go:66
              refine W.seqR fun Q21 hQ21 => ?_
              refine WL.q (Y.move (.pl rfl)) rfl ?_
              refine WL.q (Y.assign (.pl rfl)) rfl ?_
              refine WL.next hQ21 (.cons (i := 2) rfl (.cons (i := 7) rfl (.cons (i := 10) rfl (.cons (i := 13) rfl (.cons (i := 82) rfl (.cons (i := 83) rfl (.nil))))))) ?_
              -- region 16: history.go:67
              refine W.seqR fun Q22 hQ22 => ?_
              refine WL.q (Y.move (.pl rfl)) rfl ?_
              refine WL.q (Y.move (.pl rfl)) rfl ?_
              refine WL.q (Y.elemN Try.underlying24 cells30 (.pl rfl) (.pl rfl) (hkc) (hA1.2.2 (by omega))) rfl ?_
              refine WL.q (Y.loadAggE Try.underlying30 rfl cells30 (hA1.2.2 (by omega)).1 (.pl rfl) rfl (fun w hw => hw.rowA lenC (i := 1) rfl hkc)) rfl ?_
              refine WL.step (WO.alloc (cs := #[(Value.int .i64 0), (Value.int .i64 0), (Value.int .i64 0), (Value.int .i64 0), (Value.int .i64 0), (Value.int .i64 0), (Value.int .i64 0)]) zero30 rfl rfl fun b14 => ?_)
              refine WL.step (WO.storeA cells30 (.pl rfl) (.pl rfl) rfl (by simp [encC, Value.oneCell']) (i := 0) rfl (by simp [encC]) ?_)
              refine WL.next hQ22 (.cons (i := 2) rfl (.cons (i := 7) rfl (.cons (i := 10) rfl (.cons (i := 13) rfl (.cons (i := 14) rfl (.cons (i := 82) rfl (.cons (i := 83) rfl (.nil)))))))) ?_
              refine W.join (γ := Unit) (Em := fun _ => []) (M := fun _ => [cObj b14 (.cells (encC (adjF m (callsF ts l).1[k])).toArray 30 (0, 0)), cRow A2 k2 30 7 (callsF ts (l.take m)).1.length ((callsF ts (l.take m)).1.flatMap encC), cRow A1 k1 30 7 (callsF ts l).1.length ((callsF ts l).1.flatMap encC)]) (I := fun _ => True) (.cons (i := 2) rfl (.cons (i := 7) rfl (.cons (i := 10) rfl (.cons (i := 13) rfl (.cons (i := 14) rfl (.cons (i := 82) rfl (.cons (i := 83) rfl (.nil)))))))) (fun K23 hK23 => ?_) ?_
              · -- up to J0
                -- region 17: history.go:68
                refine W.seqR fun Q24 hQ24 => ?_
                refine WL.q ((by first | exact Y.fieldAddr0 (off := 6) (ft := 3) Try.underlying30 rfl cells3 (.pl rfl) | exact Y.fieldAddr (off := 6) (ft := 3) Try.underlying30 rfl cells3 (.pl rfl))) rfl ?_
                refine WL.q (Y.load Try.underlying3 rfl (.pl rfl) (fun w hw => cell_lit (hw.obj (i := 0) rfl) rfl)) rfl ?_
                refine WL.q (Y.move (.pl rfl)) rfl ?_
                refine WL.q (Y.geq (.pl rfl) (.pl rfl)) rfl ?_
                refine WL.next hQ24 (.cons (i := 2) rfl (.cons (i := 7) rfl (.cons (i := 10) rfl (.cons (i := 13) rfl (.cons (i := 14) rfl (.cons (i := 82) rfl (.cons (i := 83) rfl (.cons (i := 93) rfl (.nil))))))))) ?_
                refine W.cond (.pl rfl) (fun hC6 => ?_) (fun hC6 => ?_)
                · -- C6 yes
                  try simp only [Bool.or_eq_true, Bool.and_eq_true, Bool.not_eq_true', decide_eq_true_eq, decide_eq_false_iff_not, Bool.or_eq_false_iff, Bool.and_eq_false_iff, Bool.not_eq_false', Bool.not_eq_eq_eq_not, Bool.not_true, Bool.not_false] at hC6
                  -- region 18: history.go:69
                  refine W.reg ?_
                  refine WL.q ((by first | exact Y.fieldAddr0 (off := 6) (ft := 3) Try.underlying30 rfl cells3 (.pl rfl) | exact Y.fieldAddr (off := 6) (ft := 3) Try.underlying30 rfl cells3 (.pl rfl))) rfl ?_
                  refine WL.step (WO.store cells3 (.pl rfl) (.pl rfl) rfl (i := 0) rfl (by simp [putAt, encC]) ?_)
                  refine WL.q ((by first | exact Y.fieldAddr0 (off := 4) (ft := 3) Try.underlying30 rfl cells3 (.pl rfl) | exact Y.fieldAddr (off := 4) (ft := 3) Try.underlying30 rfl cells3 (.pl rfl))) rfl ?_
                  refine WL.step (WO.store cells3 (.pl rfl) (.pl rfl) rfl (i := 0) rfl (by simp [putAt, encC]) ?_)
                  refine WL.nil ?_
                  exact W.joinAt hK23 (()) (by first | trivial | omega) (.nil) (.cons (i := 2) rfl (.cons (i := 7) rfl (.cons (i := 10) rfl (.cons (i := 13) rfl (.cons (i := 14) rfl (.cons (i := 82) rfl (.cons (i := 83) rfl (.nil)))))))) (fun w hw => hw.cong (by rw [adjF, if_pos hC6]; rfl))
                · -- C6 no
                  try simp only [Bool.or_eq_true, Bool.and_eq_true, Bool.not_eq_true', decide_eq_true_eq, decide_eq_false_iff_not, Bool.or_eq_false_iff, Bool.and_eq_false_iff, Bool.not_eq_false', Bool.not_eq_eq_eq_not, Bool.not_true, Bool.not_false] at hC6
                  refine W.skip ?_
                  exact W.joinAt hK23 (()) (by first | trivial | omega) (.nil) (.cons (i := 2) rfl (.cons (i := 7) rfl (.cons (i := 10) rfl (.cons (i := 13) rfl (.cons (i := 14) rfl (.cons (i := 82) rfl (.cons (i := 83) rfl (.nil)))))))) (fun w hw => hw.cong (by rw [adjF, if_neg hC6]; rfl))
              · -- behind J0
                intro _ _
                -- region 19: history.go:71
                refine W.seqD (by kernel_rfl) (by kernel_rfl) fun R25 hR25 => ?_
                refine WD.q (Y.move (.pl rfl)) rfl ?_
                refine WD.q (Y.move (.pl rfl)) rfl ?_
                refine WD.q (Y.elemN Try.underlying24 cells30 (.pl rfl) (.pl rfl) (hk) (hA2.2.2 (by omega))) rfl ?_
                refine WD.q (Y.loadAggE Try.underlying30 rfl cells30 (hA2.2.2 (by omega)).1 (.pl rfl) rfl (fun w hw => hw.rowA lenC (i := 1) rfl hk)) rfl ?_
                refine WD.q (Y.loadAgg Try.underlying30 rfl cells30 (.pl rfl) rfl (fun w hw => at_obj hw (i := 0) rfl (cs := encC (adjF m (callsF ts l).1[k])) (by intro j v hj; rw [Nat.zero_add]; simpa using hj))) rfl ?_
                refine WD.q (Y.cast (Y.neqS eqs30 (.pl rfl) (.pl rfl) rfl) (v' := .bool (!decide ((callsF ts (l.take m)).1[k] = adjF m (callsF ts l).1[k]))) (by rw [← equalC_eq])) rfl ?_
                refine WD.next hR25 (.cons (i := 2) rfl (.cons (i := 7) rfl (.cons (i := 10) rfl (.cons (i := 82) rfl (.cons (i := 83) rfl (.cons (i := 101) rfl (.nil))))))) ?_
                refine W.cond (.pl rfl) (fun hC7 => ?_) (fun hC7 => ?_)
                · -- C7 yes
                  skip
                  exfalso
                  have := g2.eq k hk
                  rw [gD_get hk, gD_get hkc] at this
                  simp [this] at hC7
                · -- C7 no
                  skip
                  refine W.skip ?_
                  refine W.go hK20 (.cons (i := 2) rfl (.cons (i := 7) rfl (.cons (i := 10) rfl (.cons (i := 82) rfl (.cons (i := 83) rfl (.nil)))))) ?_
                  -- region 21: history.go:66
                  refine W.reg ?_
                  refine WL.q (Y.add (.pl rfl) (.pl rfl) (by omega)) rfl ?_
                  refine WL.q (Y.move (.pl rfl)) rfl ?_
                  refine WL.nil ?_
                  exact W.again hK17 (k + 1) (by first | trivial | omega) (by omega) (.cons (rfl) (.nil)) (.cons (i := 2) rfl (.cons (i := 7) rfl (.cons (i := 10) rfl (.cons (i := 82) rfl (.nil))))) (fun w hw => hw.pick [1, 2] rfl)
            · -- C5 no
              try simp only [Bool.or_eq_true, Bool.and_eq_true, Bool.not_eq_true', decide_eq_true_eq, decide_eq_false_iff_not, Bool.or_eq_false_iff, Bool.and_eq_false_iff, Bool.not_eq_false', Bool.not_eq_eq_eq_not, Bool.not_true, Bool.not_false] at hC5
              refine W.know (fun w hw => hw.row_lim (i := 1) rfl) fun hA1 => ?_
              refine W.exit ?_
              refine W.go hK15 (.cons (i := 2) rfl (.cons (i := 7) rfl (.cons (i := 10) rfl (.nil)))) ?_
              -- region 22: history.go:75
              refine W.seqR fun Q26 hQ26 => ?_
              refine WL.q (Y.move (.pl rfl)) rfl ?_
              refine WL.q (Y.len Try.underlying24 (.pl rfl)) rfl ?_
              refine WL.q (Y.move (.pl rfl)) rfl ?_
              refine WL.q (Y.len Try.underlying24 (.pl rfl)) rfl ?_
              refine WL.q (Y.eql (.pl rfl) (.pl rfl)) rfl ?_
              refine WL.q (Y.move (.pl rfl)) rfl ?_
              refine WL.g (.pl rfl rfl rfl) (fun _ => Y.move (.pl rfl)) rfl ?_
              refine WL.g (.pl rfl rfl rfl) (fun _ => Y.move (.pl rfl)) rfl ?_
              refine WL.g (.pl rfl rfl rfl) (fun hg => Y.len Try.underlying24 (.gd (hg) rfl)) rfl ?_
              refine WL.g (.pl rfl rfl rfl) (fun hg => Y.elemN Try.underlying24 cells30 (.gd (hg) rfl) (.gd (hg) rfl) (by simp at hg; omega) (hA1.2.2 (by simp at hg; omega))) rfl ?_
              refine WL.g (.pl rfl rfl rfl) (fun hg => Y.fieldAddrE (off := 5) (ft := 3) Try.underlying30 rfl cells3 (hA1.2.2 (by simp at hg; omega)).1 (.gd (hg) rfl)) rfl ?_
              refine WL.g (.pl rfl rfl rfl) (fun hg => Y.load Try.underlying3 rfl (.gd (hg) rfl) (fun w hw => (hw.row_get (i := 1) (v := .int .i64 ((callsF ts l).1.getD (callsF ts (l.take m)).1.length cl0).from') rfl (flat_at lenC (by simp at hg; omega) (by rw [gD_get (by simp at hg; omega)]; rfl))).2)) rfl ?_
              refine WL.g (.pl rfl rfl rfl) (fun _ => Y.move (.pl rfl)) rfl ?_
              refine WL.g (.pl rfl rfl rfl) (fun hg => Y.geq (.gd (hg) rfl) (.gd (hg) rfl)) rfl ?_
              refine WL.q (Y.or (.pl rfl) (fun h2 => .gd (eqf h2) rfl)) rfl ?_
              refine WL.q (Y.assign (.pl rfl)) rfl ?_
              refine WL.next hQ26 (.cons (i := 6) rfl (.nil)) ?_
              refine W.ret1 (fn := Try.f3) Try.results3 rfl (fun _ _ h => h) (fun w hw => ?_)
              refine hR _ _ ?_
              refine ⟨?_, hw.sub ⟨_, by rw [List.nil_append]⟩⟩
              by_cases he : (callsF ts (l.take m)).1.length = (callsF ts l).1.length
              · simp [he]
              · have h9 := g2.ge _ (Nat.le_refl _) (by omega)
                simp only [h9, decide_true, Bool.or_true]

theorem front_law (v1 v2 : Value) (ts : List Int) (l : List Ev) (m : Int) (w : World) (h1 : IntsIn w v1 ts) (h2 : SlIn encE 4 w v2 l) (hl1 : ts.length ≤ maxLen) (hl2 : l.length ≤ maxLen) : Pure Try.prog 3 [v1, v2, .int .i64 m] w (.bool true) := by
  by_cases hm : 0 ≤ m ∧ m ≤ l.length
  · obtain ⟨k, rfl⟩ : ∃ k : Nat, m = k := ⟨m.toNat, by omega⟩
    exact front_ok v1 v2 ts l k w h1 h2 hl1 hl2 (by omega)
  · exact front_out v1 v2 ts l m w h1 h2 hl1 hl2 (by omega)

def decE : List Int → Ev
  | [a0, a1, a2, a3] => ⟨a0, a1, a2, a3⟩
  | _ => ⟨0, 0, 0, 0⟩
theorem decE_ok (r : List Int) (h : r.length = 4) : encE (decE r) = ints r := by
  match r, h with
  | [a0, a1, a2, a3], _ => rfl
def decC : List Int → Cl
  | [a0, a1, a2, a3, a4, a5, a6] => ⟨a0, a1, a2, a3, a4, a5, a6⟩
  | _ => ⟨0, 0, 0, 0, 0, 0, 0⟩
theorem decC_ok (r : List Int) (h : r.length = 7) : encC (decC r) = ints r := by
  match r, h with
  | [a0, a1, a2, a3, a4, a5, a6], _ => rfl
end Go.Proofs.Ytooaoekfnmakhaa
