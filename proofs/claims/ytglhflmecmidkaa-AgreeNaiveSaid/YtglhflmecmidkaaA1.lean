/- The walks of package agree: its check. -/
import Derived.Test.YtglhflmecmidkaaProg
import Derived.Test.YtglhflmecmidkaaEng
import Derived.KernelRfl
set_option linter.unusedVariables false
set_option linter.unusedSimpArgs false
set_option linter.unusedSectionVars false
set_option maxRecDepth 100000
namespace Go.Proofs.Ytglhflmecmidkaa
open Go.RowKit
theorem cells3 : Try.prog.cellsOf 3 = 0 + 1 := by kernel_rfl
def checkF (algo : Int) (vs ls : List Int) : Int :=
  if algo < 1 ∨ 3 < algo ∨ vs.length < 1 ∨ 8 < vs.length ∨ (algo ≠ 1 ∧ vs.length ≠ 2) then 1
  else if vs.any (fun v => decide (v < 0) || decide (1000 < v)) then 1 else if 300 < ls.length then 2 else if ls.any (fun t => decide (t < 0) || decide ((vs.length : Int) ≤ t)) then 1 else 0
theorem any_take_succ {xs : List Int} {p : Int → Bool} {k : Nat} (hk : k < xs.length) (h : (xs.take k).any p = false) (hp : p xs[k] = false) : (xs.take (k + 1)).any p = false := by
  rw [List.take_succ_eq_append_getElem hk, List.any_append, h]; simp [hp]
theorem any_of_get {xs : List Int} {p : Int → Bool} {k : Nat} (hk : k < xs.length) (hp : p xs[k] = true) : xs.any p = true := List.any_eq_true.2 ⟨_, List.getElem_mem hk, hp⟩
theorem check_ok (algo : Int) (v1 v2 : Value) (vs ls : List Int) (w : World) (h1 : IntsIn w v1 vs) (h2 : IntsIn w v2 ls) (hl1 : vs.length ≤ maxLen) (hl2 : ls.length ≤ maxLen) :
    Pure Try.prog 11 [.int .i64 algo, v1, v2] w (.int .i64 (checkF algo vs ls)) := by
  obtain ⟨a1, c1, rfl, hcap1, hv⟩ := h1
  obtain ⟨a2, c2, rfl, hcap2, hl⟩ := h2
  unfold maxLen at hl1 hl2
  refine W.enter (n := 66) Try.func11 rfl rfl Sub.refl (by simp) (St.start w) fun R hR => ?_
  -- region 0: agree.go:63
  refine W.seqR fun Q1 hQ1 => ?_
  refine WL.q (Y.assign (.pl rfl)) rfl ?_
  refine WL.next hQ1 (.cons (i := 0) rfl (.cons (i := 1) rfl (.cons (i := 2) rfl (.nil)))) ?_
  -- region 1: agree.go:64
  refine W.seqR fun Q2 hQ2 => ?_
  refine WL.q (Y.move (.pl rfl)) rfl ?_
  refine WL.q (Y.len Try.underlying22 (.pl rfl)) rfl ?_
  refine WL.q (Y.assign (.pl rfl)) rfl ?_
  refine WL.next hQ2 (.cons (i := 0) rfl (.cons (i := 1) rfl (.cons (i := 2) rfl (.cons (i := 7) rfl (.nil))))) ?_
  refine W.seq fun K3 hK3 => ?_
  -- region 2: agree.go:65
  refine W.seqR fun Q4 hQ4 => ?_
  refine WL.q (Y.move (.pl rfl)) rfl ?_
  refine WL.q (Y.lss (.pl rfl) (.pl rfl)) rfl ?_
  refine WL.q (Y.move (.pl rfl)) rfl ?_
  refine WL.g (.pl rfl rfl rfl) (fun _ => Y.move (.pl rfl)) rfl ?_
  refine WL.g (.pl rfl rfl rfl) (fun hg => Y.gtr (.gd (hg) rfl) (.pl rfl)) rfl ?_
  refine WL.q (Y.or (.pl rfl) (fun h2 => .gd (eqf h2) rfl)) rfl ?_
  refine WL.q (Y.move (.pl rfl)) rfl ?_
  refine WL.g (.pl rfl rfl rfl) (fun _ => Y.move (.pl rfl)) rfl ?_
  refine WL.g (.pl rfl rfl rfl) (fun hg => Y.lss (.gd (hg) rfl) (.pl rfl)) rfl ?_
  refine WL.q (Y.or (.pl rfl) (fun h2 => .gd (eqf h2) rfl)) rfl ?_
  refine WL.q (Y.move (.pl rfl)) rfl ?_
  refine WL.g (.pl rfl rfl rfl) (fun _ => Y.move (.pl rfl)) rfl ?_
  refine WL.g (.pl rfl rfl rfl) (fun hg => Y.gtr (.gd (hg) rfl) (.pl rfl)) rfl ?_
  refine WL.q (Y.or (.pl rfl) (fun h2 => .gd (eqf h2) rfl)) rfl ?_
  refine WL.q (Y.move (.pl rfl)) rfl ?_
  refine WL.g (.pl rfl rfl rfl) (fun _ => Y.move (.pl rfl)) rfl ?_
  refine WL.g (.pl rfl rfl rfl) (fun hg => Y.neq (.gd (hg) rfl) (.pl rfl)) rfl ?_
  refine WL.g (.pl rfl rfl rfl) (fun hg => Y.move (.gd (hg) rfl)) rfl ?_
  refine WL.g (.gd rfl rfl rfl) (fun _ => Y.move (.pl rfl)) rfl ?_
  refine WL.g (.gd rfl rfl rfl) (fun hg => Y.neq (.gd (hg) rfl) (.pl rfl)) rfl ?_
  refine WL.g (.pl rfl rfl rfl) (fun hg => Y.and (.gd (hg) rfl) (fun h2 => .gd (band hg (eqt h2)) rfl)) rfl ?_
  refine WL.q (Y.or (.pl rfl) (fun h2 => .gd (eqf h2) rfl)) rfl ?_
  refine WL.next hQ4 (.cons (i := 1) rfl (.cons (i := 2) rfl (.cons (i := 7) rfl (.cons (i := 35) rfl (.nil))))) ?_
  refine W.cond (.pl rfl) (fun hC0 => ?_) (fun hC0 => ?_)
  · -- C0 yes
    try simp only [Bool.or_eq_true, Bool.and_eq_true, Bool.not_eq_true', decide_eq_true_eq, decide_eq_false_iff_not, Bool.or_eq_false_iff, Bool.and_eq_false_iff, Bool.not_eq_false', Bool.not_eq_eq_eq_not, Bool.not_true, Bool.not_false] at hC0
    have hF : checkF algo vs ls = 1 := by unfold checkF; rw [if_pos (by omega)]
    -- region 3: agree.go:66
    refine W.seqR fun Q5 hQ5 => ?_
    refine WL.q (Y.assign (.pl rfl)) rfl ?_
    refine WL.next hQ5 (.cons (i := 6) rfl (.nil)) ?_
    refine W.ret1 (fn := Try.f11) Try.results11 rfl (fun _ _ h => h) (fun w hw => ?_)
    refine hR _ _ ?_
    rw [hF]
    exact ⟨rfl, hw⟩
  · -- C0 no
    try simp only [Bool.or_eq_true, Bool.and_eq_true, Bool.not_eq_true', decide_eq_true_eq, decide_eq_false_iff_not, Bool.or_eq_false_iff, Bool.and_eq_false_iff, Bool.not_eq_false', Bool.not_eq_eq_eq_not, Bool.not_true, Bool.not_false] at hC0
    have hF0 : ¬ (algo < 1 ∨ 3 < algo ∨ vs.length < 1 ∨ 8 < vs.length ∨ (algo ≠ 1 ∧ vs.length ≠ 2)) := by omega
    refine W.skip ?_
    refine W.go hK3 (.cons (i := 1) rfl (.cons (i := 2) rfl (.cons (i := 7) rfl (.nil)))) ?_
    refine W.seq fun K6 hK6 => ?_
    -- region 4: agree.go:68
    refine W.seqR fun Q7 hQ7 => ?_
    refine WL.q (Y.move (.pl rfl)) rfl ?_
    refine WL.q (Y.len Try.underlying22 (.pl rfl)) rfl ?_
    refine WL.q (Y.move (.pl rfl)) rfl ?_
    refine WL.next hQ7 (.cons (i := 2) rfl (.cons (i := 7) rfl (.cons (i := 36) rfl (.cons (i := 37) rfl (.cons (i := 38) rfl (.nil)))))) ?_
    refine W.block ?_
    refine W.loop (γ := Nat) (Em := fun k => [(38, .int .i64 (k : Int))]) (M := fun _ => []) (I := fun k => k ≤ vs.length ∧ (vs.take k).any (fun v => decide (v < 0) || decide (1000 < v)) = false) (m := fun k => vs.length - k) (0) (⟨Nat.zero_le _, by simp⟩) (.cons rfl (.nil)) (.cons (i := 2) rfl (.cons (i := 7) rfl (.cons (i := 36) rfl (.cons (i := 37) rfl (.nil))))) (fun w hw => hw) (fun k hI K8 hK8 => ?_)
    -- region 5: agree.go:68
    refine W.seqR fun Q9 hQ9 => ?_
    refine WL.q (Y.lss (.pl rfl) (.pl rfl)) rfl ?_
    refine WL.next hQ9 (.cons (i := 2) rfl (.cons (i := 7) rfl (.cons (i := 36) rfl (.cons (i := 37) rfl (.cons (i := 38) rfl (.cons (i := 39) rfl (.nil))))))) ?_
    refine W.seq fun K10 hK10 => ?_
    refine W.cond (.pl rfl) (fun hC1 => ?_) (fun hC1 => ?_)
    · -- C1 yes
      try simp only [Bool.or_eq_true, Bool.and_eq_true, Bool.not_eq_true', decide_eq_true_eq, decide_eq_false_iff_not, Bool.or_eq_false_iff, Bool.and_eq_false_iff, Bool.not_eq_false', Bool.not_eq_eq_eq_not, Bool.not_true, Bool.not_false] at hC1
      have hk : k < vs.length := by omega
      refine W.skip ?_
      refine W.go hK10 (.cons (i := 2) rfl (.cons (i := 7) rfl (.cons (i := 36) rfl (.cons (i := 37) rfl (.cons (i := 38) rfl (.nil)))))) ?_
      refine W.seq fun K11 hK11 => ?_
      refine W.block ?_
      -- region 6: agree.go:68
      refine W.seqR fun Q12 hQ12 => ?_
      refine WL.q (Y.elem1N Try.underlying22 cells3 (.pl rfl) (.pl rfl) (by omega) (hv k (by omega)).1) rfl ?_
      refine WL.q (Y.load Try.underlying3 rfl (.pl rfl) (fun w hw => hw.roW (hv k (by omega)).2)) rfl ?_
      refine WL.q (Y.assign (.pl rfl)) rfl ?_
      refine WL.next hQ12 (.cons (i := 2) rfl (.cons (i := 7) rfl (.cons (i := 9) rfl (.cons (i := 36) rfl (.cons (i := 37) rfl (.cons (i := 38) rfl (.nil))))))) ?_
      -- region 7: agree.go:69
      refine W.seqR fun Q13 hQ13 => ?_
      refine WL.q (Y.move (.pl rfl)) rfl ?_
      refine WL.q (Y.lss (.pl rfl) (.pl rfl)) rfl ?_
      refine WL.q (Y.move (.pl rfl)) rfl ?_
      refine WL.g (.pl rfl rfl rfl) (fun _ => Y.move (.pl rfl)) rfl ?_
      refine WL.g (.pl rfl rfl rfl) (fun hg => Y.gtr (.gd (hg) rfl) (.pl rfl)) rfl ?_
      refine WL.q (Y.or (.pl rfl) (fun h2 => .gd (eqf h2) rfl)) rfl ?_
      refine WL.next hQ13 (.cons (i := 2) rfl (.cons (i := 7) rfl (.cons (i := 36) rfl (.cons (i := 37) rfl (.cons (i := 38) rfl (.cons (i := 47) rfl (.nil))))))) ?_
      refine W.cond (.pl rfl) (fun hC2 => ?_) (fun hC2 => ?_)
      · -- C2 yes
        try simp only [Bool.or_eq_true, Bool.and_eq_true, Bool.not_eq_true', decide_eq_true_eq, decide_eq_false_iff_not, Bool.or_eq_false_iff, Bool.and_eq_false_iff, Bool.not_eq_false', Bool.not_eq_eq_eq_not, Bool.not_true, Bool.not_false] at hC2
        have hF : checkF algo vs ls = 1 := by unfold checkF; rw [if_neg hF0, if_pos (any_of_get hk (by simpa using hC2))]
        -- region 8: agree.go:70
        refine W.seqR fun Q14 hQ14 => ?_
        refine WL.q (Y.assign (.pl rfl)) rfl ?_
        refine WL.next hQ14 (.cons (i := 6) rfl (.nil)) ?_
        refine W.ret1 (fn := Try.f11) Try.results11 rfl (fun _ _ h => h) (fun w hw => ?_)
        refine hR _ _ ?_
        rw [hF]
        exact ⟨rfl, hw⟩
      · -- C2 no
        try simp only [Bool.or_eq_true, Bool.and_eq_true, Bool.not_eq_true', decide_eq_true_eq, decide_eq_false_iff_not, Bool.or_eq_false_iff, Bool.and_eq_false_iff, Bool.not_eq_false', Bool.not_eq_eq_eq_not, Bool.not_true, Bool.not_false] at hC2
        have hp := any_take_succ (p := fun v => decide (v < 0) || decide (1000 < v)) hk hI.2 (by simpa using hC2)
        refine W.skip ?_
        refine W.go hK11 (.cons (i := 2) rfl (.cons (i := 7) rfl (.cons (i := 36) rfl (.cons (i := 37) rfl (.cons (i := 38) rfl (.nil)))))) ?_
        -- region 9: agree.go:68
        refine W.reg ?_
        refine WL.q (Y.add (.pl rfl) (.pl rfl) (by omega)) rfl ?_
        refine WL.q (Y.move (.pl rfl)) rfl ?_
        refine WL.nil ?_
        exact W.again hK8 (k + 1) (⟨by omega, hp⟩) (by omega) (.cons (rfl) (.nil)) (.cons (i := 2) rfl (.cons (i := 7) rfl (.cons (i := 36) rfl (.cons (i := 37) rfl (.nil))))) (fun w hw => hw)
    · -- C1 no
      try simp only [Bool.or_eq_true, Bool.and_eq_true, Bool.not_eq_true', decide_eq_true_eq, decide_eq_false_iff_not, Bool.or_eq_false_iff, Bool.and_eq_false_iff, Bool.not_eq_false', Bool.not_eq_eq_eq_not, Bool.not_true, Bool.not_false] at hC1
      obtain rfl : k = vs.length := by omega
      have hA := hI.2
      refine W.exit ?_
      refine W.go hK6 (.cons (i := 2) rfl (.cons (i := 7) rfl (.nil))) ?_
      refine W.seq fun K15 hK15 => ?_
      -- region 10: agree.go:73
      refine W.seqR fun Q16 hQ16 => ?_
      refine WL.q (Y.move (.pl rfl)) rfl ?_
      refine WL.q (Y.len Try.underlying22 (.pl rfl)) rfl ?_
      refine WL.q (Y.gtr (.pl rfl) (.pl rfl)) rfl ?_
      refine WL.next hQ16 (.cons (i := 2) rfl (.cons (i := 7) rfl (.cons (i := 51) rfl (.nil)))) ?_
      refine W.cond (.pl rfl) (fun hC3 => ?_) (fun hC3 => ?_)
      · -- C3 yes
        try simp only [Bool.or_eq_true, Bool.and_eq_true, Bool.not_eq_true', decide_eq_true_eq, decide_eq_false_iff_not, Bool.or_eq_false_iff, Bool.and_eq_false_iff, Bool.not_eq_false', Bool.not_eq_eq_eq_not, Bool.not_true, Bool.not_false] at hC3
        have hF : checkF algo vs ls = 2 := by unfold checkF; rw [if_neg hF0, if_neg (by rw [List.take_length] at hA; simpa using hA), if_pos (by omega)]
        -- region 11: agree.go:74
        refine W.seqR fun Q17 hQ17 => ?_
        refine WL.q (Y.assign (.pl rfl)) rfl ?_
        refine WL.next hQ17 (.cons (i := 6) rfl (.nil)) ?_
        refine W.ret1 (fn := Try.f11) Try.results11 rfl (fun _ _ h => h) (fun w hw => ?_)
        refine hR _ _ ?_
        rw [hF]
        exact ⟨rfl, hw⟩
      · -- C3 no
        try simp only [Bool.or_eq_true, Bool.and_eq_true, Bool.not_eq_true', decide_eq_true_eq, decide_eq_false_iff_not, Bool.or_eq_false_iff, Bool.and_eq_false_iff, Bool.not_eq_false', Bool.not_eq_eq_eq_not, Bool.not_true, Bool.not_false] at hC3
        refine W.skip ?_
        refine W.go hK15 (.cons (i := 2) rfl (.cons (i := 7) rfl (.nil))) ?_
        refine W.seq fun K18 hK18 => ?_
        -- region 12: agree.go:76
        refine W.seqR fun Q19 hQ19 => ?_
        refine WL.q (Y.move (.pl rfl)) rfl ?_
        refine WL.q (Y.len Try.underlying22 (.pl rfl)) rfl ?_
        refine WL.q (Y.move (.pl rfl)) rfl ?_
        refine WL.next hQ19 (.cons (i := 7) rfl (.cons (i := 52) rfl (.cons (i := 53) rfl (.cons (i := 54) rfl (.nil))))) ?_
        refine W.block ?_
        refine W.loop (γ := Nat) (Em := fun k => [(54, .int .i64 (k : Int))]) (M := fun _ => []) (I := fun k => k ≤ ls.length ∧ (ls.take k).any (fun t => decide (t < 0) || decide ((vs.length : Int) ≤ t)) = false) (m := fun k => ls.length - k) (0) (⟨Nat.zero_le _, by simp⟩) (.cons rfl (.nil)) (.cons (i := 7) rfl (.cons (i := 52) rfl (.cons (i := 53) rfl (.nil)))) (fun w hw => hw) (fun q hI K20 hK20 => ?_)
        -- region 13: agree.go:76
        refine W.seqR fun Q21 hQ21 => ?_
        refine WL.q (Y.lss (.pl rfl) (.pl rfl)) rfl ?_
        refine WL.next hQ21 (.cons (i := 7) rfl (.cons (i := 52) rfl (.cons (i := 53) rfl (.cons (i := 54) rfl (.cons (i := 55) rfl (.nil)))))) ?_
        refine W.seq fun K22 hK22 => ?_
        refine W.cond (.pl rfl) (fun hC4 => ?_) (fun hC4 => ?_)
        · -- C4 yes
          try simp only [Bool.or_eq_true, Bool.and_eq_true, Bool.not_eq_true', decide_eq_true_eq, decide_eq_false_iff_not, Bool.or_eq_false_iff, Bool.and_eq_false_iff, Bool.not_eq_false', Bool.not_eq_eq_eq_not, Bool.not_true, Bool.not_false] at hC4
          have hk : q < ls.length := by omega
          refine W.skip ?_
          refine W.go hK22 (.cons (i := 7) rfl (.cons (i := 52) rfl (.cons (i := 53) rfl (.cons (i := 54) rfl (.nil))))) ?_
          refine W.seq fun K23 hK23 => ?_
          refine W.block ?_
          -- region 14: agree.go:76
          refine W.seqR fun Q24 hQ24 => ?_
          refine WL.q (Y.elem1N Try.underlying22 cells3 (.pl rfl) (.pl rfl) (by omega) (hl q (by omega)).1) rfl ?_
          refine WL.q (Y.load Try.underlying3 rfl (.pl rfl) (fun w hw => hw.roW (hl q (by omega)).2)) rfl ?_
          refine WL.q (Y.assign (.pl rfl)) rfl ?_
          refine WL.next hQ24 (.cons (i := 7) rfl (.cons (i := 11) rfl (.cons (i := 52) rfl (.cons (i := 53) rfl (.cons (i := 54) rfl (.nil)))))) ?_
          -- region 15: agree.go:77
          refine W.seqR fun Q25 hQ25 => ?_
          refine WL.q (Y.move (.pl rfl)) rfl ?_
          refine WL.q (Y.lss (.pl rfl) (.pl rfl)) rfl ?_
          refine WL.q (Y.move (.pl rfl)) rfl ?_
          refine WL.g (.pl rfl rfl rfl) (fun _ => Y.move (.pl rfl)) rfl ?_
          refine WL.g (.pl rfl rfl rfl) (fun _ => Y.move (.pl rfl)) rfl ?_
          refine WL.g (.pl rfl rfl rfl) (fun hg => Y.geq (.gd (hg) rfl) (.gd (hg) rfl)) rfl ?_
          refine WL.q (Y.or (.pl rfl) (fun h2 => .gd (eqf h2) rfl)) rfl ?_
          refine WL.next hQ25 (.cons (i := 7) rfl (.cons (i := 52) rfl (.cons (i := 53) rfl (.cons (i := 54) rfl (.cons (i := 64) rfl (.nil)))))) ?_
          refine W.cond (.pl rfl) (fun hC5 => ?_) (fun hC5 => ?_)
          · -- C5 yes
            try simp only [Bool.or_eq_true, Bool.and_eq_true, Bool.not_eq_true', decide_eq_true_eq, decide_eq_false_iff_not, Bool.or_eq_false_iff, Bool.and_eq_false_iff, Bool.not_eq_false', Bool.not_eq_eq_eq_not, Bool.not_true, Bool.not_false] at hC5
            have hF : checkF algo vs ls = 1 := by unfold checkF; rw [if_neg hF0, if_neg (by rw [List.take_length] at hA; simpa using hA), if_neg (by omega), if_pos (any_of_get hk (by simpa using hC5))]
            -- region 16: agree.go:78
            refine W.seqR fun Q26 hQ26 => ?_
            refine WL.q (Y.assign (.pl rfl)) rfl ?_
            refine WL.next hQ26 (.cons (i := 6) rfl (.nil)) ?_
            refine W.ret1 (fn := Try.f11) Try.results11 rfl (fun _ _ h => h) (fun w hw => ?_)
            refine hR _ _ ?_
            rw [hF]
            exact ⟨rfl, hw⟩
          · -- C5 no
            try simp only [Bool.or_eq_true, Bool.and_eq_true, Bool.not_eq_true', decide_eq_true_eq, decide_eq_false_iff_not, Bool.or_eq_false_iff, Bool.and_eq_false_iff, Bool.not_eq_false', Bool.not_eq_eq_eq_not, Bool.not_true, Bool.not_false] at hC5
            have hp := any_take_succ (p := fun t => decide (t < 0) || decide ((vs.length : Int) ≤ t)) hk hI.2 (by simpa using hC5)
            refine W.skip ?_
            refine W.go hK23 (.cons (i := 7) rfl (.cons (i := 52) rfl (.cons (i := 53) rfl (.cons (i := 54) rfl (.nil))))) ?_
            -- region 17: agree.go:76
            refine W.reg ?_
            refine WL.q (Y.add (.pl rfl) (.pl rfl) (by omega)) rfl ?_
            refine WL.q (Y.move (.pl rfl)) rfl ?_
            refine WL.nil ?_
            exact W.again hK20 (q + 1) (⟨by omega, hp⟩) (by omega) (.cons (rfl) (.nil)) (.cons (i := 7) rfl (.cons (i := 52) rfl (.cons (i := 53) rfl (.nil)))) (fun w hw => hw)
        · -- C4 no
          try simp only [Bool.or_eq_true, Bool.and_eq_true, Bool.not_eq_true', decide_eq_true_eq, decide_eq_false_iff_not, Bool.or_eq_false_iff, Bool.and_eq_false_iff, Bool.not_eq_false', Bool.not_eq_eq_eq_not, Bool.not_true, Bool.not_false] at hC4
          obtain rfl : q = ls.length := by omega
          have hF : checkF algo vs ls = 0 := by unfold checkF; rw [if_neg hF0, if_neg (by rw [List.take_length] at hA; simpa using hA), if_neg (by omega), if_neg (by have := hI.2; rw [List.take_length] at this; simpa using this)]
          refine W.exit ?_
          refine W.go hK18 (.nil) ?_
          -- region 18: agree.go:81
          refine W.seqR fun Q27 hQ27 => ?_
          refine WL.q (Y.assign (.pl rfl)) rfl ?_
          refine WL.next hQ27 (.cons (i := 6) rfl (.nil)) ?_
          refine W.ret1 (fn := Try.f11) Try.results11 rfl (fun _ _ h => h) (fun w hw => ?_)
          refine hR _ _ ?_
          rw [hF]
          exact ⟨rfl, hw⟩

end Go.Proofs.Ytglhflmecmidkaa
