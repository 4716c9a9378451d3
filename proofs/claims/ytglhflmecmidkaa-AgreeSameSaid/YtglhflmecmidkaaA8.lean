/- The walk of AgreeFree. -/
import Derived.Test.YtglhflmecmidkaaA6
import Derived.Test.YtglhflmecmidkaaL2
set_option linter.unusedVariables false
set_option linter.unusedSimpArgs false
set_option linter.unusedSectionVars false
set_option maxRecDepth 100000
namespace Go.Proofs.Ytglhflmecmidkaa
open Go.RowKit
theorem free_err (algo : Int) (v1 v2 : Value) (vs ls : List Int) (n : Int) (w : World) (h1 : IntsIn w v1 vs) (h2 : IntsIn w v2 ls) (hl1 : vs.length ≤ maxLen) (hl2 : ls.length ≤ maxLen) (he : checkF algo vs ls ≠ 0) :
    Pure Try.prog 4 [.int .i64 algo, v1, v2, .int .i64 n] w (.bool true) := by
  have h1i := h1
  have h2i := h2
  obtain ⟨a1, c1, rfl, hcap1, hv⟩ := h1
  obtain ⟨a2, c2, rfl, hcap2, hlc⟩ := h2
  have hm1 := hl1
  have hm2 := hl2
  unfold maxLen at hm1 hm2
  refine W.enter (n := 107) Try.func4 rfl rfl Sub.refl (by simp) (St.start w) fun R hR => ?_
  -- region 0: agree.go:47
  refine W.seqR fun Q1 hQ1 => ?_
  refine WL.q (Y.assign (.pl rfl)) rfl ?_
  refine WL.next hQ1 (.cons (i := 0) rfl (.cons (i := 1) rfl (.cons (i := 2) rfl (.cons (i := 3) rfl (.nil))))) ?_
  -- region 1: agree.go:48
  refine W.seqR fun Q2 hQ2 => ?_
  refine WL.q (Y.move (.pl rfl)) rfl ?_
  refine WL.q (Y.move (.pl rfl)) rfl ?_
  refine WL.q (Y.move (.pl rfl)) rfl ?_
  refine WL.step (WO.callP isGo7 (.cons (.pl rfl) (.cons (.pl rfl) (.cons (.pl rfl) (.nil)))) rfl (fun w hw => play_err algo _ _ vs ls w (h1i.mono hw) (h2i.mono hw) hl1 hl2 he) ?_)
  refine WL.q (Y.move (.pl rfl)) rfl ?_
  refine WL.q (Y.extract (.pl rfl) rfl) rfl ?_
  refine WL.q (Y.extract (.pl rfl) rfl) rfl ?_
  refine WL.q (Y.assign (.pl rfl)) rfl ?_
  refine WL.q (Y.assign (.pl rfl)) rfl ?_
  refine WL.next hQ2 (.cons (i := 0) rfl (.cons (i := 1) rfl (.cons (i := 2) rfl (.cons (i := 3) rfl (.cons (i := 9) rfl (.cons (i := 10) rfl (.nil))))))) ?_
  refine W.seq fun K3 hK3 => ?_
  -- region 2: agree.go:49
  refine W.seqR fun Q4 hQ4 => ?_
  refine WL.step (WO.callP isGo8 (.nil) rfl (fun w hw => lives_ok w) ?_)
  refine WL.q (Y.not (.pl rfl)) rfl ?_
  refine WL.q (Y.move (.pl rfl)) rfl ?_
  refine WL.g (.pl rfl rfl rfl) (fun _ => Y.move (.pl rfl)) rfl ?_
  refine WL.g (.pl rfl rfl rfl) (fun hg => Y.neq (.gd (hg) rfl) (.pl rfl)) rfl ?_
  refine WL.q (Y.or (.pl rfl) (fun h2 => .gd (eqf h2) rfl)) rfl ?_
  refine WL.q (Y.move (.pl rfl)) rfl ?_
  refine WL.g (.pl rfl rfl rfl) (fun _ => Y.move (.pl rfl)) rfl ?_
  refine WL.g (.pl rfl rfl rfl) (fun hg => Y.lss (.gd (hg) rfl) (.pl rfl)) rfl ?_
  refine WL.q (Y.or (.pl rfl) (fun h2 => .gd (eqf h2) rfl)) rfl ?_
  refine WL.q (Y.move (.pl rfl)) rfl ?_
  refine WL.g (.pl rfl rfl rfl) (fun _ => Y.move (.pl rfl)) rfl ?_
  refine WL.g (.pl rfl rfl rfl) (fun _ => Y.move (.pl rfl)) rfl ?_
  refine WL.g (.pl rfl rfl rfl) (fun hg => Y.len Try.underlying22 (.gd (hg) rfl)) rfl ?_
  refine WL.g (.pl rfl rfl rfl) (fun hg => Y.gtr (.gd (hg) rfl) (.gd (hg) rfl)) rfl ?_
  refine WL.q (Y.or (.pl rfl) (fun h2 => .gd (eqf h2) rfl)) rfl ?_
  refine WL.q (Y.move (.pl rfl)) rfl ?_
  refine WL.g (.pl rfl rfl rfl) (fun _ => Y.move (.pl rfl)) rfl ?_
  refine WL.g (.pl rfl rfl rfl) (fun hg => Y.len Try.underlying22 (.gd (hg) rfl)) rfl ?_
  refine WL.g (.pl rfl rfl rfl) (fun _ => Y.move (.pl rfl)) rfl ?_
  refine WL.g (.pl rfl rfl rfl) (fun hg => Y.len Try.underlying22 (.gd (hg) rfl)) rfl ?_
  refine WL.g (.pl rfl rfl rfl) (fun hg => Y.neq (.gd (hg) rfl) (.gd (hg) rfl)) rfl ?_
  refine WL.q (Y.or (.pl rfl) (fun h2 => .gd (eqf h2) rfl)) rfl ?_
  refine WL.next hQ4 (.cons (i := 0) rfl (.cons (i := 1) rfl (.cons (i := 2) rfl (.cons (i := 3) rfl (.cons (i := 9) rfl (.cons (i := 47) rfl (.nil))))))) ?_
  refine W.cond (.pl rfl) (fun hC0 => ?_) (fun hC0 => ?_)
  · -- C0 yes
    skip
    -- region 3: agree.go:50
    refine W.seqR fun Q5 hQ5 => ?_
    refine WL.step (WO.callP isGo8 (.nil) rfl (fun w hw => lives_ok w) ?_)
    refine WL.q (Y.assign (.pl rfl)) rfl ?_
    refine WL.next hQ5 (.cons (i := 8) rfl (.nil)) ?_
    refine W.ret1 (fn := Try.f4) Try.results4 rfl (fun _ _ h => h) (fun w hw => ?_)
    refine hR _ _ ?_
    exact ⟨rfl, hw.sub ⟨_, by rw [List.nil_append]⟩⟩
  · -- C0 no
    skip
    simp [he] at hC0

theorem free_out (algo : Int) (v1 v2 : Value) (vs ls : List Int) (n : Int) (w : World) (h1 : IntsIn w v1 vs) (h2 : IntsIn w v2 ls) (hl1 : vs.length ≤ maxLen) (hl2 : ls.length ≤ maxLen) (he : checkF algo vs ls = 0) (hn : n < 0 ∨ ls.length < n) :
    Pure Try.prog 4 [.int .i64 algo, v1, v2, .int .i64 n] w (.bool true) := by
  have h1i := h1
  have h2i := h2
  obtain ⟨a1, c1, rfl, hcap1, hv⟩ := h1
  obtain ⟨a2, c2, rfl, hcap2, hlc⟩ := h2
  have hm1 := hl1
  have hm2 := hl2
  unfold maxLen at hm1 hm2
  refine W.enter (n := 107) Try.func4 rfl rfl Sub.refl (by simp) (St.start w) fun R hR => ?_
  -- region 0: agree.go:47
  refine W.seqR fun Q1 hQ1 => ?_
  refine WL.q (Y.assign (.pl rfl)) rfl ?_
  refine WL.next hQ1 (.cons (i := 0) rfl (.cons (i := 1) rfl (.cons (i := 2) rfl (.cons (i := 3) rfl (.nil))))) ?_
  -- region 1: agree.go:48
  refine W.seqR fun Q2 hQ2 => ?_
  refine WL.q (Y.move (.pl rfl)) rfl ?_
  refine WL.q (Y.move (.pl rfl)) rfl ?_
  refine WL.q (Y.move (.pl rfl)) rfl ?_
  refine WL.step (WO.callM isGo7 (.cons (.pl rfl) (.cons (.pl rfl) (.cons (.pl rfl) (.nil)))) rfl (fun w hw => play_any algo _ _ vs ls w (h1i.mono hw) (h2i.mono hw) hl1 hl2 he) ?_)
  intro bl _
  refine WL.q (Y.move (.pl rfl)) rfl ?_
  refine WL.q (Y.extract (.pl rfl) rfl) rfl ?_
  refine WL.q (Y.extract (.pl rfl) rfl) rfl ?_
  refine WL.q (Y.assign (.pl rfl)) rfl ?_
  refine WL.q (Y.assign (.pl rfl)) rfl ?_
  refine WL.next hQ2 (.cons (i := 0) rfl (.cons (i := 1) rfl (.cons (i := 2) rfl (.cons (i := 3) rfl (.cons (i := 9) rfl (.cons (i := 10) rfl (.nil))))))) ?_
  refine W.seq fun K3 hK3 => ?_
  -- region 2: agree.go:49
  refine W.seqR fun Q4 hQ4 => ?_
  refine WL.step (WO.callP isGo8 (.nil) rfl (fun w hw => lives_ok w) ?_)
  refine WL.q (Y.not (.pl rfl)) rfl ?_
  refine WL.q (Y.move (.pl rfl)) rfl ?_
  refine WL.g (.pl rfl rfl rfl) (fun _ => Y.move (.pl rfl)) rfl ?_
  refine WL.g (.pl rfl rfl rfl) (fun hg => Y.neq (.gd (hg) rfl) (.pl rfl)) rfl ?_
  refine WL.q (Y.or (.pl rfl) (fun h2 => .gd (eqf h2) rfl)) rfl ?_
  refine WL.q (Y.move (.pl rfl)) rfl ?_
  refine WL.g (.pl rfl rfl rfl) (fun _ => Y.move (.pl rfl)) rfl ?_
  refine WL.g (.pl rfl rfl rfl) (fun hg => Y.lss (.gd (hg) rfl) (.pl rfl)) rfl ?_
  refine WL.q (Y.or (.pl rfl) (fun h2 => .gd (eqf h2) rfl)) rfl ?_
  refine WL.q (Y.move (.pl rfl)) rfl ?_
  refine WL.g (.pl rfl rfl rfl) (fun _ => Y.move (.pl rfl)) rfl ?_
  refine WL.g (.pl rfl rfl rfl) (fun _ => Y.move (.pl rfl)) rfl ?_
  refine WL.g (.pl rfl rfl rfl) (fun hg => Y.len Try.underlying22 (.gd (hg) rfl)) rfl ?_
  refine WL.g (.pl rfl rfl rfl) (fun hg => Y.gtr (.gd (hg) rfl) (.gd (hg) rfl)) rfl ?_
  refine WL.q (Y.or (.pl rfl) (fun h2 => .gd (eqf h2) rfl)) rfl ?_
  refine WL.q (Y.move (.pl rfl)) rfl ?_
  refine WL.g (.pl rfl rfl rfl) (fun _ => Y.move (.pl rfl)) rfl ?_
  refine WL.g (.pl rfl rfl rfl) (fun hg => Y.len Try.underlying22 (.gd (hg) rfl)) rfl ?_
  refine WL.g (.pl rfl rfl rfl) (fun _ => Y.move (.pl rfl)) rfl ?_
  refine WL.g (.pl rfl rfl rfl) (fun hg => Y.len Try.underlying22 (.gd (hg) rfl)) rfl ?_
  refine WL.g (.pl rfl rfl rfl) (fun hg => Y.neq (.gd (hg) rfl) (.gd (hg) rfl)) rfl ?_
  refine WL.q (Y.or (.pl rfl) (fun h2 => .gd (eqf h2) rfl)) rfl ?_
  refine WL.next hQ4 (.cons (i := 0) rfl (.cons (i := 1) rfl (.cons (i := 2) rfl (.cons (i := 3) rfl (.cons (i := 9) rfl (.cons (i := 47) rfl (.nil))))))) ?_
  refine W.cond (.pl rfl) (fun hC0 => ?_) (fun hC0 => ?_)
  · -- C0 yes
    skip
    -- region 3: agree.go:50
    refine W.seqR fun Q5 hQ5 => ?_
    refine WL.step (WO.callP isGo8 (.nil) rfl (fun w hw => lives_ok w) ?_)
    refine WL.q (Y.assign (.pl rfl)) rfl ?_
    refine WL.next hQ5 (.cons (i := 8) rfl (.nil)) ?_
    refine W.ret1 (fn := Try.f4) Try.results4 rfl (fun _ _ h => h) (fun w hw => ?_)
    refine hR _ _ ?_
    exact ⟨rfl, hw.sub ⟨_, by rw [List.nil_append]⟩⟩
  · -- C0 no
    skip
    simp only [Bool.or_eq_false_iff, decide_eq_false_iff_not, Bool.or_eq_true, decide_eq_true_eq] at hC0
    omega

theorem IntsIn.take {w : World} {a : Option Addr} {m c : Nat} {xs : List Int} {j : Nat} (h : IntsIn w (.slice a m c) xs) (hj : j ≤ xs.length) : IntsIn w (.slice a j c) (xs.take j) := by
  obtain ⟨a', c', e, hc, hi⟩ := h
  cases e
  have hl : (xs.take j).length = j := by simp; omega
  refine ⟨a, c, by rw [hl], by omega, fun i hh => ?_⟩
  rw [List.getElem_take]
  exact hi i (by omega)
theorem cnt_le (ls : List Int) (w : Int) (j : Nat) : (ls.take j).count w ≤ j := Nat.le_trans List.count_le_length (by simp; omega)
theorem cnt_suc {ls : List Int} {q : Nat} (h : q < ls.length) (w : Int) : (ls.take (q + 1)).count w = (ls.take q).count w + if ls[q] = w then 1 else 0 := by
  rw [List.take_succ_eq_append_getElem h, List.count_append]
  by_cases hc : ls[q] = w
  · simp [hc]
  · simp [hc]

theorem free_ok (algo : Int) (v1 v2 : Value) (vs ls : List Int) (n : Int) (w : World) (h1 : IntsIn w v1 vs) (h2 : IntsIn w v2 ls) (hl1 : vs.length ≤ maxLen) (hl2 : ls.length ≤ maxLen) (he : checkF algo vs ls = 0) (hn : 0 ≤ n ∧ n ≤ ls.length) :
    Pure Try.prog 4 [.int .i64 algo, v1, v2, .int .i64 n] w (.bool true) := by
  have h1i := h1
  have h2i := h2
  obtain ⟨a1, c1, rfl, hcap1, hv⟩ := h1
  obtain ⟨a2, c2, rfl, hcap2, hlc⟩ := h2
  have hm1 := hl1
  have hm2 := hl2
  unfold maxLen at hm1 hm2
  have hpl := play_len he
  have hct := check_take he n.toNat
  have hpt := play_len hct
  refine W.enter (n := 107) Try.func4 rfl rfl Sub.refl (by simp) (St.start w) fun R hR => ?_
  -- region 0: agree.go:47
  refine W.seqR fun Q1 hQ1 => ?_
  refine WL.q (Y.assign (.pl rfl)) rfl ?_
  refine WL.next hQ1 (.cons (i := 0) rfl (.cons (i := 1) rfl (.cons (i := 2) rfl (.cons (i := 3) rfl (.nil))))) ?_
  -- region 1: agree.go:48
  refine W.seqR fun Q2 hQ2 => ?_
  refine WL.q (Y.move (.pl rfl)) rfl ?_
  refine WL.q (Y.move (.pl rfl)) rfl ?_
  refine WL.q (Y.move (.pl rfl)) rfl ?_
  refine WL.step (WO.callM isGo7 (.cons (.pl rfl) (.cons (.pl rfl) (.cons (.pl rfl) (.nil)))) rfl (fun w hw => play_any algo _ _ vs ls w (h1i.mono hw) (h2i.mono hw) hl1 hl2 he) ?_)
  intro bl _
  refine WL.q (Y.move (.pl rfl)) rfl ?_
  refine WL.q (Y.extract (.pl rfl) rfl) rfl ?_
  refine WL.q (Y.extract (.pl rfl) rfl) rfl ?_
  refine WL.q (Y.assign (.pl rfl)) rfl ?_
  refine WL.q (Y.assign (.pl rfl)) rfl ?_
  refine WL.next hQ2 (.cons (i := 0) rfl (.cons (i := 1) rfl (.cons (i := 2) rfl (.cons (i := 3) rfl (.cons (i := 9) rfl (.cons (i := 10) rfl (.nil))))))) ?_
  refine W.seq fun K3 hK3 => ?_
  -- region 2: agree.go:49
  refine W.seqR fun Q4 hQ4 => ?_
  refine WL.step (WO.callP isGo8 (.nil) rfl (fun w hw => lives_ok w) ?_)
  refine WL.q (Y.not (.pl rfl)) rfl ?_
  refine WL.q (Y.move (.pl rfl)) rfl ?_
  refine WL.g (.pl rfl rfl rfl) (fun _ => Y.move (.pl rfl)) rfl ?_
  refine WL.g (.pl rfl rfl rfl) (fun hg => Y.neq (.gd (hg) rfl) (.pl rfl)) rfl ?_
  refine WL.q (Y.or (.pl rfl) (fun h2 => .gd (eqf h2) rfl)) rfl ?_
  refine WL.q (Y.move (.pl rfl)) rfl ?_
  refine WL.g (.pl rfl rfl rfl) (fun _ => Y.move (.pl rfl)) rfl ?_
  refine WL.g (.pl rfl rfl rfl) (fun hg => Y.lss (.gd (hg) rfl) (.pl rfl)) rfl ?_
  refine WL.q (Y.or (.pl rfl) (fun h2 => .gd (eqf h2) rfl)) rfl ?_
  refine WL.q (Y.move (.pl rfl)) rfl ?_
  refine WL.g (.pl rfl rfl rfl) (fun _ => Y.move (.pl rfl)) rfl ?_
  refine WL.g (.pl rfl rfl rfl) (fun _ => Y.move (.pl rfl)) rfl ?_
  refine WL.g (.pl rfl rfl rfl) (fun hg => Y.len Try.underlying22 (.gd (hg) rfl)) rfl ?_
  refine WL.g (.pl rfl rfl rfl) (fun hg => Y.gtr (.gd (hg) rfl) (.gd (hg) rfl)) rfl ?_
  refine WL.q (Y.or (.pl rfl) (fun h2 => .gd (eqf h2) rfl)) rfl ?_
  refine WL.q (Y.move (.pl rfl)) rfl ?_
  refine WL.g (.pl rfl rfl rfl) (fun _ => Y.move (.pl rfl)) rfl ?_
  refine WL.g (.pl rfl rfl rfl) (fun hg => Y.len Try.underlying22 (.gd (hg) rfl)) rfl ?_
  refine WL.g (.pl rfl rfl rfl) (fun _ => Y.move (.pl rfl)) rfl ?_
  refine WL.g (.pl rfl rfl rfl) (fun hg => Y.len Try.underlying22 (.gd (hg) rfl)) rfl ?_
  refine WL.g (.pl rfl rfl rfl) (fun hg => Y.neq (.gd (hg) rfl) (.gd (hg) rfl)) rfl ?_
  refine WL.q (Y.or (.pl rfl) (fun h2 => .gd (eqf h2) rfl)) rfl ?_
  refine WL.next hQ4 (.cons (i := 0) rfl (.cons (i := 1) rfl (.cons (i := 2) rfl (.cons (i := 3) rfl (.cons (i := 9) rfl (.cons (i := 47) rfl (.nil))))))) ?_
  refine W.cond (.pl rfl) (fun hC0 => ?_) (fun hC0 => ?_)
  · -- C0 yes
    skip
    simp [hpl] at hC0
    omega
  · -- C0 no
    skip
    refine W.skip ?_
    refine W.go hK3 (.cons (i := 0) rfl (.cons (i := 1) rfl (.cons (i := 2) rfl (.cons (i := 3) rfl (.cons (i := 9) rfl (.nil)))))) ?_
    -- region 4: agree.go:52
    refine W.seqR fun Q5 hQ5 => ?_
    refine WL.q (Y.move (.pl rfl)) rfl ?_
    refine WL.q (Y.move (.pl rfl)) rfl ?_
    refine WL.q (Y.move (.pl rfl)) rfl ?_
    refine WL.q (Y.move (.pl rfl)) rfl ?_
    refine WL.q (Y.sliceTo Try.underlying22 cells3 (.pl rfl) (.pl rfl) (by omega)) rfl ?_
    refine WL.step (WO.callM isGo7 (.cons (.pl rfl) (.cons (.pl rfl) (.cons (.pl rfl) (.nil)))) rfl (fun w hw => play_any algo _ _ vs (ls.take n.toNat) w (h1i.mono hw) ((h2i.mono hw).take (by omega)) hl1 (by rw [List.length_take]; exact Nat.le_trans (Nat.min_le_right _ _) hl2) hct) ?_)
    intro bm _
    refine WL.q (Y.move (.pl rfl)) rfl ?_
    refine WL.q (Y.extract (.pl rfl) rfl) rfl ?_
    refine WL.q (Y.extract (.pl rfl) rfl) rfl ?_
    refine WL.q (Y.assign (.pl rfl)) rfl ?_
    refine WL.q (Y.assign (.pl rfl)) rfl ?_
    refine WL.next hQ5 (.cons (i := 2) rfl (.cons (i := 9) rfl (.cons (i := 11) rfl (.cons (i := 12) rfl (.nil))))) ?_
    refine W.seq fun K6 hK6 => ?_
    -- region 5: agree.go:53
    refine W.seqR fun Q7 hQ7 => ?_
    refine WL.q (Y.move (.pl rfl)) rfl ?_
    refine WL.q (Y.len Try.underlying22 (.pl rfl)) rfl ?_
    refine WL.q (Y.move (.pl rfl)) rfl ?_
    refine WL.next hQ7 (.cons (i := 2) rfl (.cons (i := 11) rfl (.cons (i := 12) rfl (.cons (i := 58) rfl (.cons (i := 59) rfl (.cons (i := 60) rfl (.nil))))))) ?_
    refine W.block ?_
    refine W.loop (γ := Nat) (Em := fun k => [(60, .int .i64 (k : Int))]) (M := fun _ => [row bm (playF algo vs (ls.take n.toNat)), row bl (playF algo vs ls)]) (I := fun k => k ≤ vs.length) (m := fun k => vs.length - k) (0) (Nat.zero_le _) (.cons rfl (.nil)) (.cons (i := 2) rfl (.cons (i := 11) rfl (.cons (i := 12) rfl (.cons (i := 58) rfl (.cons (i := 59) rfl (.nil)))))) (fun w hw => hw.pick [0, 1] rfl) (fun k hI K8 hK8 => ?_)
    -- region 6: agree.go:53
    refine W.seqR fun Q9 hQ9 => ?_
    refine WL.q (Y.lss (.pl rfl) (.pl rfl)) rfl ?_
    refine WL.next hQ9 (.cons (i := 2) rfl (.cons (i := 11) rfl (.cons (i := 12) rfl (.cons (i := 58) rfl (.cons (i := 59) rfl (.cons (i := 60) rfl (.cons (i := 61) rfl (.nil)))))))) ?_
    refine W.seq fun K10 hK10 => ?_
    refine W.cond (.pl rfl) (fun hC1 => ?_) (fun hC1 => ?_)
    · -- C1 yes
      try simp only [Bool.or_eq_true, Bool.and_eq_true, Bool.not_eq_true', decide_eq_true_eq, decide_eq_false_iff_not, Bool.or_eq_false_iff, Bool.and_eq_false_iff, Bool.not_eq_false', Bool.not_eq_eq_eq_not, Bool.not_true, Bool.not_false] at hC1
      have hk : k < vs.length := by omega
      refine W.skip ?_
      refine W.go hK10 (.cons (i := 2) rfl (.cons (i := 11) rfl (.cons (i := 12) rfl (.cons (i := 58) rfl (.cons (i := 59) rfl (.cons (i := 60) rfl (.nil))))))) ?_
      refine W.seq fun K11 hK11 => ?_
      refine W.block ?_
      -- region 7: agree.go:53
      refine W.seqR fun Q12 hQ12 => ?_
      refine WL.q (Y.move (.pl rfl)) rfl ?_
      refine WL.q (Y.own1N Try.underlying22 cells3 (.pl rfl) (.pl rfl) (by omega)) rfl ?_
      refine WL.q (Y.load Try.underlying3 rfl (.pl rfl) (fun w hw => hw.row (i := 1) (k := k) (xs := playF algo vs ls) rfl (by omega))) rfl ?_
      refine WL.q (Y.assign (.pl rfl)) rfl ?_
      refine WL.q (Y.assign (.pl rfl)) rfl ?_
      refine WL.next hQ12 (.cons (i := 2) rfl (.cons (i := 11) rfl (.cons (i := 12) rfl (.cons (i := 13) rfl (.cons (i := 14) rfl (.cons (i := 58) rfl (.cons (i := 59) rfl (.cons (i := 60) rfl (.nil))))))))) ?_
      -- region 8: agree.go:54
      refine W.seqR fun Q13 hQ13 => ?_
      refine WL.q (Y.assign (.pl rfl)) rfl ?_
      refine WL.next hQ13 (.cons (i := 2) rfl (.cons (i := 11) rfl (.cons (i := 12) rfl (.cons (i := 13) rfl (.cons (i := 14) rfl (.cons (i := 15) rfl (.cons (i := 58) rfl (.cons (i := 59) rfl (.cons (i := 60) rfl (.nil)))))))))) ?_
      refine W.seq fun K14 hK14 => ?_
      -- region 9: agree.go:55
      refine W.seqR fun Q15 hQ15 => ?_
      refine WL.q (Y.move (.pl rfl)) rfl ?_
      refine WL.q (Y.len Try.underlying22 (.pl rfl)) rfl ?_
      refine WL.q (Y.move (.pl rfl)) rfl ?_
      refine WL.next hQ15 (.cons (i := 2) rfl (.cons (i := 11) rfl (.cons (i := 12) rfl (.cons (i := 13) rfl (.cons (i := 14) rfl (.cons (i := 15) rfl (.cons (i := 58) rfl (.cons (i := 59) rfl (.cons (i := 60) rfl (.cons (i := 65) rfl (.cons (i := 66) rfl (.cons (i := 67) rfl (.nil))))))))))))) ?_
      refine W.block ?_
      refine W.loop (γ := Nat) (Em := fun j => [(15, .int .i64 ((ls.take j).count (k : Int) : Nat)), (67, .int .i64 (j : Int))]) (M := fun _ => [row bm (playF algo vs (ls.take n.toNat)), row bl (playF algo vs ls)]) (I := fun j => j ≤ ls.length) (m := fun j => ls.length - j) (0) (Nat.zero_le _) (.cons rfl (.cons rfl (.nil))) (.cons (i := 2) rfl (.cons (i := 11) rfl (.cons (i := 12) rfl (.cons (i := 13) rfl (.cons (i := 14) rfl (.cons (i := 58) rfl (.cons (i := 59) rfl (.cons (i := 60) rfl (.cons (i := 65) rfl (.cons (i := 66) rfl (.nil))))))))))) (fun w hw => hw) (fun j hI K16 hK16 => ?_)
      -- region 10: agree.go:55
      refine W.seqR fun Q17 hQ17 => ?_
      refine WL.q (Y.lss (.pl rfl) (.pl rfl)) rfl ?_
      refine WL.next hQ17 (.cons (i := 2) rfl (.cons (i := 11) rfl (.cons (i := 12) rfl (.cons (i := 13) rfl (.cons (i := 14) rfl (.cons (i := 15) rfl (.cons (i := 58) rfl (.cons (i := 59) rfl (.cons (i := 60) rfl (.cons (i := 65) rfl (.cons (i := 66) rfl (.cons (i := 67) rfl (.cons (i := 68) rfl (.nil)))))))))))))) ?_
      refine W.seq fun K18 hK18 => ?_
      refine W.cond (.pl rfl) (fun hC2 => ?_) (fun hC2 => ?_)
      · -- C2 yes
        try simp only [Bool.or_eq_true, Bool.and_eq_true, Bool.not_eq_true', decide_eq_true_eq, decide_eq_false_iff_not, Bool.or_eq_false_iff, Bool.and_eq_false_iff, Bool.not_eq_false', Bool.not_eq_eq_eq_not, Bool.not_true, Bool.not_false] at hC2
        have hj : j < ls.length := by omega
        refine W.skip ?_
        refine W.go hK18 (.cons (i := 2) rfl (.cons (i := 11) rfl (.cons (i := 12) rfl (.cons (i := 13) rfl (.cons (i := 14) rfl (.cons (i := 15) rfl (.cons (i := 58) rfl (.cons (i := 59) rfl (.cons (i := 60) rfl (.cons (i := 65) rfl (.cons (i := 66) rfl (.cons (i := 67) rfl (.nil))))))))))))) ?_
        refine W.seq fun K19 hK19 => ?_
        refine W.block ?_
        -- region 11: agree.go:55
        refine W.seqR fun Q20 hQ20 => ?_
        refine WL.q (Y.elem1N Try.underlying22 cells3 (.pl rfl) (.pl rfl) (by omega) (hlc j (by omega)).1) rfl ?_
        refine WL.q (Y.load Try.underlying3 rfl (.pl rfl) (fun w hw => hw.roW (hlc j (by omega)).2)) rfl ?_
        refine WL.q (Y.assign (.pl rfl)) rfl ?_
        refine WL.next hQ20 (.cons (i := 2) rfl (.cons (i := 11) rfl (.cons (i := 12) rfl (.cons (i := 13) rfl (.cons (i := 14) rfl (.cons (i := 15) rfl (.cons (i := 17) rfl (.cons (i := 58) rfl (.cons (i := 59) rfl (.cons (i := 60) rfl (.cons (i := 65) rfl (.cons (i := 66) rfl (.cons (i := 67) rfl (.nil)))))))))))))) ?_
        -- region 12: agree.go:56
        refine W.seqR fun Q21 hQ21 => ?_
        refine WL.q (Y.move (.pl rfl)) rfl ?_
        refine WL.q (Y.move (.pl rfl)) rfl ?_
        refine WL.q (Y.eql (.pl rfl) (.pl rfl)) rfl ?_
        refine WL.next hQ21 (.cons (i := 2) rfl (.cons (i := 11) rfl (.cons (i := 12) rfl (.cons (i := 13) rfl (.cons (i := 14) rfl (.cons (i := 15) rfl (.cons (i := 58) rfl (.cons (i := 59) rfl (.cons (i := 60) rfl (.cons (i := 65) rfl (.cons (i := 66) rfl (.cons (i := 67) rfl (.cons (i := 73) rfl (.nil)))))))))))))) ?_
        refine W.cond (.pl rfl) (fun hC3 => ?_) (fun hC3 => ?_)
        · -- C3 yes
          try simp only [Bool.or_eq_true, Bool.and_eq_true, Bool.not_eq_true', decide_eq_true_eq, decide_eq_false_iff_not, Bool.or_eq_false_iff, Bool.and_eq_false_iff, Bool.not_eq_false', Bool.not_eq_eq_eq_not, Bool.not_true, Bool.not_false] at hC3
          have hs := cnt_suc hj k
          rw [if_pos hC3] at hs
          have hle := cnt_le ls k (j + 1)
          -- region 13: agree.go:57
          refine W.reg ?_
          refine WL.q (Y.move (.pl rfl)) rfl ?_
          refine WL.q (Y.add (.pl rfl) (.pl rfl) (by omega)) rfl ?_
          refine WL.q (Y.assign (.pl rfl)) rfl ?_
          refine WL.nil ?_
          refine W.go hK19 (.cons (i := 2) rfl (.cons (i := 11) rfl (.cons (i := 12) rfl (.cons (i := 13) rfl (.cons (i := 14) rfl (.cons (i := 15) rfl (.cons (i := 58) rfl (.cons (i := 59) rfl (.cons (i := 60) rfl (.cons (i := 65) rfl (.cons (i := 66) rfl (.cons (i := 67) rfl (.nil))))))))))))) ?_
          -- region 14: agree.go:55
          refine W.reg ?_
          refine WL.q (Y.add (.pl rfl) (.pl rfl) (by omega)) rfl ?_
          refine WL.q (Y.move (.pl rfl)) rfl ?_
          refine WL.nil ?_
          exact W.again hK16 (j + 1) (by first | trivial | omega) (by omega) (.cons (by rw [hs]; rfl) (.cons (rfl) (.nil))) (.cons (i := 2) rfl (.cons (i := 11) rfl (.cons (i := 12) rfl (.cons (i := 13) rfl (.cons (i := 14) rfl (.cons (i := 58) rfl (.cons (i := 59) rfl (.cons (i := 60) rfl (.cons (i := 65) rfl (.cons (i := 66) rfl (.nil))))))))))) (fun w hw => hw)
        · -- C3 no
          try simp only [Bool.or_eq_true, Bool.and_eq_true, Bool.not_eq_true', decide_eq_true_eq, decide_eq_false_iff_not, Bool.or_eq_false_iff, Bool.and_eq_false_iff, Bool.not_eq_false', Bool.not_eq_eq_eq_not, Bool.not_true, Bool.not_false] at hC3
          have hs := cnt_suc hj k
          rw [if_neg hC3] at hs
          refine W.skip ?_
          refine W.go hK19 (.cons (i := 2) rfl (.cons (i := 11) rfl (.cons (i := 12) rfl (.cons (i := 13) rfl (.cons (i := 14) rfl (.cons (i := 15) rfl (.cons (i := 58) rfl (.cons (i := 59) rfl (.cons (i := 60) rfl (.cons (i := 65) rfl (.cons (i := 66) rfl (.cons (i := 67) rfl (.nil))))))))))))) ?_
          -- region 14: agree.go:55
          refine W.reg ?_
          refine WL.q (Y.add (.pl rfl) (.pl rfl) (by omega)) rfl ?_
          refine WL.q (Y.move (.pl rfl)) rfl ?_
          refine WL.nil ?_
          exact W.again hK16 (j + 1) (by first | trivial | omega) (by omega) (.cons (by rw [hs]; rfl) (.cons (rfl) (.nil))) (.cons (i := 2) rfl (.cons (i := 11) rfl (.cons (i := 12) rfl (.cons (i := 13) rfl (.cons (i := 14) rfl (.cons (i := 58) rfl (.cons (i := 59) rfl (.cons (i := 60) rfl (.cons (i := 65) rfl (.cons (i := 66) rfl (.nil))))))))))) (fun w hw => hw)
      · -- C2 no
        try simp only [Bool.or_eq_true, Bool.and_eq_true, Bool.not_eq_true', decide_eq_true_eq, decide_eq_false_iff_not, Bool.or_eq_false_iff, Bool.and_eq_false_iff, Bool.not_eq_false', Bool.not_eq_eq_eq_not, Bool.not_true, Bool.not_false] at hC2
        obtain rfl : j = ls.length := by omega
        refine W.exit ?_
        refine W.go hK14 (.cons (i := 2) rfl (.cons (i := 11) rfl (.cons (i := 12) rfl (.cons (i := 13) rfl (.cons (i := 14) rfl (.cons (i := 15) rfl (.cons (i := 58) rfl (.cons (i := 59) rfl (.cons (i := 60) rfl (.nil)))))))))) ?_
        -- region 15: agree.go:60
        refine W.seqR fun Q22 hQ22 => ?_
        refine WL.q (Y.move (.pl rfl)) rfl ?_
        refine WL.q (Y.geq (.pl rfl) (.pl rfl)) rfl ?_
        refine WL.q (Y.move (.pl rfl)) rfl ?_
        refine WL.g (.pl rfl rfl rfl) (fun _ => Y.move (.pl rfl)) rfl ?_
        refine WL.g (.pl rfl rfl rfl) (fun hg => Y.eql (.gd (hg) rfl) (.pl rfl)) rfl ?_
        refine WL.q (Y.and (.pl rfl) (fun h2 => .gd (eqt h2) rfl)) rfl ?_
        refine WL.q (Y.move (.pl rfl)) rfl ?_
        refine WL.g (.pl rfl rfl rfl) (fun _ => Y.move (.pl rfl)) rfl ?_
        refine WL.g (.pl rfl rfl rfl) (fun _ => Y.move (.pl rfl)) rfl ?_
        refine WL.g (.pl rfl rfl rfl) (fun hg => Y.len Try.underlying22 (.gd (hg) rfl)) rfl ?_
        refine WL.g (.pl rfl rfl rfl) (fun hg => Y.geq (.gd (hg) rfl) (.gd (hg) rfl)) rfl ?_
        refine WL.q (Y.or (.pl rfl) (fun h2 => .gd (eqf h2) rfl)) rfl ?_
        refine WL.q (Y.move (.pl rfl)) rfl ?_
        refine WL.g (.pl rfl rfl rfl) (fun _ => Y.move (.pl rfl)) rfl ?_
        refine WL.g (.pl rfl rfl rfl) (fun _ => Y.move (.pl rfl)) rfl ?_
        refine WL.g (.pl rfl rfl rfl) (fun hg => Y.own1N Try.underlying22 cells3 (.gd (hg) rfl) (.gd (hg) rfl) (by omega)) rfl ?_
        refine WL.g (.pl rfl rfl rfl) (fun hg => Y.load Try.underlying3 rfl (.gd (hg) rfl) (fun w hw => hw.row (i := 0) (k := k) (xs := playF algo vs (ls.take n.toNat)) rfl (by omega))) rfl ?_
        refine WL.g (.pl rfl rfl rfl) (fun hg => Y.neq (.gd (hg) rfl) (.pl rfl)) rfl ?_
        refine WL.g (.pl rfl rfl rfl) (fun hg => Y.move (.gd (hg) rfl)) rfl ?_
        refine WL.g (.gd rfl rfl rfl) (fun _ => Y.move (.pl rfl)) rfl ?_
        refine WL.g (.gd rfl rfl rfl) (fun _ => Y.move (.pl rfl)) rfl ?_
        refine WL.g (.gd rfl rfl rfl) (fun hg => Y.own1N Try.underlying22 cells3 (.gd (hg) rfl) (.gd (hg) rfl) (by omega)) rfl ?_
        refine WL.g (.gd rfl rfl rfl) (fun hg => Y.load Try.underlying3 rfl (.gd (hg) rfl) (fun w hw => hw.row (i := 0) (k := k) (xs := playF algo vs (ls.take n.toNat)) rfl (by omega))) rfl ?_
        refine WL.g (.gd rfl rfl rfl) (fun _ => Y.move (.pl rfl)) rfl ?_
        refine WL.g (.gd rfl rfl rfl) (fun hg => Y.neq (.gd (hg) rfl) (.gd (hg) rfl)) rfl ?_
        refine WL.g (.pl rfl rfl rfl) (fun hg => Y.and (.gd (hg) rfl) (fun h2 => .gd (band hg (eqt h2)) rfl)) rfl ?_
        refine WL.q (Y.or (.pl rfl) (fun h2 => .gd (eqf h2) rfl)) rfl ?_
        refine WL.next hQ22 (.cons (i := 2) rfl (.cons (i := 11) rfl (.cons (i := 12) rfl (.cons (i := 58) rfl (.cons (i := 59) rfl (.cons (i := 60) rfl (.cons (i := 103) rfl (.nil)))))))) ?_
        refine W.cond (.pl rfl) (fun hC4 => ?_) (fun hC4 => ?_)
        · -- C4 yes
          skip
          exfalso
          have f1 := free1 he hk
          have f2 := free2 he (n := n.toNat) hk (by omega)
          rw [getD_get (by omega)] at f1
          rw [getD_get (by omega), getD_get (by omega)] at f2
          rw [List.take_length] at hC4
          simp only [Bool.or_eq_true, Bool.and_eq_true, decide_eq_true_eq, Bool.not_eq_true', decide_eq_false_iff_not] at hC4
          rcases hC4 with (⟨h3, h4⟩ | h3) | ⟨h3, h4⟩
          · exact f1 (by omega) h4
          · omega
          · exact h4 (f2 h3)
        · -- C4 no
          skip
          refine W.skip ?_
          refine W.go hK11 (.cons (i := 2) rfl (.cons (i := 11) rfl (.cons (i := 12) rfl (.cons (i := 58) rfl (.cons (i := 59) rfl (.cons (i := 60) rfl (.nil))))))) ?_
          -- region 17: agree.go:53
          refine W.reg ?_
          refine WL.q (Y.add (.pl rfl) (.pl rfl) (by omega)) rfl ?_
          refine WL.q (Y.move (.pl rfl)) rfl ?_
          refine WL.nil ?_
          exact W.again hK8 (k + 1) (by first | trivial | omega) (by omega) (.cons (rfl) (.nil)) (.cons (i := 2) rfl (.cons (i := 11) rfl (.cons (i := 12) rfl (.cons (i := 58) rfl (.cons (i := 59) rfl (.nil)))))) (fun w hw => hw)
    · -- C1 no
      try simp only [Bool.or_eq_true, Bool.and_eq_true, Bool.not_eq_true', decide_eq_true_eq, decide_eq_false_iff_not, Bool.or_eq_false_iff, Bool.and_eq_false_iff, Bool.not_eq_false', Bool.not_eq_eq_eq_not, Bool.not_true, Bool.not_false] at hC1
      
      refine W.exit ?_
      refine W.go hK6 (.cons (i := 12) rfl (.nil)) ?_
      -- region 18: agree.go:64
      refine W.seqR fun Q23 hQ23 => ?_
      refine WL.q (Y.move (.pl rfl)) rfl ?_
      refine WL.q (Y.eql (.pl rfl) (.pl rfl)) rfl ?_
      refine WL.q (Y.assign (.pl rfl)) rfl ?_
      refine WL.next hQ23 (.cons (i := 8) rfl (.nil)) ?_
      refine W.ret1 (fn := Try.f4) Try.results4 rfl (fun _ _ h => h) (fun w hw => ?_)
      refine hR _ _ ?_
      exact ⟨rfl, hw.sub ⟨_, by rw [List.nil_append]⟩⟩

theorem free_law (algo : Int) (v1 v2 : Value) (vs ls : List Int) (n : Int) (w : World) (h1 : IntsIn w v1 vs) (h2 : IntsIn w v2 ls) (hl1 : vs.length ≤ maxLen) (hl2 : ls.length ≤ maxLen) : Pure Try.prog 4 [.int .i64 algo, v1, v2, .int .i64 n] w (.bool true) := by
  by_cases he : checkF algo vs ls = 0
  · by_cases hn : 0 ≤ n ∧ n ≤ ls.length
    · exact free_ok algo v1 v2 vs ls n w h1 h2 hl1 hl2 he hn
    · exact free_out algo v1 v2 vs ls n w h1 h2 hl1 hl2 he (by omega)
  · exact free_err algo v1 v2 vs ls n w h1 h2 hl1 hl2 he

end Go.Proofs.Ytglhflmecmidkaa
