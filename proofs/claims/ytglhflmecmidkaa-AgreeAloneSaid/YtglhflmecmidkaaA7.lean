/- The walk of AgreeAlone. -/
import Derived.Test.YtglhflmecmidkaaA6
import Derived.Test.YtglhflmecmidkaaL1
set_option linter.unusedVariables false
set_option linter.unusedSimpArgs false
set_option linter.unusedSectionVars false
set_option maxRecDepth 100000
namespace Go.Proofs.Ytglhflmecmidkaa
open Go.RowKit
theorem alone_err (algo who : Int) (v1 : Value) (vs : List Int) (w : World) (h1 : IntsIn w v1 vs) (hl1 : vs.length ≤ maxLen) (he : checkF algo vs [who, who, who] ≠ 0) :
    Pure Try.prog 5 [.int .i64 algo, v1, .int .i64 who] w (.bool true) := by
  have h1i := h1
  obtain ⟨a1, c1, rfl, hcap1, hv⟩ := h1
  refine W.enter (n := 68) Try.func5 rfl rfl Sub.refl (by simp) (St.start w) fun R hR => ?_
  -- region 0: agree.go:68
  refine W.seqR fun Q1 hQ1 => ?_
  refine WL.q (Y.assign (.pl rfl)) rfl ?_
  refine WL.next hQ1 (.cons (i := 0) rfl (.cons (i := 1) rfl (.cons (i := 2) rfl (.nil)))) ?_
  -- region 1: agree.go:69
  refine W.seqR fun Q2 hQ2 => ?_
  refine WL.q (Y.move (.pl rfl)) rfl ?_
  refine WL.q (Y.move (.pl rfl)) rfl ?_
  refine WL.q (Y.move (.pl rfl)) rfl ?_
  refine WL.q (Y.move (.pl rfl)) rfl ?_
  refine WL.q (Y.move (.pl rfl)) rfl ?_
  refine WL.step (WO.bslice Try.underlying22 bz3 (.cons (.pl rfl) (.cons (.pl rfl) (.cons (.pl rfl) (.nil)))) rfl (by simp [Value.cells]) (by decide) rfl fun b17 => ?_)
  refine WL.step (WO.callP isGo7 (.cons (.pl rfl) (.cons (.pl rfl) (.cons (.pl rfl) (.nil)))) rfl (fun w hw => play_err algo _ _ vs [who, who, who] w (h1i.mono hw) (.lit hw (i := 0) rfl) hl1 (by simp [maxLen]) he) ?_)
  refine WL.q (Y.move (.pl rfl)) rfl ?_
  refine WL.q (Y.extract (.pl rfl) rfl) rfl ?_
  refine WL.q (Y.extract (.pl rfl) rfl) rfl ?_
  refine WL.q (Y.assign (.pl rfl)) rfl ?_
  refine WL.q (Y.assign (.pl rfl)) rfl ?_
  refine WL.next hQ2 (.cons (i := 1) rfl (.cons (i := 2) rfl (.cons (i := 7) rfl (.cons (i := 8) rfl (.nil))))) ?_
  refine W.seq fun K3 hK3 => ?_
  -- region 2: agree.go:70
  refine W.seqR fun Q4 hQ4 => ?_
  refine WL.step (WO.callP isGo8 (.nil) rfl (fun w hw => lives_ok w) ?_)
  refine WL.q (Y.not (.pl rfl)) rfl ?_
  refine WL.q (Y.move (.pl rfl)) rfl ?_
  refine WL.g (.pl rfl rfl rfl) (fun _ => Y.move (.pl rfl)) rfl ?_
  refine WL.g (.pl rfl rfl rfl) (fun hg => Y.neq (.gd (hg) rfl) (.pl rfl)) rfl ?_
  refine WL.q (Y.or (.pl rfl) (fun h2 => .gd (eqf h2) rfl)) rfl ?_
  refine WL.q (Y.move (.pl rfl)) rfl ?_
  refine WL.g (.pl rfl rfl rfl) (fun _ => Y.move (.pl rfl)) rfl ?_
  refine WL.g (.pl rfl rfl rfl) (fun hg => Y.len Try.underlying22 (.gd (hg) rfl)) rfl ?_
  refine WL.g (.pl rfl rfl rfl) (fun _ => Y.move (.pl rfl)) rfl ?_
  refine WL.g (.pl rfl rfl rfl) (fun hg => Y.len Try.underlying22 (.gd (hg) rfl)) rfl ?_
  refine WL.g (.pl rfl rfl rfl) (fun hg => Y.neq (.gd (hg) rfl) (.gd (hg) rfl)) rfl ?_
  refine WL.q (Y.or (.pl rfl) (fun h2 => .gd (eqf h2) rfl)) rfl ?_
  refine WL.next hQ4 (.cons (i := 1) rfl (.cons (i := 2) rfl (.cons (i := 7) rfl (.cons (i := 33) rfl (.nil))))) ?_
  refine W.cond (.pl rfl) (fun hC0 => ?_) (fun hC0 => ?_)
  · -- C0 yes
    skip
    -- region 3: agree.go:71
    refine W.seqR fun Q5 hQ5 => ?_
    refine WL.step (WO.callP isGo8 (.nil) rfl (fun w hw => lives_ok w) ?_)
    refine WL.q (Y.move (.pl rfl)) rfl ?_
    refine WL.g (.pl rfl rfl rfl) (fun _ => Y.move (.pl rfl)) rfl ?_
    refine WL.g (.pl rfl rfl rfl) (fun hg => Y.len Try.underlying22 (.gd (hg) rfl)) rfl ?_
    refine WL.g (.pl rfl rfl rfl) (fun hg => Y.eql (.gd (hg) rfl) (.pl rfl)) rfl ?_
    refine WL.q (Y.and (.pl rfl) (fun h2 => .gd (eqt h2) rfl)) rfl ?_
    refine WL.q (Y.assign (.pl rfl)) rfl ?_
    refine WL.next hQ5 (.cons (i := 6) rfl (.nil)) ?_
    refine W.ret1 (fn := Try.f5) Try.results5 rfl (fun _ _ h => h) (fun w hw => ?_)
    refine hR _ _ ?_
    exact ⟨by simp, hw.sub ⟨_, by rw [List.nil_append]⟩⟩
  · -- C0 no
    skip
    simp [he] at hC0

theorem alone_ok (algo who : Int) (v1 : Value) (vs : List Int) (w : World) (h1 : IntsIn w v1 vs) (hl1 : vs.length ≤ maxLen) (he : checkF algo vs [who, who, who] = 0) :
    Pure Try.prog 5 [.int .i64 algo, v1, .int .i64 who] w (.bool true) := by
  have h1i := h1
  obtain ⟨a1, c1, rfl, hcap1, hv⟩ := h1
  obtain ⟨hn1, hn8, -, hall⟩ := check_zero he
  have h0 := hall 0 (by simp)
  simp only [List.getElem_cons_zero] at h0
  have hwho : who.toNat < vs.length := by omega
  have hpl := play_len he
  refine W.enter (n := 68) Try.func5 rfl rfl Sub.refl (by simp) (St.start w) fun R hR => ?_
  -- region 0: agree.go:68
  refine W.seqR fun Q1 hQ1 => ?_
  refine WL.q (Y.assign (.pl rfl)) rfl ?_
  refine WL.next hQ1 (.cons (i := 0) rfl (.cons (i := 1) rfl (.cons (i := 2) rfl (.nil)))) ?_
  -- region 1: agree.go:69
  refine W.seqR fun Q2 hQ2 => ?_
  refine WL.q (Y.move (.pl rfl)) rfl ?_
  refine WL.q (Y.move (.pl rfl)) rfl ?_
  refine WL.q (Y.move (.pl rfl)) rfl ?_
  refine WL.q (Y.move (.pl rfl)) rfl ?_
  refine WL.q (Y.move (.pl rfl)) rfl ?_
  refine WL.step (WO.bslice Try.underlying22 bz3 (.cons (.pl rfl) (.cons (.pl rfl) (.cons (.pl rfl) (.nil)))) rfl (by simp [Value.cells]) (by decide) rfl fun b17 => ?_)
  refine WL.step (WO.callM isGo7 (.cons (.pl rfl) (.cons (.pl rfl) (.cons (.pl rfl) (.nil)))) rfl (fun w hw => play_any algo _ _ vs [who, who, who] w (h1i.mono hw) (.lit hw (i := 0) rfl) hl1 (by simp [maxLen]) he) ?_)
  intro bl _
  refine WL.q (Y.move (.pl rfl)) rfl ?_
  refine WL.q (Y.extract (.pl rfl) rfl) rfl ?_
  refine WL.q (Y.extract (.pl rfl) rfl) rfl ?_
  refine WL.q (Y.assign (.pl rfl)) rfl ?_
  refine WL.q (Y.assign (.pl rfl)) rfl ?_
  refine WL.next hQ2 (.cons (i := 1) rfl (.cons (i := 2) rfl (.cons (i := 7) rfl (.cons (i := 8) rfl (.nil))))) ?_
  refine W.seq fun K3 hK3 => ?_
  -- region 2: agree.go:70
  refine W.seqR fun Q4 hQ4 => ?_
  refine WL.step (WO.callP isGo8 (.nil) rfl (fun w hw => lives_ok w) ?_)
  refine WL.q (Y.not (.pl rfl)) rfl ?_
  refine WL.q (Y.move (.pl rfl)) rfl ?_
  refine WL.g (.pl rfl rfl rfl) (fun _ => Y.move (.pl rfl)) rfl ?_
  refine WL.g (.pl rfl rfl rfl) (fun hg => Y.neq (.gd (hg) rfl) (.pl rfl)) rfl ?_
  refine WL.q (Y.or (.pl rfl) (fun h2 => .gd (eqf h2) rfl)) rfl ?_
  refine WL.q (Y.move (.pl rfl)) rfl ?_
  refine WL.g (.pl rfl rfl rfl) (fun _ => Y.move (.pl rfl)) rfl ?_
  refine WL.g (.pl rfl rfl rfl) (fun hg => Y.len Try.underlying22 (.gd (hg) rfl)) rfl ?_
  refine WL.g (.pl rfl rfl rfl) (fun _ => Y.move (.pl rfl)) rfl ?_
  refine WL.g (.pl rfl rfl rfl) (fun hg => Y.len Try.underlying22 (.gd (hg) rfl)) rfl ?_
  refine WL.g (.pl rfl rfl rfl) (fun hg => Y.neq (.gd (hg) rfl) (.gd (hg) rfl)) rfl ?_
  refine WL.q (Y.or (.pl rfl) (fun h2 => .gd (eqf h2) rfl)) rfl ?_
  refine WL.next hQ4 (.cons (i := 1) rfl (.cons (i := 2) rfl (.cons (i := 7) rfl (.cons (i := 33) rfl (.nil))))) ?_
  refine W.cond (.pl rfl) (fun hC0 => ?_) (fun hC0 => ?_)
  · -- C0 yes
    skip
    simp at hC0
  · -- C0 no
    skip
    refine W.skip ?_
    refine W.go hK3 (.cons (i := 1) rfl (.cons (i := 2) rfl (.cons (i := 7) rfl (.nil)))) ?_
    refine W.seq fun K5 hK5 => ?_
    -- region 4: agree.go:73
    refine W.seqR fun Q6 hQ6 => ?_
    refine WL.q (Y.move (.pl rfl)) rfl ?_
    refine WL.q (Y.len Try.underlying22 (.pl rfl)) rfl ?_
    refine WL.q (Y.move (.pl rfl)) rfl ?_
    refine WL.next hQ6 (.cons (i := 1) rfl (.cons (i := 2) rfl (.cons (i := 40) rfl (.cons (i := 41) rfl (.cons (i := 42) rfl (.nil)))))) ?_
    refine W.block ?_
    refine W.loop (γ := Nat) (Em := fun k => [(42, .int .i64 (k : Int))]) (M := fun _ => [row bl (playF algo vs [who, who, who])]) (I := fun k => k ≤ vs.length) (m := fun k => vs.length - k) (0) (Nat.zero_le _) (.cons rfl (.nil)) (.cons (i := 1) rfl (.cons (i := 2) rfl (.cons (i := 40) rfl (.cons (i := 41) rfl (.nil))))) (fun w hw => hw.pick [0] rfl) (fun k hI K7 hK7 => ?_)
    -- region 5: agree.go:73
    refine W.seqR fun Q8 hQ8 => ?_
    refine WL.q (Y.lss (.pl rfl) (.pl rfl)) rfl ?_
    refine WL.next hQ8 (.cons (i := 1) rfl (.cons (i := 2) rfl (.cons (i := 40) rfl (.cons (i := 41) rfl (.cons (i := 42) rfl (.cons (i := 43) rfl (.nil))))))) ?_
    refine W.seq fun K9 hK9 => ?_
    refine W.cond (.pl rfl) (fun hC1 => ?_) (fun hC1 => ?_)
    · -- C1 yes
      try simp only [Bool.or_eq_true, Bool.and_eq_true, Bool.not_eq_true', decide_eq_true_eq, decide_eq_false_iff_not, Bool.or_eq_false_iff, Bool.and_eq_false_iff, Bool.not_eq_false', Bool.not_eq_eq_eq_not, Bool.not_true, Bool.not_false] at hC1
      have hk : k < vs.length := by omega
      refine W.skip ?_
      refine W.go hK9 (.cons (i := 1) rfl (.cons (i := 2) rfl (.cons (i := 40) rfl (.cons (i := 41) rfl (.cons (i := 42) rfl (.nil)))))) ?_
      refine W.seq fun K10 hK10 => ?_
      refine W.block ?_
      -- region 6: agree.go:73
      refine W.seqR fun Q11 hQ11 => ?_
      refine WL.q (Y.move (.pl rfl)) rfl ?_
      refine WL.q (Y.own1N Try.underlying22 cells3 (.pl rfl) (.pl rfl) (by omega)) rfl ?_
      refine WL.q (Y.load Try.underlying3 rfl (.pl rfl) (fun w hw => hw.row (i := 0) (k := k) (xs := playF algo vs [who, who, who]) rfl (by omega))) rfl ?_
      refine WL.q (Y.assign (.pl rfl)) rfl ?_
      refine WL.q (Y.assign (.pl rfl)) rfl ?_
      refine WL.next hQ11 (.cons (i := 1) rfl (.cons (i := 2) rfl (.cons (i := 9) rfl (.cons (i := 10) rfl (.cons (i := 40) rfl (.cons (i := 41) rfl (.cons (i := 42) rfl (.nil)))))))) ?_
      -- region 7: agree.go:74
      refine W.seqR fun Q12 hQ12 => ?_
      refine WL.q (Y.move (.pl rfl)) rfl ?_
      refine WL.q (Y.move (.pl rfl)) rfl ?_
      refine WL.q (Y.eql (.pl rfl) (.pl rfl)) rfl ?_
      refine WL.q (Y.move (.pl rfl)) rfl ?_
      refine WL.g (.pl rfl rfl rfl) (fun _ => Y.move (.pl rfl)) rfl ?_
      refine WL.g (.pl rfl rfl rfl) (fun _ => Y.move (.pl rfl)) rfl ?_
      refine WL.g (.pl rfl rfl rfl) (fun _ => Y.move (.pl rfl)) rfl ?_
      refine WL.g (.pl rfl rfl rfl) (fun hg => Y.elem1Z Try.underlying22 cells3 (.gd (hg) rfl) (.gd (hg) rfl) (by omega) (hv _ hwho).1) rfl ?_
      refine WL.g (.pl rfl rfl rfl) (fun hg => Y.load Try.underlying3 rfl (.gd (hg) rfl) (fun w hw => hw.roW (hv _ hwho).2)) rfl ?_
      refine WL.g (.pl rfl rfl rfl) (fun hg => Y.neq (.gd (hg) rfl) (.gd (hg) rfl)) rfl ?_
      refine WL.q (Y.and (.pl rfl) (fun h2 => .gd (eqt h2) rfl)) rfl ?_
      refine WL.q (Y.move (.pl rfl)) rfl ?_
      refine WL.g (.pl rfl rfl rfl) (fun _ => Y.move (.pl rfl)) rfl ?_
      refine WL.g (.pl rfl rfl rfl) (fun _ => Y.move (.pl rfl)) rfl ?_
      refine WL.g (.pl rfl rfl rfl) (fun hg => Y.neq (.gd (hg) rfl) (.gd (hg) rfl)) rfl ?_
      refine WL.g (.pl rfl rfl rfl) (fun hg => Y.move (.gd (hg) rfl)) rfl ?_
      refine WL.g (.gd rfl rfl rfl) (fun _ => Y.move (.pl rfl)) rfl ?_
      refine WL.g (.gd rfl rfl rfl) (fun hg => Y.neq (.gd (hg) rfl) (.pl rfl)) rfl ?_
      refine WL.g (.pl rfl rfl rfl) (fun hg => Y.and (.gd (hg) rfl) (fun h2 => .gd (band hg (eqt h2)) rfl)) rfl ?_
      refine WL.q (Y.or (.pl rfl) (fun h2 => .gd (eqf h2) rfl)) rfl ?_
      refine WL.next hQ12 (.cons (i := 1) rfl (.cons (i := 2) rfl (.cons (i := 40) rfl (.cons (i := 41) rfl (.cons (i := 42) rfl (.cons (i := 66) rfl (.nil))))))) ?_
      refine W.cond (.pl rfl) (fun hC2 => ?_) (fun hC2 => ?_)
      · -- C2 yes
        skip
        exfalso
        have ha := alone he k (by omega)
        simp only [Bool.or_eq_true, Bool.and_eq_true, decide_eq_true_eq, Bool.not_eq_true', decide_eq_false_iff_not] at hC2
        rw [ha, getD_get hwho] at hC2
        rcases hC2 with ⟨h1, h2⟩ | ⟨h1, h2⟩
        · rw [if_pos h1] at h2; exact h2 rfl
        · rw [if_neg h1] at h2; exact h2 rfl
      · -- C2 no
        skip
        refine W.skip ?_
        refine W.go hK10 (.cons (i := 1) rfl (.cons (i := 2) rfl (.cons (i := 40) rfl (.cons (i := 41) rfl (.cons (i := 42) rfl (.nil)))))) ?_
        -- region 9: agree.go:73
        refine W.reg ?_
        refine WL.q (Y.add (.pl rfl) (.pl rfl) (by omega)) rfl ?_
        refine WL.q (Y.move (.pl rfl)) rfl ?_
        refine WL.nil ?_
        exact W.again hK7 (k + 1) (by first | trivial | omega) (by omega) (.cons (rfl) (.nil)) (.cons (i := 1) rfl (.cons (i := 2) rfl (.cons (i := 40) rfl (.cons (i := 41) rfl (.nil))))) (fun w hw => hw)
    · -- C1 no
      try simp only [Bool.or_eq_true, Bool.and_eq_true, Bool.not_eq_true', decide_eq_true_eq, decide_eq_false_iff_not, Bool.or_eq_false_iff, Bool.and_eq_false_iff, Bool.not_eq_false', Bool.not_eq_eq_eq_not, Bool.not_true, Bool.not_false] at hC1
      
      refine W.exit ?_
      refine W.go hK5 (.nil) ?_
      -- region 10: agree.go:78
      refine W.seqR fun Q13 hQ13 => ?_
      refine WL.q (Y.assign (.pl rfl)) rfl ?_
      refine WL.next hQ13 (.cons (i := 6) rfl (.nil)) ?_
      refine W.ret1 (fn := Try.f5) Try.results5 rfl (fun _ _ h => h) (fun w hw => ?_)
      refine hR _ _ ?_
      exact ⟨rfl, hw.sub ⟨_, by rw [List.nil_append]⟩⟩

theorem alone_law (algo who : Int) (v1 : Value) (vs : List Int) (w : World) (h1 : IntsIn w v1 vs) (hl1 : vs.length ≤ maxLen) : Pure Try.prog 5 [.int .i64 algo, v1, .int .i64 who] w (.bool true) := by
  by_cases he : checkF algo vs [who, who, who] = 0
  · exact alone_ok algo who v1 vs w h1 hl1 he
  · exact alone_err algo who v1 vs w h1 hl1 he

end Go.Proofs.Ytglhflmecmidkaa
