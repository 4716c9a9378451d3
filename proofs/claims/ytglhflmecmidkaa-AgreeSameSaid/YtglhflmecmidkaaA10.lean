/- The walk of AgreeSame. -/
import Derived.Test.YtglhflmecmidkaaA9
set_option linter.unusedVariables false
set_option linter.unusedSimpArgs false
set_option linter.unusedSectionVars false
set_option maxRecDepth 100000
namespace Go.Proofs.Ytglhflmecmidkaa
open Go.RowKit
theorem isGo9 : IsGo Try.prog 9 := ⟨_, Try.func9, by kernel_rfl, rfl⟩
theorem isGo10 : IsGo Try.prog 10 := ⟨_, Try.func10, by kernel_rfl, rfl⟩
theorem same_err (algo : Int) (v1 v2 : Value) (vs ls : List Int) (w : World) (h1 : IntsIn w v1 vs) (h2 : IntsIn w v2 ls) (hl1 : vs.length ≤ maxLen) (hl2 : ls.length ≤ maxLen) (he : checkF algo vs ls ≠ 0) :
    Pure Try.prog 6 [.int .i64 algo, v1, v2] w (.bool true) := by
  have h1i := h1
  have h2i := h2
  obtain ⟨a1, c1, rfl, hcap1, hv⟩ := h1
  obtain ⟨a2, c2, rfl, hcap2, hlc⟩ := h2
  have hm1 := hl1
  have hm2 := hl2
  unfold maxLen at hm1 hm2
  refine W.enter (n := 79) Try.func6 rfl rfl Sub.refl (by simp) (St.start w) fun R hR => ?_
  -- region 0: agree.go:18
  refine W.seqR fun Q1 hQ1 => ?_
  refine WL.step (WO.box1 (.pl rfl) rfl rfl fun b4 => ?_)
  refine WL.q (Y.assign (.pl rfl)) rfl ?_
  refine WL.next hQ1 (.cons (i := 0) rfl (.cons (i := 2) rfl (.cons (i := 4) rfl (.nil)))) ?_
  -- region 1: agree.go:19
  refine W.seqR fun Q2 hQ2 => ?_
  refine WL.q (Y.move (.pl rfl)) rfl ?_
  refine WL.q (Y.load Try.underlying22 rfl (.pl rfl) (fun w hw => by first | exact cell_lit (hw.obj (i := 0) rfl) rfl)) rfl ?_
  refine WL.q (Y.move (.pl rfl)) rfl ?_
  refine WL.step (WO.callP isGo7 (.cons (.pl rfl) (.cons (.pl rfl) (.cons (.pl rfl) (.nil)))) rfl (fun w hw => play_err algo _ _ vs ls w (h1i.mono hw) (h2i.mono hw) hl1 hl2 he) ?_)
  refine WL.q (Y.move (.pl rfl)) rfl ?_
  refine WL.q (Y.extract (.pl rfl) rfl) rfl ?_
  refine WL.q (Y.extract (.pl rfl) rfl) rfl ?_
  refine WL.q (Y.assign (.pl rfl)) rfl ?_
  refine WL.q (Y.assign (.pl rfl)) rfl ?_
  refine WL.next hQ2 (.cons (i := 0) rfl (.cons (i := 2) rfl (.cons (i := 4) rfl (.cons (i := 7) rfl (.cons (i := 8) rfl (.nil)))))) ?_
  refine W.seq fun K3 hK3 => ?_
  -- region 2: agree.go:20
  refine W.seqR fun Q4 hQ4 => ?_
  refine WL.step (WO.callP isGo8 (.nil) rfl (fun w hw => lives_ok w) ?_)
  refine WL.q (Y.not (.pl rfl)) rfl ?_
  refine WL.q (Y.move (.pl rfl)) rfl ?_
  refine WL.g (.pl rfl rfl rfl) (fun _ => Y.move (.pl rfl)) rfl ?_
  refine WL.g (.pl rfl rfl rfl) (fun hg => Y.neq (.gd (hg) rfl) (.pl rfl)) rfl ?_
  refine WL.q (Y.or (.pl rfl) (fun h2 => .gd (eqf h2) rfl)) rfl ?_
  refine WL.q (Y.move (.pl rfl)) rfl ?_
  refine WL.g (.pl rfl rfl rfl) (fun _ => Y.move (.pl rfl)) rfl ?_
  refine WL.g (.pl rfl rfl rfl) (fun hg => Y.len Try.underlying22 (.gd (hg) rfl)) rfl ?_
  refine WL.g (.pl rfl rfl rfl) (fun _ => Y.load Try.underlying22 rfl (.pl rfl) (fun w hw => by first | exact cell_lit (hw.obj (i := 0) rfl) rfl)) rfl ?_
  refine WL.g (.pl rfl rfl rfl) (fun hg => Y.len Try.underlying22 (.gd (hg) rfl)) rfl ?_
  refine WL.g (.pl rfl rfl rfl) (fun hg => Y.neq (.gd (hg) rfl) (.gd (hg) rfl)) rfl ?_
  refine WL.q (Y.or (.pl rfl) (fun h2 => .gd (eqf h2) rfl)) rfl ?_
  refine WL.next hQ4 (.cons (i := 0) rfl (.cons (i := 2) rfl (.cons (i := 4) rfl (.cons (i := 7) rfl (.cons (i := 8) rfl (.cons (i := 33) rfl (.nil))))))) ?_
  refine W.cond (.pl rfl) (fun hC0 => ?_) (fun hC0 => ?_)
  · -- C0 yes
    skip
    -- region 3: agree.go:21
    refine W.seqR fun Q5 hQ5 => ?_
    refine WL.step (WO.callP isGo8 (.nil) rfl (fun w hw => lives_ok w) ?_)
    refine WL.q (Y.move (.pl rfl)) rfl ?_
    refine WL.g (.pl rfl rfl rfl) (fun _ => Y.move (.pl rfl)) rfl ?_
    refine WL.g (.pl rfl rfl rfl) (fun hg => Y.neq (.gd (hg) rfl) (.pl rfl)) rfl ?_
    refine WL.q (Y.and (.pl rfl) (fun h2 => .gd (eqt h2) rfl)) rfl ?_
    refine WL.q (Y.move (.pl rfl)) rfl ?_
    refine WL.g (.pl rfl rfl rfl) (fun _ => Y.move (.pl rfl)) rfl ?_
    refine WL.g (.pl rfl rfl rfl) (fun hg => Y.len Try.underlying22 (.gd (hg) rfl)) rfl ?_
    refine WL.g (.pl rfl rfl rfl) (fun hg => Y.eql (.gd (hg) rfl) (.pl rfl)) rfl ?_
    refine WL.q (Y.and (.pl rfl) (fun h2 => .gd (eqt h2) rfl)) rfl ?_
    refine WL.q (Y.assign (.pl rfl)) rfl ?_
    refine WL.next hQ5 (.cons (i := 6) rfl (.nil)) ?_
    refine W.ret1 (fn := Try.f6) Try.results6 rfl (fun _ _ h => h) (fun w hw => ?_)
    refine hR _ _ ?_
    refine ⟨by simp [he], hw.sub ⟨_, by rw [List.nil_append]⟩⟩
  · -- C0 no
    skip
    simp [he] at hC0

theorem same_ok (algo : Int) (v1 v2 : Value) (vs ls : List Int) (w : World) (h1 : IntsIn w v1 vs) (h2 : IntsIn w v2 ls) (hl1 : vs.length ≤ maxLen) (hl2 : ls.length ≤ maxLen) (he : checkF algo vs ls = 0) :
    Pure Try.prog 6 [.int .i64 algo, v1, v2] w (.bool true) := by
  have h1i := h1
  have h2i := h2
  obtain ⟨a1, c1, rfl, hcap1, hv⟩ := h1
  obtain ⟨a2, c2, rfl, hcap2, hlc⟩ := h2
  have hm1 := hl1
  have hm2 := hl2
  unfold maxLen at hm1 hm2
  have hpl := play_len he
  refine W.enter (n := 79) Try.func6 rfl rfl Sub.refl (by simp) (St.start w) fun R hR => ?_
  -- region 0: agree.go:18
  refine W.seqR fun Q1 hQ1 => ?_
  refine WL.step (WO.box1 (.pl rfl) rfl rfl fun b4 => ?_)
  refine WL.q (Y.assign (.pl rfl)) rfl ?_
  refine WL.next hQ1 (.cons (i := 0) rfl (.cons (i := 2) rfl (.cons (i := 4) rfl (.nil)))) ?_
  -- region 1: agree.go:19
  refine W.seqR fun Q2 hQ2 => ?_
  refine WL.q (Y.move (.pl rfl)) rfl ?_
  refine WL.q (Y.load Try.underlying22 rfl (.pl rfl) (fun w hw => by first | exact cell_lit (hw.obj (i := 0) rfl) rfl | exact cell_lit (hw.obj (i := 1) rfl) rfl)) rfl ?_
  refine WL.q (Y.move (.pl rfl)) rfl ?_
  refine WL.step (WO.callM isGo7 (.cons (.pl rfl) (.cons (.pl rfl) (.cons (.pl rfl) (.nil)))) rfl (fun w hw => play_any algo _ _ vs ls w (h1i.mono hw) (h2i.mono hw) hl1 hl2 he) ?_)
  intro bl _
  refine WL.q (Y.move (.pl rfl)) rfl ?_
  refine WL.q (Y.extract (.pl rfl) rfl) rfl ?_
  refine WL.q (Y.extract (.pl rfl) rfl) rfl ?_
  refine WL.q (Y.assign (.pl rfl)) rfl ?_
  refine WL.q (Y.assign (.pl rfl)) rfl ?_
  refine WL.next hQ2 (.cons (i := 0) rfl (.cons (i := 2) rfl (.cons (i := 4) rfl (.cons (i := 7) rfl (.cons (i := 8) rfl (.nil)))))) ?_
  refine W.seq fun K3 hK3 => ?_
  -- region 2: agree.go:20
  refine W.seqR fun Q4 hQ4 => ?_
  refine WL.step (WO.callP isGo8 (.nil) rfl (fun w hw => lives_ok w) ?_)
  refine WL.q (Y.not (.pl rfl)) rfl ?_
  refine WL.q (Y.move (.pl rfl)) rfl ?_
  refine WL.g (.pl rfl rfl rfl) (fun _ => Y.move (.pl rfl)) rfl ?_
  refine WL.g (.pl rfl rfl rfl) (fun hg => Y.neq (.gd (hg) rfl) (.pl rfl)) rfl ?_
  refine WL.q (Y.or (.pl rfl) (fun h2 => .gd (eqf h2) rfl)) rfl ?_
  refine WL.q (Y.move (.pl rfl)) rfl ?_
  refine WL.g (.pl rfl rfl rfl) (fun _ => Y.move (.pl rfl)) rfl ?_
  refine WL.g (.pl rfl rfl rfl) (fun hg => Y.len Try.underlying22 (.gd (hg) rfl)) rfl ?_
  refine WL.g (.pl rfl rfl rfl) (fun _ => Y.load Try.underlying22 rfl (.pl rfl) (fun w hw => by first | exact cell_lit (hw.obj (i := 0) rfl) rfl | exact cell_lit (hw.obj (i := 1) rfl) rfl)) rfl ?_
  refine WL.g (.pl rfl rfl rfl) (fun hg => Y.len Try.underlying22 (.gd (hg) rfl)) rfl ?_
  refine WL.g (.pl rfl rfl rfl) (fun hg => Y.neq (.gd (hg) rfl) (.gd (hg) rfl)) rfl ?_
  refine WL.q (Y.or (.pl rfl) (fun h2 => .gd (eqf h2) rfl)) rfl ?_
  refine WL.next hQ4 (.cons (i := 0) rfl (.cons (i := 2) rfl (.cons (i := 4) rfl (.cons (i := 7) rfl (.cons (i := 8) rfl (.cons (i := 33) rfl (.nil))))))) ?_
  refine W.cond (.pl rfl) (fun hC0 => ?_) (fun hC0 => ?_)
  · -- C0 yes
    skip
    simp [hpl] at hC0
  · -- C0 no
    skip
    refine W.skip ?_
    refine W.go hK3 (.cons (i := 0) rfl (.cons (i := 2) rfl (.cons (i := 4) rfl (.cons (i := 7) rfl (.nil))))) ?_
    refine W.seq fun K5 hK5 => ?_
    -- region 4: agree.go:23
    refine W.seqR fun Q6 hQ6 => ?_
    refine WL.q (Y.move (.pl rfl)) rfl ?_
    refine WL.q (Y.len Try.underlying22 (.pl rfl)) rfl ?_
    refine WL.q (Y.move (.pl rfl)) rfl ?_
    refine WL.next hQ6 (.cons (i := 0) rfl (.cons (i := 2) rfl (.cons (i := 4) rfl (.cons (i := 7) rfl (.cons (i := 44) rfl (.cons (i := 45) rfl (.cons (i := 46) rfl (.nil)))))))) ?_
    refine W.block ?_
    refine W.loop (γ := Nat) (Em := fun k => [(46, .int .i64 (k : Int))]) (M := fun _ => [cObj b4 (.cells #[.slice a1 vs.length c1] 22 (0, 0)), row bl (playF algo vs ls)]) (I := fun k => k ≤ (playF algo vs ls).length) (m := fun k => (playF algo vs ls).length - k) (0) (Nat.zero_le _) (.cons rfl (.nil)) (.cons (i := 0) rfl (.cons (i := 2) rfl (.cons (i := 4) rfl (.cons (i := 7) rfl (.cons (i := 44) rfl (.cons (i := 45) rfl (.nil))))))) (fun w hw => hw.pick [1, 0] rfl) (fun k hI K7 hK7 => ?_)
    -- region 5: agree.go:23
    refine W.seqR fun Q8 hQ8 => ?_
    refine WL.q (Y.lss (.pl rfl) (.pl rfl)) rfl ?_
    refine WL.next hQ8 (.cons (i := 0) rfl (.cons (i := 2) rfl (.cons (i := 4) rfl (.cons (i := 7) rfl (.cons (i := 44) rfl (.cons (i := 45) rfl (.cons (i := 46) rfl (.cons (i := 47) rfl (.nil))))))))) ?_
    refine W.seq fun K9 hK9 => ?_
    refine W.cond (.pl rfl) (fun hC1 => ?_) (fun hC1 => ?_)
    · -- C1 yes
      try simp only [Bool.or_eq_true, Bool.and_eq_true, Bool.not_eq_true', decide_eq_true_eq, decide_eq_false_iff_not, Bool.or_eq_false_iff, Bool.and_eq_false_iff, Bool.not_eq_false', Bool.not_eq_eq_eq_not, Bool.not_true, Bool.not_false] at hC1
      have hk : k < (playF algo vs ls).length := by omega
      refine W.skip ?_
      refine W.go hK9 (.cons (i := 0) rfl (.cons (i := 2) rfl (.cons (i := 4) rfl (.cons (i := 7) rfl (.cons (i := 44) rfl (.cons (i := 45) rfl (.cons (i := 46) rfl (.nil)))))))) ?_
      refine W.seq fun K10 hK10 => ?_
      refine W.block ?_
      -- region 6: agree.go:23
      refine W.seqR fun Q11 hQ11 => ?_
      refine WL.q (Y.move (.pl rfl)) rfl ?_
      refine WL.q (Y.own1N Try.underlying22 cells3 (.pl rfl) (.pl rfl) (by omega)) rfl ?_
      refine WL.q (Y.load Try.underlying3 rfl (.pl rfl) (fun w hw => hw.row (i := 1) (k := k) (xs := playF algo vs ls) rfl (by omega))) rfl ?_
      refine WL.step (WO.alloc zero3 rfl rfl fun b10 => ?_)
      refine WL.q (Y.assign (.pl rfl)) rfl ?_
      refine WL.step (WO.store cells3 (.pl rfl) (.pl rfl) rfl (i := 0) rfl Nat.one_pos ?_)
      refine WL.next hQ11 (.cons (i := 0) rfl (.cons (i := 2) rfl (.cons (i := 4) rfl (.cons (i := 7) rfl (.cons (i := 9) rfl (.cons (i := 10) rfl (.cons (i := 44) rfl (.cons (i := 45) rfl (.cons (i := 46) rfl (.nil)))))))))) ?_
      refine W.seq fun K12 hK12 => ?_
      -- region 7: agree.go:24
      refine W.seqR fun Q13 hQ13 => ?_
      refine WL.q (Y.load Try.underlying3 rfl (.pl rfl) (fun w hw => by first | exact cell_lit (hw.obj (i := 0) rfl) rfl | exact cell_lit (hw.obj (i := 1) rfl) rfl)) rfl ?_
      refine WL.q (Y.eql (.pl rfl) (.pl rfl)) rfl ?_
      refine WL.next hQ13 (.cons (i := 0) rfl (.cons (i := 2) rfl (.cons (i := 4) rfl (.cons (i := 7) rfl (.cons (i := 9) rfl (.cons (i := 10) rfl (.cons (i := 44) rfl (.cons (i := 45) rfl (.cons (i := 46) rfl (.cons (i := 52) rfl (.nil))))))))))) ?_
      refine W.cond (.pl rfl) (fun hC2 => ?_) (fun hC2 => ?_)
      · -- C2 yes
        try simp only [Bool.or_eq_true, Bool.and_eq_true, Bool.not_eq_true', decide_eq_true_eq, decide_eq_false_iff_not, Bool.or_eq_false_iff, Bool.and_eq_false_iff, Bool.not_eq_false', Bool.not_eq_eq_eq_not, Bool.not_true, Bool.not_false] at hC2
        
        refine W.exit ?_
        refine W.go hK10 (.cons (i := 0) rfl (.cons (i := 2) rfl (.cons (i := 4) rfl (.cons (i := 7) rfl (.cons (i := 44) rfl (.cons (i := 45) rfl (.cons (i := 46) rfl (.nil)))))))) ?_
        -- region 17: agree.go:23
        refine W.reg ?_
        refine WL.q (Y.add (.pl rfl) (.pl rfl) (by omega)) rfl ?_
        refine WL.q (Y.move (.pl rfl)) rfl ?_
        refine WL.nil ?_
        exact W.again hK7 (k + 1) (by first | trivial | omega) (by omega) (.cons (rfl) (.nil)) (.cons (i := 0) rfl (.cons (i := 2) rfl (.cons (i := 4) rfl (.cons (i := 7) rfl (.cons (i := 44) rfl (.cons (i := 45) rfl (.nil))))))) (fun w hw => hw.pick [1, 2] rfl)
      · -- C2 no
        try simp only [Bool.or_eq_true, Bool.and_eq_true, Bool.not_eq_true', decide_eq_true_eq, decide_eq_false_iff_not, Bool.or_eq_false_iff, Bool.and_eq_false_iff, Bool.not_eq_false', Bool.not_eq_eq_eq_not, Bool.not_true, Bool.not_false] at hC2
        have hb := same1 he (k := k) (by omega) (by rw [getD_get hk]; exact hC2)
        rw [getD_get hk] at hb
        refine W.skip ?_
        refine W.go hK12 (.cons (i := 0) rfl (.cons (i := 2) rfl (.cons (i := 4) rfl (.cons (i := 7) rfl (.cons (i := 9) rfl (.cons (i := 10) rfl (.cons (i := 44) rfl (.cons (i := 45) rfl (.cons (i := 46) rfl (.nil)))))))))) ?_
        -- region 8: agree.go:27
        refine W.seqR fun Q14 hQ14 => ?_
        refine WL.q (Y.move (.pl rfl)) rfl ?_
        refine WL.q (Y.fnC (.cons (.pl rfl) (.cons (.pl rfl) (.nil)))) rfl ?_
        refine WL.step (WO.callP isGo9 (.cons (.pl rfl) (.cons (.pl rfl) (.nil))) rfl (fun w hw => containsFunc_ok _ [_, _] isGo10 _ ls (fun z => decide (0 ≤ z) && decide (z < vs.length) && decide (vs.getD z.toNat 0 = (playF algo vs ls)[k])) w (h2i.mono hw) hl2 (fun w2 h2 z hz => same1_ok z _ _ _ _ vs w2 ((h1i.mono hw).mono h2) hl1 (h2.roW (cell_lit (hw.obj (i := 1) rfl) rfl)) (h2.roW (cell_lit (hw.obj (i := 0) rfl) rfl)))) ?_)
        refine WL.q (Y.assign (.pl rfl)) rfl ?_
        refine WL.next hQ14 (.cons (i := 0) rfl (.cons (i := 2) rfl (.cons (i := 4) rfl (.cons (i := 7) rfl (.cons (i := 9) rfl (.cons (i := 10) rfl (.cons (i := 11) rfl (.cons (i := 44) rfl (.cons (i := 45) rfl (.cons (i := 46) rfl (.nil))))))))))) ?_
        refine W.seq fun K15 hK15 => ?_
        -- region 9: agree.go:28
        refine W.seqR fun Q16 hQ16 => ?_
        refine WL.q (Y.move (.pl rfl)) rfl ?_
        refine WL.q (Y.not (.pl rfl)) rfl ?_
        refine WL.next hQ16 (.cons (i := 0) rfl (.cons (i := 2) rfl (.cons (i := 4) rfl (.cons (i := 7) rfl (.cons (i := 9) rfl (.cons (i := 10) rfl (.cons (i := 44) rfl (.cons (i := 45) rfl (.cons (i := 46) rfl (.cons (i := 57) rfl (.nil))))))))))) ?_
        refine W.cond (.pl rfl) (fun hC3 => ?_) (fun hC3 => ?_)
        · -- C3 yes
          skip
          exfalso
          obtain ⟨z, hz1, hz2, hz3⟩ := hb
          have ha : (ls.any fun z => decide (0 ≤ z) && decide (z < vs.length) && decide (vs.getD z.toNat 0 = (playF algo vs ls)[k])) = true :=
            List.any_eq_true.2 ⟨_, hz2, by simp only [Bool.and_eq_true, decide_eq_true_eq, Int.toNat_natCast]; exact ⟨⟨by omega, by omega⟩, hz3⟩⟩
          rw [ha] at hC3
          exact absurd hC3 (by decide)
        · -- C3 no
          skip
          refine W.skip ?_
          refine W.go hK15 (.cons (i := 0) rfl (.cons (i := 2) rfl (.cons (i := 4) rfl (.cons (i := 7) rfl (.cons (i := 9) rfl (.cons (i := 10) rfl (.cons (i := 44) rfl (.cons (i := 45) rfl (.cons (i := 46) rfl (.nil)))))))))) ?_
          -- region 11: agree.go:31
          refine W.seqR fun Q17 hQ17 => ?_
          refine WL.q (Y.move (.pl rfl)) rfl ?_
          refine WL.q (Y.move (.pl rfl)) rfl ?_
          refine WL.q (Y.sliceTo Try.underlying22 cells3 (.pl rfl) (.pl rfl) (by omega)) rfl ?_
          refine WL.q (Y.len Try.underlying22 (.pl rfl)) rfl ?_
          refine WL.q (Y.move (.pl rfl)) rfl ?_
          refine WL.next hQ17 (.cons (i := 0) rfl (.cons (i := 2) rfl (.cons (i := 4) rfl (.cons (i := 7) rfl (.cons (i := 10) rfl (.cons (i := 44) rfl (.cons (i := 45) rfl (.cons (i := 46) rfl (.cons (i := 60) rfl (.cons (i := 61) rfl (.cons (i := 62) rfl (.nil)))))))))))) ?_
          refine W.block ?_
          refine W.loop (γ := Nat) (Em := fun j => [(62, .int .i64 (j : Int))]) (M := fun _ => [cObj b10 (.cells #[.int .i64 (playF algo vs ls)[k]] 3 (0, 0)), cObj b4 (.cells #[.slice a1 vs.length c1] 22 (0, 0)), row bl (playF algo vs ls)]) (I := fun j => j ≤ k) (m := fun j => k - j) (0) (Nat.zero_le _) (.cons rfl (.nil)) (.cons (i := 0) rfl (.cons (i := 2) rfl (.cons (i := 4) rfl (.cons (i := 7) rfl (.cons (i := 10) rfl (.cons (i := 44) rfl (.cons (i := 45) rfl (.cons (i := 46) rfl (.cons (i := 60) rfl (.cons (i := 61) rfl (.nil))))))))))) (fun w hw => hw.pick [0, 1, 2] rfl) (fun j hI K18 hK18 => ?_)
          -- region 12: agree.go:31
          refine W.seqR fun Q19 hQ19 => ?_
          refine WL.q (Y.lss (.pl rfl) (.pl rfl)) rfl ?_
          refine WL.next hQ19 (.cons (i := 0) rfl (.cons (i := 2) rfl (.cons (i := 4) rfl (.cons (i := 7) rfl (.cons (i := 10) rfl (.cons (i := 44) rfl (.cons (i := 45) rfl (.cons (i := 46) rfl (.cons (i := 60) rfl (.cons (i := 61) rfl (.cons (i := 62) rfl (.cons (i := 63) rfl (.nil))))))))))))) ?_
          refine W.seq fun K20 hK20 => ?_
          refine W.cond (.pl rfl) (fun hC4 => ?_) (fun hC4 => ?_)
          · -- C4 yes
            try simp only [Bool.or_eq_true, Bool.and_eq_true, Bool.not_eq_true', decide_eq_true_eq, decide_eq_false_iff_not, Bool.or_eq_false_iff, Bool.and_eq_false_iff, Bool.not_eq_false', Bool.not_eq_eq_eq_not, Bool.not_true, Bool.not_false] at hC4
            have hj : j < k := by omega
            refine W.skip ?_
            refine W.go hK20 (.cons (i := 0) rfl (.cons (i := 2) rfl (.cons (i := 4) rfl (.cons (i := 7) rfl (.cons (i := 10) rfl (.cons (i := 44) rfl (.cons (i := 45) rfl (.cons (i := 46) rfl (.cons (i := 60) rfl (.cons (i := 61) rfl (.cons (i := 62) rfl (.nil)))))))))))) ?_
            refine W.seq fun K21 hK21 => ?_
            refine W.block ?_
            -- region 13: agree.go:31
            refine W.seqR fun Q22 hQ22 => ?_
            refine WL.q (Y.own1N Try.underlying22 cells3 (.pl rfl) (.pl rfl) (by omega)) rfl ?_
            refine WL.q (Y.load Try.underlying3 rfl (.pl rfl) (fun w hw => hw.row (i := 2) (k := j) (xs := playF algo vs ls) rfl (by omega))) rfl ?_
            refine WL.q (Y.assign (.pl rfl)) rfl ?_
            refine WL.next hQ22 (.cons (i := 0) rfl (.cons (i := 2) rfl (.cons (i := 4) rfl (.cons (i := 7) rfl (.cons (i := 10) rfl (.cons (i := 13) rfl (.cons (i := 44) rfl (.cons (i := 45) rfl (.cons (i := 46) rfl (.cons (i := 60) rfl (.cons (i := 61) rfl (.cons (i := 62) rfl (.nil))))))))))))) ?_
            -- region 14: agree.go:32
            refine W.seqR fun Q23 hQ23 => ?_
            refine WL.q (Y.move (.pl rfl)) rfl ?_
            refine WL.q (Y.neq (.pl rfl) (.pl rfl)) rfl ?_
            refine WL.q (Y.move (.pl rfl)) rfl ?_
            refine WL.g (.pl rfl rfl rfl) (fun _ => Y.move (.pl rfl)) rfl ?_
            refine WL.g (.pl rfl rfl rfl) (fun hg => Y.neq (.gd (hg) rfl) (.pl rfl)) rfl ?_
            refine WL.q (Y.and (.pl rfl) (fun h2 => .gd (eqt h2) rfl)) rfl ?_
            refine WL.q (Y.move (.pl rfl)) rfl ?_
            refine WL.g (.pl rfl rfl rfl) (fun _ => Y.move (.pl rfl)) rfl ?_
            refine WL.g (.pl rfl rfl rfl) (fun _ => Y.load Try.underlying3 rfl (.pl rfl) (fun w hw => by first | exact cell_lit (hw.obj (i := 0) rfl) rfl | exact cell_lit (hw.obj (i := 1) rfl) rfl)) rfl ?_
            refine WL.g (.pl rfl rfl rfl) (fun hg => Y.neq (.gd (hg) rfl) (.gd (hg) rfl)) rfl ?_
            refine WL.q (Y.and (.pl rfl) (fun h2 => .gd (eqt h2) rfl)) rfl ?_
            refine WL.next hQ23 (.cons (i := 0) rfl (.cons (i := 2) rfl (.cons (i := 4) rfl (.cons (i := 7) rfl (.cons (i := 10) rfl (.cons (i := 44) rfl (.cons (i := 45) rfl (.cons (i := 46) rfl (.cons (i := 60) rfl (.cons (i := 61) rfl (.cons (i := 62) rfl (.cons (i := 76) rfl (.nil))))))))))))) ?_
            refine W.cond (.pl rfl) (fun hC5 => ?_) (fun hC5 => ?_)
            · -- C5 yes
              skip
              exfalso
              simp only [Bool.and_eq_true, Bool.not_eq_true', decide_eq_true_eq, decide_eq_false_iff_not] at hC5
              obtain ⟨⟨h5, h6⟩, h7⟩ := hC5
              have h8 := same2 he h5 (j := j) (k := k) (by omega) (by omega) (by rw [getD_get (by omega)]; exact h6) (by rw [getD_get hk]; exact hC2)
              rw [getD_get (by omega), getD_get hk] at h8
              exact h7 h8
            · -- C5 no
              skip
              refine W.skip ?_
              refine W.go hK21 (.cons (i := 0) rfl (.cons (i := 2) rfl (.cons (i := 4) rfl (.cons (i := 7) rfl (.cons (i := 10) rfl (.cons (i := 44) rfl (.cons (i := 45) rfl (.cons (i := 46) rfl (.cons (i := 60) rfl (.cons (i := 61) rfl (.cons (i := 62) rfl (.nil)))))))))))) ?_
              -- region 16: agree.go:31
              refine W.reg ?_
              refine WL.q (Y.add (.pl rfl) (.pl rfl) (by omega)) rfl ?_
              refine WL.q (Y.move (.pl rfl)) rfl ?_
              refine WL.nil ?_
              exact W.again hK18 (j + 1) (by first | trivial | omega) (by omega) (.cons (rfl) (.nil)) (.cons (i := 0) rfl (.cons (i := 2) rfl (.cons (i := 4) rfl (.cons (i := 7) rfl (.cons (i := 10) rfl (.cons (i := 44) rfl (.cons (i := 45) rfl (.cons (i := 46) rfl (.cons (i := 60) rfl (.cons (i := 61) rfl (.nil))))))))))) (fun w hw => hw)
          · -- C4 no
            try simp only [Bool.or_eq_true, Bool.and_eq_true, Bool.not_eq_true', decide_eq_true_eq, decide_eq_false_iff_not, Bool.or_eq_false_iff, Bool.and_eq_false_iff, Bool.not_eq_false', Bool.not_eq_eq_eq_not, Bool.not_true, Bool.not_false] at hC4
            
            refine W.exit ?_
            refine W.go hK10 (.cons (i := 0) rfl (.cons (i := 2) rfl (.cons (i := 4) rfl (.cons (i := 7) rfl (.cons (i := 44) rfl (.cons (i := 45) rfl (.cons (i := 46) rfl (.nil)))))))) ?_
            -- region 17: agree.go:23
            refine W.reg ?_
            refine WL.q (Y.add (.pl rfl) (.pl rfl) (by omega)) rfl ?_
            refine WL.q (Y.move (.pl rfl)) rfl ?_
            refine WL.nil ?_
            exact W.again hK7 (k + 1) (by first | trivial | omega) (by omega) (.cons (rfl) (.nil)) (.cons (i := 0) rfl (.cons (i := 2) rfl (.cons (i := 4) rfl (.cons (i := 7) rfl (.cons (i := 44) rfl (.cons (i := 45) rfl (.nil))))))) (fun w hw => hw.pick [1, 2] rfl)
    · -- C1 no
      try simp only [Bool.or_eq_true, Bool.and_eq_true, Bool.not_eq_true', decide_eq_true_eq, decide_eq_false_iff_not, Bool.or_eq_false_iff, Bool.and_eq_false_iff, Bool.not_eq_false', Bool.not_eq_eq_eq_not, Bool.not_true, Bool.not_false] at hC1
      
      refine W.exit ?_
      refine W.go hK5 (.nil) ?_
      -- region 18: agree.go:37
      refine W.seqR fun Q24 hQ24 => ?_
      refine WL.q (Y.assign (.pl rfl)) rfl ?_
      refine WL.next hQ24 (.cons (i := 6) rfl (.nil)) ?_
      refine W.ret1 (fn := Try.f6) Try.results6 rfl (fun _ _ h => h) (fun w hw => ?_)
      refine hR _ _ ?_
      exact ⟨rfl, hw.sub ⟨_, by rw [List.nil_append]⟩⟩

theorem same_law (algo : Int) (v1 v2 : Value) (vs ls : List Int) (w : World) (h1 : IntsIn w v1 vs) (h2 : IntsIn w v2 ls) (hl1 : vs.length ≤ maxLen) (hl2 : ls.length ≤ maxLen) : Pure Try.prog 6 [.int .i64 algo, v1, v2] w (.bool true) := by
  by_cases he : checkF algo vs ls = 0
  · exact same_ok algo v1 v2 vs ls w h1 h2 hl1 hl2 he
  · exact same_err algo v1 v2 vs ls w h1 h2 hl1 hl2 he

end Go.Proofs.Ytglhflmecmidkaa
