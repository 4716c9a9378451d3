/- The walks of package agree: Play. -/
import Derived.Test.YtglhflmecmidkaaA2
set_option linter.unusedVariables false
set_option linter.unusedSimpArgs false
set_option linter.unusedSectionVars false
set_option maxRecDepth 100000
namespace Go.Proofs.Ytglhflmecmidkaa
open Go.RowKit
theorem isGo11 : IsGo Try.prog 11 := ⟨_, Try.func11, by kernel_rfl, rfl⟩
theorem isGo12 : IsGo Try.prog 12 := ⟨_, Try.func12, by kernel_rfl, rfl⟩
theorem isGo13 : IsGo Try.prog 13 := ⟨_, Try.func13, by kernel_rfl, rfl⟩
theorem isGo14 : IsGo Try.prog 14 := ⟨_, Try.func14, by kernel_rfl, rfl⟩
theorem mk3 : ∃ i, Try.prog.info? 3 = some i ∧ i.zero = some (Value.int .i64 0) ∧ i.size = 1 ∧ i.bytes = 8 := ⟨_, rfl, by kernel_rfl, by kernel_rfl, by kernel_rfl⟩
theorem shape36 : Shape Try.prog 36 [(0, 1), (1, 1), (2, 1), (3, 1), (4, 1), (5, 1)] #[(Value.slice none 0 0), (Value.map none), (Value.int .i64 0), (Value.slice none 0 0), (Value.slice none 0 0), (Value.slice none 0 0)] := ⟨_, _, Value.agg #[(Value.slice none 0 0), (Value.map none), (Value.int .i64 0), (Value.slice none 0 0), (Value.slice none 0 0), (Value.slice none 0 0)], Try.underlying36, rfl, by kernel_rfl, rfl, by kernel_rfl, by decide⟩
def turnF (algo : Int) (vs : List Int) (s : Mac) (q : Nat) : Mac := if algo = 2 then ticF vs s q else if algo = 3 then naiF vs s q else casF vs s q
def stepF (algo : Int) (vs : List Int) (s : Mac) (who : Int) : Mac := if s.out.getD who.toNat 0 < 0 then turnF algo vs s who.toNat else s
def initF (m : Nat) : Mac := ⟨[], 0, List.replicate m 0, List.replicate m 0, List.replicate m (-1)⟩
def playF (algo : Int) (vs ls : List Int) : List Int := (ls.foldl (stepF algo vs) (initF vs.length)).out
theorem ok_init {m : Nat} (h : m ≤ 8) : (initF m).Ok m := ⟨h, by simp [initF], by simp [initF], by simp [initF], by simp [initF]⟩

theorem play_err (algo : Int) (v1 v2 : Value) (vs ls : List Int) (w : World) (h1 : IntsIn w v1 vs) (h2 : IntsIn w v2 ls) (hl1 : vs.length ≤ maxLen) (hl2 : ls.length ≤ maxLen) (he : checkF algo vs ls ≠ 0) :
    Pure Try.prog 7 [.int .i64 algo, v1, v2] w (.tuple #[.slice none 0 0, .int .i64 (checkF algo vs ls)]) := by
  refine W.enter (n := 82) Try.func7 rfl rfl Sub.refl (by simp) (St.start w) fun R hR => ?_
  -- region 0: agree.go:85
  refine W.seqR fun Q1 hQ1 => ?_
  refine WL.q (Y.assign (.pl rfl)) rfl ?_
  refine WL.q (Y.assign (.pl rfl)) rfl ?_
  refine WL.next hQ1 (.cons (i := 0) rfl (.cons (i := 1) rfl (.cons (i := 2) rfl (.nil)))) ?_
  refine W.seq fun K2 hK2 => ?_
  -- region 1: agree.go:86
  refine W.seqR fun Q3 hQ3 => ?_
  refine WL.q (Y.move (.pl rfl)) rfl ?_
  refine WL.q (Y.move (.pl rfl)) rfl ?_
  refine WL.q (Y.move (.pl rfl)) rfl ?_
  refine WL.step (WO.callP isGo11 (.cons (.pl rfl) (.cons (.pl rfl) (.cons (.pl rfl) (.nil)))) rfl (fun w hw => check_ok algo v1 v2 vs ls w (h1.mono hw) (h2.mono hw) hl1 hl2) ?_)
  refine WL.q (Y.assign (.pl rfl)) rfl ?_
  refine WL.next hQ3 (.cons (i := 0) rfl (.cons (i := 1) rfl (.cons (i := 2) rfl (.cons (i := 8) rfl (.nil))))) ?_
  -- region 2: agree.go:86
  refine W.seqR fun Q4 hQ4 => ?_
  refine WL.q (Y.move (.pl rfl)) rfl ?_
  refine WL.q (Y.neq (.pl rfl) (.pl rfl)) rfl ?_
  refine WL.next hQ4 (.cons (i := 0) rfl (.cons (i := 1) rfl (.cons (i := 2) rfl (.cons (i := 8) rfl (.cons (i := 20) rfl (.nil)))))) ?_
  refine W.cond (.pl rfl) (fun hC0 => ?_) (fun hC0 => ?_)
  · -- C0 yes
    try simp only [Bool.or_eq_true, Bool.and_eq_true, Bool.not_eq_true', decide_eq_true_eq, decide_eq_false_iff_not, Bool.or_eq_false_iff, Bool.and_eq_false_iff, Bool.not_eq_false', Bool.not_eq_eq_eq_not, Bool.not_true, Bool.not_false] at hC0
    -- region 3: agree.go:87
    refine W.seqR fun Q5 hQ5 => ?_
    refine WL.q (Y.move (.pl rfl)) rfl ?_
    refine WL.q (Y.assign (.pl rfl)) rfl ?_
    refine WL.q (Y.assign (.pl rfl)) rfl ?_
    refine WL.next hQ5 (.cons (i := 6) rfl (.cons (i := 7) rfl (.nil))) ?_
    refine W.ret2 (fn := Try.f7) Try.results7 rfl rfl (fun _ _ h => h) (fun w hw => ?_)
    refine hR _ _ ?_
    exact ⟨rfl, hw⟩
  · -- C0 no
    try simp only [Bool.or_eq_true, Bool.and_eq_true, Bool.not_eq_true', decide_eq_true_eq, decide_eq_false_iff_not, Bool.or_eq_false_iff, Bool.and_eq_false_iff, Bool.not_eq_false', Bool.not_eq_eq_eq_not, Bool.not_true, Bool.not_false] at hC0
    exact absurd hC0 he

theorem IntsIn.old {w : World} {v : Value} {xs : List Int} (h : IntsIn w v xs) : OldInts w.heap.size w v xs := by
  obtain ⟨a, cap, hv, hl, hc⟩ := h
  exact ⟨a, cap, hv, hl, fun i hi => ⟨(hc i hi).1, (hc i hi).2, World.block_lt_of_cell? _ _ (hc i hi).2⟩⟩
theorem OldInts.mono {base : Nat} {w0 w : World} {v : Value} {xs : List Int} {L : List Chunk} (h : OldInts base w0 v xs) (hw : St base w0 L w) : OldInts base w v xs := by
  obtain ⟨a, cap, hv, hl, hc⟩ := h
  exact ⟨a, cap, hv, hl, fun i hi => ⟨(hc i hi).1, hw.ro (hc i hi).2.1 (hc i hi).2.2, (hc i hi).2.2⟩⟩
theorem ok_own {vs : List Int} {s : Mac} {q m : Nat} (h : s.Ok m) : (ownF vs s q).Ok m := ⟨h.m8, by simp [ownF, h.step], h.x, h.out, h.cnt⟩
theorem ok_cas {vs : List Int} {s : Mac} {q m : Nat} (h : s.Ok m) : (casF vs s q).Ok m := by
  unfold casF
  split
  · exact ⟨h.m8, by simp [h.step], h.x, h.out, h.cnt⟩
  · exact ⟨h.m8, h.step, h.x, by simp [h.out], h.cnt⟩

theorem rep_set (n k : Nat) (h : k < n) : (List.replicate k (-1 : Int) ++ List.replicate (n - k) 0).set k (-1) = List.replicate (k + 1) (-1) ++ List.replicate (n - (k + 1)) 0 := by
  apply List.ext_getElem?
  intro i
  simp only [List.getElem?_set, List.getElem?_append, List.length_replicate, List.length_append, List.getElem?_replicate]
  repeat' split
  all_goals first | rfl | omega
theorem check_zero {algo : Int} {vs ls : List Int} (h : checkF algo vs ls = 0) : 1 ≤ vs.length ∧ vs.length ≤ 8 ∧ ls.length ≤ 300 ∧ ∀ k (hk : k < ls.length), 0 ≤ ls[k] ∧ ls[k] < vs.length := by
  unfold checkF at h
  split at h
  · omega
  · rename_i h1
    split at h
    · omega
    · split at h
      · omega
      · split at h
        · omega
        · rename_i h4
          refine ⟨by omega, by omega, by omega, fun k hk => ?_⟩
          have h5 : ∀ x ∈ ls, 0 ≤ x ∧ x < vs.length := by simpa using h4
          exact h5 _ (List.getElem_mem hk)
def runF (algo : Int) (vs ls : List Int) (q : Nat) : Mac := (ls.take q).foldl (stepF algo vs) (initF vs.length)
theorem runF_succ {algo : Int} {vs ls : List Int} {q : Nat} (h : q < ls.length) : runF algo vs ls (q + 1) = stepF algo vs (runF algo vs ls q) ls[q] := by
  unfold runF; rw [List.take_succ_eq_append_getElem h, List.foldl_append]; rfl
theorem playF_eq (algo : Int) (vs ls : List Int) : playF algo vs ls = (runF algo vs ls ls.length).out := by unfold runF; rw [List.take_length]; rfl
theorem own_cnt (vs : List Int) (s : Mac) (q : Nat) : (ownF vs s q).count = s.count := rfl
theorem ok_weak {s s' : Mac} {m : Nat} (h : s.Ok m) (h1 : s'.step.length = s.step.length) (h2 : s'.x.length = s.x.length) (h3 : s'.out.length = s.out.length) (h4 : 0 ≤ s'.count ∧ s'.count ≤ 1000) : s'.Ok m :=
  ⟨h.m8, h1.trans h.step, h2.trans h.x, h3.trans h.out, h4⟩
theorem turn_len {algo : Int} {vs : List Int} {s : Mac} {q : Nat} : (turnF algo vs s q).step.length = s.step.length ∧ (turnF algo vs s q).x.length = s.x.length ∧ (turnF algo vs s q).out.length = s.out.length ∧ s.count ≤ (turnF algo vs s q).count ∧ (turnF algo vs s q).count ≤ s.count + 1 := by
  unfold turnF ticF naiF casF ownF
  repeat' split
  all_goals (simp <;> omega)
theorem run_ok {algo : Int} {vs ls : List Int} {q : Nat} (hm : vs.length ≤ 8) (hq : q ≤ ls.length) (hl : ls.length ≤ 300) : (runF algo vs ls q).Ok vs.length := by
  have key : ∀ q, q ≤ ls.length → (runF algo vs ls q).Ok vs.length ∧ (runF algo vs ls q).count ≤ q := by
    intro q
    induction q with
    | zero => intro _; exact ⟨ok_init hm, by simp [runF, initF]⟩
    | succ q ih =>
      intro h
      obtain ⟨h1, h2⟩ := ih (by omega)
      rw [runF_succ (by omega)]
      unfold stepF
      split
      · obtain ⟨a, b, c, d, e⟩ := turn_len (algo := algo) (vs := vs) (s := runF algo vs ls q) (q := ls[q].toNat)
        exact ⟨ok_weak h1 a b c ⟨by have := h1.cnt; omega, by omega⟩, by omega⟩
      · exact ⟨h1, by omega⟩
  exact (key q hq).1

theorem play_cas (v1 v2 : Value) (vs ls : List Int) (w : World) (h1 : IntsIn w v1 vs) (h2 : IntsIn w v2 ls) (hl1 : vs.length ≤ maxLen) (hl2 : ls.length ≤ maxLen) (he : checkF 1 vs ls = 0) :
    Made Try.prog 7 [.int .i64 1, v1, v2] w (fun b => .tuple #[.slice (some ⟨b, 0, none⟩) vs.length vs.length, .int .i64 0]) (fun b => [row b (playF 1 vs ls)]) (fun _ => True) := by
  obtain ⟨hn1, hn8, hl3, hall⟩ := check_zero he
  refine W.enter (n := 82) Try.func7 rfl rfl Sub.refl (by simp) (St.start w) fun R hR => ?_
  have h1o := h1.old
  have h1i := h1
  have h2o := h2
  obtain ⟨a1, c1, rfl, hcap1, hv⟩ := h1
  obtain ⟨a2, c2, rfl, hcap2, hlc⟩ := h2
  -- region 0: agree.go:85
  refine W.seqR fun Q1 hQ1 => ?_
  refine WL.q (Y.assign (.pl rfl)) rfl ?_
  refine WL.q (Y.assign (.pl rfl)) rfl ?_
  refine WL.next hQ1 (.cons (i := 0) rfl (.cons (i := 1) rfl (.cons (i := 2) rfl (.nil)))) ?_
  refine W.seq fun K2 hK2 => ?_
  -- region 1: agree.go:86
  refine W.seqR fun Q3 hQ3 => ?_
  refine WL.q (Y.move (.pl rfl)) rfl ?_
  refine WL.q (Y.move (.pl rfl)) rfl ?_
  refine WL.q (Y.move (.pl rfl)) rfl ?_
  refine WL.step (WO.callP isGo11 (.cons (.pl rfl) (.cons (.pl rfl) (.cons (.pl rfl) (.nil)))) rfl (fun w hw => check_ok 1 _ _ vs ls w (h1i.mono hw) (h2o.mono hw) hl1 hl2) ?_)
  refine WL.q (Y.assign (.pl rfl)) rfl ?_
  refine WL.next hQ3 (.cons (i := 0) rfl (.cons (i := 1) rfl (.cons (i := 2) rfl (.cons (i := 8) rfl (.nil))))) ?_
  -- region 2: agree.go:86
  refine W.seqR fun Q4 hQ4 => ?_
  refine WL.q (Y.move (.pl rfl)) rfl ?_
  refine WL.q (Y.neq (.pl rfl) (.pl rfl)) rfl ?_
  refine WL.next hQ4 (.cons (i := 0) rfl (.cons (i := 1) rfl (.cons (i := 2) rfl (.cons (i := 8) rfl (.cons (i := 20) rfl (.nil)))))) ?_
  refine W.cond (.pl rfl) (fun hC0 => ?_) (fun hC0 => ?_)
  · -- C0 yes
    try simp only [Bool.or_eq_true, Bool.and_eq_true, Bool.not_eq_true', decide_eq_true_eq, decide_eq_false_iff_not, Bool.or_eq_false_iff, Bool.and_eq_false_iff, Bool.not_eq_false', Bool.not_eq_eq_eq_not, Bool.not_true, Bool.not_false] at hC0
    exact absurd he hC0
  · -- C0 no
    try simp only [Bool.or_eq_true, Bool.and_eq_true, Bool.not_eq_true', decide_eq_true_eq, decide_eq_false_iff_not, Bool.or_eq_false_iff, Bool.and_eq_false_iff, Bool.not_eq_false', Bool.not_eq_eq_eq_not, Bool.not_true, Bool.not_false] at hC0
    refine W.skip ?_
    refine W.go hK2 (.cons (i := 0) rfl (.cons (i := 1) rfl (.cons (i := 2) rfl (.nil)))) ?_
    -- region 4: agree.go:89
    refine W.seqR fun Q5 hQ5 => ?_
    refine WL.q (Y.move (.pl rfl)) rfl ?_
    refine WL.q (Y.len Try.underlying22 (.pl rfl)) rfl ?_
    refine WL.q (Y.assign (.pl rfl)) rfl ?_
    refine WL.next hQ5 (.cons (i := 0) rfl (.cons (i := 1) rfl (.cons (i := 2) rfl (.cons (i := 9) rfl (.nil))))) ?_
    -- region 5: agree.go:90
    refine W.seqAJ (γ := Nat × Nat × Nat × Nat × Nat) (fun x => [(10, .pointer (some ⟨x.1, 0, none⟩))]) (fun x => memM x.1 x.2.1 x.2.2.1 x.2.2.2.1 x.2.2.2.2 vs.length (.slice a1 vs.length c1) ⟨[], 0, List.replicate vs.length 0, List.replicate vs.length 0, List.replicate vs.length 0⟩) (fun _ => True) (by kernel_rfl) (.cons (i := 0) rfl (.cons (i := 2) rfl (.nil))) (fun K6 hK6 => ?_) ?_
    · -- every order
      refine WA.take 0 #[true, false, false, false, false, false, false, false, false, false, false] rfl (by kernel_rfl) (fun _ _ => Y.move (.pl rfl)) rfl ?_
      refine WA.take 2 #[true, false, true, false, false, false, false, false, false, false, false] rfl (by kernel_rfl) (fun _ _ => Y.move (.pl rfl)) rfl ?_
      refine WA.take 4 #[true, false, true, false, true, false, false, false, false, false, false] rfl (by kernel_rfl) (fun _ _ => Y.move (.pl rfl)) rfl ?_
      refine WA.take 6 #[true, false, true, false, true, false, true, false, false, false, false] rfl (by kernel_rfl) (fun _ _ => Y.move (.pl rfl)) rfl ?_
      refine WA.branch [1, 3, 5, 7] (by kernel_rfl) ⟨?_, ?_, ?_, ?_, trivial⟩
      · -- 1 first
        refine WI.step #[true, true, true, false, true, false, true, false, false, false, false] rfl rfl (WO.makeMap rfl fun b25 => ?_)
        refine WA.branch [3, 5, 7] (by kernel_rfl) ⟨?_, ?_, ?_, trivial⟩
        · -- 3 first
          refine WI.step #[true, true, true, true, true, false, true, false, false, false, false] rfl rfl (WO.make Try.underlying22 mk3 rfl (.pl rfl) (by omega) rfl fun b27 => ?_)
          refine WA.branch [5, 7] (by kernel_rfl) ⟨?_, ?_, trivial⟩
          · -- 5 first
            refine WI.step #[true, true, true, true, true, true, true, false, false, false, false] rfl rfl (WO.make Try.underlying22 mk3 rfl (.pl rfl) (by omega) rfl fun b29 => ?_)
            refine WA.branch [7] (by kernel_rfl) ⟨?_, trivial⟩
            refine WI.step #[true, true, true, true, true, true, true, true, false, false, false] rfl rfl (WO.make Try.underlying22 mk3 rfl (.pl rfl) (by omega) rfl fun b31 => ?_)
            refine WA.take 8 #[true, true, true, true, true, true, true, true, true, false, false] rfl (by kernel_rfl) (fun _ _ => Y.build shape36 (.cons (.pl rfl) (.cons (.pl rfl) (.cons (.pl rfl) (.cons (.pl rfl) (.cons (.pl rfl) (.nil)))))) (by simp [Value.oneCell']) rfl) rfl ?_
            refine WA.branch [9] (by kernel_rfl) ⟨?_, trivial⟩
            refine WI.step #[true, true, true, true, true, true, true, true, true, true, false] rfl rfl (WO.boxA (.pl rfl) rfl fun b33 => ?_)
            refine WA.take 10 #[true, true, true, true, true, true, true, true, true, true, true] rfl (by kernel_rfl) (fun _ _ => Y.assign (.pl rfl)) rfl ?_
            refine WA.done (by kernel_rfl) ?_
            refine KK.pick [0, 4, 3, 2, 1] rfl rfl ?_
            exact W.joinAt hK6 ((b33, b25, b27, b29, b31)) (by trivial) (.cons (rfl) (.nil)) (.cons (i := 0) rfl (.cons (i := 2) rfl (.nil))) (fun w hw => hw.cong (by simp [memM, row, ints, vals]))
          · -- 7 first
            refine WI.step #[true, true, true, true, true, false, true, true, false, false, false] rfl rfl (WO.make Try.underlying22 mk3 rfl (.pl rfl) (by omega) rfl fun b31 => ?_)
            refine WA.branch [5] (by kernel_rfl) ⟨?_, trivial⟩
            refine WI.step #[true, true, true, true, true, true, true, true, false, false, false] rfl rfl (WO.make Try.underlying22 mk3 rfl (.pl rfl) (by omega) rfl fun b29 => ?_)
            refine WA.take 8 #[true, true, true, true, true, true, true, true, true, false, false] rfl (by kernel_rfl) (fun _ _ => Y.build shape36 (.cons (.pl rfl) (.cons (.pl rfl) (.cons (.pl rfl) (.cons (.pl rfl) (.cons (.pl rfl) (.nil)))))) (by simp [Value.oneCell']) rfl) rfl ?_
            refine WA.branch [9] (by kernel_rfl) ⟨?_, trivial⟩
            refine WI.step #[true, true, true, true, true, true, true, true, true, true, false] rfl rfl (WO.boxA (.pl rfl) rfl fun b33 => ?_)
            refine WA.take 10 #[true, true, true, true, true, true, true, true, true, true, true] rfl (by kernel_rfl) (fun _ _ => Y.assign (.pl rfl)) rfl ?_
            refine WA.done (by kernel_rfl) ?_
            refine KK.pick [0, 4, 3, 1, 2] rfl rfl ?_
            exact W.joinAt hK6 ((b33, b25, b27, b29, b31)) (by trivial) (.cons (rfl) (.nil)) (.cons (i := 0) rfl (.cons (i := 2) rfl (.nil))) (fun w hw => hw.cong (by simp [memM, row, ints, vals]))
        · -- 5 first
          refine WI.step #[true, true, true, false, true, true, true, false, false, false, false] rfl rfl (WO.make Try.underlying22 mk3 rfl (.pl rfl) (by omega) rfl fun b29 => ?_)
          refine WA.branch [3, 7] (by kernel_rfl) ⟨?_, ?_, trivial⟩
          · -- 3 first
            refine WI.step #[true, true, true, true, true, true, true, false, false, false, false] rfl rfl (WO.make Try.underlying22 mk3 rfl (.pl rfl) (by omega) rfl fun b27 => ?_)
            refine WA.branch [7] (by kernel_rfl) ⟨?_, trivial⟩
            refine WI.step #[true, true, true, true, true, true, true, true, false, false, false] rfl rfl (WO.make Try.underlying22 mk3 rfl (.pl rfl) (by omega) rfl fun b31 => ?_)
            refine WA.take 8 #[true, true, true, true, true, true, true, true, true, false, false] rfl (by kernel_rfl) (fun _ _ => Y.build shape36 (.cons (.pl rfl) (.cons (.pl rfl) (.cons (.pl rfl) (.cons (.pl rfl) (.cons (.pl rfl) (.nil)))))) (by simp [Value.oneCell']) rfl) rfl ?_
            refine WA.branch [9] (by kernel_rfl) ⟨?_, trivial⟩
            refine WI.step #[true, true, true, true, true, true, true, true, true, true, false] rfl rfl (WO.boxA (.pl rfl) rfl fun b33 => ?_)
            refine WA.take 10 #[true, true, true, true, true, true, true, true, true, true, true] rfl (by kernel_rfl) (fun _ _ => Y.assign (.pl rfl)) rfl ?_
            refine WA.done (by kernel_rfl) ?_
            refine KK.pick [0, 4, 2, 3, 1] rfl rfl ?_
            exact W.joinAt hK6 ((b33, b25, b27, b29, b31)) (by trivial) (.cons (rfl) (.nil)) (.cons (i := 0) rfl (.cons (i := 2) rfl (.nil))) (fun w hw => hw.cong (by simp [memM, row, ints, vals]))
          · -- 7 first
            refine WI.step #[true, true, true, false, true, true, true, true, false, false, false] rfl rfl (WO.make Try.underlying22 mk3 rfl (.pl rfl) (by omega) rfl fun b31 => ?_)
            refine WA.branch [3] (by kernel_rfl) ⟨?_, trivial⟩
            refine WI.step #[true, true, true, true, true, true, true, true, false, false, false] rfl rfl (WO.make Try.underlying22 mk3 rfl (.pl rfl) (by omega) rfl fun b27 => ?_)
            refine WA.take 8 #[true, true, true, true, true, true, true, true, true, false, false] rfl (by kernel_rfl) (fun _ _ => Y.build shape36 (.cons (.pl rfl) (.cons (.pl rfl) (.cons (.pl rfl) (.cons (.pl rfl) (.cons (.pl rfl) (.nil)))))) (by simp [Value.oneCell']) rfl) rfl ?_
            refine WA.branch [9] (by kernel_rfl) ⟨?_, trivial⟩
            refine WI.step #[true, true, true, true, true, true, true, true, true, true, false] rfl rfl (WO.boxA (.pl rfl) rfl fun b33 => ?_)
            refine WA.take 10 #[true, true, true, true, true, true, true, true, true, true, true] rfl (by kernel_rfl) (fun _ _ => Y.assign (.pl rfl)) rfl ?_
            refine WA.done (by kernel_rfl) ?_
            refine KK.pick [0, 4, 1, 3, 2] rfl rfl ?_
            exact W.joinAt hK6 ((b33, b25, b27, b29, b31)) (by trivial) (.cons (rfl) (.nil)) (.cons (i := 0) rfl (.cons (i := 2) rfl (.nil))) (fun w hw => hw.cong (by simp [memM, row, ints, vals]))
        · -- 7 first
          refine WI.step #[true, true, true, false, true, false, true, true, false, false, false] rfl rfl (WO.make Try.underlying22 mk3 rfl (.pl rfl) (by omega) rfl fun b31 => ?_)
          refine WA.branch [3, 5] (by kernel_rfl) ⟨?_, ?_, trivial⟩
          · -- 3 first
            refine WI.step #[true, true, true, true, true, false, true, true, false, false, false] rfl rfl (WO.make Try.underlying22 mk3 rfl (.pl rfl) (by omega) rfl fun b27 => ?_)
            refine WA.branch [5] (by kernel_rfl) ⟨?_, trivial⟩
            refine WI.step #[true, true, true, true, true, true, true, true, false, false, false] rfl rfl (WO.make Try.underlying22 mk3 rfl (.pl rfl) (by omega) rfl fun b29 => ?_)
            refine WA.take 8 #[true, true, true, true, true, true, true, true, true, false, false] rfl (by kernel_rfl) (fun _ _ => Y.build shape36 (.cons (.pl rfl) (.cons (.pl rfl) (.cons (.pl rfl) (.cons (.pl rfl) (.cons (.pl rfl) (.nil)))))) (by simp [Value.oneCell']) rfl) rfl ?_
            refine WA.branch [9] (by kernel_rfl) ⟨?_, trivial⟩
            refine WI.step #[true, true, true, true, true, true, true, true, true, true, false] rfl rfl (WO.boxA (.pl rfl) rfl fun b33 => ?_)
            refine WA.take 10 #[true, true, true, true, true, true, true, true, true, true, true] rfl (by kernel_rfl) (fun _ _ => Y.assign (.pl rfl)) rfl ?_
            refine WA.done (by kernel_rfl) ?_
            refine KK.pick [0, 4, 2, 1, 3] rfl rfl ?_
            exact W.joinAt hK6 ((b33, b25, b27, b29, b31)) (by trivial) (.cons (rfl) (.nil)) (.cons (i := 0) rfl (.cons (i := 2) rfl (.nil))) (fun w hw => hw.cong (by simp [memM, row, ints, vals]))
          · -- 5 first
            refine WI.step #[true, true, true, false, true, true, true, true, false, false, false] rfl rfl (WO.make Try.underlying22 mk3 rfl (.pl rfl) (by omega) rfl fun b29 => ?_)
            refine WA.branch [3] (by kernel_rfl) ⟨?_, trivial⟩
            refine WI.step #[true, true, true, true, true, true, true, true, false, false, false] rfl rfl (WO.make Try.underlying22 mk3 rfl (.pl rfl) (by omega) rfl fun b27 => ?_)
            refine WA.take 8 #[true, true, true, true, true, true, true, true, true, false, false] rfl (by kernel_rfl) (fun _ _ => Y.build shape36 (.cons (.pl rfl) (.cons (.pl rfl) (.cons (.pl rfl) (.cons (.pl rfl) (.cons (.pl rfl) (.nil)))))) (by simp [Value.oneCell']) rfl) rfl ?_
            refine WA.branch [9] (by kernel_rfl) ⟨?_, trivial⟩
            refine WI.step #[true, true, true, true, true, true, true, true, true, true, false] rfl rfl (WO.boxA (.pl rfl) rfl fun b33 => ?_)
            refine WA.take 10 #[true, true, true, true, true, true, true, true, true, true, true] rfl (by kernel_rfl) (fun _ _ => Y.assign (.pl rfl)) rfl ?_
            refine WA.done (by kernel_rfl) ?_
            refine KK.pick [0, 4, 1, 2, 3] rfl rfl ?_
            exact W.joinAt hK6 ((b33, b25, b27, b29, b31)) (by trivial) (.cons (rfl) (.nil)) (.cons (i := 0) rfl (.cons (i := 2) rfl (.nil))) (fun w hw => hw.cong (by simp [memM, row, ints, vals]))
      · -- 3 first
        refine WI.step #[true, false, true, true, true, false, true, false, false, false, false] rfl rfl (WO.make Try.underlying22 mk3 rfl (.pl rfl) (by omega) rfl fun b27 => ?_)
        refine WA.branch [1, 5, 7] (by kernel_rfl) ⟨?_, ?_, ?_, trivial⟩
        · -- 1 first
          refine WI.step #[true, true, true, true, true, false, true, false, false, false, false] rfl rfl (WO.makeMap rfl fun b25 => ?_)
          refine WA.branch [5, 7] (by kernel_rfl) ⟨?_, ?_, trivial⟩
          · -- 5 first
            refine WI.step #[true, true, true, true, true, true, true, false, false, false, false] rfl rfl (WO.make Try.underlying22 mk3 rfl (.pl rfl) (by omega) rfl fun b29 => ?_)
            refine WA.branch [7] (by kernel_rfl) ⟨?_, trivial⟩
            refine WI.step #[true, true, true, true, true, true, true, true, false, false, false] rfl rfl (WO.make Try.underlying22 mk3 rfl (.pl rfl) (by omega) rfl fun b31 => ?_)
            refine WA.take 8 #[true, true, true, true, true, true, true, true, true, false, false] rfl (by kernel_rfl) (fun _ _ => Y.build shape36 (.cons (.pl rfl) (.cons (.pl rfl) (.cons (.pl rfl) (.cons (.pl rfl) (.cons (.pl rfl) (.nil)))))) (by simp [Value.oneCell']) rfl) rfl ?_
            refine WA.branch [9] (by kernel_rfl) ⟨?_, trivial⟩
            refine WI.step #[true, true, true, true, true, true, true, true, true, true, false] rfl rfl (WO.boxA (.pl rfl) rfl fun b33 => ?_)
            refine WA.take 10 #[true, true, true, true, true, true, true, true, true, true, true] rfl (by kernel_rfl) (fun _ _ => Y.assign (.pl rfl)) rfl ?_
            refine WA.done (by kernel_rfl) ?_
            refine KK.pick [0, 3, 4, 2, 1] rfl rfl ?_
            exact W.joinAt hK6 ((b33, b25, b27, b29, b31)) (by trivial) (.cons (rfl) (.nil)) (.cons (i := 0) rfl (.cons (i := 2) rfl (.nil))) (fun w hw => hw.cong (by simp [memM, row, ints, vals]))
          · -- 7 first
            refine WI.step #[true, true, true, true, true, false, true, true, false, false, false] rfl rfl (WO.make Try.underlying22 mk3 rfl (.pl rfl) (by omega) rfl fun b31 => ?_)
            refine WA.branch [5] (by kernel_rfl) ⟨?_, trivial⟩
            refine WI.step #[true, true, true, true, true, true, true, true, false, false, false] rfl rfl (WO.make Try.underlying22 mk3 rfl (.pl rfl) (by omega) rfl fun b29 => ?_)
            refine WA.take 8 #[true, true, true, true, true, true, true, true, true, false, false] rfl (by kernel_rfl) (fun _ _ => Y.build shape36 (.cons (.pl rfl) (.cons (.pl rfl) (.cons (.pl rfl) (.cons (.pl rfl) (.cons (.pl rfl) (.nil)))))) (by simp [Value.oneCell']) rfl) rfl ?_
            refine WA.branch [9] (by kernel_rfl) ⟨?_, trivial⟩
            refine WI.step #[true, true, true, true, true, true, true, true, true, true, false] rfl rfl (WO.boxA (.pl rfl) rfl fun b33 => ?_)
            refine WA.take 10 #[true, true, true, true, true, true, true, true, true, true, true] rfl (by kernel_rfl) (fun _ _ => Y.assign (.pl rfl)) rfl ?_
            refine WA.done (by kernel_rfl) ?_
            refine KK.pick [0, 3, 4, 1, 2] rfl rfl ?_
            exact W.joinAt hK6 ((b33, b25, b27, b29, b31)) (by trivial) (.cons (rfl) (.nil)) (.cons (i := 0) rfl (.cons (i := 2) rfl (.nil))) (fun w hw => hw.cong (by simp [memM, row, ints, vals]))
        · -- 5 first
          refine WI.step #[true, false, true, true, true, true, true, false, false, false, false] rfl rfl (WO.make Try.underlying22 mk3 rfl (.pl rfl) (by omega) rfl fun b29 => ?_)
          refine WA.branch [1, 7] (by kernel_rfl) ⟨?_, ?_, trivial⟩
          · -- 1 first
            refine WI.step #[true, true, true, true, true, true, true, false, false, false, false] rfl rfl (WO.makeMap rfl fun b25 => ?_)
            refine WA.branch [7] (by kernel_rfl) ⟨?_, trivial⟩
            refine WI.step #[true, true, true, true, true, true, true, true, false, false, false] rfl rfl (WO.make Try.underlying22 mk3 rfl (.pl rfl) (by omega) rfl fun b31 => ?_)
            refine WA.take 8 #[true, true, true, true, true, true, true, true, true, false, false] rfl (by kernel_rfl) (fun _ _ => Y.build shape36 (.cons (.pl rfl) (.cons (.pl rfl) (.cons (.pl rfl) (.cons (.pl rfl) (.cons (.pl rfl) (.nil)))))) (by simp [Value.oneCell']) rfl) rfl ?_
            refine WA.branch [9] (by kernel_rfl) ⟨?_, trivial⟩
            refine WI.step #[true, true, true, true, true, true, true, true, true, true, false] rfl rfl (WO.boxA (.pl rfl) rfl fun b33 => ?_)
            refine WA.take 10 #[true, true, true, true, true, true, true, true, true, true, true] rfl (by kernel_rfl) (fun _ _ => Y.assign (.pl rfl)) rfl ?_
            refine WA.done (by kernel_rfl) ?_
            refine KK.pick [0, 2, 4, 3, 1] rfl rfl ?_
            exact W.joinAt hK6 ((b33, b25, b27, b29, b31)) (by trivial) (.cons (rfl) (.nil)) (.cons (i := 0) rfl (.cons (i := 2) rfl (.nil))) (fun w hw => hw.cong (by simp [memM, row, ints, vals]))
          · -- 7 first
            refine WI.step #[true, false, true, true, true, true, true, true, false, false, false] rfl rfl (WO.make Try.underlying22 mk3 rfl (.pl rfl) (by omega) rfl fun b31 => ?_)
            refine WA.branch [1] (by kernel_rfl) ⟨?_, trivial⟩
            refine WI.step #[true, true, true, true, true, true, true, true, false, false, false] rfl rfl (WO.makeMap rfl fun b25 => ?_)
            refine WA.take 8 #[true, true, true, true, true, true, true, true, true, false, false] rfl (by kernel_rfl) (fun _ _ => Y.build shape36 (.cons (.pl rfl) (.cons (.pl rfl) (.cons (.pl rfl) (.cons (.pl rfl) (.cons (.pl rfl) (.nil)))))) (by simp [Value.oneCell']) rfl) rfl ?_
            refine WA.branch [9] (by kernel_rfl) ⟨?_, trivial⟩
            refine WI.step #[true, true, true, true, true, true, true, true, true, true, false] rfl rfl (WO.boxA (.pl rfl) rfl fun b33 => ?_)
            refine WA.take 10 #[true, true, true, true, true, true, true, true, true, true, true] rfl (by kernel_rfl) (fun _ _ => Y.assign (.pl rfl)) rfl ?_
            refine WA.done (by kernel_rfl) ?_
            refine KK.pick [0, 1, 4, 3, 2] rfl rfl ?_
            exact W.joinAt hK6 ((b33, b25, b27, b29, b31)) (by trivial) (.cons (rfl) (.nil)) (.cons (i := 0) rfl (.cons (i := 2) rfl (.nil))) (fun w hw => hw.cong (by simp [memM, row, ints, vals]))
        · -- 7 first
          refine WI.step #[true, false, true, true, true, false, true, true, false, false, false] rfl rfl (WO.make Try.underlying22 mk3 rfl (.pl rfl) (by omega) rfl fun b31 => ?_)
          refine WA.branch [1, 5] (by kernel_rfl) ⟨?_, ?_, trivial⟩
          · -- 1 first
            refine WI.step #[true, true, true, true, true, false, true, true, false, false, false] rfl rfl (WO.makeMap rfl fun b25 => ?_)
            refine WA.branch [5] (by kernel_rfl) ⟨?_, trivial⟩
            refine WI.step #[true, true, true, true, true, true, true, true, false, false, false] rfl rfl (WO.make Try.underlying22 mk3 rfl (.pl rfl) (by omega) rfl fun b29 => ?_)
            refine WA.take 8 #[true, true, true, true, true, true, true, true, true, false, false] rfl (by kernel_rfl) (fun _ _ => Y.build shape36 (.cons (.pl rfl) (.cons (.pl rfl) (.cons (.pl rfl) (.cons (.pl rfl) (.cons (.pl rfl) (.nil)))))) (by simp [Value.oneCell']) rfl) rfl ?_
            refine WA.branch [9] (by kernel_rfl) ⟨?_, trivial⟩
            refine WI.step #[true, true, true, true, true, true, true, true, true, true, false] rfl rfl (WO.boxA (.pl rfl) rfl fun b33 => ?_)
            refine WA.take 10 #[true, true, true, true, true, true, true, true, true, true, true] rfl (by kernel_rfl) (fun _ _ => Y.assign (.pl rfl)) rfl ?_
            refine WA.done (by kernel_rfl) ?_
            refine KK.pick [0, 2, 4, 1, 3] rfl rfl ?_
            exact W.joinAt hK6 ((b33, b25, b27, b29, b31)) (by trivial) (.cons (rfl) (.nil)) (.cons (i := 0) rfl (.cons (i := 2) rfl (.nil))) (fun w hw => hw.cong (by simp [memM, row, ints, vals]))
          · -- 5 first
            refine WI.step #[true, false, true, true, true, true, true, true, false, false, false] rfl rfl (WO.make Try.underlying22 mk3 rfl (.pl rfl) (by omega) rfl fun b29 => ?_)
            refine WA.branch [1] (by kernel_rfl) ⟨?_, trivial⟩
            refine WI.step #[true, true, true, true, true, true, true, true, false, false, false] rfl rfl (WO.makeMap rfl fun b25 => ?_)
            refine WA.take 8 #[true, true, true, true, true, true, true, true, true, false, false] rfl (by kernel_rfl) (fun _ _ => Y.build shape36 (.cons (.pl rfl) (.cons (.pl rfl) (.cons (.pl rfl) (.cons (.pl rfl) (.cons (.pl rfl) (.nil)))))) (by simp [Value.oneCell']) rfl) rfl ?_
            refine WA.branch [9] (by kernel_rfl) ⟨?_, trivial⟩
            refine WI.step #[true, true, true, true, true, true, true, true, true, true, false] rfl rfl (WO.boxA (.pl rfl) rfl fun b33 => ?_)
            refine WA.take 10 #[true, true, true, true, true, true, true, true, true, true, true] rfl (by kernel_rfl) (fun _ _ => Y.assign (.pl rfl)) rfl ?_
            refine WA.done (by kernel_rfl) ?_
            refine KK.pick [0, 1, 4, 2, 3] rfl rfl ?_
            exact W.joinAt hK6 ((b33, b25, b27, b29, b31)) (by trivial) (.cons (rfl) (.nil)) (.cons (i := 0) rfl (.cons (i := 2) rfl (.nil))) (fun w hw => hw.cong (by simp [memM, row, ints, vals]))
      · -- 5 first
        refine WI.step #[true, false, true, false, true, true, true, false, false, false, false] rfl rfl (WO.make Try.underlying22 mk3 rfl (.pl rfl) (by omega) rfl fun b29 => ?_)
        refine WA.branch [1, 3, 7] (by kernel_rfl) ⟨?_, ?_, ?_, trivial⟩
        · -- 1 first
          refine WI.step #[true, true, true, false, true, true, true, false, false, false, false] rfl rfl (WO.makeMap rfl fun b25 => ?_)
          refine WA.branch [3, 7] (by kernel_rfl) ⟨?_, ?_, trivial⟩
          · -- 3 first
            refine WI.step #[true, true, true, true, true, true, true, false, false, false, false] rfl rfl (WO.make Try.underlying22 mk3 rfl (.pl rfl) (by omega) rfl fun b27 => ?_)
            refine WA.branch [7] (by kernel_rfl) ⟨?_, trivial⟩
            refine WI.step #[true, true, true, true, true, true, true, true, false, false, false] rfl rfl (WO.make Try.underlying22 mk3 rfl (.pl rfl) (by omega) rfl fun b31 => ?_)
            refine WA.take 8 #[true, true, true, true, true, true, true, true, true, false, false] rfl (by kernel_rfl) (fun _ _ => Y.build shape36 (.cons (.pl rfl) (.cons (.pl rfl) (.cons (.pl rfl) (.cons (.pl rfl) (.cons (.pl rfl) (.nil)))))) (by simp [Value.oneCell']) rfl) rfl ?_
            refine WA.branch [9] (by kernel_rfl) ⟨?_, trivial⟩
            refine WI.step #[true, true, true, true, true, true, true, true, true, true, false] rfl rfl (WO.boxA (.pl rfl) rfl fun b33 => ?_)
            refine WA.take 10 #[true, true, true, true, true, true, true, true, true, true, true] rfl (by kernel_rfl) (fun _ _ => Y.assign (.pl rfl)) rfl ?_
            refine WA.done (by kernel_rfl) ?_
            refine KK.pick [0, 3, 2, 4, 1] rfl rfl ?_
            exact W.joinAt hK6 ((b33, b25, b27, b29, b31)) (by trivial) (.cons (rfl) (.nil)) (.cons (i := 0) rfl (.cons (i := 2) rfl (.nil))) (fun w hw => hw.cong (by simp [memM, row, ints, vals]))
          · -- 7 first
            refine WI.step #[true, true, true, false, true, true, true, true, false, false, false] rfl rfl (WO.make Try.underlying22 mk3 rfl (.pl rfl) (by omega) rfl fun b31 => ?_)
            refine WA.branch [3] (by kernel_rfl) ⟨?_, trivial⟩
            refine WI.step #[true, true, true, true, true, true, true, true, false, false, false] rfl rfl (WO.make Try.underlying22 mk3 rfl (.pl rfl) (by omega) rfl fun b27 => ?_)
            refine WA.take 8 #[true, true, true, true, true, true, true, true, true, false, false] rfl (by kernel_rfl) (fun _ _ => Y.build shape36 (.cons (.pl rfl) (.cons (.pl rfl) (.cons (.pl rfl) (.cons (.pl rfl) (.cons (.pl rfl) (.nil)))))) (by simp [Value.oneCell']) rfl) rfl ?_
            refine WA.branch [9] (by kernel_rfl) ⟨?_, trivial⟩
            refine WI.step #[true, true, true, true, true, true, true, true, true, true, false] rfl rfl (WO.boxA (.pl rfl) rfl fun b33 => ?_)
            refine WA.take 10 #[true, true, true, true, true, true, true, true, true, true, true] rfl (by kernel_rfl) (fun _ _ => Y.assign (.pl rfl)) rfl ?_
            refine WA.done (by kernel_rfl) ?_
            refine KK.pick [0, 3, 1, 4, 2] rfl rfl ?_
            exact W.joinAt hK6 ((b33, b25, b27, b29, b31)) (by trivial) (.cons (rfl) (.nil)) (.cons (i := 0) rfl (.cons (i := 2) rfl (.nil))) (fun w hw => hw.cong (by simp [memM, row, ints, vals]))
        · -- 3 first
          refine WI.step #[true, false, true, true, true, true, true, false, false, false, false] rfl rfl (WO.make Try.underlying22 mk3 rfl (.pl rfl) (by omega) rfl fun b27 => ?_)
          refine WA.branch [1, 7] (by kernel_rfl) ⟨?_, ?_, trivial⟩
          · -- 1 first
            refine WI.step #[true, true, true, true, true, true, true, false, false, false, false] rfl rfl (WO.makeMap rfl fun b25 => ?_)
            refine WA.branch [7] (by kernel_rfl) ⟨?_, trivial⟩
            refine WI.step #[true, true, true, true, true, true, true, true, false, false, false] rfl rfl (WO.make Try.underlying22 mk3 rfl (.pl rfl) (by omega) rfl fun b31 => ?_)
            refine WA.take 8 #[true, true, true, true, true, true, true, true, true, false, false] rfl (by kernel_rfl) (fun _ _ => Y.build shape36 (.cons (.pl rfl) (.cons (.pl rfl) (.cons (.pl rfl) (.cons (.pl rfl) (.cons (.pl rfl) (.nil)))))) (by simp [Value.oneCell']) rfl) rfl ?_
            refine WA.branch [9] (by kernel_rfl) ⟨?_, trivial⟩
            refine WI.step #[true, true, true, true, true, true, true, true, true, true, false] rfl rfl (WO.boxA (.pl rfl) rfl fun b33 => ?_)
            refine WA.take 10 #[true, true, true, true, true, true, true, true, true, true, true] rfl (by kernel_rfl) (fun _ _ => Y.assign (.pl rfl)) rfl ?_
            refine WA.done (by kernel_rfl) ?_
            refine KK.pick [0, 2, 3, 4, 1] rfl rfl ?_
            exact W.joinAt hK6 ((b33, b25, b27, b29, b31)) (by trivial) (.cons (rfl) (.nil)) (.cons (i := 0) rfl (.cons (i := 2) rfl (.nil))) (fun w hw => hw.cong (by simp [memM, row, ints, vals]))
          · -- 7 first
            refine WI.step #[true, false, true, true, true, true, true, true, false, false, false] rfl rfl (WO.make Try.underlying22 mk3 rfl (.pl rfl) (by omega) rfl fun b31 => ?_)
            refine WA.branch [1] (by kernel_rfl) ⟨?_, trivial⟩
            refine WI.step #[true, true, true, true, true, true, true, true, false, false, false] rfl rfl (WO.makeMap rfl fun b25 => ?_)
            refine WA.take 8 #[true, true, true, true, true, true, true, true, true, false, false] rfl (by kernel_rfl) (fun _ _ => Y.build shape36 (.cons (.pl rfl) (.cons (.pl rfl) (.cons (.pl rfl) (.cons (.pl rfl) (.cons (.pl rfl) (.nil)))))) (by simp [Value.oneCell']) rfl) rfl ?_
            refine WA.branch [9] (by kernel_rfl) ⟨?_, trivial⟩
            refine WI.step #[true, true, true, true, true, true, true, true, true, true, false] rfl rfl (WO.boxA (.pl rfl) rfl fun b33 => ?_)
            refine WA.take 10 #[true, true, true, true, true, true, true, true, true, true, true] rfl (by kernel_rfl) (fun _ _ => Y.assign (.pl rfl)) rfl ?_
            refine WA.done (by kernel_rfl) ?_
            refine KK.pick [0, 1, 3, 4, 2] rfl rfl ?_
            exact W.joinAt hK6 ((b33, b25, b27, b29, b31)) (by trivial) (.cons (rfl) (.nil)) (.cons (i := 0) rfl (.cons (i := 2) rfl (.nil))) (fun w hw => hw.cong (by simp [memM, row, ints, vals]))
        · -- 7 first
          refine WI.step #[true, false, true, false, true, true, true, true, false, false, false] rfl rfl (WO.make Try.underlying22 mk3 rfl (.pl rfl) (by omega) rfl fun b31 => ?_)
          refine WA.branch [1, 3] (by kernel_rfl) ⟨?_, ?_, trivial⟩
          · -- 1 first
            refine WI.step #[true, true, true, false, true, true, true, true, false, false, false] rfl rfl (WO.makeMap rfl fun b25 => ?_)
            refine WA.branch [3] (by kernel_rfl) ⟨?_, trivial⟩
            refine WI.step #[true, true, true, true, true, true, true, true, false, false, false] rfl rfl (WO.make Try.underlying22 mk3 rfl (.pl rfl) (by omega) rfl fun b27 => ?_)
            refine WA.take 8 #[true, true, true, true, true, true, true, true, true, false, false] rfl (by kernel_rfl) (fun _ _ => Y.build shape36 (.cons (.pl rfl) (.cons (.pl rfl) (.cons (.pl rfl) (.cons (.pl rfl) (.cons (.pl rfl) (.nil)))))) (by simp [Value.oneCell']) rfl) rfl ?_
            refine WA.branch [9] (by kernel_rfl) ⟨?_, trivial⟩
            refine WI.step #[true, true, true, true, true, true, true, true, true, true, false] rfl rfl (WO.boxA (.pl rfl) rfl fun b33 => ?_)
            refine WA.take 10 #[true, true, true, true, true, true, true, true, true, true, true] rfl (by kernel_rfl) (fun _ _ => Y.assign (.pl rfl)) rfl ?_
            refine WA.done (by kernel_rfl) ?_
            refine KK.pick [0, 2, 1, 4, 3] rfl rfl ?_
            exact W.joinAt hK6 ((b33, b25, b27, b29, b31)) (by trivial) (.cons (rfl) (.nil)) (.cons (i := 0) rfl (.cons (i := 2) rfl (.nil))) (fun w hw => hw.cong (by simp [memM, row, ints, vals]))
          · -- 3 first
            refine WI.step #[true, false, true, true, true, true, true, true, false, false, false] rfl rfl (WO.make Try.underlying22 mk3 rfl (.pl rfl) (by omega) rfl fun b27 => ?_)
            refine WA.branch [1] (by kernel_rfl) ⟨?_, trivial⟩
            refine WI.step #[true, true, true, true, true, true, true, true, false, false, false] rfl rfl (WO.makeMap rfl fun b25 => ?_)
            refine WA.take 8 #[true, true, true, true, true, true, true, true, true, false, false] rfl (by kernel_rfl) (fun _ _ => Y.build shape36 (.cons (.pl rfl) (.cons (.pl rfl) (.cons (.pl rfl) (.cons (.pl rfl) (.cons (.pl rfl) (.nil)))))) (by simp [Value.oneCell']) rfl) rfl ?_
            refine WA.branch [9] (by kernel_rfl) ⟨?_, trivial⟩
            refine WI.step #[true, true, true, true, true, true, true, true, true, true, false] rfl rfl (WO.boxA (.pl rfl) rfl fun b33 => ?_)
            refine WA.take 10 #[true, true, true, true, true, true, true, true, true, true, true] rfl (by kernel_rfl) (fun _ _ => Y.assign (.pl rfl)) rfl ?_
            refine WA.done (by kernel_rfl) ?_
            refine KK.pick [0, 1, 2, 4, 3] rfl rfl ?_
            exact W.joinAt hK6 ((b33, b25, b27, b29, b31)) (by trivial) (.cons (rfl) (.nil)) (.cons (i := 0) rfl (.cons (i := 2) rfl (.nil))) (fun w hw => hw.cong (by simp [memM, row, ints, vals]))
      · -- 7 first
        refine WI.step #[true, false, true, false, true, false, true, true, false, false, false] rfl rfl (WO.make Try.underlying22 mk3 rfl (.pl rfl) (by omega) rfl fun b31 => ?_)
        refine WA.branch [1, 3, 5] (by kernel_rfl) ⟨?_, ?_, ?_, trivial⟩
        · -- 1 first
          refine WI.step #[true, true, true, false, true, false, true, true, false, false, false] rfl rfl (WO.makeMap rfl fun b25 => ?_)
          refine WA.branch [3, 5] (by kernel_rfl) ⟨?_, ?_, trivial⟩
          · -- 3 first
            refine WI.step #[true, true, true, true, true, false, true, true, false, false, false] rfl rfl (WO.make Try.underlying22 mk3 rfl (.pl rfl) (by omega) rfl fun b27 => ?_)
            refine WA.branch [5] (by kernel_rfl) ⟨?_, trivial⟩
            refine WI.step #[true, true, true, true, true, true, true, true, false, false, false] rfl rfl (WO.make Try.underlying22 mk3 rfl (.pl rfl) (by omega) rfl fun b29 => ?_)
            refine WA.take 8 #[true, true, true, true, true, true, true, true, true, false, false] rfl (by kernel_rfl) (fun _ _ => Y.build shape36 (.cons (.pl rfl) (.cons (.pl rfl) (.cons (.pl rfl) (.cons (.pl rfl) (.cons (.pl rfl) (.nil)))))) (by simp [Value.oneCell']) rfl) rfl ?_
            refine WA.branch [9] (by kernel_rfl) ⟨?_, trivial⟩
            refine WI.step #[true, true, true, true, true, true, true, true, true, true, false] rfl rfl (WO.boxA (.pl rfl) rfl fun b33 => ?_)
            refine WA.take 10 #[true, true, true, true, true, true, true, true, true, true, true] rfl (by kernel_rfl) (fun _ _ => Y.assign (.pl rfl)) rfl ?_
            refine WA.done (by kernel_rfl) ?_
            refine KK.pick [0, 3, 2, 1, 4] rfl rfl ?_
            exact W.joinAt hK6 ((b33, b25, b27, b29, b31)) (by trivial) (.cons (rfl) (.nil)) (.cons (i := 0) rfl (.cons (i := 2) rfl (.nil))) (fun w hw => hw.cong (by simp [memM, row, ints, vals]))
          · -- 5 first
            refine WI.step #[true, true, true, false, true, true, true, true, false, false, false] rfl rfl (WO.make Try.underlying22 mk3 rfl (.pl rfl) (by omega) rfl fun b29 => ?_)
            refine WA.branch [3] (by kernel_rfl) ⟨?_, trivial⟩
            refine WI.step #[true, true, true, true, true, true, true, true, false, false, false] rfl rfl (WO.make Try.underlying22 mk3 rfl (.pl rfl) (by omega) rfl fun b27 => ?_)
            refine WA.take 8 #[true, true, true, true, true, true, true, true, true, false, false] rfl (by kernel_rfl) (fun _ _ => Y.build shape36 (.cons (.pl rfl) (.cons (.pl rfl) (.cons (.pl rfl) (.cons (.pl rfl) (.cons (.pl rfl) (.nil)))))) (by simp [Value.oneCell']) rfl) rfl ?_
            refine WA.branch [9] (by kernel_rfl) ⟨?_, trivial⟩
            refine WI.step #[true, true, true, true, true, true, true, true, true, true, false] rfl rfl (WO.boxA (.pl rfl) rfl fun b33 => ?_)
            refine WA.take 10 #[true, true, true, true, true, true, true, true, true, true, true] rfl (by kernel_rfl) (fun _ _ => Y.assign (.pl rfl)) rfl ?_
            refine WA.done (by kernel_rfl) ?_
            refine KK.pick [0, 3, 1, 2, 4] rfl rfl ?_
            exact W.joinAt hK6 ((b33, b25, b27, b29, b31)) (by trivial) (.cons (rfl) (.nil)) (.cons (i := 0) rfl (.cons (i := 2) rfl (.nil))) (fun w hw => hw.cong (by simp [memM, row, ints, vals]))
        · -- 3 first
          refine WI.step #[true, false, true, true, true, false, true, true, false, false, false] rfl rfl (WO.make Try.underlying22 mk3 rfl (.pl rfl) (by omega) rfl fun b27 => ?_)
          refine WA.branch [1, 5] (by kernel_rfl) ⟨?_, ?_, trivial⟩
          · -- 1 first
            refine WI.step #[true, true, true, true, true, false, true, true, false, false, false] rfl rfl (WO.makeMap rfl fun b25 => ?_)
            refine WA.branch [5] (by kernel_rfl) ⟨?_, trivial⟩
            refine WI.step #[true, true, true, true, true, true, true, true, false, false, false] rfl rfl (WO.make Try.underlying22 mk3 rfl (.pl rfl) (by omega) rfl fun b29 => ?_)
            refine WA.take 8 #[true, true, true, true, true, true, true, true, true, false, false] rfl (by kernel_rfl) (fun _ _ => Y.build shape36 (.cons (.pl rfl) (.cons (.pl rfl) (.cons (.pl rfl) (.cons (.pl rfl) (.cons (.pl rfl) (.nil)))))) (by simp [Value.oneCell']) rfl) rfl ?_
            refine WA.branch [9] (by kernel_rfl) ⟨?_, trivial⟩
            refine WI.step #[true, true, true, true, true, true, true, true, true, true, false] rfl rfl (WO.boxA (.pl rfl) rfl fun b33 => ?_)
            refine WA.take 10 #[true, true, true, true, true, true, true, true, true, true, true] rfl (by kernel_rfl) (fun _ _ => Y.assign (.pl rfl)) rfl ?_
            refine WA.done (by kernel_rfl) ?_
            refine KK.pick [0, 2, 3, 1, 4] rfl rfl ?_
            exact W.joinAt hK6 ((b33, b25, b27, b29, b31)) (by trivial) (.cons (rfl) (.nil)) (.cons (i := 0) rfl (.cons (i := 2) rfl (.nil))) (fun w hw => hw.cong (by simp [memM, row, ints, vals]))
          · -- 5 first
            refine WI.step #[true, false, true, true, true, true, true, true, false, false, false] rfl rfl (WO.make Try.underlying22 mk3 rfl (.pl rfl) (by omega) rfl fun b29 => ?_)
            refine WA.branch [1] (by kernel_rfl) ⟨?_, trivial⟩
            refine WI.step #[true, true, true, true, true, true, true, true, false, false, false] rfl rfl (WO.makeMap rfl fun b25 => ?_)
            refine WA.take 8 #[true, true, true, true, true, true, true, true, true, false, false] rfl (by kernel_rfl) (fun _ _ => Y.build shape36 (.cons (.pl rfl) (.cons (.pl rfl) (.cons (.pl rfl) (.cons (.pl rfl) (.cons (.pl rfl) (.nil)))))) (by simp [Value.oneCell']) rfl) rfl ?_
            refine WA.branch [9] (by kernel_rfl) ⟨?_, trivial⟩
            refine WI.step #[true, true, true, true, true, true, true, true, true, true, false] rfl rfl (WO.boxA (.pl rfl) rfl fun b33 => ?_)
            refine WA.take 10 #[true, true, true, true, true, true, true, true, true, true, true] rfl (by kernel_rfl) (fun _ _ => Y.assign (.pl rfl)) rfl ?_
            refine WA.done (by kernel_rfl) ?_
            refine KK.pick [0, 1, 3, 2, 4] rfl rfl ?_
            exact W.joinAt hK6 ((b33, b25, b27, b29, b31)) (by trivial) (.cons (rfl) (.nil)) (.cons (i := 0) rfl (.cons (i := 2) rfl (.nil))) (fun w hw => hw.cong (by simp [memM, row, ints, vals]))
        · -- 5 first
          refine WI.step #[true, false, true, false, true, true, true, true, false, false, false] rfl rfl (WO.make Try.underlying22 mk3 rfl (.pl rfl) (by omega) rfl fun b29 => ?_)
          refine WA.branch [1, 3] (by kernel_rfl) ⟨?_, ?_, trivial⟩
          · -- 1 first
            refine WI.step #[true, true, true, false, true, true, true, true, false, false, false] rfl rfl (WO.makeMap rfl fun b25 => ?_)
            refine WA.branch [3] (by kernel_rfl) ⟨?_, trivial⟩
            refine WI.step #[true, true, true, true, true, true, true, true, false, false, false] rfl rfl (WO.make Try.underlying22 mk3 rfl (.pl rfl) (by omega) rfl fun b27 => ?_)
            refine WA.take 8 #[true, true, true, true, true, true, true, true, true, false, false] rfl (by kernel_rfl) (fun _ _ => Y.build shape36 (.cons (.pl rfl) (.cons (.pl rfl) (.cons (.pl rfl) (.cons (.pl rfl) (.cons (.pl rfl) (.nil)))))) (by simp [Value.oneCell']) rfl) rfl ?_
            refine WA.branch [9] (by kernel_rfl) ⟨?_, trivial⟩
            refine WI.step #[true, true, true, true, true, true, true, true, true, true, false] rfl rfl (WO.boxA (.pl rfl) rfl fun b33 => ?_)
            refine WA.take 10 #[true, true, true, true, true, true, true, true, true, true, true] rfl (by kernel_rfl) (fun _ _ => Y.assign (.pl rfl)) rfl ?_
            refine WA.done (by kernel_rfl) ?_
            refine KK.pick [0, 2, 1, 3, 4] rfl rfl ?_
            exact W.joinAt hK6 ((b33, b25, b27, b29, b31)) (by trivial) (.cons (rfl) (.nil)) (.cons (i := 0) rfl (.cons (i := 2) rfl (.nil))) (fun w hw => hw.cong (by simp [memM, row, ints, vals]))
          · -- 3 first
            refine WI.step #[true, false, true, true, true, true, true, true, false, false, false] rfl rfl (WO.make Try.underlying22 mk3 rfl (.pl rfl) (by omega) rfl fun b27 => ?_)
            refine WA.branch [1] (by kernel_rfl) ⟨?_, trivial⟩
            refine WI.step #[true, true, true, true, true, true, true, true, false, false, false] rfl rfl (WO.makeMap rfl fun b25 => ?_)
            refine WA.take 8 #[true, true, true, true, true, true, true, true, true, false, false] rfl (by kernel_rfl) (fun _ _ => Y.build shape36 (.cons (.pl rfl) (.cons (.pl rfl) (.cons (.pl rfl) (.cons (.pl rfl) (.cons (.pl rfl) (.nil)))))) (by simp [Value.oneCell']) rfl) rfl ?_
            refine WA.branch [9] (by kernel_rfl) ⟨?_, trivial⟩
            refine WI.step #[true, true, true, true, true, true, true, true, true, true, false] rfl rfl (WO.boxA (.pl rfl) rfl fun b33 => ?_)
            refine WA.take 10 #[true, true, true, true, true, true, true, true, true, true, true] rfl (by kernel_rfl) (fun _ _ => Y.assign (.pl rfl)) rfl ?_
            refine WA.done (by kernel_rfl) ?_
            refine KK.pick [0, 1, 2, 3, 4] rfl rfl ?_
            exact W.joinAt hK6 ((b33, b25, b27, b29, b31)) (by trivial) (.cons (rfl) (.nil)) (.cons (i := 0) rfl (.cons (i := 2) rfl (.nil))) (fun w hw => hw.cong (by simp [memM, row, ints, vals]))
    · -- behind it
      rintro ⟨bm, bp, bs, bx, bo⟩ _
      refine W.seq fun K7 hK7 => ?_
      -- region 6: agree.go:91
      refine W.seqR fun Q8 hQ8 => ?_
      refine WL.q (Y.move (.pl rfl)) rfl ?_
      refine WL.q (Y.nilCheck (.pl rfl)) rfl ?_
      refine WL.q ((by first | exact Y.fieldAddr0 (off := 5) (ft := 22) Try.underlying36 rfl cells22 (.pl rfl) | exact Y.fieldAddr (off := 5) (ft := 22) Try.underlying36 rfl cells22 (.pl rfl))) rfl ?_
      refine WL.q (Y.load Try.underlying22 rfl (.pl rfl) (fun w hw => by first | exact cell_lit (hw.obj (i := 0) rfl) rfl)) rfl ?_
      refine WL.q (Y.len Try.underlying22 (.pl rfl)) rfl ?_
      refine WL.q (Y.move (.pl rfl)) rfl ?_
      refine WL.next hQ8 (.cons (i := 0) rfl (.cons (i := 2) rfl (.cons (i := 10) rfl (.cons (i := 38) rfl (.cons (i := 39) rfl (.nil)))))) ?_
      refine W.block ?_
      refine W.loop (γ := Nat) (Em := fun k => [(39, .int .i64 (k : Int))]) (M := fun k => memM bm bp bs bx bo vs.length (.slice a1 vs.length c1) ⟨[], 0, List.replicate vs.length 0, List.replicate vs.length 0, List.replicate k (-1) ++ List.replicate (vs.length - k) 0⟩) (I := fun k => k ≤ vs.length) (m := fun k => vs.length - k) (0) (Nat.zero_le _) (.cons rfl (.nil)) (.cons (i := 0) rfl (.cons (i := 2) rfl (.cons (i := 10) rfl (.cons (i := 38) rfl (.nil))))) (fun w hw => hw) (fun k hI K9 hK9 => ?_)
      -- region 7: agree.go:91
      refine W.seqR fun Q10 hQ10 => ?_
      refine WL.q (Y.lss (.pl rfl) (.pl rfl)) rfl ?_
      refine WL.next hQ10 (.cons (i := 0) rfl (.cons (i := 2) rfl (.cons (i := 10) rfl (.cons (i := 38) rfl (.cons (i := 39) rfl (.cons (i := 40) rfl (.nil))))))) ?_
      refine W.seq fun K11 hK11 => ?_
      refine W.cond (.pl rfl) (fun hC1 => ?_) (fun hC1 => ?_)
      · -- C1 yes
        try simp only [Bool.or_eq_true, Bool.and_eq_true, Bool.not_eq_true', decide_eq_true_eq, decide_eq_false_iff_not, Bool.or_eq_false_iff, Bool.and_eq_false_iff, Bool.not_eq_false', Bool.not_eq_eq_eq_not, Bool.not_true, Bool.not_false] at hC1
        have hk : k < vs.length := by omega
        refine W.skip ?_
        refine W.go hK11 (.cons (i := 0) rfl (.cons (i := 2) rfl (.cons (i := 10) rfl (.cons (i := 38) rfl (.cons (i := 39) rfl (.nil)))))) ?_
        refine W.seq fun K12 hK12 => ?_
        refine W.block ?_
        -- region 8: agree.go:91
        refine W.seqR fun Q13 hQ13 => ?_
        refine WL.q (Y.move (.pl rfl)) rfl ?_
        refine WL.q (Y.assign (.pl rfl)) rfl ?_
        refine WL.next hQ13 (.cons (i := 0) rfl (.cons (i := 2) rfl (.cons (i := 10) rfl (.cons (i := 11) rfl (.cons (i := 38) rfl (.cons (i := 39) rfl (.nil))))))) ?_
        -- region 9: agree.go:92
        refine W.reg ?_
        refine WL.q (Y.move (.pl rfl)) rfl ?_
        refine WL.q (Y.nilCheck (.pl rfl)) rfl ?_
        refine WL.q ((by first | exact Y.fieldAddr0 (off := 5) (ft := 22) Try.underlying36 rfl cells22 (.pl rfl) | exact Y.fieldAddr (off := 5) (ft := 22) Try.underlying36 rfl cells22 (.pl rfl))) rfl ?_
        refine WL.q (Y.load Try.underlying22 rfl (.pl rfl) (fun w hw => by first | exact cell_lit (hw.obj (i := 0) rfl) rfl)) rfl ?_
        refine WL.q (Y.move (.pl rfl)) rfl ?_
        refine WL.q ((by first | exact Y.own1N Try.underlying22 cells3 (.pl rfl) (.pl rfl) (by omega) | exact Y.own1Z Try.underlying22 cells3 (.pl rfl) (.pl rfl) (by omega))) rfl ?_
        refine WL.step (WO.store cells3 (.pl rfl) (.pl rfl) rfl (i := 4) rfl (by rw [ints_size]; simp; omega) ?_)
        refine WL.nil ?_
        refine W.go hK12 (.cons (i := 0) rfl (.cons (i := 2) rfl (.cons (i := 10) rfl (.cons (i := 38) rfl (.cons (i := 39) rfl (.nil)))))) ?_
        -- region 10: agree.go:91
        refine W.reg ?_
        refine WL.q (Y.add (.pl rfl) (.pl rfl) (by omega)) rfl ?_
        refine WL.q (Y.move (.pl rfl)) rfl ?_
        refine WL.nil ?_
        exact W.again hK9 (k + 1) (by first | trivial | omega) (by omega) (.cons (rfl) (.nil)) (.cons (i := 0) rfl (.cons (i := 2) rfl (.cons (i := 10) rfl (.cons (i := 38) rfl (.nil))))) (fun w hw => hw.cong (by simp only [memM, row, List.set_cons_zero, List.set_cons_succ, ints_set, rep_set _ _ (by assumption : k < vs.length)]))
      · -- C1 no
        try simp only [Bool.or_eq_true, Bool.and_eq_true, Bool.not_eq_true', decide_eq_true_eq, decide_eq_false_iff_not, Bool.or_eq_false_iff, Bool.and_eq_false_iff, Bool.not_eq_false', Bool.not_eq_eq_eq_not, Bool.not_true, Bool.not_false] at hC1
        obtain rfl : k = vs.length := by omega
        refine W.exit ?_
        refine W.go hK7 (.cons (i := 0) rfl (.cons (i := 2) rfl (.cons (i := 10) rfl (.nil)))) ?_
        -- region 11: agree.go:94
        refine W.seqR fun Q14 hQ14 => ?_
        refine WL.q (Y.move (.pl rfl)) rfl ?_
        refine WL.q (Y.fn (.cons (.pl rfl) (.nil))) rfl ?_
        refine WL.q (Y.assign (.pl rfl)) rfl ?_
        refine WL.next hQ14 (.cons (i := 0) rfl (.cons (i := 2) rfl (.cons (i := 10) rfl (.cons (i := 12) rfl (.nil))))) ?_
        refine W.join (γ := Unit) (Em := fun _ => [(12, .func (.func 12) [Value.pointer (some ⟨bm, 0, none⟩)].toArray #[])]) (M := fun _ => memM bm bp bs bx bo vs.length (.slice a1 vs.length c1) (initF vs.length)) (I := fun _ => True) (.cons (i := 2) rfl (.cons (i := 10) rfl (.nil))) (fun K15 hK15 => ?_) ?_
        · -- up to J0
          -- region 12: agree.go:95
          refine W.seqR fun Q16 hQ16 => ?_
          refine WL.q (Y.move (.pl rfl)) rfl ?_
          refine WL.next hQ16 (.cons (i := 2) rfl (.cons (i := 10) rfl (.cons (i := 12) rfl (.cons (i := 51) rfl (.nil))))) ?_
          refine W.block ?_
          -- region 13: agree.go:96
          refine W.seqR fun Q17 hQ17 => ?_
          refine WL.q (Y.eql (.pl rfl) (.pl rfl)) rfl ?_
          refine WL.q (Y.assign (.pl rfl)) rfl ?_
          refine WL.next hQ17 (.cons (i := 2) rfl (.cons (i := 10) rfl (.cons (i := 12) rfl (.cons (i := 51) rfl (.cons (i := 52) rfl (.nil)))))) ?_
          refine W.cond (.pl rfl) (fun hC2 => ?_) (fun hC2 => ?_)
          · -- C2 yes
            try simp only [Bool.or_eq_true, Bool.and_eq_true, Bool.not_eq_true', decide_eq_true_eq, decide_eq_false_iff_not, Bool.or_eq_false_iff, Bool.and_eq_false_iff, Bool.not_eq_false', Bool.not_eq_eq_eq_not, Bool.not_true, Bool.not_false] at hC2
            exact absurd hC2 (by decide)
          · -- C2 no
            try simp only [Bool.or_eq_true, Bool.and_eq_true, Bool.not_eq_true', decide_eq_true_eq, decide_eq_false_iff_not, Bool.or_eq_false_iff, Bool.and_eq_false_iff, Bool.not_eq_false', Bool.not_eq_eq_eq_not, Bool.not_true, Bool.not_false] at hC2
            -- region 15: agree.go:98
            refine W.seqR fun Q18 hQ18 => ?_
            refine WL.q (Y.eql (.pl rfl) (.pl rfl)) rfl ?_
            refine WL.q (Y.assign (.pl rfl)) rfl ?_
            refine WL.next hQ18 (.cons (i := 2) rfl (.cons (i := 10) rfl (.cons (i := 12) rfl (.cons (i := 56) rfl (.nil))))) ?_
            refine W.cond (.pl rfl) (fun hC3 => ?_) (fun hC3 => ?_)
            · -- C3 yes
              try simp only [Bool.or_eq_true, Bool.and_eq_true, Bool.not_eq_true', decide_eq_true_eq, decide_eq_false_iff_not, Bool.or_eq_false_iff, Bool.and_eq_false_iff, Bool.not_eq_false', Bool.not_eq_eq_eq_not, Bool.not_true, Bool.not_false] at hC3
              exact absurd hC3 (by decide)
            · -- C3 no
              try simp only [Bool.or_eq_true, Bool.and_eq_true, Bool.not_eq_true', decide_eq_true_eq, decide_eq_false_iff_not, Bool.or_eq_false_iff, Bool.and_eq_false_iff, Bool.not_eq_false', Bool.not_eq_eq_eq_not, Bool.not_true, Bool.not_false] at hC3
              refine W.skip ?_
              exact W.joinAt hK15 (()) (by first | trivial | omega) (.cons (rfl) (.nil)) (.cons (i := 2) rfl (.cons (i := 10) rfl (.nil))) (fun w hw => hw.cong (by simp [memM, initF]))
        · -- behind J0
          intro _ _
          refine W.seq fun K19 hK19 => ?_
          -- region 17: agree.go:101
          refine W.seqR fun Q20 hQ20 => ?_
          refine WL.q (Y.move (.pl rfl)) rfl ?_
          refine WL.q (Y.len Try.underlying22 (.pl rfl)) rfl ?_
          refine WL.q (Y.move (.pl rfl)) rfl ?_
          refine WL.next hQ20 (.cons (i := 10) rfl (.cons (i := 12) rfl (.cons (i := 60) rfl (.cons (i := 61) rfl (.cons (i := 62) rfl (.nil)))))) ?_
          refine W.block ?_
          refine W.loop (γ := Nat) (Em := fun k => [(62, .int .i64 (k : Int))]) (M := fun q => memM bm bp bs bx bo vs.length (.slice a1 vs.length c1) (runF 1 vs ls q)) (I := fun q => q ≤ ls.length) (m := fun q => ls.length - q) (0) (Nat.zero_le _) (.cons rfl (.nil)) (.cons (i := 10) rfl (.cons (i := 12) rfl (.cons (i := 60) rfl (.cons (i := 61) rfl (.nil))))) (fun w hw => hw.cong (by simp [memM, runF, initF])) (fun q hI K21 hK21 => ?_)
          -- region 18: agree.go:101
          refine W.seqR fun Q22 hQ22 => ?_
          refine WL.q (Y.lss (.pl rfl) (.pl rfl)) rfl ?_
          refine WL.next hQ22 (.cons (i := 10) rfl (.cons (i := 12) rfl (.cons (i := 60) rfl (.cons (i := 61) rfl (.cons (i := 62) rfl (.cons (i := 63) rfl (.nil))))))) ?_
          refine W.seq fun K23 hK23 => ?_
          refine W.cond (.pl rfl) (fun hC4 => ?_) (fun hC4 => ?_)
          · -- C4 yes
            try simp only [Bool.or_eq_true, Bool.and_eq_true, Bool.not_eq_true', decide_eq_true_eq, decide_eq_false_iff_not, Bool.or_eq_false_iff, Bool.and_eq_false_iff, Bool.not_eq_false', Bool.not_eq_eq_eq_not, Bool.not_true, Bool.not_false] at hC4
            have hwq := hall q (by omega)
            refine W.skip ?_
            refine W.go hK23 (.cons (i := 10) rfl (.cons (i := 12) rfl (.cons (i := 60) rfl (.cons (i := 61) rfl (.cons (i := 62) rfl (.nil)))))) ?_
            refine W.seq fun K24 hK24 => ?_
            refine W.block ?_
            -- region 19: agree.go:101
            refine W.seqR fun Q25 hQ25 => ?_
            refine WL.q (Y.elem1N Try.underlying22 cells3 (.pl rfl) (.pl rfl) (by omega) (hlc q (by omega)).1) rfl ?_
            refine WL.q (Y.load Try.underlying3 rfl (.pl rfl) (fun w hw => hw.roW (hlc q (by omega)).2)) rfl ?_
            refine WL.q (Y.assign (.pl rfl)) rfl ?_
            refine WL.next hQ25 (.cons (i := 10) rfl (.cons (i := 12) rfl (.cons (i := 14) rfl (.cons (i := 60) rfl (.cons (i := 61) rfl (.cons (i := 62) rfl (.nil))))))) ?_
            -- region 20: agree.go:102
            refine W.seqR fun Q26 hQ26 => ?_
            refine WL.q (Y.move (.pl rfl)) rfl ?_
            refine WL.q (Y.nilCheck (.pl rfl)) rfl ?_
            refine WL.q ((by first | exact Y.fieldAddr0 (off := 5) (ft := 22) Try.underlying36 rfl cells22 (.pl rfl) | exact Y.fieldAddr (off := 5) (ft := 22) Try.underlying36 rfl cells22 (.pl rfl))) rfl ?_
            refine WL.q (Y.load Try.underlying22 rfl (.pl rfl) (fun w hw => by first | exact cell_lit (hw.obj (i := 0) rfl) rfl)) rfl ?_
            refine WL.q (Y.move (.pl rfl)) rfl ?_
            refine WL.q (Y.own1Z Try.underlying22 cells3 (.pl rfl) (.pl rfl) (by omega)) rfl ?_
            refine WL.q (Y.load Try.underlying3 rfl (.pl rfl) (fun w hw => hw.row (i := 4) (k := ls[q].toNat) (xs := (runF 1 vs ls q).out) rfl (by have := (run_ok (algo := 1) (vs := vs) (ls := ls) (q := q) hn8 (by omega) hl3).out; omega))) rfl ?_
            refine WL.q (Y.lss (.pl rfl) (.pl rfl)) rfl ?_
            refine WL.next hQ26 (.cons (i := 10) rfl (.cons (i := 12) rfl (.cons (i := 14) rfl (.cons (i := 60) rfl (.cons (i := 61) rfl (.cons (i := 62) rfl (.cons (i := 73) rfl (.nil)))))))) ?_
            refine W.cond (.pl rfl) (fun hC5 => ?_) (fun hC5 => ?_)
            · -- C5 yes
              try simp only [Bool.or_eq_true, Bool.and_eq_true, Bool.not_eq_true', decide_eq_true_eq, decide_eq_false_iff_not, Bool.or_eq_false_iff, Bool.and_eq_false_iff, Bool.not_eq_false', Bool.not_eq_eq_eq_not, Bool.not_true, Bool.not_false] at hC5
              have hou : (runF 1 vs ls q).out.getD ls[q].toNat 0 < 0 := by rw [getD_get (by have := (run_ok (algo := 1) (vs := vs) (ls := ls) (q := q) hn8 (by omega) hl3).out; omega)]; exact hC5
              -- region 21: agree.go:103
              refine W.reg ?_
              refine WL.q (Y.move (.pl rfl)) rfl ?_
              refine WL.q (Y.move (.pl rfl)) rfl ?_
              refine WL.step (WO.callV (fun _ : Unit => .tuple #[]) (fun _ => memM bm bp bs bx bo vs.length (.slice a1 vs.length c1) (turnF 1 vs (runF 1 vs ls q) ls[q].toNat)) (fun _ => True) isGo12 (.pl rfl) (.cons (.pl rfl) (.nil)) rfl (fun w hw => (cas_ok hw h1o (run_ok (q := q) hn8 (by omega) hl3) (by omega)).mono fun e w2 ⟨h3, h4⟩ => ⟨(), trivial, h3, h4⟩) ?_)
              intro _ _
              refine WL.nil ?_
              refine W.go hK24 (.cons (i := 10) rfl (.cons (i := 12) rfl (.cons (i := 60) rfl (.cons (i := 61) rfl (.cons (i := 62) rfl (.nil)))))) ?_
              -- region 22: agree.go:101
              refine W.reg ?_
              refine WL.q (Y.add (.pl rfl) (.pl rfl) (by omega)) rfl ?_
              refine WL.q (Y.move (.pl rfl)) rfl ?_
              refine WL.nil ?_
              exact W.again hK21 (q + 1) (by first | trivial | omega) (by omega) (.cons (rfl) (.nil)) (.cons (i := 10) rfl (.cons (i := 12) rfl (.cons (i := 60) rfl (.cons (i := 61) rfl (.nil))))) (fun w hw => hw.cong (by rw [runF_succ (by omega)]; simp only [stepF, if_pos hou]))
            · -- C5 no
              try simp only [Bool.or_eq_true, Bool.and_eq_true, Bool.not_eq_true', decide_eq_true_eq, decide_eq_false_iff_not, Bool.or_eq_false_iff, Bool.and_eq_false_iff, Bool.not_eq_false', Bool.not_eq_eq_eq_not, Bool.not_true, Bool.not_false] at hC5
              have hou : ¬ (runF 1 vs ls q).out.getD ls[q].toNat 0 < 0 := by rw [getD_get (by have := (run_ok (algo := 1) (vs := vs) (ls := ls) (q := q) hn8 (by omega) hl3).out; omega)]; exact hC5
              refine W.skip ?_
              refine W.go hK24 (.cons (i := 10) rfl (.cons (i := 12) rfl (.cons (i := 60) rfl (.cons (i := 61) rfl (.cons (i := 62) rfl (.nil)))))) ?_
              -- region 22: agree.go:101
              refine W.reg ?_
              refine WL.q (Y.add (.pl rfl) (.pl rfl) (by omega)) rfl ?_
              refine WL.q (Y.move (.pl rfl)) rfl ?_
              refine WL.nil ?_
              exact W.again hK21 (q + 1) (by first | trivial | omega) (by omega) (.cons (rfl) (.nil)) (.cons (i := 10) rfl (.cons (i := 12) rfl (.cons (i := 60) rfl (.cons (i := 61) rfl (.nil))))) (fun w hw => hw.cong (by rw [runF_succ (by omega)]; simp only [stepF, if_neg hou]))
          · -- C4 no
            try simp only [Bool.or_eq_true, Bool.and_eq_true, Bool.not_eq_true', decide_eq_true_eq, decide_eq_false_iff_not, Bool.or_eq_false_iff, Bool.and_eq_false_iff, Bool.not_eq_false', Bool.not_eq_eq_eq_not, Bool.not_true, Bool.not_false] at hC4
            obtain rfl : q = ls.length := by omega
            refine W.exit ?_
            refine W.go hK19 (.cons (i := 10) rfl (.nil)) ?_
            -- region 23: agree.go:106
            refine W.seqR fun Q27 hQ27 => ?_
            refine WL.q (Y.move (.pl rfl)) rfl ?_
            refine WL.q (Y.nilCheck (.pl rfl)) rfl ?_
            refine WL.q ((by first | exact Y.fieldAddr0 (off := 5) (ft := 22) Try.underlying36 rfl cells22 (.pl rfl) | exact Y.fieldAddr (off := 5) (ft := 22) Try.underlying36 rfl cells22 (.pl rfl))) rfl ?_
            refine WL.q (Y.load Try.underlying22 rfl (.pl rfl) (fun w hw => by first | exact cell_lit (hw.obj (i := 0) rfl) rfl)) rfl ?_
            refine WL.q (Y.assign (.pl rfl)) rfl ?_
            refine WL.q (Y.assign (.pl rfl)) rfl ?_
            refine WL.next hQ27 (.cons (i := 6) rfl (.cons (i := 7) rfl (.nil))) ?_
            refine W.ret2 (fn := Try.f7) Try.results7 rfl rfl (fun _ _ h => h) (fun w hw => ?_)
            refine hR _ _ ?_
            exact ⟨bo, trivial, rfl, by rw [playF_eq]; exact hw.pick [4] rfl⟩

theorem play_tic (v1 v2 : Value) (vs ls : List Int) (w : World) (h1 : IntsIn w v1 vs) (h2 : IntsIn w v2 ls) (hl1 : vs.length ≤ maxLen) (hl2 : ls.length ≤ maxLen) (he : checkF 2 vs ls = 0) :
    Made Try.prog 7 [.int .i64 2, v1, v2] w (fun b => .tuple #[.slice (some ⟨b, 0, none⟩) vs.length vs.length, .int .i64 0]) (fun b => [row b (playF 2 vs ls)]) (fun _ => True) := by
  obtain ⟨hn1, hn8, hl3, hall⟩ := check_zero he
  refine W.enter (n := 82) Try.func7 rfl rfl Sub.refl (by simp) (St.start w) fun R hR => ?_
  have h1o := h1.old
  have h1i := h1
  have h2o := h2
  obtain ⟨a1, c1, rfl, hcap1, hv⟩ := h1
  obtain ⟨a2, c2, rfl, hcap2, hlc⟩ := h2
  -- region 0: agree.go:85
  refine W.seqR fun Q1 hQ1 => ?_
  refine WL.q (Y.assign (.pl rfl)) rfl ?_
  refine WL.q (Y.assign (.pl rfl)) rfl ?_
  refine WL.next hQ1 (.cons (i := 0) rfl (.cons (i := 1) rfl (.cons (i := 2) rfl (.nil)))) ?_
  refine W.seq fun K2 hK2 => ?_
  -- region 1: agree.go:86
  refine W.seqR fun Q3 hQ3 => ?_
  refine WL.q (Y.move (.pl rfl)) rfl ?_
  refine WL.q (Y.move (.pl rfl)) rfl ?_
  refine WL.q (Y.move (.pl rfl)) rfl ?_
  refine WL.step (WO.callP isGo11 (.cons (.pl rfl) (.cons (.pl rfl) (.cons (.pl rfl) (.nil)))) rfl (fun w hw => check_ok 2 _ _ vs ls w (h1i.mono hw) (h2o.mono hw) hl1 hl2) ?_)
  refine WL.q (Y.assign (.pl rfl)) rfl ?_
  refine WL.next hQ3 (.cons (i := 0) rfl (.cons (i := 1) rfl (.cons (i := 2) rfl (.cons (i := 8) rfl (.nil))))) ?_
  -- region 2: agree.go:86
  refine W.seqR fun Q4 hQ4 => ?_
  refine WL.q (Y.move (.pl rfl)) rfl ?_
  refine WL.q (Y.neq (.pl rfl) (.pl rfl)) rfl ?_
  refine WL.next hQ4 (.cons (i := 0) rfl (.cons (i := 1) rfl (.cons (i := 2) rfl (.cons (i := 8) rfl (.cons (i := 20) rfl (.nil)))))) ?_
  refine W.cond (.pl rfl) (fun hC0 => ?_) (fun hC0 => ?_)
  · -- C0 yes
    try simp only [Bool.or_eq_true, Bool.and_eq_true, Bool.not_eq_true', decide_eq_true_eq, decide_eq_false_iff_not, Bool.or_eq_false_iff, Bool.and_eq_false_iff, Bool.not_eq_false', Bool.not_eq_eq_eq_not, Bool.not_true, Bool.not_false] at hC0
    exact absurd he hC0
  · -- C0 no
    try simp only [Bool.or_eq_true, Bool.and_eq_true, Bool.not_eq_true', decide_eq_true_eq, decide_eq_false_iff_not, Bool.or_eq_false_iff, Bool.and_eq_false_iff, Bool.not_eq_false', Bool.not_eq_eq_eq_not, Bool.not_true, Bool.not_false] at hC0
    refine W.skip ?_
    refine W.go hK2 (.cons (i := 0) rfl (.cons (i := 1) rfl (.cons (i := 2) rfl (.nil)))) ?_
    -- region 4: agree.go:89
    refine W.seqR fun Q5 hQ5 => ?_
    refine WL.q (Y.move (.pl rfl)) rfl ?_
    refine WL.q (Y.len Try.underlying22 (.pl rfl)) rfl ?_
    refine WL.q (Y.assign (.pl rfl)) rfl ?_
    refine WL.next hQ5 (.cons (i := 0) rfl (.cons (i := 1) rfl (.cons (i := 2) rfl (.cons (i := 9) rfl (.nil))))) ?_
    -- region 5: agree.go:90
    refine W.seqAJ (γ := Nat × Nat × Nat × Nat × Nat) (fun x => [(10, .pointer (some ⟨x.1, 0, none⟩))]) (fun x => memM x.1 x.2.1 x.2.2.1 x.2.2.2.1 x.2.2.2.2 vs.length (.slice a1 vs.length c1) ⟨[], 0, List.replicate vs.length 0, List.replicate vs.length 0, List.replicate vs.length 0⟩) (fun _ => True) (by kernel_rfl) (.cons (i := 0) rfl (.cons (i := 2) rfl (.nil))) (fun K6 hK6 => ?_) ?_
    · -- every order
      refine WA.take 0 #[true, false, false, false, false, false, false, false, false, false, false] rfl (by kernel_rfl) (fun _ _ => Y.move (.pl rfl)) rfl ?_
      refine WA.take 2 #[true, false, true, false, false, false, false, false, false, false, false] rfl (by kernel_rfl) (fun _ _ => Y.move (.pl rfl)) rfl ?_
      refine WA.take 4 #[true, false, true, false, true, false, false, false, false, false, false] rfl (by kernel_rfl) (fun _ _ => Y.move (.pl rfl)) rfl ?_
      refine WA.take 6 #[true, false, true, false, true, false, true, false, false, false, false] rfl (by kernel_rfl) (fun _ _ => Y.move (.pl rfl)) rfl ?_
      refine WA.branch [1, 3, 5, 7] (by kernel_rfl) ⟨?_, ?_, ?_, ?_, trivial⟩
      · -- 1 first
        refine WI.step #[true, true, true, false, true, false, true, false, false, false, false] rfl rfl (WO.makeMap rfl fun b25 => ?_)
        refine WA.branch [3, 5, 7] (by kernel_rfl) ⟨?_, ?_, ?_, trivial⟩
        · -- 3 first
          refine WI.step #[true, true, true, true, true, false, true, false, false, false, false] rfl rfl (WO.make Try.underlying22 mk3 rfl (.pl rfl) (by omega) rfl fun b27 => ?_)
          refine WA.branch [5, 7] (by kernel_rfl) ⟨?_, ?_, trivial⟩
          · -- 5 first
            refine WI.step #[true, true, true, true, true, true, true, false, false, false, false] rfl rfl (WO.make Try.underlying22 mk3 rfl (.pl rfl) (by omega) rfl fun b29 => ?_)
            refine WA.branch [7] (by kernel_rfl) ⟨?_, trivial⟩
            refine WI.step #[true, true, true, true, true, true, true, true, false, false, false] rfl rfl (WO.make Try.underlying22 mk3 rfl (.pl rfl) (by omega) rfl fun b31 => ?_)
            refine WA.take 8 #[true, true, true, true, true, true, true, true, true, false, false] rfl (by kernel_rfl) (fun _ _ => Y.build shape36 (.cons (.pl rfl) (.cons (.pl rfl) (.cons (.pl rfl) (.cons (.pl rfl) (.cons (.pl rfl) (.nil)))))) (by simp [Value.oneCell']) rfl) rfl ?_
            refine WA.branch [9] (by kernel_rfl) ⟨?_, trivial⟩
            refine WI.step #[true, true, true, true, true, true, true, true, true, true, false] rfl rfl (WO.boxA (.pl rfl) rfl fun b33 => ?_)
            refine WA.take 10 #[true, true, true, true, true, true, true, true, true, true, true] rfl (by kernel_rfl) (fun _ _ => Y.assign (.pl rfl)) rfl ?_
            refine WA.done (by kernel_rfl) ?_
            refine KK.pick [0, 4, 3, 2, 1] rfl rfl ?_
            exact W.joinAt hK6 ((b33, b25, b27, b29, b31)) (by trivial) (.cons (rfl) (.nil)) (.cons (i := 0) rfl (.cons (i := 2) rfl (.nil))) (fun w hw => hw.cong (by simp [memM, row, ints, vals]))
          · -- 7 first
            refine WI.step #[true, true, true, true, true, false, true, true, false, false, false] rfl rfl (WO.make Try.underlying22 mk3 rfl (.pl rfl) (by omega) rfl fun b31 => ?_)
            refine WA.branch [5] (by kernel_rfl) ⟨?_, trivial⟩
            refine WI.step #[true, true, true, true, true, true, true, true, false, false, false] rfl rfl (WO.make Try.underlying22 mk3 rfl (.pl rfl) (by omega) rfl fun b29 => ?_)
            refine WA.take 8 #[true, true, true, true, true, true, true, true, true, false, false] rfl (by kernel_rfl) (fun _ _ => Y.build shape36 (.cons (.pl rfl) (.cons (.pl rfl) (.cons (.pl rfl) (.cons (.pl rfl) (.cons (.pl rfl) (.nil)))))) (by simp [Value.oneCell']) rfl) rfl ?_
            refine WA.branch [9] (by kernel_rfl) ⟨?_, trivial⟩
            refine WI.step #[true, true, true, true, true, true, true, true, true, true, false] rfl rfl (WO.boxA (.pl rfl) rfl fun b33 => ?_)
            refine WA.take 10 #[true, true, true, true, true, true, true, true, true, true, true] rfl (by kernel_rfl) (fun _ _ => Y.assign (.pl rfl)) rfl ?_
            refine WA.done (by kernel_rfl) ?_
            refine KK.pick [0, 4, 3, 1, 2] rfl rfl ?_
            exact W.joinAt hK6 ((b33, b25, b27, b29, b31)) (by trivial) (.cons (rfl) (.nil)) (.cons (i := 0) rfl (.cons (i := 2) rfl (.nil))) (fun w hw => hw.cong (by simp [memM, row, ints, vals]))
        · -- 5 first
          refine WI.step #[true, true, true, false, true, true, true, false, false, false, false] rfl rfl (WO.make Try.underlying22 mk3 rfl (.pl rfl) (by omega) rfl fun b29 => ?_)
          refine WA.branch [3, 7] (by kernel_rfl) ⟨?_, ?_, trivial⟩
          · -- 3 first
            refine WI.step #[true, true, true, true, true, true, true, false, false, false, false] rfl rfl (WO.make Try.underlying22 mk3 rfl (.pl rfl) (by omega) rfl fun b27 => ?_)
            refine WA.branch [7] (by kernel_rfl) ⟨?_, trivial⟩
            refine WI.step #[true, true, true, true, true, true, true, true, false, false, false] rfl rfl (WO.make Try.underlying22 mk3 rfl (.pl rfl) (by omega) rfl fun b31 => ?_)
            refine WA.take 8 #[true, true, true, true, true, true, true, true, true, false, false] rfl (by kernel_rfl) (fun _ _ => Y.build shape36 (.cons (.pl rfl) (.cons (.pl rfl) (.cons (.pl rfl) (.cons (.pl rfl) (.cons (.pl rfl) (.nil)))))) (by simp [Value.oneCell']) rfl) rfl ?_
            refine WA.branch [9] (by kernel_rfl) ⟨?_, trivial⟩
            refine WI.step #[true, true, true, true, true, true, true, true, true, true, false] rfl rfl (WO.boxA (.pl rfl) rfl fun b33 => ?_)
            refine WA.take 10 #[true, true, true, true, true, true, true, true, true, true, true] rfl (by kernel_rfl) (fun _ _ => Y.assign (.pl rfl)) rfl ?_
            refine WA.done (by kernel_rfl) ?_
            refine KK.pick [0, 4, 2, 3, 1] rfl rfl ?_
            exact W.joinAt hK6 ((b33, b25, b27, b29, b31)) (by trivial) (.cons (rfl) (.nil)) (.cons (i := 0) rfl (.cons (i := 2) rfl (.nil))) (fun w hw => hw.cong (by simp [memM, row, ints, vals]))
          · -- 7 first
            refine WI.step #[true, true, true, false, true, true, true, true, false, false, false] rfl rfl (WO.make Try.underlying22 mk3 rfl (.pl rfl) (by omega) rfl fun b31 => ?_)
            refine WA.branch [3] (by kernel_rfl) ⟨?_, trivial⟩
            refine WI.step #[true, true, true, true, true, true, true, true, false, false, false] rfl rfl (WO.make Try.underlying22 mk3 rfl (.pl rfl) (by omega) rfl fun b27 => ?_)
            refine WA.take 8 #[true, true, true, true, true, true, true, true, true, false, false] rfl (by kernel_rfl) (fun _ _ => Y.build shape36 (.cons (.pl rfl) (.cons (.pl rfl) (.cons (.pl rfl) (.cons (.pl rfl) (.cons (.pl rfl) (.nil)))))) (by simp [Value.oneCell']) rfl) rfl ?_
            refine WA.branch [9] (by kernel_rfl) ⟨?_, trivial⟩
            refine WI.step #[true, true, true, true, true, true, true, true, true, true, false] rfl rfl (WO.boxA (.pl rfl) rfl fun b33 => ?_)
            refine WA.take 10 #[true, true, true, true, true, true, true, true, true, true, true] rfl (by kernel_rfl) (fun _ _ => Y.assign (.pl rfl)) rfl ?_
            refine WA.done (by kernel_rfl) ?_
            refine KK.pick [0, 4, 1, 3, 2] rfl rfl ?_
            exact W.joinAt hK6 ((b33, b25, b27, b29, b31)) (by trivial) (.cons (rfl) (.nil)) (.cons (i := 0) rfl (.cons (i := 2) rfl (.nil))) (fun w hw => hw.cong (by simp [memM, row, ints, vals]))
        · -- 7 first
          refine WI.step #[true, true, true, false, true, false, true, true, false, false, false] rfl rfl (WO.make Try.underlying22 mk3 rfl (.pl rfl) (by omega) rfl fun b31 => ?_)
          refine WA.branch [3, 5] (by kernel_rfl) ⟨?_, ?_, trivial⟩
          · -- 3 first
            refine WI.step #[true, true, true, true, true, false, true, true, false, false, false] rfl rfl (WO.make Try.underlying22 mk3 rfl (.pl rfl) (by omega) rfl fun b27 => ?_)
            refine WA.branch [5] (by kernel_rfl) ⟨?_, trivial⟩
            refine WI.step #[true, true, true, true, true, true, true, true, false, false, false] rfl rfl (WO.make Try.underlying22 mk3 rfl (.pl rfl) (by omega) rfl fun b29 => ?_)
            refine WA.take 8 #[true, true, true, true, true, true, true, true, true, false, false] rfl (by kernel_rfl) (fun _ _ => Y.build shape36 (.cons (.pl rfl) (.cons (.pl rfl) (.cons (.pl rfl) (.cons (.pl rfl) (.cons (.pl rfl) (.nil)))))) (by simp [Value.oneCell']) rfl) rfl ?_
            refine WA.branch [9] (by kernel_rfl) ⟨?_, trivial⟩
            refine WI.step #[true, true, true, true, true, true, true, true, true, true, false] rfl rfl (WO.boxA (.pl rfl) rfl fun b33 => ?_)
            refine WA.take 10 #[true, true, true, true, true, true, true, true, true, true, true] rfl (by kernel_rfl) (fun _ _ => Y.assign (.pl rfl)) rfl ?_
            refine WA.done (by kernel_rfl) ?_
            refine KK.pick [0, 4, 2, 1, 3] rfl rfl ?_
            exact W.joinAt hK6 ((b33, b25, b27, b29, b31)) (by trivial) (.cons (rfl) (.nil)) (.cons (i := 0) rfl (.cons (i := 2) rfl (.nil))) (fun w hw => hw.cong (by simp [memM, row, ints, vals]))
          · -- 5 first
            refine WI.step #[true, true, true, false, true, true, true, true, false, false, false] rfl rfl (WO.make Try.underlying22 mk3 rfl (.pl rfl) (by omega) rfl fun b29 => ?_)
            refine WA.branch [3] (by kernel_rfl) ⟨?_, trivial⟩
            refine WI.step #[true, true, true, true, true, true, true, true, false, false, false] rfl rfl (WO.make Try.underlying22 mk3 rfl (.pl rfl) (by omega) rfl fun b27 => ?_)
            refine WA.take 8 #[true, true, true, true, true, true, true, true, true, false, false] rfl (by kernel_rfl) (fun _ _ => Y.build shape36 (.cons (.pl rfl) (.cons (.pl rfl) (.cons (.pl rfl) (.cons (.pl rfl) (.cons (.pl rfl) (.nil)))))) (by simp [Value.oneCell']) rfl) rfl ?_
            refine WA.branch [9] (by kernel_rfl) ⟨?_, trivial⟩
            refine WI.step #[true, true, true, true, true, true, true, true, true, true, false] rfl rfl (WO.boxA (.pl rfl) rfl fun b33 => ?_)
            refine WA.take 10 #[true, true, true, true, true, true, true, true, true, true, true] rfl (by kernel_rfl) (fun _ _ => Y.assign (.pl rfl)) rfl ?_
            refine WA.done (by kernel_rfl) ?_
            refine KK.pick [0, 4, 1, 2, 3] rfl rfl ?_
            exact W.joinAt hK6 ((b33, b25, b27, b29, b31)) (by trivial) (.cons (rfl) (.nil)) (.cons (i := 0) rfl (.cons (i := 2) rfl (.nil))) (fun w hw => hw.cong (by simp [memM, row, ints, vals]))
      · -- 3 first
        refine WI.step #[true, false, true, true, true, false, true, false, false, false, false] rfl rfl (WO.make Try.underlying22 mk3 rfl (.pl rfl) (by omega) rfl fun b27 => ?_)
        refine WA.branch [1, 5, 7] (by kernel_rfl) ⟨?_, ?_, ?_, trivial⟩
        · -- 1 first
          refine WI.step #[true, true, true, true, true, false, true, false, false, false, false] rfl rfl (WO.makeMap rfl fun b25 => ?_)
          refine WA.branch [5, 7] (by kernel_rfl) ⟨?_, ?_, trivial⟩
          · -- 5 first
            refine WI.step #[true, true, true, true, true, true, true, false, false, false, false] rfl rfl (WO.make Try.underlying22 mk3 rfl (.pl rfl) (by omega) rfl fun b29 => ?_)
            refine WA.branch [7] (by kernel_rfl) ⟨?_, trivial⟩
            refine WI.step #[true, true, true, true, true, true, true, true, false, false, false] rfl rfl (WO.make Try.underlying22 mk3 rfl (.pl rfl) (by omega) rfl fun b31 => ?_)
            refine WA.take 8 #[true, true, true, true, true, true, true, true, true, false, false] rfl (by kernel_rfl) (fun _ _ => Y.build shape36 (.cons (.pl rfl) (.cons (.pl rfl) (.cons (.pl rfl) (.cons (.pl rfl) (.cons (.pl rfl) (.nil)))))) (by simp [Value.oneCell']) rfl) rfl ?_
            refine WA.branch [9] (by kernel_rfl) ⟨?_, trivial⟩
            refine WI.step #[true, true, true, true, true, true, true, true, true, true, false] rfl rfl (WO.boxA (.pl rfl) rfl fun b33 => ?_)
            refine WA.take 10 #[true, true, true, true, true, true, true, true, true, true, true] rfl (by kernel_rfl) (fun _ _ => Y.assign (.pl rfl)) rfl ?_
            refine WA.done (by kernel_rfl) ?_
            refine KK.pick [0, 3, 4, 2, 1] rfl rfl ?_
            exact W.joinAt hK6 ((b33, b25, b27, b29, b31)) (by trivial) (.cons (rfl) (.nil)) (.cons (i := 0) rfl (.cons (i := 2) rfl (.nil))) (fun w hw => hw.cong (by simp [memM, row, ints, vals]))
          · -- 7 first
            refine WI.step #[true, true, true, true, true, false, true, true, false, false, false] rfl rfl (WO.make Try.underlying22 mk3 rfl (.pl rfl) (by omega) rfl fun b31 => ?_)
            refine WA.branch [5] (by kernel_rfl) ⟨?_, trivial⟩
            refine WI.step #[true, true, true, true, true, true, true, true, false, false, false] rfl rfl (WO.make Try.underlying22 mk3 rfl (.pl rfl) (by omega) rfl fun b29 => ?_)
            refine WA.take 8 #[true, true, true, true, true, true, true, true, true, false, false] rfl (by kernel_rfl) (fun _ _ => Y.build shape36 (.cons (.pl rfl) (.cons (.pl rfl) (.cons (.pl rfl) (.cons (.pl rfl) (.cons (.pl rfl) (.nil)))))) (by simp [Value.oneCell']) rfl) rfl ?_
            refine WA.branch [9] (by kernel_rfl) ⟨?_, trivial⟩
            refine WI.step #[true, true, true, true, true, true, true, true, true, true, false] rfl rfl (WO.boxA (.pl rfl) rfl fun b33 => ?_)
            refine WA.take 10 #[true, true, true, true, true, true, true, true, true, true, true] rfl (by kernel_rfl) (fun _ _ => Y.assign (.pl rfl)) rfl ?_
            refine WA.done (by kernel_rfl) ?_
            refine KK.pick [0, 3, 4, 1, 2] rfl rfl ?_
            exact W.joinAt hK6 ((b33, b25, b27, b29, b31)) (by trivial) (.cons (rfl) (.nil)) (.cons (i := 0) rfl (.cons (i := 2) rfl (.nil))) (fun w hw => hw.cong (by simp [memM, row, ints, vals]))
        · -- 5 first
          refine WI.step #[true, false, true, true, true, true, true, false, false, false, false] rfl rfl (WO.make Try.underlying22 mk3 rfl (.pl rfl) (by omega) rfl fun b29 => ?_)
          refine WA.branch [1, 7] (by kernel_rfl) ⟨?_, ?_, trivial⟩
          · -- 1 first
            refine WI.step #[true, true, true, true, true, true, true, false, false, false, false] rfl rfl (WO.makeMap rfl fun b25 => ?_)
            refine WA.branch [7] (by kernel_rfl) ⟨?_, trivial⟩
            refine WI.step #[true, true, true, true, true, true, true, true, false, false, false] rfl rfl (WO.make Try.underlying22 mk3 rfl (.pl rfl) (by omega) rfl fun b31 => ?_)
            refine WA.take 8 #[true, true, true, true, true, true, true, true, true, false, false] rfl (by kernel_rfl) (fun _ _ => Y.build shape36 (.cons (.pl rfl) (.cons (.pl rfl) (.cons (.pl rfl) (.cons (.pl rfl) (.cons (.pl rfl) (.nil)))))) (by simp [Value.oneCell']) rfl) rfl ?_
            refine WA.branch [9] (by kernel_rfl) ⟨?_, trivial⟩
            refine WI.step #[true, true, true, true, true, true, true, true, true, true, false] rfl rfl (WO.boxA (.pl rfl) rfl fun b33 => ?_)
            refine WA.take 10 #[true, true, true, true, true, true, true, true, true, true, true] rfl (by kernel_rfl) (fun _ _ => Y.assign (.pl rfl)) rfl ?_
            refine WA.done (by kernel_rfl) ?_
            refine KK.pick [0, 2, 4, 3, 1] rfl rfl ?_
            exact W.joinAt hK6 ((b33, b25, b27, b29, b31)) (by trivial) (.cons (rfl) (.nil)) (.cons (i := 0) rfl (.cons (i := 2) rfl (.nil))) (fun w hw => hw.cong (by simp [memM, row, ints, vals]))
          · -- 7 first
            refine WI.step #[true, false, true, true, true, true, true, true, false, false, false] rfl rfl (WO.make Try.underlying22 mk3 rfl (.pl rfl) (by omega) rfl fun b31 => ?_)
            refine WA.branch [1] (by kernel_rfl) ⟨?_, trivial⟩
            refine WI.step #[true, true, true, true, true, true, true, true, false, false, false] rfl rfl (WO.makeMap rfl fun b25 => ?_)
            refine WA.take 8 #[true, true, true, true, true, true, true, true, true, false, false] rfl (by kernel_rfl) (fun _ _ => Y.build shape36 (.cons (.pl rfl) (.cons (.pl rfl) (.cons (.pl rfl) (.cons (.pl rfl) (.cons (.pl rfl) (.nil)))))) (by simp [Value.oneCell']) rfl) rfl ?_
            refine WA.branch [9] (by kernel_rfl) ⟨?_, trivial⟩
            refine WI.step #[true, true, true, true, true, true, true, true, true, true, false] rfl rfl (WO.boxA (.pl rfl) rfl fun b33 => ?_)
            refine WA.take 10 #[true, true, true, true, true, true, true, true, true, true, true] rfl (by kernel_rfl) (fun _ _ => Y.assign (.pl rfl)) rfl ?_
            refine WA.done (by kernel_rfl) ?_
            refine KK.pick [0, 1, 4, 3, 2] rfl rfl ?_
            exact W.joinAt hK6 ((b33, b25, b27, b29, b31)) (by trivial) (.cons (rfl) (.nil)) (.cons (i := 0) rfl (.cons (i := 2) rfl (.nil))) (fun w hw => hw.cong (by simp [memM, row, ints, vals]))
        · -- 7 first
          refine WI.step #[true, false, true, true, true, false, true, true, false, false, false] rfl rfl (WO.make Try.underlying22 mk3 rfl (.pl rfl) (by omega) rfl fun b31 => ?_)
          refine WA.branch [1, 5] (by kernel_rfl) ⟨?_, ?_, trivial⟩
          · -- 1 first
            refine WI.step #[true, true, true, true, true, false, true, true, false, false, false] rfl rfl (WO.makeMap rfl fun b25 => ?_)
            refine WA.branch [5] (by kernel_rfl) ⟨?_, trivial⟩
            refine WI.step #[true, true, true, true, true, true, true, true, false, false, false] rfl rfl (WO.make Try.underlying22 mk3 rfl (.pl rfl) (by omega) rfl fun b29 => ?_)
            refine WA.take 8 #[true, true, true, true, true, true, true, true, true, false, false] rfl (by kernel_rfl) (fun _ _ => Y.build shape36 (.cons (.pl rfl) (.cons (.pl rfl) (.cons (.pl rfl) (.cons (.pl rfl) (.cons (.pl rfl) (.nil)))))) (by simp [Value.oneCell']) rfl) rfl ?_
            refine WA.branch [9] (by kernel_rfl) ⟨?_, trivial⟩
            refine WI.step #[true, true, true, true, true, true, true, true, true, true, false] rfl rfl (WO.boxA (.pl rfl) rfl fun b33 => ?_)
            refine WA.take 10 #[true, true, true, true, true, true, true, true, true, true, true] rfl (by kernel_rfl) (fun _ _ => Y.assign (.pl rfl)) rfl ?_
            refine WA.done (by kernel_rfl) ?_
            refine KK.pick [0, 2, 4, 1, 3] rfl rfl ?_
            exact W.joinAt hK6 ((b33, b25, b27, b29, b31)) (by trivial) (.cons (rfl) (.nil)) (.cons (i := 0) rfl (.cons (i := 2) rfl (.nil))) (fun w hw => hw.cong (by simp [memM, row, ints, vals]))
          · -- 5 first
            refine WI.step #[true, false, true, true, true, true, true, true, false, false, false] rfl rfl (WO.make Try.underlying22 mk3 rfl (.pl rfl) (by omega) rfl fun b29 => ?_)
            refine WA.branch [1] (by kernel_rfl) ⟨?_, trivial⟩
            refine WI.step #[true, true, true, true, true, true, true, true, false, false, false] rfl rfl (WO.makeMap rfl fun b25 => ?_)
            refine WA.take 8 #[true, true, true, true, true, true, true, true, true, false, false] rfl (by kernel_rfl) (fun _ _ => Y.build shape36 (.cons (.pl rfl) (.cons (.pl rfl) (.cons (.pl rfl) (.cons (.pl rfl) (.cons (.pl rfl) (.nil)))))) (by simp [Value.oneCell']) rfl) rfl ?_
            refine WA.branch [9] (by kernel_rfl) ⟨?_, trivial⟩
            refine WI.step #[true, true, true, true, true, true, true, true, true, true, false] rfl rfl (WO.boxA (.pl rfl) rfl fun b33 => ?_)
            refine WA.take 10 #[true, true, true, true, true, true, true, true, true, true, true] rfl (by kernel_rfl) (fun _ _ => Y.assign (.pl rfl)) rfl ?_
            refine WA.done (by kernel_rfl) ?_
            refine KK.pick [0, 1, 4, 2, 3] rfl rfl ?_
            exact W.joinAt hK6 ((b33, b25, b27, b29, b31)) (by trivial) (.cons (rfl) (.nil)) (.cons (i := 0) rfl (.cons (i := 2) rfl (.nil))) (fun w hw => hw.cong (by simp [memM, row, ints, vals]))
      · -- 5 first
        refine WI.step #[true, false, true, false, true, true, true, false, false, false, false] rfl rfl (WO.make Try.underlying22 mk3 rfl (.pl rfl) (by omega) rfl fun b29 => ?_)
        refine WA.branch [1, 3, 7] (by kernel_rfl) ⟨?_, ?_, ?_, trivial⟩
        · -- 1 first
          refine WI.step #[true, true, true, false, true, true, true, false, false, false, false] rfl rfl (WO.makeMap rfl fun b25 => ?_)
          refine WA.branch [3, 7] (by kernel_rfl) ⟨?_, ?_, trivial⟩
          · -- 3 first
            refine WI.step #[true, true, true, true, true, true, true, false, false, false, false] rfl rfl (WO.make Try.underlying22 mk3 rfl (.pl rfl) (by omega) rfl fun b27 => ?_)
            refine WA.branch [7] (by kernel_rfl) ⟨?_, trivial⟩
            refine WI.step #[true, true, true, true, true, true, true, true, false, false, false] rfl rfl (WO.make Try.underlying22 mk3 rfl (.pl rfl) (by omega) rfl fun b31 => ?_)
            refine WA.take 8 #[true, true, true, true, true, true, true, true, true, false, false] rfl (by kernel_rfl) (fun _ _ => Y.build shape36 (.cons (.pl rfl) (.cons (.pl rfl) (.cons (.pl rfl) (.cons (.pl rfl) (.cons (.pl rfl) (.nil)))))) (by simp [Value.oneCell']) rfl) rfl ?_
            refine WA.branch [9] (by kernel_rfl) ⟨?_, trivial⟩
            refine WI.step #[true, true, true, true, true, true, true, true, true, true, false] rfl rfl (WO.boxA (.pl rfl) rfl fun b33 => ?_)
            refine WA.take 10 #[true, true, true, true, true, true, true, true, true, true, true] rfl (by kernel_rfl) (fun _ _ => Y.assign (.pl rfl)) rfl ?_
            refine WA.done (by kernel_rfl) ?_
            refine KK.pick [0, 3, 2, 4, 1] rfl rfl ?_
            exact W.joinAt hK6 ((b33, b25, b27, b29, b31)) (by trivial) (.cons (rfl) (.nil)) (.cons (i := 0) rfl (.cons (i := 2) rfl (.nil))) (fun w hw => hw.cong (by simp [memM, row, ints, vals]))
          · -- 7 first
            refine WI.step #[true, true, true, false, true, true, true, true, false, false, false] rfl rfl (WO.make Try.underlying22 mk3 rfl (.pl rfl) (by omega) rfl fun b31 => ?_)
            refine WA.branch [3] (by kernel_rfl) ⟨?_, trivial⟩
            refine WI.step #[true, true, true, true, true, true, true, true, false, false, false] rfl rfl (WO.make Try.underlying22 mk3 rfl (.pl rfl) (by omega) rfl fun b27 => ?_)
            refine WA.take 8 #[true, true, true, true, true, true, true, true, true, false, false] rfl (by kernel_rfl) (fun _ _ => Y.build shape36 (.cons (.pl rfl) (.cons (.pl rfl) (.cons (.pl rfl) (.cons (.pl rfl) (.cons (.pl rfl) (.nil)))))) (by simp [Value.oneCell']) rfl) rfl ?_
            refine WA.branch [9] (by kernel_rfl) ⟨?_, trivial⟩
            refine WI.step #[true, true, true, true, true, true, true, true, true, true, false] rfl rfl (WO.boxA (.pl rfl) rfl fun b33 => ?_)
            refine WA.take 10 #[true, true, true, true, true, true, true, true, true, true, true] rfl (by kernel_rfl) (fun _ _ => Y.assign (.pl rfl)) rfl ?_
            refine WA.done (by kernel_rfl) ?_
            refine KK.pick [0, 3, 1, 4, 2] rfl rfl ?_
            exact W.joinAt hK6 ((b33, b25, b27, b29, b31)) (by trivial) (.cons (rfl) (.nil)) (.cons (i := 0) rfl (.cons (i := 2) rfl (.nil))) (fun w hw => hw.cong (by simp [memM, row, ints, vals]))
        · -- 3 first
          refine WI.step #[true, false, true, true, true, true, true, false, false, false, false] rfl rfl (WO.make Try.underlying22 mk3 rfl (.pl rfl) (by omega) rfl fun b27 => ?_)
          refine WA.branch [1, 7] (by kernel_rfl) ⟨?_, ?_, trivial⟩
          · -- 1 first
            refine WI.step #[true, true, true, true, true, true, true, false, false, false, false] rfl rfl (WO.makeMap rfl fun b25 => ?_)
            refine WA.branch [7] (by kernel_rfl) ⟨?_, trivial⟩
            refine WI.step #[true, true, true, true, true, true, true, true, false, false, false] rfl rfl (WO.make Try.underlying22 mk3 rfl (.pl rfl) (by omega) rfl fun b31 => ?_)
            refine WA.take 8 #[true, true, true, true, true, true, true, true, true, false, false] rfl (by kernel_rfl) (fun _ _ => Y.build shape36 (.cons (.pl rfl) (.cons (.pl rfl) (.cons (.pl rfl) (.cons (.pl rfl) (.cons (.pl rfl) (.nil)))))) (by simp [Value.oneCell']) rfl) rfl ?_
            refine WA.branch [9] (by kernel_rfl) ⟨?_, trivial⟩
            refine WI.step #[true, true, true, true, true, true, true, true, true, true, false] rfl rfl (WO.boxA (.pl rfl) rfl fun b33 => ?_)
            refine WA.take 10 #[true, true, true, true, true, true, true, true, true, true, true] rfl (by kernel_rfl) (fun _ _ => Y.assign (.pl rfl)) rfl ?_
            refine WA.done (by kernel_rfl) ?_
            refine KK.pick [0, 2, 3, 4, 1] rfl rfl ?_
            exact W.joinAt hK6 ((b33, b25, b27, b29, b31)) (by trivial) (.cons (rfl) (.nil)) (.cons (i := 0) rfl (.cons (i := 2) rfl (.nil))) (fun w hw => hw.cong (by simp [memM, row, ints, vals]))
          · -- 7 first
            refine WI.step #[true, false, true, true, true, true, true, true, false, false, false] rfl rfl (WO.make Try.underlying22 mk3 rfl (.pl rfl) (by omega) rfl fun b31 => ?_)
            refine WA.branch [1] (by kernel_rfl) ⟨?_, trivial⟩
            refine WI.step #[true, true, true, true, true, true, true, true, false, false, false] rfl rfl (WO.makeMap rfl fun b25 => ?_)
            refine WA.take 8 #[true, true, true, true, true, true, true, true, true, false, false] rfl (by kernel_rfl) (fun _ _ => Y.build shape36 (.cons (.pl rfl) (.cons (.pl rfl) (.cons (.pl rfl) (.cons (.pl rfl) (.cons (.pl rfl) (.nil)))))) (by simp [Value.oneCell']) rfl) rfl ?_
            refine WA.branch [9] (by kernel_rfl) ⟨?_, trivial⟩
            refine WI.step #[true, true, true, true, true, true, true, true, true, true, false] rfl rfl (WO.boxA (.pl rfl) rfl fun b33 => ?_)
            refine WA.take 10 #[true, true, true, true, true, true, true, true, true, true, true] rfl (by kernel_rfl) (fun _ _ => Y.assign (.pl rfl)) rfl ?_
            refine WA.done (by kernel_rfl) ?_
            refine KK.pick [0, 1, 3, 4, 2] rfl rfl ?_
            exact W.joinAt hK6 ((b33, b25, b27, b29, b31)) (by trivial) (.cons (rfl) (.nil)) (.cons (i := 0) rfl (.cons (i := 2) rfl (.nil))) (fun w hw => hw.cong (by simp [memM, row, ints, vals]))
        · -- 7 first
          refine WI.step #[true, false, true, false, true, true, true, true, false, false, false] rfl rfl (WO.make Try.underlying22 mk3 rfl (.pl rfl) (by omega) rfl fun b31 => ?_)
          refine WA.branch [1, 3] (by kernel_rfl) ⟨?_, ?_, trivial⟩
          · -- 1 first
            refine WI.step #[true, true, true, false, true, true, true, true, false, false, false] rfl rfl (WO.makeMap rfl fun b25 => ?_)
            refine WA.branch [3] (by kernel_rfl) ⟨?_, trivial⟩
            refine WI.step #[true, true, true, true, true, true, true, true, false, false, false] rfl rfl (WO.make Try.underlying22 mk3 rfl (.pl rfl) (by omega) rfl fun b27 => ?_)
            refine WA.take 8 #[true, true, true, true, true, true, true, true, true, false, false] rfl (by kernel_rfl) (fun _ _ => Y.build shape36 (.cons (.pl rfl) (.cons (.pl rfl) (.cons (.pl rfl) (.cons (.pl rfl) (.cons (.pl rfl) (.nil)))))) (by simp [Value.oneCell']) rfl) rfl ?_
            refine WA.branch [9] (by kernel_rfl) ⟨?_, trivial⟩
            refine WI.step #[true, true, true, true, true, true, true, true, true, true, false] rfl rfl (WO.boxA (.pl rfl) rfl fun b33 => ?_)
            refine WA.take 10 #[true, true, true, true, true, true, true, true, true, true, true] rfl (by kernel_rfl) (fun _ _ => Y.assign (.pl rfl)) rfl ?_
            refine WA.done (by kernel_rfl) ?_
            refine KK.pick [0, 2, 1, 4, 3] rfl rfl ?_
            exact W.joinAt hK6 ((b33, b25, b27, b29, b31)) (by trivial) (.cons (rfl) (.nil)) (.cons (i := 0) rfl (.cons (i := 2) rfl (.nil))) (fun w hw => hw.cong (by simp [memM, row, ints, vals]))
          · -- 3 first
            refine WI.step #[true, false, true, true, true, true, true, true, false, false, false] rfl rfl (WO.make Try.underlying22 mk3 rfl (.pl rfl) (by omega) rfl fun b27 => ?_)
            refine WA.branch [1] (by kernel_rfl) ⟨?_, trivial⟩
            refine WI.step #[true, true, true, true, true, true, true, true, false, false, false] rfl rfl (WO.makeMap rfl fun b25 => ?_)
            refine WA.take 8 #[true, true, true, true, true, true, true, true, true, false, false] rfl (by kernel_rfl) (fun _ _ => Y.build shape36 (.cons (.pl rfl) (.cons (.pl rfl) (.cons (.pl rfl) (.cons (.pl rfl) (.cons (.pl rfl) (.nil)))))) (by simp [Value.oneCell']) rfl) rfl ?_
            refine WA.branch [9] (by kernel_rfl) ⟨?_, trivial⟩
            refine WI.step #[true, true, true, true, true, true, true, true, true, true, false] rfl rfl (WO.boxA (.pl rfl) rfl fun b33 => ?_)
            refine WA.take 10 #[true, true, true, true, true, true, true, true, true, true, true] rfl (by kernel_rfl) (fun _ _ => Y.assign (.pl rfl)) rfl ?_
            refine WA.done (by kernel_rfl) ?_
            refine KK.pick [0, 1, 2, 4, 3] rfl rfl ?_
            exact W.joinAt hK6 ((b33, b25, b27, b29, b31)) (by trivial) (.cons (rfl) (.nil)) (.cons (i := 0) rfl (.cons (i := 2) rfl (.nil))) (fun w hw => hw.cong (by simp [memM, row, ints, vals]))
      · -- 7 first
        refine WI.step #[true, false, true, false, true, false, true, true, false, false, false] rfl rfl (WO.make Try.underlying22 mk3 rfl (.pl rfl) (by omega) rfl fun b31 => ?_)
        refine WA.branch [1, 3, 5] (by kernel_rfl) ⟨?_, ?_, ?_, trivial⟩
        · -- 1 first
          refine WI.step #[true, true, true, false, true, false, true, true, false, false, false] rfl rfl (WO.makeMap rfl fun b25 => ?_)
          refine WA.branch [3, 5] (by kernel_rfl) ⟨?_, ?_, trivial⟩
          · -- 3 first
            refine WI.step #[true, true, true, true, true, false, true, true, false, false, false] rfl rfl (WO.make Try.underlying22 mk3 rfl (.pl rfl) (by omega) rfl fun b27 => ?_)
            refine WA.branch [5] (by kernel_rfl) ⟨?_, trivial⟩
            refine WI.step #[true, true, true, true, true, true, true, true, false, false, false] rfl rfl (WO.make Try.underlying22 mk3 rfl (.pl rfl) (by omega) rfl fun b29 => ?_)
            refine WA.take 8 #[true, true, true, true, true, true, true, true, true, false, false] rfl (by kernel_rfl) (fun _ _ => Y.build shape36 (.cons (.pl rfl) (.cons (.pl rfl) (.cons (.pl rfl) (.cons (.pl rfl) (.cons (.pl rfl) (.nil)))))) (by simp [Value.oneCell']) rfl) rfl ?_
            refine WA.branch [9] (by kernel_rfl) ⟨?_, trivial⟩
            refine WI.step #[true, true, true, true, true, true, true, true, true, true, false] rfl rfl (WO.boxA (.pl rfl) rfl fun b33 => ?_)
            refine WA.take 10 #[true, true, true, true, true, true, true, true, true, true, true] rfl (by kernel_rfl) (fun _ _ => Y.assign (.pl rfl)) rfl ?_
            refine WA.done (by kernel_rfl) ?_
            refine KK.pick [0, 3, 2, 1, 4] rfl rfl ?_
            exact W.joinAt hK6 ((b33, b25, b27, b29, b31)) (by trivial) (.cons (rfl) (.nil)) (.cons (i := 0) rfl (.cons (i := 2) rfl (.nil))) (fun w hw => hw.cong (by simp [memM, row, ints, vals]))
          · -- 5 first
            refine WI.step #[true, true, true, false, true, true, true, true, false, false, false] rfl rfl (WO.make Try.underlying22 mk3 rfl (.pl rfl) (by omega) rfl fun b29 => ?_)
            refine WA.branch [3] (by kernel_rfl) ⟨?_, trivial⟩
            refine WI.step #[true, true, true, true, true, true, true, true, false, false, false] rfl rfl (WO.make Try.underlying22 mk3 rfl (.pl rfl) (by omega) rfl fun b27 => ?_)
            refine WA.take 8 #[true, true, true, true, true, true, true, true, true, false, false] rfl (by kernel_rfl) (fun _ _ => Y.build shape36 (.cons (.pl rfl) (.cons (.pl rfl) (.cons (.pl rfl) (.cons (.pl rfl) (.cons (.pl rfl) (.nil)))))) (by simp [Value.oneCell']) rfl) rfl ?_
            refine WA.branch [9] (by kernel_rfl) ⟨?_, trivial⟩
            refine WI.step #[true, true, true, true, true, true, true, true, true, true, false] rfl rfl (WO.boxA (.pl rfl) rfl fun b33 => ?_)
            refine WA.take 10 #[true, true, true, true, true, true, true, true, true, true, true] rfl (by kernel_rfl) (fun _ _ => Y.assign (.pl rfl)) rfl ?_
            refine WA.done (by kernel_rfl) ?_
            refine KK.pick [0, 3, 1, 2, 4] rfl rfl ?_
            exact W.joinAt hK6 ((b33, b25, b27, b29, b31)) (by trivial) (.cons (rfl) (.nil)) (.cons (i := 0) rfl (.cons (i := 2) rfl (.nil))) (fun w hw => hw.cong (by simp [memM, row, ints, vals]))
        · -- 3 first
          refine WI.step #[true, false, true, true, true, false, true, true, false, false, false] rfl rfl (WO.make Try.underlying22 mk3 rfl (.pl rfl) (by omega) rfl fun b27 => ?_)
          refine WA.branch [1, 5] (by kernel_rfl) ⟨?_, ?_, trivial⟩
          · -- 1 first
            refine WI.step #[true, true, true, true, true, false, true, true, false, false, false] rfl rfl (WO.makeMap rfl fun b25 => ?_)
            refine WA.branch [5] (by kernel_rfl) ⟨?_, trivial⟩
            refine WI.step #[true, true, true, true, true, true, true, true, false, false, false] rfl rfl (WO.make Try.underlying22 mk3 rfl (.pl rfl) (by omega) rfl fun b29 => ?_)
            refine WA.take 8 #[true, true, true, true, true, true, true, true, true, false, false] rfl (by kernel_rfl) (fun _ _ => Y.build shape36 (.cons (.pl rfl) (.cons (.pl rfl) (.cons (.pl rfl) (.cons (.pl rfl) (.cons (.pl rfl) (.nil)))))) (by simp [Value.oneCell']) rfl) rfl ?_
            refine WA.branch [9] (by kernel_rfl) ⟨?_, trivial⟩
            refine WI.step #[true, true, true, true, true, true, true, true, true, true, false] rfl rfl (WO.boxA (.pl rfl) rfl fun b33 => ?_)
            refine WA.take 10 #[true, true, true, true, true, true, true, true, true, true, true] rfl (by kernel_rfl) (fun _ _ => Y.assign (.pl rfl)) rfl ?_
            refine WA.done (by kernel_rfl) ?_
            refine KK.pick [0, 2, 3, 1, 4] rfl rfl ?_
            exact W.joinAt hK6 ((b33, b25, b27, b29, b31)) (by trivial) (.cons (rfl) (.nil)) (.cons (i := 0) rfl (.cons (i := 2) rfl (.nil))) (fun w hw => hw.cong (by simp [memM, row, ints, vals]))
          · -- 5 first
            refine WI.step #[true, false, true, true, true, true, true, true, false, false, false] rfl rfl (WO.make Try.underlying22 mk3 rfl (.pl rfl) (by omega) rfl fun b29 => ?_)
            refine WA.branch [1] (by kernel_rfl) ⟨?_, trivial⟩
            refine WI.step #[true, true, true, true, true, true, true, true, false, false, false] rfl rfl (WO.makeMap rfl fun b25 => ?_)
            refine WA.take 8 #[true, true, true, true, true, true, true, true, true, false, false] rfl (by kernel_rfl) (fun _ _ => Y.build shape36 (.cons (.pl rfl) (.cons (.pl rfl) (.cons (.pl rfl) (.cons (.pl rfl) (.cons (.pl rfl) (.nil)))))) (by simp [Value.oneCell']) rfl) rfl ?_
            refine WA.branch [9] (by kernel_rfl) ⟨?_, trivial⟩
            refine WI.step #[true, true, true, true, true, true, true, true, true, true, false] rfl rfl (WO.boxA (.pl rfl) rfl fun b33 => ?_)
            refine WA.take 10 #[true, true, true, true, true, true, true, true, true, true, true] rfl (by kernel_rfl) (fun _ _ => Y.assign (.pl rfl)) rfl ?_
            refine WA.done (by kernel_rfl) ?_
            refine KK.pick [0, 1, 3, 2, 4] rfl rfl ?_
            exact W.joinAt hK6 ((b33, b25, b27, b29, b31)) (by trivial) (.cons (rfl) (.nil)) (.cons (i := 0) rfl (.cons (i := 2) rfl (.nil))) (fun w hw => hw.cong (by simp [memM, row, ints, vals]))
        · -- 5 first
          refine WI.step #[true, false, true, false, true, true, true, true, false, false, false] rfl rfl (WO.make Try.underlying22 mk3 rfl (.pl rfl) (by omega) rfl fun b29 => ?_)
          refine WA.branch [1, 3] (by kernel_rfl) ⟨?_, ?_, trivial⟩
          · -- 1 first
            refine WI.step #[true, true, true, false, true, true, true, true, false, false, false] rfl rfl (WO.makeMap rfl fun b25 => ?_)
            refine WA.branch [3] (by kernel_rfl) ⟨?_, trivial⟩
            refine WI.step #[true, true, true, true, true, true, true, true, false, false, false] rfl rfl (WO.make Try.underlying22 mk3 rfl (.pl rfl) (by omega) rfl fun b27 => ?_)
            refine WA.take 8 #[true, true, true, true, true, true, true, true, true, false, false] rfl (by kernel_rfl) (fun _ _ => Y.build shape36 (.cons (.pl rfl) (.cons (.pl rfl) (.cons (.pl rfl) (.cons (.pl rfl) (.cons (.pl rfl) (.nil)))))) (by simp [Value.oneCell']) rfl) rfl ?_
            refine WA.branch [9] (by kernel_rfl) ⟨?_, trivial⟩
            refine WI.step #[true, true, true, true, true, true, true, true, true, true, false] rfl rfl (WO.boxA (.pl rfl) rfl fun b33 => ?_)
            refine WA.take 10 #[true, true, true, true, true, true, true, true, true, true, true] rfl (by kernel_rfl) (fun _ _ => Y.assign (.pl rfl)) rfl ?_
            refine WA.done (by kernel_rfl) ?_
            refine KK.pick [0, 2, 1, 3, 4] rfl rfl ?_
            exact W.joinAt hK6 ((b33, b25, b27, b29, b31)) (by trivial) (.cons (rfl) (.nil)) (.cons (i := 0) rfl (.cons (i := 2) rfl (.nil))) (fun w hw => hw.cong (by simp [memM, row, ints, vals]))
          · -- 3 first
            refine WI.step #[true, false, true, true, true, true, true, true, false, false, false] rfl rfl (WO.make Try.underlying22 mk3 rfl (.pl rfl) (by omega) rfl fun b27 => ?_)
            refine WA.branch [1] (by kernel_rfl) ⟨?_, trivial⟩
            refine WI.step #[true, true, true, true, true, true, true, true, false, false, false] rfl rfl (WO.makeMap rfl fun b25 => ?_)
            refine WA.take 8 #[true, true, true, true, true, true, true, true, true, false, false] rfl (by kernel_rfl) (fun _ _ => Y.build shape36 (.cons (.pl rfl) (.cons (.pl rfl) (.cons (.pl rfl) (.cons (.pl rfl) (.cons (.pl rfl) (.nil)))))) (by simp [Value.oneCell']) rfl) rfl ?_
            refine WA.branch [9] (by kernel_rfl) ⟨?_, trivial⟩
            refine WI.step #[true, true, true, true, true, true, true, true, true, true, false] rfl rfl (WO.boxA (.pl rfl) rfl fun b33 => ?_)
            refine WA.take 10 #[true, true, true, true, true, true, true, true, true, true, true] rfl (by kernel_rfl) (fun _ _ => Y.assign (.pl rfl)) rfl ?_
            refine WA.done (by kernel_rfl) ?_
            refine KK.pick [0, 1, 2, 3, 4] rfl rfl ?_
            exact W.joinAt hK6 ((b33, b25, b27, b29, b31)) (by trivial) (.cons (rfl) (.nil)) (.cons (i := 0) rfl (.cons (i := 2) rfl (.nil))) (fun w hw => hw.cong (by simp [memM, row, ints, vals]))
    · -- behind it
      rintro ⟨bm, bp, bs, bx, bo⟩ _
      refine W.seq fun K7 hK7 => ?_
      -- region 6: agree.go:91
      refine W.seqR fun Q8 hQ8 => ?_
      refine WL.q (Y.move (.pl rfl)) rfl ?_
      refine WL.q (Y.nilCheck (.pl rfl)) rfl ?_
      refine WL.q ((by first | exact Y.fieldAddr0 (off := 5) (ft := 22) Try.underlying36 rfl cells22 (.pl rfl) | exact Y.fieldAddr (off := 5) (ft := 22) Try.underlying36 rfl cells22 (.pl rfl))) rfl ?_
      refine WL.q (Y.load Try.underlying22 rfl (.pl rfl) (fun w hw => by first | exact cell_lit (hw.obj (i := 0) rfl) rfl)) rfl ?_
      refine WL.q (Y.len Try.underlying22 (.pl rfl)) rfl ?_
      refine WL.q (Y.move (.pl rfl)) rfl ?_
      refine WL.next hQ8 (.cons (i := 0) rfl (.cons (i := 2) rfl (.cons (i := 10) rfl (.cons (i := 38) rfl (.cons (i := 39) rfl (.nil)))))) ?_
      refine W.block ?_
      refine W.loop (γ := Nat) (Em := fun k => [(39, .int .i64 (k : Int))]) (M := fun k => memM bm bp bs bx bo vs.length (.slice a1 vs.length c1) ⟨[], 0, List.replicate vs.length 0, List.replicate vs.length 0, List.replicate k (-1) ++ List.replicate (vs.length - k) 0⟩) (I := fun k => k ≤ vs.length) (m := fun k => vs.length - k) (0) (Nat.zero_le _) (.cons rfl (.nil)) (.cons (i := 0) rfl (.cons (i := 2) rfl (.cons (i := 10) rfl (.cons (i := 38) rfl (.nil))))) (fun w hw => hw) (fun k hI K9 hK9 => ?_)
      -- region 7: agree.go:91
      refine W.seqR fun Q10 hQ10 => ?_
      refine WL.q (Y.lss (.pl rfl) (.pl rfl)) rfl ?_
      refine WL.next hQ10 (.cons (i := 0) rfl (.cons (i := 2) rfl (.cons (i := 10) rfl (.cons (i := 38) rfl (.cons (i := 39) rfl (.cons (i := 40) rfl (.nil))))))) ?_
      refine W.seq fun K11 hK11 => ?_
      refine W.cond (.pl rfl) (fun hC1 => ?_) (fun hC1 => ?_)
      · -- C1 yes
        try simp only [Bool.or_eq_true, Bool.and_eq_true, Bool.not_eq_true', decide_eq_true_eq, decide_eq_false_iff_not, Bool.or_eq_false_iff, Bool.and_eq_false_iff, Bool.not_eq_false', Bool.not_eq_eq_eq_not, Bool.not_true, Bool.not_false] at hC1
        have hk : k < vs.length := by omega
        refine W.skip ?_
        refine W.go hK11 (.cons (i := 0) rfl (.cons (i := 2) rfl (.cons (i := 10) rfl (.cons (i := 38) rfl (.cons (i := 39) rfl (.nil)))))) ?_
        refine W.seq fun K12 hK12 => ?_
        refine W.block ?_
        -- region 8: agree.go:91
        refine W.seqR fun Q13 hQ13 => ?_
        refine WL.q (Y.move (.pl rfl)) rfl ?_
        refine WL.q (Y.assign (.pl rfl)) rfl ?_
        refine WL.next hQ13 (.cons (i := 0) rfl (.cons (i := 2) rfl (.cons (i := 10) rfl (.cons (i := 11) rfl (.cons (i := 38) rfl (.cons (i := 39) rfl (.nil))))))) ?_
        -- region 9: agree.go:92
        refine W.reg ?_
        refine WL.q (Y.move (.pl rfl)) rfl ?_
        refine WL.q (Y.nilCheck (.pl rfl)) rfl ?_
        refine WL.q ((by first | exact Y.fieldAddr0 (off := 5) (ft := 22) Try.underlying36 rfl cells22 (.pl rfl) | exact Y.fieldAddr (off := 5) (ft := 22) Try.underlying36 rfl cells22 (.pl rfl))) rfl ?_
        refine WL.q (Y.load Try.underlying22 rfl (.pl rfl) (fun w hw => by first | exact cell_lit (hw.obj (i := 0) rfl) rfl)) rfl ?_
        refine WL.q (Y.move (.pl rfl)) rfl ?_
        refine WL.q ((by first | exact Y.own1N Try.underlying22 cells3 (.pl rfl) (.pl rfl) (by omega) | exact Y.own1Z Try.underlying22 cells3 (.pl rfl) (.pl rfl) (by omega))) rfl ?_
        refine WL.step (WO.store cells3 (.pl rfl) (.pl rfl) rfl (i := 4) rfl (by rw [ints_size]; simp; omega) ?_)
        refine WL.nil ?_
        refine W.go hK12 (.cons (i := 0) rfl (.cons (i := 2) rfl (.cons (i := 10) rfl (.cons (i := 38) rfl (.cons (i := 39) rfl (.nil)))))) ?_
        -- region 10: agree.go:91
        refine W.reg ?_
        refine WL.q (Y.add (.pl rfl) (.pl rfl) (by omega)) rfl ?_
        refine WL.q (Y.move (.pl rfl)) rfl ?_
        refine WL.nil ?_
        exact W.again hK9 (k + 1) (by first | trivial | omega) (by omega) (.cons (rfl) (.nil)) (.cons (i := 0) rfl (.cons (i := 2) rfl (.cons (i := 10) rfl (.cons (i := 38) rfl (.nil))))) (fun w hw => hw.cong (by simp only [memM, row, List.set_cons_zero, List.set_cons_succ, ints_set, rep_set _ _ (by assumption : k < vs.length)]))
      · -- C1 no
        try simp only [Bool.or_eq_true, Bool.and_eq_true, Bool.not_eq_true', decide_eq_true_eq, decide_eq_false_iff_not, Bool.or_eq_false_iff, Bool.and_eq_false_iff, Bool.not_eq_false', Bool.not_eq_eq_eq_not, Bool.not_true, Bool.not_false] at hC1
        obtain rfl : k = vs.length := by omega
        refine W.exit ?_
        refine W.go hK7 (.cons (i := 0) rfl (.cons (i := 2) rfl (.cons (i := 10) rfl (.nil)))) ?_
        -- region 11: agree.go:94
        refine W.seqR fun Q14 hQ14 => ?_
        refine WL.q (Y.move (.pl rfl)) rfl ?_
        refine WL.q (Y.fn (.cons (.pl rfl) (.nil))) rfl ?_
        refine WL.q (Y.assign (.pl rfl)) rfl ?_
        refine WL.next hQ14 (.cons (i := 0) rfl (.cons (i := 2) rfl (.cons (i := 10) rfl (.cons (i := 12) rfl (.nil))))) ?_
        refine W.join (γ := Unit) (Em := fun _ => [(12, .func (.func 13) [Value.pointer (some ⟨bm, 0, none⟩)].toArray #[])]) (M := fun _ => memM bm bp bs bx bo vs.length (.slice a1 vs.length c1) (initF vs.length)) (I := fun _ => True) (.cons (i := 2) rfl (.cons (i := 10) rfl (.nil))) (fun K15 hK15 => ?_) ?_
        · -- up to J0
          -- region 12: agree.go:95
          refine W.seqR fun Q16 hQ16 => ?_
          refine WL.q (Y.move (.pl rfl)) rfl ?_
          refine WL.next hQ16 (.cons (i := 2) rfl (.cons (i := 10) rfl (.cons (i := 12) rfl (.cons (i := 51) rfl (.nil))))) ?_
          refine W.block ?_
          -- region 13: agree.go:96
          refine W.seqR fun Q17 hQ17 => ?_
          refine WL.q (Y.eql (.pl rfl) (.pl rfl)) rfl ?_
          refine WL.q (Y.assign (.pl rfl)) rfl ?_
          refine WL.next hQ17 (.cons (i := 2) rfl (.cons (i := 10) rfl (.cons (i := 12) rfl (.cons (i := 51) rfl (.cons (i := 52) rfl (.nil)))))) ?_
          refine W.cond (.pl rfl) (fun hC2 => ?_) (fun hC2 => ?_)
          · -- C2 yes
            try simp only [Bool.or_eq_true, Bool.and_eq_true, Bool.not_eq_true', decide_eq_true_eq, decide_eq_false_iff_not, Bool.or_eq_false_iff, Bool.and_eq_false_iff, Bool.not_eq_false', Bool.not_eq_eq_eq_not, Bool.not_true, Bool.not_false] at hC2
            -- region 14: agree.go:97
            refine W.reg ?_
            refine WL.q (Y.move (.pl rfl)) rfl ?_
            refine WL.q (Y.fn (.cons (.pl rfl) (.nil))) rfl ?_
            refine WL.q (Y.assign (.pl rfl)) rfl ?_
            refine WL.nil ?_
            exact W.joinAt hK15 (()) (by first | trivial | omega) (.cons (rfl) (.nil)) (.cons (i := 2) rfl (.cons (i := 10) rfl (.nil))) (fun w hw => hw.cong (by simp [memM, initF]))
          · -- C2 no
            try simp only [Bool.or_eq_true, Bool.and_eq_true, Bool.not_eq_true', decide_eq_true_eq, decide_eq_false_iff_not, Bool.or_eq_false_iff, Bool.and_eq_false_iff, Bool.not_eq_false', Bool.not_eq_eq_eq_not, Bool.not_true, Bool.not_false] at hC2
            exact absurd trivial hC2
        · -- behind J0
          intro _ _
          refine W.seq fun K18 hK18 => ?_
          -- region 17: agree.go:101
          refine W.seqR fun Q19 hQ19 => ?_
          refine WL.q (Y.move (.pl rfl)) rfl ?_
          refine WL.q (Y.len Try.underlying22 (.pl rfl)) rfl ?_
          refine WL.q (Y.move (.pl rfl)) rfl ?_
          refine WL.next hQ19 (.cons (i := 10) rfl (.cons (i := 12) rfl (.cons (i := 60) rfl (.cons (i := 61) rfl (.cons (i := 62) rfl (.nil)))))) ?_
          refine W.block ?_
          refine W.loop (γ := Nat) (Em := fun k => [(62, .int .i64 (k : Int))]) (M := fun q => memM bm bp bs bx bo vs.length (.slice a1 vs.length c1) (runF 2 vs ls q)) (I := fun q => q ≤ ls.length) (m := fun q => ls.length - q) (0) (Nat.zero_le _) (.cons rfl (.nil)) (.cons (i := 10) rfl (.cons (i := 12) rfl (.cons (i := 60) rfl (.cons (i := 61) rfl (.nil))))) (fun w hw => hw.cong (by simp [memM, runF, initF])) (fun q hI K20 hK20 => ?_)
          -- region 18: agree.go:101
          refine W.seqR fun Q21 hQ21 => ?_
          refine WL.q (Y.lss (.pl rfl) (.pl rfl)) rfl ?_
          refine WL.next hQ21 (.cons (i := 10) rfl (.cons (i := 12) rfl (.cons (i := 60) rfl (.cons (i := 61) rfl (.cons (i := 62) rfl (.cons (i := 63) rfl (.nil))))))) ?_
          refine W.seq fun K22 hK22 => ?_
          refine W.cond (.pl rfl) (fun hC3 => ?_) (fun hC3 => ?_)
          · -- C3 yes
            try simp only [Bool.or_eq_true, Bool.and_eq_true, Bool.not_eq_true', decide_eq_true_eq, decide_eq_false_iff_not, Bool.or_eq_false_iff, Bool.and_eq_false_iff, Bool.not_eq_false', Bool.not_eq_eq_eq_not, Bool.not_true, Bool.not_false] at hC3
            have hwq := hall q (by omega)
            refine W.skip ?_
            refine W.go hK22 (.cons (i := 10) rfl (.cons (i := 12) rfl (.cons (i := 60) rfl (.cons (i := 61) rfl (.cons (i := 62) rfl (.nil)))))) ?_
            refine W.seq fun K23 hK23 => ?_
            refine W.block ?_
            -- region 19: agree.go:101
            refine W.seqR fun Q24 hQ24 => ?_
            refine WL.q (Y.elem1N Try.underlying22 cells3 (.pl rfl) (.pl rfl) (by omega) (hlc q (by omega)).1) rfl ?_
            refine WL.q (Y.load Try.underlying3 rfl (.pl rfl) (fun w hw => hw.roW (hlc q (by omega)).2)) rfl ?_
            refine WL.q (Y.assign (.pl rfl)) rfl ?_
            refine WL.next hQ24 (.cons (i := 10) rfl (.cons (i := 12) rfl (.cons (i := 14) rfl (.cons (i := 60) rfl (.cons (i := 61) rfl (.cons (i := 62) rfl (.nil))))))) ?_
            -- region 20: agree.go:102
            refine W.seqR fun Q25 hQ25 => ?_
            refine WL.q (Y.move (.pl rfl)) rfl ?_
            refine WL.q (Y.nilCheck (.pl rfl)) rfl ?_
            refine WL.q ((by first | exact Y.fieldAddr0 (off := 5) (ft := 22) Try.underlying36 rfl cells22 (.pl rfl) | exact Y.fieldAddr (off := 5) (ft := 22) Try.underlying36 rfl cells22 (.pl rfl))) rfl ?_
            refine WL.q (Y.load Try.underlying22 rfl (.pl rfl) (fun w hw => by first | exact cell_lit (hw.obj (i := 0) rfl) rfl)) rfl ?_
            refine WL.q (Y.move (.pl rfl)) rfl ?_
            refine WL.q (Y.own1Z Try.underlying22 cells3 (.pl rfl) (.pl rfl) (by omega)) rfl ?_
            refine WL.q (Y.load Try.underlying3 rfl (.pl rfl) (fun w hw => hw.row (i := 4) (k := ls[q].toNat) (xs := (runF 2 vs ls q).out) rfl (by have := (run_ok (algo := 2) (vs := vs) (ls := ls) (q := q) hn8 (by omega) hl3).out; omega))) rfl ?_
            refine WL.q (Y.lss (.pl rfl) (.pl rfl)) rfl ?_
            refine WL.next hQ25 (.cons (i := 10) rfl (.cons (i := 12) rfl (.cons (i := 14) rfl (.cons (i := 60) rfl (.cons (i := 61) rfl (.cons (i := 62) rfl (.cons (i := 73) rfl (.nil)))))))) ?_
            refine W.cond (.pl rfl) (fun hC4 => ?_) (fun hC4 => ?_)
            · -- C4 yes
              try simp only [Bool.or_eq_true, Bool.and_eq_true, Bool.not_eq_true', decide_eq_true_eq, decide_eq_false_iff_not, Bool.or_eq_false_iff, Bool.and_eq_false_iff, Bool.not_eq_false', Bool.not_eq_eq_eq_not, Bool.not_true, Bool.not_false] at hC4
              have hou : (runF 2 vs ls q).out.getD ls[q].toNat 0 < 0 := by rw [getD_get (by have := (run_ok (algo := 2) (vs := vs) (ls := ls) (q := q) hn8 (by omega) hl3).out; omega)]; exact hC4
              -- region 21: agree.go:103
              refine W.reg ?_
              refine WL.q (Y.move (.pl rfl)) rfl ?_
              refine WL.q (Y.move (.pl rfl)) rfl ?_
              refine WL.step (WO.callV (fun _ : Unit => .tuple #[]) (fun _ => memM bm bp bs bx bo vs.length (.slice a1 vs.length c1) (turnF 2 vs (runF 2 vs ls q) ls[q].toNat)) (fun _ => True) isGo13 (.pl rfl) (.cons (.pl rfl) (.nil)) rfl (fun w hw => (tic_ok hw h1o (run_ok (q := q) hn8 (by omega) hl3) (by omega)).mono fun e w2 ⟨h3, h4⟩ => ⟨(), trivial, h3, h4⟩) ?_)
              intro _ _
              refine WL.nil ?_
              refine W.go hK23 (.cons (i := 10) rfl (.cons (i := 12) rfl (.cons (i := 60) rfl (.cons (i := 61) rfl (.cons (i := 62) rfl (.nil)))))) ?_
              -- region 22: agree.go:101
              refine W.reg ?_
              refine WL.q (Y.add (.pl rfl) (.pl rfl) (by omega)) rfl ?_
              refine WL.q (Y.move (.pl rfl)) rfl ?_
              refine WL.nil ?_
              exact W.again hK20 (q + 1) (by first | trivial | omega) (by omega) (.cons (rfl) (.nil)) (.cons (i := 10) rfl (.cons (i := 12) rfl (.cons (i := 60) rfl (.cons (i := 61) rfl (.nil))))) (fun w hw => hw.cong (by rw [runF_succ (by omega)]; simp only [stepF, if_pos hou]))
            · -- C4 no
              try simp only [Bool.or_eq_true, Bool.and_eq_true, Bool.not_eq_true', decide_eq_true_eq, decide_eq_false_iff_not, Bool.or_eq_false_iff, Bool.and_eq_false_iff, Bool.not_eq_false', Bool.not_eq_eq_eq_not, Bool.not_true, Bool.not_false] at hC4
              have hou : ¬ (runF 2 vs ls q).out.getD ls[q].toNat 0 < 0 := by rw [getD_get (by have := (run_ok (algo := 2) (vs := vs) (ls := ls) (q := q) hn8 (by omega) hl3).out; omega)]; exact hC4
              refine W.skip ?_
              refine W.go hK23 (.cons (i := 10) rfl (.cons (i := 12) rfl (.cons (i := 60) rfl (.cons (i := 61) rfl (.cons (i := 62) rfl (.nil)))))) ?_
              -- region 22: agree.go:101
              refine W.reg ?_
              refine WL.q (Y.add (.pl rfl) (.pl rfl) (by omega)) rfl ?_
              refine WL.q (Y.move (.pl rfl)) rfl ?_
              refine WL.nil ?_
              exact W.again hK20 (q + 1) (by first | trivial | omega) (by omega) (.cons (rfl) (.nil)) (.cons (i := 10) rfl (.cons (i := 12) rfl (.cons (i := 60) rfl (.cons (i := 61) rfl (.nil))))) (fun w hw => hw.cong (by rw [runF_succ (by omega)]; simp only [stepF, if_neg hou]))
          · -- C3 no
            try simp only [Bool.or_eq_true, Bool.and_eq_true, Bool.not_eq_true', decide_eq_true_eq, decide_eq_false_iff_not, Bool.or_eq_false_iff, Bool.and_eq_false_iff, Bool.not_eq_false', Bool.not_eq_eq_eq_not, Bool.not_true, Bool.not_false] at hC3
            obtain rfl : q = ls.length := by omega
            refine W.exit ?_
            refine W.go hK18 (.cons (i := 10) rfl (.nil)) ?_
            -- region 23: agree.go:106
            refine W.seqR fun Q26 hQ26 => ?_
            refine WL.q (Y.move (.pl rfl)) rfl ?_
            refine WL.q (Y.nilCheck (.pl rfl)) rfl ?_
            refine WL.q ((by first | exact Y.fieldAddr0 (off := 5) (ft := 22) Try.underlying36 rfl cells22 (.pl rfl) | exact Y.fieldAddr (off := 5) (ft := 22) Try.underlying36 rfl cells22 (.pl rfl))) rfl ?_
            refine WL.q (Y.load Try.underlying22 rfl (.pl rfl) (fun w hw => by first | exact cell_lit (hw.obj (i := 0) rfl) rfl)) rfl ?_
            refine WL.q (Y.assign (.pl rfl)) rfl ?_
            refine WL.q (Y.assign (.pl rfl)) rfl ?_
            refine WL.next hQ26 (.cons (i := 6) rfl (.cons (i := 7) rfl (.nil))) ?_
            refine W.ret2 (fn := Try.f7) Try.results7 rfl rfl (fun _ _ h => h) (fun w hw => ?_)
            refine hR _ _ ?_
            exact ⟨bo, trivial, rfl, by rw [playF_eq]; exact hw.pick [4] rfl⟩

theorem play_nai (v1 v2 : Value) (vs ls : List Int) (w : World) (h1 : IntsIn w v1 vs) (h2 : IntsIn w v2 ls) (hl1 : vs.length ≤ maxLen) (hl2 : ls.length ≤ maxLen) (he : checkF 3 vs ls = 0) :
    Made Try.prog 7 [.int .i64 3, v1, v2] w (fun b => .tuple #[.slice (some ⟨b, 0, none⟩) vs.length vs.length, .int .i64 0]) (fun b => [row b (playF 3 vs ls)]) (fun _ => True) := by
  obtain ⟨hn1, hn8, hl3, hall⟩ := check_zero he
  refine W.enter (n := 82) Try.func7 rfl rfl Sub.refl (by simp) (St.start w) fun R hR => ?_
  have h1o := h1.old
  have h1i := h1
  have h2o := h2
  obtain ⟨a1, c1, rfl, hcap1, hv⟩ := h1
  obtain ⟨a2, c2, rfl, hcap2, hlc⟩ := h2
  -- region 0: agree.go:85
  refine W.seqR fun Q1 hQ1 => ?_
  refine WL.q (Y.assign (.pl rfl)) rfl ?_
  refine WL.q (Y.assign (.pl rfl)) rfl ?_
  refine WL.next hQ1 (.cons (i := 0) rfl (.cons (i := 1) rfl (.cons (i := 2) rfl (.nil)))) ?_
  refine W.seq fun K2 hK2 => ?_
  -- region 1: agree.go:86
  refine W.seqR fun Q3 hQ3 => ?_
  refine WL.q (Y.move (.pl rfl)) rfl ?_
  refine WL.q (Y.move (.pl rfl)) rfl ?_
  refine WL.q (Y.move (.pl rfl)) rfl ?_
  refine WL.step (WO.callP isGo11 (.cons (.pl rfl) (.cons (.pl rfl) (.cons (.pl rfl) (.nil)))) rfl (fun w hw => check_ok 3 _ _ vs ls w (h1i.mono hw) (h2o.mono hw) hl1 hl2) ?_)
  refine WL.q (Y.assign (.pl rfl)) rfl ?_
  refine WL.next hQ3 (.cons (i := 0) rfl (.cons (i := 1) rfl (.cons (i := 2) rfl (.cons (i := 8) rfl (.nil))))) ?_
  -- region 2: agree.go:86
  refine W.seqR fun Q4 hQ4 => ?_
  refine WL.q (Y.move (.pl rfl)) rfl ?_
  refine WL.q (Y.neq (.pl rfl) (.pl rfl)) rfl ?_
  refine WL.next hQ4 (.cons (i := 0) rfl (.cons (i := 1) rfl (.cons (i := 2) rfl (.cons (i := 8) rfl (.cons (i := 20) rfl (.nil)))))) ?_
  refine W.cond (.pl rfl) (fun hC0 => ?_) (fun hC0 => ?_)
  · -- C0 yes
    try simp only [Bool.or_eq_true, Bool.and_eq_true, Bool.not_eq_true', decide_eq_true_eq, decide_eq_false_iff_not, Bool.or_eq_false_iff, Bool.and_eq_false_iff, Bool.not_eq_false', Bool.not_eq_eq_eq_not, Bool.not_true, Bool.not_false] at hC0
    exact absurd he hC0
  · -- C0 no
    try simp only [Bool.or_eq_true, Bool.and_eq_true, Bool.not_eq_true', decide_eq_true_eq, decide_eq_false_iff_not, Bool.or_eq_false_iff, Bool.and_eq_false_iff, Bool.not_eq_false', Bool.not_eq_eq_eq_not, Bool.not_true, Bool.not_false] at hC0
    refine W.skip ?_
    refine W.go hK2 (.cons (i := 0) rfl (.cons (i := 1) rfl (.cons (i := 2) rfl (.nil)))) ?_
    -- region 4: agree.go:89
    refine W.seqR fun Q5 hQ5 => ?_
    refine WL.q (Y.move (.pl rfl)) rfl ?_
    refine WL.q (Y.len Try.underlying22 (.pl rfl)) rfl ?_
    refine WL.q (Y.assign (.pl rfl)) rfl ?_
    refine WL.next hQ5 (.cons (i := 0) rfl (.cons (i := 1) rfl (.cons (i := 2) rfl (.cons (i := 9) rfl (.nil))))) ?_
    -- region 5: agree.go:90
    refine W.seqAJ (γ := Nat × Nat × Nat × Nat × Nat) (fun x => [(10, .pointer (some ⟨x.1, 0, none⟩))]) (fun x => memM x.1 x.2.1 x.2.2.1 x.2.2.2.1 x.2.2.2.2 vs.length (.slice a1 vs.length c1) ⟨[], 0, List.replicate vs.length 0, List.replicate vs.length 0, List.replicate vs.length 0⟩) (fun _ => True) (by kernel_rfl) (.cons (i := 0) rfl (.cons (i := 2) rfl (.nil))) (fun K6 hK6 => ?_) ?_
    · -- every order
      refine WA.take 0 #[true, false, false, false, false, false, false, false, false, false, false] rfl (by kernel_rfl) (fun _ _ => Y.move (.pl rfl)) rfl ?_
      refine WA.take 2 #[true, false, true, false, false, false, false, false, false, false, false] rfl (by kernel_rfl) (fun _ _ => Y.move (.pl rfl)) rfl ?_
      refine WA.take 4 #[true, false, true, false, true, false, false, false, false, false, false] rfl (by kernel_rfl) (fun _ _ => Y.move (.pl rfl)) rfl ?_
      refine WA.take 6 #[true, false, true, false, true, false, true, false, false, false, false] rfl (by kernel_rfl) (fun _ _ => Y.move (.pl rfl)) rfl ?_
      refine WA.branch [1, 3, 5, 7] (by kernel_rfl) ⟨?_, ?_, ?_, ?_, trivial⟩
      · -- 1 first
        refine WI.step #[true, true, true, false, true, false, true, false, false, false, false] rfl rfl (WO.makeMap rfl fun b25 => ?_)
        refine WA.branch [3, 5, 7] (by kernel_rfl) ⟨?_, ?_, ?_, trivial⟩
        · -- 3 first
          refine WI.step #[true, true, true, true, true, false, true, false, false, false, false] rfl rfl (WO.make Try.underlying22 mk3 rfl (.pl rfl) (by omega) rfl fun b27 => ?_)
          refine WA.branch [5, 7] (by kernel_rfl) ⟨?_, ?_, trivial⟩
          · -- 5 first
            refine WI.step #[true, true, true, true, true, true, true, false, false, false, false] rfl rfl (WO.make Try.underlying22 mk3 rfl (.pl rfl) (by omega) rfl fun b29 => ?_)
            refine WA.branch [7] (by kernel_rfl) ⟨?_, trivial⟩
            refine WI.step #[true, true, true, true, true, true, true, true, false, false, false] rfl rfl (WO.make Try.underlying22 mk3 rfl (.pl rfl) (by omega) rfl fun b31 => ?_)
            refine WA.take 8 #[true, true, true, true, true, true, true, true, true, false, false] rfl (by kernel_rfl) (fun _ _ => Y.build shape36 (.cons (.pl rfl) (.cons (.pl rfl) (.cons (.pl rfl) (.cons (.pl rfl) (.cons (.pl rfl) (.nil)))))) (by simp [Value.oneCell']) rfl) rfl ?_
            refine WA.branch [9] (by kernel_rfl) ⟨?_, trivial⟩
            refine WI.step #[true, true, true, true, true, true, true, true, true, true, false] rfl rfl (WO.boxA (.pl rfl) rfl fun b33 => ?_)
            refine WA.take 10 #[true, true, true, true, true, true, true, true, true, true, true] rfl (by kernel_rfl) (fun _ _ => Y.assign (.pl rfl)) rfl ?_
            refine WA.done (by kernel_rfl) ?_
            refine KK.pick [0, 4, 3, 2, 1] rfl rfl ?_
            exact W.joinAt hK6 ((b33, b25, b27, b29, b31)) (by trivial) (.cons (rfl) (.nil)) (.cons (i := 0) rfl (.cons (i := 2) rfl (.nil))) (fun w hw => hw.cong (by simp [memM, row, ints, vals]))
          · -- 7 first
            refine WI.step #[true, true, true, true, true, false, true, true, false, false, false] rfl rfl (WO.make Try.underlying22 mk3 rfl (.pl rfl) (by omega) rfl fun b31 => ?_)
            refine WA.branch [5] (by kernel_rfl) ⟨?_, trivial⟩
            refine WI.step #[true, true, true, true, true, true, true, true, false, false, false] rfl rfl (WO.make Try.underlying22 mk3 rfl (.pl rfl) (by omega) rfl fun b29 => ?_)
            refine WA.take 8 #[true, true, true, true, true, true, true, true, true, false, false] rfl (by kernel_rfl) (fun _ _ => Y.build shape36 (.cons (.pl rfl) (.cons (.pl rfl) (.cons (.pl rfl) (.cons (.pl rfl) (.cons (.pl rfl) (.nil)))))) (by simp [Value.oneCell']) rfl) rfl ?_
            refine WA.branch [9] (by kernel_rfl) ⟨?_, trivial⟩
            refine WI.step #[true, true, true, true, true, true, true, true, true, true, false] rfl rfl (WO.boxA (.pl rfl) rfl fun b33 => ?_)
            refine WA.take 10 #[true, true, true, true, true, true, true, true, true, true, true] rfl (by kernel_rfl) (fun _ _ => Y.assign (.pl rfl)) rfl ?_
            refine WA.done (by kernel_rfl) ?_
            refine KK.pick [0, 4, 3, 1, 2] rfl rfl ?_
            exact W.joinAt hK6 ((b33, b25, b27, b29, b31)) (by trivial) (.cons (rfl) (.nil)) (.cons (i := 0) rfl (.cons (i := 2) rfl (.nil))) (fun w hw => hw.cong (by simp [memM, row, ints, vals]))
        · -- 5 first
          refine WI.step #[true, true, true, false, true, true, true, false, false, false, false] rfl rfl (WO.make Try.underlying22 mk3 rfl (.pl rfl) (by omega) rfl fun b29 => ?_)
          refine WA.branch [3, 7] (by kernel_rfl) ⟨?_, ?_, trivial⟩
          · -- 3 first
            refine WI.step #[true, true, true, true, true, true, true, false, false, false, false] rfl rfl (WO.make Try.underlying22 mk3 rfl (.pl rfl) (by omega) rfl fun b27 => ?_)
            refine WA.branch [7] (by kernel_rfl) ⟨?_, trivial⟩
            refine WI.step #[true, true, true, true, true, true, true, true, false, false, false] rfl rfl (WO.make Try.underlying22 mk3 rfl (.pl rfl) (by omega) rfl fun b31 => ?_)
            refine WA.take 8 #[true, true, true, true, true, true, true, true, true, false, false] rfl (by kernel_rfl) (fun _ _ => Y.build shape36 (.cons (.pl rfl) (.cons (.pl rfl) (.cons (.pl rfl) (.cons (.pl rfl) (.cons (.pl rfl) (.nil)))))) (by simp [Value.oneCell']) rfl) rfl ?_
            refine WA.branch [9] (by kernel_rfl) ⟨?_, trivial⟩
            refine WI.step #[true, true, true, true, true, true, true, true, true, true, false] rfl rfl (WO.boxA (.pl rfl) rfl fun b33 => ?_)
            refine WA.take 10 #[true, true, true, true, true, true, true, true, true, true, true] rfl (by kernel_rfl) (fun _ _ => Y.assign (.pl rfl)) rfl ?_
            refine WA.done (by kernel_rfl) ?_
            refine KK.pick [0, 4, 2, 3, 1] rfl rfl ?_
            exact W.joinAt hK6 ((b33, b25, b27, b29, b31)) (by trivial) (.cons (rfl) (.nil)) (.cons (i := 0) rfl (.cons (i := 2) rfl (.nil))) (fun w hw => hw.cong (by simp [memM, row, ints, vals]))
          · -- 7 first
            refine WI.step #[true, true, true, false, true, true, true, true, false, false, false] rfl rfl (WO.make Try.underlying22 mk3 rfl (.pl rfl) (by omega) rfl fun b31 => ?_)
            refine WA.branch [3] (by kernel_rfl) ⟨?_, trivial⟩
            refine WI.step #[true, true, true, true, true, true, true, true, false, false, false] rfl rfl (WO.make Try.underlying22 mk3 rfl (.pl rfl) (by omega) rfl fun b27 => ?_)
            refine WA.take 8 #[true, true, true, true, true, true, true, true, true, false, false] rfl (by kernel_rfl) (fun _ _ => Y.build shape36 (.cons (.pl rfl) (.cons (.pl rfl) (.cons (.pl rfl) (.cons (.pl rfl) (.cons (.pl rfl) (.nil)))))) (by simp [Value.oneCell']) rfl) rfl ?_
            refine WA.branch [9] (by kernel_rfl) ⟨?_, trivial⟩
            refine WI.step #[true, true, true, true, true, true, true, true, true, true, false] rfl rfl (WO.boxA (.pl rfl) rfl fun b33 => ?_)
            refine WA.take 10 #[true, true, true, true, true, true, true, true, true, true, true] rfl (by kernel_rfl) (fun _ _ => Y.assign (.pl rfl)) rfl ?_
            refine WA.done (by kernel_rfl) ?_
            refine KK.pick [0, 4, 1, 3, 2] rfl rfl ?_
            exact W.joinAt hK6 ((b33, b25, b27, b29, b31)) (by trivial) (.cons (rfl) (.nil)) (.cons (i := 0) rfl (.cons (i := 2) rfl (.nil))) (fun w hw => hw.cong (by simp [memM, row, ints, vals]))
        · -- 7 first
          refine WI.step #[true, true, true, false, true, false, true, true, false, false, false] rfl rfl (WO.make Try.underlying22 mk3 rfl (.pl rfl) (by omega) rfl fun b31 => ?_)
          refine WA.branch [3, 5] (by kernel_rfl) ⟨?_, ?_, trivial⟩
          · -- 3 first
            refine WI.step #[true, true, true, true, true, false, true, true, false, false, false] rfl rfl (WO.make Try.underlying22 mk3 rfl (.pl rfl) (by omega) rfl fun b27 => ?_)
            refine WA.branch [5] (by kernel_rfl) ⟨?_, trivial⟩
            refine WI.step #[true, true, true, true, true, true, true, true, false, false, false] rfl rfl (WO.make Try.underlying22 mk3 rfl (.pl rfl) (by omega) rfl fun b29 => ?_)
            refine WA.take 8 #[true, true, true, true, true, true, true, true, true, false, false] rfl (by kernel_rfl) (fun _ _ => Y.build shape36 (.cons (.pl rfl) (.cons (.pl rfl) (.cons (.pl rfl) (.cons (.pl rfl) (.cons (.pl rfl) (.nil)))))) (by simp [Value.oneCell']) rfl) rfl ?_
            refine WA.branch [9] (by kernel_rfl) ⟨?_, trivial⟩
            refine WI.step #[true, true, true, true, true, true, true, true, true, true, false] rfl rfl (WO.boxA (.pl rfl) rfl fun b33 => ?_)
            refine WA.take 10 #[true, true, true, true, true, true, true, true, true, true, true] rfl (by kernel_rfl) (fun _ _ => Y.assign (.pl rfl)) rfl ?_
            refine WA.done (by kernel_rfl) ?_
            refine KK.pick [0, 4, 2, 1, 3] rfl rfl ?_
            exact W.joinAt hK6 ((b33, b25, b27, b29, b31)) (by trivial) (.cons (rfl) (.nil)) (.cons (i := 0) rfl (.cons (i := 2) rfl (.nil))) (fun w hw => hw.cong (by simp [memM, row, ints, vals]))
          · -- 5 first
            refine WI.step #[true, true, true, false, true, true, true, true, false, false, false] rfl rfl (WO.make Try.underlying22 mk3 rfl (.pl rfl) (by omega) rfl fun b29 => ?_)
            refine WA.branch [3] (by kernel_rfl) ⟨?_, trivial⟩
            refine WI.step #[true, true, true, true, true, true, true, true, false, false, false] rfl rfl (WO.make Try.underlying22 mk3 rfl (.pl rfl) (by omega) rfl fun b27 => ?_)
            refine WA.take 8 #[true, true, true, true, true, true, true, true, true, false, false] rfl (by kernel_rfl) (fun _ _ => Y.build shape36 (.cons (.pl rfl) (.cons (.pl rfl) (.cons (.pl rfl) (.cons (.pl rfl) (.cons (.pl rfl) (.nil)))))) (by simp [Value.oneCell']) rfl) rfl ?_
            refine WA.branch [9] (by kernel_rfl) ⟨?_, trivial⟩
            refine WI.step #[true, true, true, true, true, true, true, true, true, true, false] rfl rfl (WO.boxA (.pl rfl) rfl fun b33 => ?_)
            refine WA.take 10 #[true, true, true, true, true, true, true, true, true, true, true] rfl (by kernel_rfl) (fun _ _ => Y.assign (.pl rfl)) rfl ?_
            refine WA.done (by kernel_rfl) ?_
            refine KK.pick [0, 4, 1, 2, 3] rfl rfl ?_
            exact W.joinAt hK6 ((b33, b25, b27, b29, b31)) (by trivial) (.cons (rfl) (.nil)) (.cons (i := 0) rfl (.cons (i := 2) rfl (.nil))) (fun w hw => hw.cong (by simp [memM, row, ints, vals]))
      · -- 3 first
        refine WI.step #[true, false, true, true, true, false, true, false, false, false, false] rfl rfl (WO.make Try.underlying22 mk3 rfl (.pl rfl) (by omega) rfl fun b27 => ?_)
        refine WA.branch [1, 5, 7] (by kernel_rfl) ⟨?_, ?_, ?_, trivial⟩
        · -- 1 first
          refine WI.step #[true, true, true, true, true, false, true, false, false, false, false] rfl rfl (WO.makeMap rfl fun b25 => ?_)
          refine WA.branch [5, 7] (by kernel_rfl) ⟨?_, ?_, trivial⟩
          · -- 5 first
            refine WI.step #[true, true, true, true, true, true, true, false, false, false, false] rfl rfl (WO.make Try.underlying22 mk3 rfl (.pl rfl) (by omega) rfl fun b29 => ?_)
            refine WA.branch [7] (by kernel_rfl) ⟨?_, trivial⟩
            refine WI.step #[true, true, true, true, true, true, true, true, false, false, false] rfl rfl (WO.make Try.underlying22 mk3 rfl (.pl rfl) (by omega) rfl fun b31 => ?_)
            refine WA.take 8 #[true, true, true, true, true, true, true, true, true, false, false] rfl (by kernel_rfl) (fun _ _ => Y.build shape36 (.cons (.pl rfl) (.cons (.pl rfl) (.cons (.pl rfl) (.cons (.pl rfl) (.cons (.pl rfl) (.nil)))))) (by simp [Value.oneCell']) rfl) rfl ?_
            refine WA.branch [9] (by kernel_rfl) ⟨?_, trivial⟩
            refine WI.step #[true, true, true, true, true, true, true, true, true, true, false] rfl rfl (WO.boxA (.pl rfl) rfl fun b33 => ?_)
            refine WA.take 10 #[true, true, true, true, true, true, true, true, true, true, true] rfl (by kernel_rfl) (fun _ _ => Y.assign (.pl rfl)) rfl ?_
            refine WA.done (by kernel_rfl) ?_
            refine KK.pick [0, 3, 4, 2, 1] rfl rfl ?_
            exact W.joinAt hK6 ((b33, b25, b27, b29, b31)) (by trivial) (.cons (rfl) (.nil)) (.cons (i := 0) rfl (.cons (i := 2) rfl (.nil))) (fun w hw => hw.cong (by simp [memM, row, ints, vals]))
          · -- 7 first
            refine WI.step #[true, true, true, true, true, false, true, true, false, false, false] rfl rfl (WO.make Try.underlying22 mk3 rfl (.pl rfl) (by omega) rfl fun b31 => ?_)
            refine WA.branch [5] (by kernel_rfl) ⟨?_, trivial⟩
            refine WI.step #[true, true, true, true, true, true, true, true, false, false, false] rfl rfl (WO.make Try.underlying22 mk3 rfl (.pl rfl) (by omega) rfl fun b29 => ?_)
            refine WA.take 8 #[true, true, true, true, true, true, true, true, true, false, false] rfl (by kernel_rfl) (fun _ _ => Y.build shape36 (.cons (.pl rfl) (.cons (.pl rfl) (.cons (.pl rfl) (.cons (.pl rfl) (.cons (.pl rfl) (.nil)))))) (by simp [Value.oneCell']) rfl) rfl ?_
            refine WA.branch [9] (by kernel_rfl) ⟨?_, trivial⟩
            refine WI.step #[true, true, true, true, true, true, true, true, true, true, false] rfl rfl (WO.boxA (.pl rfl) rfl fun b33 => ?_)
            refine WA.take 10 #[true, true, true, true, true, true, true, true, true, true, true] rfl (by kernel_rfl) (fun _ _ => Y.assign (.pl rfl)) rfl ?_
            refine WA.done (by kernel_rfl) ?_
            refine KK.pick [0, 3, 4, 1, 2] rfl rfl ?_
            exact W.joinAt hK6 ((b33, b25, b27, b29, b31)) (by trivial) (.cons (rfl) (.nil)) (.cons (i := 0) rfl (.cons (i := 2) rfl (.nil))) (fun w hw => hw.cong (by simp [memM, row, ints, vals]))
        · -- 5 first
          refine WI.step #[true, false, true, true, true, true, true, false, false, false, false] rfl rfl (WO.make Try.underlying22 mk3 rfl (.pl rfl) (by omega) rfl fun b29 => ?_)
          refine WA.branch [1, 7] (by kernel_rfl) ⟨?_, ?_, trivial⟩
          · -- 1 first
            refine WI.step #[true, true, true, true, true, true, true, false, false, false, false] rfl rfl (WO.makeMap rfl fun b25 => ?_)
            refine WA.branch [7] (by kernel_rfl) ⟨?_, trivial⟩
            refine WI.step #[true, true, true, true, true, true, true, true, false, false, false] rfl rfl (WO.make Try.underlying22 mk3 rfl (.pl rfl) (by omega) rfl fun b31 => ?_)
            refine WA.take 8 #[true, true, true, true, true, true, true, true, true, false, false] rfl (by kernel_rfl) (fun _ _ => Y.build shape36 (.cons (.pl rfl) (.cons (.pl rfl) (.cons (.pl rfl) (.cons (.pl rfl) (.cons (.pl rfl) (.nil)))))) (by simp [Value.oneCell']) rfl) rfl ?_
            refine WA.branch [9] (by kernel_rfl) ⟨?_, trivial⟩
            refine WI.step #[true, true, true, true, true, true, true, true, true, true, false] rfl rfl (WO.boxA (.pl rfl) rfl fun b33 => ?_)
            refine WA.take 10 #[true, true, true, true, true, true, true, true, true, true, true] rfl (by kernel_rfl) (fun _ _ => Y.assign (.pl rfl)) rfl ?_
            refine WA.done (by kernel_rfl) ?_
            refine KK.pick [0, 2, 4, 3, 1] rfl rfl ?_
            exact W.joinAt hK6 ((b33, b25, b27, b29, b31)) (by trivial) (.cons (rfl) (.nil)) (.cons (i := 0) rfl (.cons (i := 2) rfl (.nil))) (fun w hw => hw.cong (by simp [memM, row, ints, vals]))
          · -- 7 first
            refine WI.step #[true, false, true, true, true, true, true, true, false, false, false] rfl rfl (WO.make Try.underlying22 mk3 rfl (.pl rfl) (by omega) rfl fun b31 => ?_)
            refine WA.branch [1] (by kernel_rfl) ⟨?_, trivial⟩
            refine WI.step #[true, true, true, true, true, true, true, true, false, false, false] rfl rfl (WO.makeMap rfl fun b25 => ?_)
            refine WA.take 8 #[true, true, true, true, true, true, true, true, true, false, false] rfl (by kernel_rfl) (fun _ _ => Y.build shape36 (.cons (.pl rfl) (.cons (.pl rfl) (.cons (.pl rfl) (.cons (.pl rfl) (.cons (.pl rfl) (.nil)))))) (by simp [Value.oneCell']) rfl) rfl ?_
            refine WA.branch [9] (by kernel_rfl) ⟨?_, trivial⟩
            refine WI.step #[true, true, true, true, true, true, true, true, true, true, false] rfl rfl (WO.boxA (.pl rfl) rfl fun b33 => ?_)
            refine WA.take 10 #[true, true, true, true, true, true, true, true, true, true, true] rfl (by kernel_rfl) (fun _ _ => Y.assign (.pl rfl)) rfl ?_
            refine WA.done (by kernel_rfl) ?_
            refine KK.pick [0, 1, 4, 3, 2] rfl rfl ?_
            exact W.joinAt hK6 ((b33, b25, b27, b29, b31)) (by trivial) (.cons (rfl) (.nil)) (.cons (i := 0) rfl (.cons (i := 2) rfl (.nil))) (fun w hw => hw.cong (by simp [memM, row, ints, vals]))
        · -- 7 first
          refine WI.step #[true, false, true, true, true, false, true, true, false, false, false] rfl rfl (WO.make Try.underlying22 mk3 rfl (.pl rfl) (by omega) rfl fun b31 => ?_)
          refine WA.branch [1, 5] (by kernel_rfl) ⟨?_, ?_, trivial⟩
          · -- 1 first
            refine WI.step #[true, true, true, true, true, false, true, true, false, false, false] rfl rfl (WO.makeMap rfl fun b25 => ?_)
            refine WA.branch [5] (by kernel_rfl) ⟨?_, trivial⟩
            refine WI.step #[true, true, true, true, true, true, true, true, false, false, false] rfl rfl (WO.make Try.underlying22 mk3 rfl (.pl rfl) (by omega) rfl fun b29 => ?_)
            refine WA.take 8 #[true, true, true, true, true, true, true, true, true, false, false] rfl (by kernel_rfl) (fun _ _ => Y.build shape36 (.cons (.pl rfl) (.cons (.pl rfl) (.cons (.pl rfl) (.cons (.pl rfl) (.cons (.pl rfl) (.nil)))))) (by simp [Value.oneCell']) rfl) rfl ?_
            refine WA.branch [9] (by kernel_rfl) ⟨?_, trivial⟩
            refine WI.step #[true, true, true, true, true, true, true, true, true, true, false] rfl rfl (WO.boxA (.pl rfl) rfl fun b33 => ?_)
            refine WA.take 10 #[true, true, true, true, true, true, true, true, true, true, true] rfl (by kernel_rfl) (fun _ _ => Y.assign (.pl rfl)) rfl ?_
            refine WA.done (by kernel_rfl) ?_
            refine KK.pick [0, 2, 4, 1, 3] rfl rfl ?_
            exact W.joinAt hK6 ((b33, b25, b27, b29, b31)) (by trivial) (.cons (rfl) (.nil)) (.cons (i := 0) rfl (.cons (i := 2) rfl (.nil))) (fun w hw => hw.cong (by simp [memM, row, ints, vals]))
          · -- 5 first
            refine WI.step #[true, false, true, true, true, true, true, true, false, false, false] rfl rfl (WO.make Try.underlying22 mk3 rfl (.pl rfl) (by omega) rfl fun b29 => ?_)
            refine WA.branch [1] (by kernel_rfl) ⟨?_, trivial⟩
            refine WI.step #[true, true, true, true, true, true, true, true, false, false, false] rfl rfl (WO.makeMap rfl fun b25 => ?_)
            refine WA.take 8 #[true, true, true, true, true, true, true, true, true, false, false] rfl (by kernel_rfl) (fun _ _ => Y.build shape36 (.cons (.pl rfl) (.cons (.pl rfl) (.cons (.pl rfl) (.cons (.pl rfl) (.cons (.pl rfl) (.nil)))))) (by simp [Value.oneCell']) rfl) rfl ?_
            refine WA.branch [9] (by kernel_rfl) ⟨?_, trivial⟩
            refine WI.step #[true, true, true, true, true, true, true, true, true, true, false] rfl rfl (WO.boxA (.pl rfl) rfl fun b33 => ?_)
            refine WA.take 10 #[true, true, true, true, true, true, true, true, true, true, true] rfl (by kernel_rfl) (fun _ _ => Y.assign (.pl rfl)) rfl ?_
            refine WA.done (by kernel_rfl) ?_
            refine KK.pick [0, 1, 4, 2, 3] rfl rfl ?_
            exact W.joinAt hK6 ((b33, b25, b27, b29, b31)) (by trivial) (.cons (rfl) (.nil)) (.cons (i := 0) rfl (.cons (i := 2) rfl (.nil))) (fun w hw => hw.cong (by simp [memM, row, ints, vals]))
      · -- 5 first
        refine WI.step #[true, false, true, false, true, true, true, false, false, false, false] rfl rfl (WO.make Try.underlying22 mk3 rfl (.pl rfl) (by omega) rfl fun b29 => ?_)
        refine WA.branch [1, 3, 7] (by kernel_rfl) ⟨?_, ?_, ?_, trivial⟩
        · -- 1 first
          refine WI.step #[true, true, true, false, true, true, true, false, false, false, false] rfl rfl (WO.makeMap rfl fun b25 => ?_)
          refine WA.branch [3, 7] (by kernel_rfl) ⟨?_, ?_, trivial⟩
          · -- 3 first
            refine WI.step #[true, true, true, true, true, true, true, false, false, false, false] rfl rfl (WO.make Try.underlying22 mk3 rfl (.pl rfl) (by omega) rfl fun b27 => ?_)
            refine WA.branch [7] (by kernel_rfl) ⟨?_, trivial⟩
            refine WI.step #[true, true, true, true, true, true, true, true, false, false, false] rfl rfl (WO.make Try.underlying22 mk3 rfl (.pl rfl) (by omega) rfl fun b31 => ?_)
            refine WA.take 8 #[true, true, true, true, true, true, true, true, true, false, false] rfl (by kernel_rfl) (fun _ _ => Y.build shape36 (.cons (.pl rfl) (.cons (.pl rfl) (.cons (.pl rfl) (.cons (.pl rfl) (.cons (.pl rfl) (.nil)))))) (by simp [Value.oneCell']) rfl) rfl ?_
            refine WA.branch [9] (by kernel_rfl) ⟨?_, trivial⟩
            refine WI.step #[true, true, true, true, true, true, true, true, true, true, false] rfl rfl (WO.boxA (.pl rfl) rfl fun b33 => ?_)
            refine WA.take 10 #[true, true, true, true, true, true, true, true, true, true, true] rfl (by kernel_rfl) (fun _ _ => Y.assign (.pl rfl)) rfl ?_
            refine WA.done (by kernel_rfl) ?_
            refine KK.pick [0, 3, 2, 4, 1] rfl rfl ?_
            exact W.joinAt hK6 ((b33, b25, b27, b29, b31)) (by trivial) (.cons (rfl) (.nil)) (.cons (i := 0) rfl (.cons (i := 2) rfl (.nil))) (fun w hw => hw.cong (by simp [memM, row, ints, vals]))
          · -- 7 first
            refine WI.step #[true, true, true, false, true, true, true, true, false, false, false] rfl rfl (WO.make Try.underlying22 mk3 rfl (.pl rfl) (by omega) rfl fun b31 => ?_)
            refine WA.branch [3] (by kernel_rfl) ⟨?_, trivial⟩
            refine WI.step #[true, true, true, true, true, true, true, true, false, false, false] rfl rfl (WO.make Try.underlying22 mk3 rfl (.pl rfl) (by omega) rfl fun b27 => ?_)
            refine WA.take 8 #[true, true, true, true, true, true, true, true, true, false, false] rfl (by kernel_rfl) (fun _ _ => Y.build shape36 (.cons (.pl rfl) (.cons (.pl rfl) (.cons (.pl rfl) (.cons (.pl rfl) (.cons (.pl rfl) (.nil)))))) (by simp [Value.oneCell']) rfl) rfl ?_
            refine WA.branch [9] (by kernel_rfl) ⟨?_, trivial⟩
            refine WI.step #[true, true, true, true, true, true, true, true, true, true, false] rfl rfl (WO.boxA (.pl rfl) rfl fun b33 => ?_)
            refine WA.take 10 #[true, true, true, true, true, true, true, true, true, true, true] rfl (by kernel_rfl) (fun _ _ => Y.assign (.pl rfl)) rfl ?_
            refine WA.done (by kernel_rfl) ?_
            refine KK.pick [0, 3, 1, 4, 2] rfl rfl ?_
            exact W.joinAt hK6 ((b33, b25, b27, b29, b31)) (by trivial) (.cons (rfl) (.nil)) (.cons (i := 0) rfl (.cons (i := 2) rfl (.nil))) (fun w hw => hw.cong (by simp [memM, row, ints, vals]))
        · -- 3 first
          refine WI.step #[true, false, true, true, true, true, true, false, false, false, false] rfl rfl (WO.make Try.underlying22 mk3 rfl (.pl rfl) (by omega) rfl fun b27 => ?_)
          refine WA.branch [1, 7] (by kernel_rfl) ⟨?_, ?_, trivial⟩
          · -- 1 first
            refine WI.step #[true, true, true, true, true, true, true, false, false, false, false] rfl rfl (WO.makeMap rfl fun b25 => ?_)
            refine WA.branch [7] (by kernel_rfl) ⟨?_, trivial⟩
            refine WI.step #[true, true, true, true, true, true, true, true, false, false, false] rfl rfl (WO.make Try.underlying22 mk3 rfl (.pl rfl) (by omega) rfl fun b31 => ?_)
            refine WA.take 8 #[true, true, true, true, true, true, true, true, true, false, false] rfl (by kernel_rfl) (fun _ _ => Y.build shape36 (.cons (.pl rfl) (.cons (.pl rfl) (.cons (.pl rfl) (.cons (.pl rfl) (.cons (.pl rfl) (.nil)))))) (by simp [Value.oneCell']) rfl) rfl ?_
            refine WA.branch [9] (by kernel_rfl) ⟨?_, trivial⟩
            refine WI.step #[true, true, true, true, true, true, true, true, true, true, false] rfl rfl (WO.boxA (.pl rfl) rfl fun b33 => ?_)
            refine WA.take 10 #[true, true, true, true, true, true, true, true, true, true, true] rfl (by kernel_rfl) (fun _ _ => Y.assign (.pl rfl)) rfl ?_
            refine WA.done (by kernel_rfl) ?_
            refine KK.pick [0, 2, 3, 4, 1] rfl rfl ?_
            exact W.joinAt hK6 ((b33, b25, b27, b29, b31)) (by trivial) (.cons (rfl) (.nil)) (.cons (i := 0) rfl (.cons (i := 2) rfl (.nil))) (fun w hw => hw.cong (by simp [memM, row, ints, vals]))
          · -- 7 first
            refine WI.step #[true, false, true, true, true, true, true, true, false, false, false] rfl rfl (WO.make Try.underlying22 mk3 rfl (.pl rfl) (by omega) rfl fun b31 => ?_)
            refine WA.branch [1] (by kernel_rfl) ⟨?_, trivial⟩
            refine WI.step #[true, true, true, true, true, true, true, true, false, false, false] rfl rfl (WO.makeMap rfl fun b25 => ?_)
            refine WA.take 8 #[true, true, true, true, true, true, true, true, true, false, false] rfl (by kernel_rfl) (fun _ _ => Y.build shape36 (.cons (.pl rfl) (.cons (.pl rfl) (.cons (.pl rfl) (.cons (.pl rfl) (.cons (.pl rfl) (.nil)))))) (by simp [Value.oneCell']) rfl) rfl ?_
            refine WA.branch [9] (by kernel_rfl) ⟨?_, trivial⟩
            refine WI.step #[true, true, true, true, true, true, true, true, true, true, false] rfl rfl (WO.boxA (.pl rfl) rfl fun b33 => ?_)
            refine WA.take 10 #[true, true, true, true, true, true, true, true, true, true, true] rfl (by kernel_rfl) (fun _ _ => Y.assign (.pl rfl)) rfl ?_
            refine WA.done (by kernel_rfl) ?_
            refine KK.pick [0, 1, 3, 4, 2] rfl rfl ?_
            exact W.joinAt hK6 ((b33, b25, b27, b29, b31)) (by trivial) (.cons (rfl) (.nil)) (.cons (i := 0) rfl (.cons (i := 2) rfl (.nil))) (fun w hw => hw.cong (by simp [memM, row, ints, vals]))
        · -- 7 first
          refine WI.step #[true, false, true, false, true, true, true, true, false, false, false] rfl rfl (WO.make Try.underlying22 mk3 rfl (.pl rfl) (by omega) rfl fun b31 => ?_)
          refine WA.branch [1, 3] (by kernel_rfl) ⟨?_, ?_, trivial⟩
          · -- 1 first
            refine WI.step #[true, true, true, false, true, true, true, true, false, false, false] rfl rfl (WO.makeMap rfl fun b25 => ?_)
            refine WA.branch [3] (by kernel_rfl) ⟨?_, trivial⟩
            refine WI.step #[true, true, true, true, true, true, true, true, false, false, false] rfl rfl (WO.make Try.underlying22 mk3 rfl (.pl rfl) (by omega) rfl fun b27 => ?_)
            refine WA.take 8 #[true, true, true, true, true, true, true, true, true, false, false] rfl (by kernel_rfl) (fun _ _ => Y.build shape36 (.cons (.pl rfl) (.cons (.pl rfl) (.cons (.pl rfl) (.cons (.pl rfl) (.cons (.pl rfl) (.nil)))))) (by simp [Value.oneCell']) rfl) rfl ?_
            refine WA.branch [9] (by kernel_rfl) ⟨?_, trivial⟩
            refine WI.step #[true, true, true, true, true, true, true, true, true, true, false] rfl rfl (WO.boxA (.pl rfl) rfl fun b33 => ?_)
            refine WA.take 10 #[true, true, true, true, true, true, true, true, true, true, true] rfl (by kernel_rfl) (fun _ _ => Y.assign (.pl rfl)) rfl ?_
            refine WA.done (by kernel_rfl) ?_
            refine KK.pick [0, 2, 1, 4, 3] rfl rfl ?_
            exact W.joinAt hK6 ((b33, b25, b27, b29, b31)) (by trivial) (.cons (rfl) (.nil)) (.cons (i := 0) rfl (.cons (i := 2) rfl (.nil))) (fun w hw => hw.cong (by simp [memM, row, ints, vals]))
          · -- 3 first
            refine WI.step #[true, false, true, true, true, true, true, true, false, false, false] rfl rfl (WO.make Try.underlying22 mk3 rfl (.pl rfl) (by omega) rfl fun b27 => ?_)
            refine WA.branch [1] (by kernel_rfl) ⟨?_, trivial⟩
            refine WI.step #[true, true, true, true, true, true, true, true, false, false, false] rfl rfl (WO.makeMap rfl fun b25 => ?_)
            refine WA.take 8 #[true, true, true, true, true, true, true, true, true, false, false] rfl (by kernel_rfl) (fun _ _ => Y.build shape36 (.cons (.pl rfl) (.cons (.pl rfl) (.cons (.pl rfl) (.cons (.pl rfl) (.cons (.pl rfl) (.nil)))))) (by simp [Value.oneCell']) rfl) rfl ?_
            refine WA.branch [9] (by kernel_rfl) ⟨?_, trivial⟩
            refine WI.step #[true, true, true, true, true, true, true, true, true, true, false] rfl rfl (WO.boxA (.pl rfl) rfl fun b33 => ?_)
            refine WA.take 10 #[true, true, true, true, true, true, true, true, true, true, true] rfl (by kernel_rfl) (fun _ _ => Y.assign (.pl rfl)) rfl ?_
            refine WA.done (by kernel_rfl) ?_
            refine KK.pick [0, 1, 2, 4, 3] rfl rfl ?_
            exact W.joinAt hK6 ((b33, b25, b27, b29, b31)) (by trivial) (.cons (rfl) (.nil)) (.cons (i := 0) rfl (.cons (i := 2) rfl (.nil))) (fun w hw => hw.cong (by simp [memM, row, ints, vals]))
      · -- 7 first
        refine WI.step #[true, false, true, false, true, false, true, true, false, false, false] rfl rfl (WO.make Try.underlying22 mk3 rfl (.pl rfl) (by omega) rfl fun b31 => ?_)
        refine WA.branch [1, 3, 5] (by kernel_rfl) ⟨?_, ?_, ?_, trivial⟩
        · -- 1 first
          refine WI.step #[true, true, true, false, true, false, true, true, false, false, false] rfl rfl (WO.makeMap rfl fun b25 => ?_)
          refine WA.branch [3, 5] (by kernel_rfl) ⟨?_, ?_, trivial⟩
          · -- 3 first
            refine WI.step #[true, true, true, true, true, false, true, true, false, false, false] rfl rfl (WO.make Try.underlying22 mk3 rfl (.pl rfl) (by omega) rfl fun b27 => ?_)
            refine WA.branch [5] (by kernel_rfl) ⟨?_, trivial⟩
            refine WI.step #[true, true, true, true, true, true, true, true, false, false, false] rfl rfl (WO.make Try.underlying22 mk3 rfl (.pl rfl) (by omega) rfl fun b29 => ?_)
            refine WA.take 8 #[true, true, true, true, true, true, true, true, true, false, false] rfl (by kernel_rfl) (fun _ _ => Y.build shape36 (.cons (.pl rfl) (.cons (.pl rfl) (.cons (.pl rfl) (.cons (.pl rfl) (.cons (.pl rfl) (.nil)))))) (by simp [Value.oneCell']) rfl) rfl ?_
            refine WA.branch [9] (by kernel_rfl) ⟨?_, trivial⟩
            refine WI.step #[true, true, true, true, true, true, true, true, true, true, false] rfl rfl (WO.boxA (.pl rfl) rfl fun b33 => ?_)
            refine WA.take 10 #[true, true, true, true, true, true, true, true, true, true, true] rfl (by kernel_rfl) (fun _ _ => Y.assign (.pl rfl)) rfl ?_
            refine WA.done (by kernel_rfl) ?_
            refine KK.pick [0, 3, 2, 1, 4] rfl rfl ?_
            exact W.joinAt hK6 ((b33, b25, b27, b29, b31)) (by trivial) (.cons (rfl) (.nil)) (.cons (i := 0) rfl (.cons (i := 2) rfl (.nil))) (fun w hw => hw.cong (by simp [memM, row, ints, vals]))
          · -- 5 first
            refine WI.step #[true, true, true, false, true, true, true, true, false, false, false] rfl rfl (WO.make Try.underlying22 mk3 rfl (.pl rfl) (by omega) rfl fun b29 => ?_)
            refine WA.branch [3] (by kernel_rfl) ⟨?_, trivial⟩
            refine WI.step #[true, true, true, true, true, true, true, true, false, false, false] rfl rfl (WO.make Try.underlying22 mk3 rfl (.pl rfl) (by omega) rfl fun b27 => ?_)
            refine WA.take 8 #[true, true, true, true, true, true, true, true, true, false, false] rfl (by kernel_rfl) (fun _ _ => Y.build shape36 (.cons (.pl rfl) (.cons (.pl rfl) (.cons (.pl rfl) (.cons (.pl rfl) (.cons (.pl rfl) (.nil)))))) (by simp [Value.oneCell']) rfl) rfl ?_
            refine WA.branch [9] (by kernel_rfl) ⟨?_, trivial⟩
            refine WI.step #[true, true, true, true, true, true, true, true, true, true, false] rfl rfl (WO.boxA (.pl rfl) rfl fun b33 => ?_)
            refine WA.take 10 #[true, true, true, true, true, true, true, true, true, true, true] rfl (by kernel_rfl) (fun _ _ => Y.assign (.pl rfl)) rfl ?_
            refine WA.done (by kernel_rfl) ?_
            refine KK.pick [0, 3, 1, 2, 4] rfl rfl ?_
            exact W.joinAt hK6 ((b33, b25, b27, b29, b31)) (by trivial) (.cons (rfl) (.nil)) (.cons (i := 0) rfl (.cons (i := 2) rfl (.nil))) (fun w hw => hw.cong (by simp [memM, row, ints, vals]))
        · -- 3 first
          refine WI.step #[true, false, true, true, true, false, true, true, false, false, false] rfl rfl (WO.make Try.underlying22 mk3 rfl (.pl rfl) (by omega) rfl fun b27 => ?_)
          refine WA.branch [1, 5] (by kernel_rfl) ⟨?_, ?_, trivial⟩
          · -- 1 first
            refine WI.step #[true, true, true, true, true, false, true, true, false, false, false] rfl rfl (WO.makeMap rfl fun b25 => ?_)
            refine WA.branch [5] (by kernel_rfl) ⟨?_, trivial⟩
            refine WI.step #[true, true, true, true, true, true, true, true, false, false, false] rfl rfl (WO.make Try.underlying22 mk3 rfl (.pl rfl) (by omega) rfl fun b29 => ?_)
            refine WA.take 8 #[true, true, true, true, true, true, true, true, true, false, false] rfl (by kernel_rfl) (fun _ _ => Y.build shape36 (.cons (.pl rfl) (.cons (.pl rfl) (.cons (.pl rfl) (.cons (.pl rfl) (.cons (.pl rfl) (.nil)))))) (by simp [Value.oneCell']) rfl) rfl ?_
            refine WA.branch [9] (by kernel_rfl) ⟨?_, trivial⟩
            refine WI.step #[true, true, true, true, true, true, true, true, true, true, false] rfl rfl (WO.boxA (.pl rfl) rfl fun b33 => ?_)
            refine WA.take 10 #[true, true, true, true, true, true, true, true, true, true, true] rfl (by kernel_rfl) (fun _ _ => Y.assign (.pl rfl)) rfl ?_
            refine WA.done (by kernel_rfl) ?_
            refine KK.pick [0, 2, 3, 1, 4] rfl rfl ?_
            exact W.joinAt hK6 ((b33, b25, b27, b29, b31)) (by trivial) (.cons (rfl) (.nil)) (.cons (i := 0) rfl (.cons (i := 2) rfl (.nil))) (fun w hw => hw.cong (by simp [memM, row, ints, vals]))
          · -- 5 first
            refine WI.step #[true, false, true, true, true, true, true, true, false, false, false] rfl rfl (WO.make Try.underlying22 mk3 rfl (.pl rfl) (by omega) rfl fun b29 => ?_)
            refine WA.branch [1] (by kernel_rfl) ⟨?_, trivial⟩
            refine WI.step #[true, true, true, true, true, true, true, true, false, false, false] rfl rfl (WO.makeMap rfl fun b25 => ?_)
            refine WA.take 8 #[true, true, true, true, true, true, true, true, true, false, false] rfl (by kernel_rfl) (fun _ _ => Y.build shape36 (.cons (.pl rfl) (.cons (.pl rfl) (.cons (.pl rfl) (.cons (.pl rfl) (.cons (.pl rfl) (.nil)))))) (by simp [Value.oneCell']) rfl) rfl ?_
            refine WA.branch [9] (by kernel_rfl) ⟨?_, trivial⟩
            refine WI.step #[true, true, true, true, true, true, true, true, true, true, false] rfl rfl (WO.boxA (.pl rfl) rfl fun b33 => ?_)
            refine WA.take 10 #[true, true, true, true, true, true, true, true, true, true, true] rfl (by kernel_rfl) (fun _ _ => Y.assign (.pl rfl)) rfl ?_
            refine WA.done (by kernel_rfl) ?_
            refine KK.pick [0, 1, 3, 2, 4] rfl rfl ?_
            exact W.joinAt hK6 ((b33, b25, b27, b29, b31)) (by trivial) (.cons (rfl) (.nil)) (.cons (i := 0) rfl (.cons (i := 2) rfl (.nil))) (fun w hw => hw.cong (by simp [memM, row, ints, vals]))
        · -- 5 first
          refine WI.step #[true, false, true, false, true, true, true, true, false, false, false] rfl rfl (WO.make Try.underlying22 mk3 rfl (.pl rfl) (by omega) rfl fun b29 => ?_)
          refine WA.branch [1, 3] (by kernel_rfl) ⟨?_, ?_, trivial⟩
          · -- 1 first
            refine WI.step #[true, true, true, false, true, true, true, true, false, false, false] rfl rfl (WO.makeMap rfl fun b25 => ?_)
            refine WA.branch [3] (by kernel_rfl) ⟨?_, trivial⟩
            refine WI.step #[true, true, true, true, true, true, true, true, false, false, false] rfl rfl (WO.make Try.underlying22 mk3 rfl (.pl rfl) (by omega) rfl fun b27 => ?_)
            refine WA.take 8 #[true, true, true, true, true, true, true, true, true, false, false] rfl (by kernel_rfl) (fun _ _ => Y.build shape36 (.cons (.pl rfl) (.cons (.pl rfl) (.cons (.pl rfl) (.cons (.pl rfl) (.cons (.pl rfl) (.nil)))))) (by simp [Value.oneCell']) rfl) rfl ?_
            refine WA.branch [9] (by kernel_rfl) ⟨?_, trivial⟩
            refine WI.step #[true, true, true, true, true, true, true, true, true, true, false] rfl rfl (WO.boxA (.pl rfl) rfl fun b33 => ?_)
            refine WA.take 10 #[true, true, true, true, true, true, true, true, true, true, true] rfl (by kernel_rfl) (fun _ _ => Y.assign (.pl rfl)) rfl ?_
            refine WA.done (by kernel_rfl) ?_
            refine KK.pick [0, 2, 1, 3, 4] rfl rfl ?_
            exact W.joinAt hK6 ((b33, b25, b27, b29, b31)) (by trivial) (.cons (rfl) (.nil)) (.cons (i := 0) rfl (.cons (i := 2) rfl (.nil))) (fun w hw => hw.cong (by simp [memM, row, ints, vals]))
          · -- 3 first
            refine WI.step #[true, false, true, true, true, true, true, true, false, false, false] rfl rfl (WO.make Try.underlying22 mk3 rfl (.pl rfl) (by omega) rfl fun b27 => ?_)
            refine WA.branch [1] (by kernel_rfl) ⟨?_, trivial⟩
            refine WI.step #[true, true, true, true, true, true, true, true, false, false, false] rfl rfl (WO.makeMap rfl fun b25 => ?_)
            refine WA.take 8 #[true, true, true, true, true, true, true, true, true, false, false] rfl (by kernel_rfl) (fun _ _ => Y.build shape36 (.cons (.pl rfl) (.cons (.pl rfl) (.cons (.pl rfl) (.cons (.pl rfl) (.cons (.pl rfl) (.nil)))))) (by simp [Value.oneCell']) rfl) rfl ?_
            refine WA.branch [9] (by kernel_rfl) ⟨?_, trivial⟩
            refine WI.step #[true, true, true, true, true, true, true, true, true, true, false] rfl rfl (WO.boxA (.pl rfl) rfl fun b33 => ?_)
            refine WA.take 10 #[true, true, true, true, true, true, true, true, true, true, true] rfl (by kernel_rfl) (fun _ _ => Y.assign (.pl rfl)) rfl ?_
            refine WA.done (by kernel_rfl) ?_
            refine KK.pick [0, 1, 2, 3, 4] rfl rfl ?_
            exact W.joinAt hK6 ((b33, b25, b27, b29, b31)) (by trivial) (.cons (rfl) (.nil)) (.cons (i := 0) rfl (.cons (i := 2) rfl (.nil))) (fun w hw => hw.cong (by simp [memM, row, ints, vals]))
    · -- behind it
      rintro ⟨bm, bp, bs, bx, bo⟩ _
      refine W.seq fun K7 hK7 => ?_
      -- region 6: agree.go:91
      refine W.seqR fun Q8 hQ8 => ?_
      refine WL.q (Y.move (.pl rfl)) rfl ?_
      refine WL.q (Y.nilCheck (.pl rfl)) rfl ?_
      refine WL.q ((by first | exact Y.fieldAddr0 (off := 5) (ft := 22) Try.underlying36 rfl cells22 (.pl rfl) | exact Y.fieldAddr (off := 5) (ft := 22) Try.underlying36 rfl cells22 (.pl rfl))) rfl ?_
      refine WL.q (Y.load Try.underlying22 rfl (.pl rfl) (fun w hw => by first | exact cell_lit (hw.obj (i := 0) rfl) rfl)) rfl ?_
      refine WL.q (Y.len Try.underlying22 (.pl rfl)) rfl ?_
      refine WL.q (Y.move (.pl rfl)) rfl ?_
      refine WL.next hQ8 (.cons (i := 0) rfl (.cons (i := 2) rfl (.cons (i := 10) rfl (.cons (i := 38) rfl (.cons (i := 39) rfl (.nil)))))) ?_
      refine W.block ?_
      refine W.loop (γ := Nat) (Em := fun k => [(39, .int .i64 (k : Int))]) (M := fun k => memM bm bp bs bx bo vs.length (.slice a1 vs.length c1) ⟨[], 0, List.replicate vs.length 0, List.replicate vs.length 0, List.replicate k (-1) ++ List.replicate (vs.length - k) 0⟩) (I := fun k => k ≤ vs.length) (m := fun k => vs.length - k) (0) (Nat.zero_le _) (.cons rfl (.nil)) (.cons (i := 0) rfl (.cons (i := 2) rfl (.cons (i := 10) rfl (.cons (i := 38) rfl (.nil))))) (fun w hw => hw) (fun k hI K9 hK9 => ?_)
      -- region 7: agree.go:91
      refine W.seqR fun Q10 hQ10 => ?_
      refine WL.q (Y.lss (.pl rfl) (.pl rfl)) rfl ?_
      refine WL.next hQ10 (.cons (i := 0) rfl (.cons (i := 2) rfl (.cons (i := 10) rfl (.cons (i := 38) rfl (.cons (i := 39) rfl (.cons (i := 40) rfl (.nil))))))) ?_
      refine W.seq fun K11 hK11 => ?_
      refine W.cond (.pl rfl) (fun hC1 => ?_) (fun hC1 => ?_)
      · -- C1 yes
        try simp only [Bool.or_eq_true, Bool.and_eq_true, Bool.not_eq_true', decide_eq_true_eq, decide_eq_false_iff_not, Bool.or_eq_false_iff, Bool.and_eq_false_iff, Bool.not_eq_false', Bool.not_eq_eq_eq_not, Bool.not_true, Bool.not_false] at hC1
        have hk : k < vs.length := by omega
        refine W.skip ?_
        refine W.go hK11 (.cons (i := 0) rfl (.cons (i := 2) rfl (.cons (i := 10) rfl (.cons (i := 38) rfl (.cons (i := 39) rfl (.nil)))))) ?_
        refine W.seq fun K12 hK12 => ?_
        refine W.block ?_
        -- region 8: agree.go:91
        refine W.seqR fun Q13 hQ13 => ?_
        refine WL.q (Y.move (.pl rfl)) rfl ?_
        refine WL.q (Y.assign (.pl rfl)) rfl ?_
        refine WL.next hQ13 (.cons (i := 0) rfl (.cons (i := 2) rfl (.cons (i := 10) rfl (.cons (i := 11) rfl (.cons (i := 38) rfl (.cons (i := 39) rfl (.nil))))))) ?_
        -- region 9: agree.go:92
        refine W.reg ?_
        refine WL.q (Y.move (.pl rfl)) rfl ?_
        refine WL.q (Y.nilCheck (.pl rfl)) rfl ?_
        refine WL.q ((by first | exact Y.fieldAddr0 (off := 5) (ft := 22) Try.underlying36 rfl cells22 (.pl rfl) | exact Y.fieldAddr (off := 5) (ft := 22) Try.underlying36 rfl cells22 (.pl rfl))) rfl ?_
        refine WL.q (Y.load Try.underlying22 rfl (.pl rfl) (fun w hw => by first | exact cell_lit (hw.obj (i := 0) rfl) rfl)) rfl ?_
        refine WL.q (Y.move (.pl rfl)) rfl ?_
        refine WL.q ((by first | exact Y.own1N Try.underlying22 cells3 (.pl rfl) (.pl rfl) (by omega) | exact Y.own1Z Try.underlying22 cells3 (.pl rfl) (.pl rfl) (by omega))) rfl ?_
        refine WL.step (WO.store cells3 (.pl rfl) (.pl rfl) rfl (i := 4) rfl (by rw [ints_size]; simp; omega) ?_)
        refine WL.nil ?_
        refine W.go hK12 (.cons (i := 0) rfl (.cons (i := 2) rfl (.cons (i := 10) rfl (.cons (i := 38) rfl (.cons (i := 39) rfl (.nil)))))) ?_
        -- region 10: agree.go:91
        refine W.reg ?_
        refine WL.q (Y.add (.pl rfl) (.pl rfl) (by omega)) rfl ?_
        refine WL.q (Y.move (.pl rfl)) rfl ?_
        refine WL.nil ?_
        exact W.again hK9 (k + 1) (by first | trivial | omega) (by omega) (.cons (rfl) (.nil)) (.cons (i := 0) rfl (.cons (i := 2) rfl (.cons (i := 10) rfl (.cons (i := 38) rfl (.nil))))) (fun w hw => hw.cong (by simp only [memM, row, List.set_cons_zero, List.set_cons_succ, ints_set, rep_set _ _ (by assumption : k < vs.length)]))
      · -- C1 no
        try simp only [Bool.or_eq_true, Bool.and_eq_true, Bool.not_eq_true', decide_eq_true_eq, decide_eq_false_iff_not, Bool.or_eq_false_iff, Bool.and_eq_false_iff, Bool.not_eq_false', Bool.not_eq_eq_eq_not, Bool.not_true, Bool.not_false] at hC1
        obtain rfl : k = vs.length := by omega
        refine W.exit ?_
        refine W.go hK7 (.cons (i := 0) rfl (.cons (i := 2) rfl (.cons (i := 10) rfl (.nil)))) ?_
        -- region 11: agree.go:94
        refine W.seqR fun Q14 hQ14 => ?_
        refine WL.q (Y.move (.pl rfl)) rfl ?_
        refine WL.q (Y.fn (.cons (.pl rfl) (.nil))) rfl ?_
        refine WL.q (Y.assign (.pl rfl)) rfl ?_
        refine WL.next hQ14 (.cons (i := 0) rfl (.cons (i := 2) rfl (.cons (i := 10) rfl (.cons (i := 12) rfl (.nil))))) ?_
        refine W.join (γ := Unit) (Em := fun _ => [(12, .func (.func 14) [Value.pointer (some ⟨bm, 0, none⟩)].toArray #[])]) (M := fun _ => memM bm bp bs bx bo vs.length (.slice a1 vs.length c1) (initF vs.length)) (I := fun _ => True) (.cons (i := 2) rfl (.cons (i := 10) rfl (.nil))) (fun K15 hK15 => ?_) ?_
        · -- up to J0
          -- region 12: agree.go:95
          refine W.seqR fun Q16 hQ16 => ?_
          refine WL.q (Y.move (.pl rfl)) rfl ?_
          refine WL.next hQ16 (.cons (i := 2) rfl (.cons (i := 10) rfl (.cons (i := 12) rfl (.cons (i := 51) rfl (.nil))))) ?_
          refine W.block ?_
          -- region 13: agree.go:96
          refine W.seqR fun Q17 hQ17 => ?_
          refine WL.q (Y.eql (.pl rfl) (.pl rfl)) rfl ?_
          refine WL.q (Y.assign (.pl rfl)) rfl ?_
          refine WL.next hQ17 (.cons (i := 2) rfl (.cons (i := 10) rfl (.cons (i := 12) rfl (.cons (i := 51) rfl (.cons (i := 52) rfl (.nil)))))) ?_
          refine W.cond (.pl rfl) (fun hC2 => ?_) (fun hC2 => ?_)
          · -- C2 yes
            try simp only [Bool.or_eq_true, Bool.and_eq_true, Bool.not_eq_true', decide_eq_true_eq, decide_eq_false_iff_not, Bool.or_eq_false_iff, Bool.and_eq_false_iff, Bool.not_eq_false', Bool.not_eq_eq_eq_not, Bool.not_true, Bool.not_false] at hC2
            exact absurd hC2 (by decide)
          · -- C2 no
            try simp only [Bool.or_eq_true, Bool.and_eq_true, Bool.not_eq_true', decide_eq_true_eq, decide_eq_false_iff_not, Bool.or_eq_false_iff, Bool.and_eq_false_iff, Bool.not_eq_false', Bool.not_eq_eq_eq_not, Bool.not_true, Bool.not_false] at hC2
            -- region 15: agree.go:98
            refine W.seqR fun Q18 hQ18 => ?_
            refine WL.q (Y.eql (.pl rfl) (.pl rfl)) rfl ?_
            refine WL.q (Y.assign (.pl rfl)) rfl ?_
            refine WL.next hQ18 (.cons (i := 2) rfl (.cons (i := 10) rfl (.cons (i := 12) rfl (.cons (i := 56) rfl (.nil))))) ?_
            refine W.cond (.pl rfl) (fun hC3 => ?_) (fun hC3 => ?_)
            · -- C3 yes
              try simp only [Bool.or_eq_true, Bool.and_eq_true, Bool.not_eq_true', decide_eq_true_eq, decide_eq_false_iff_not, Bool.or_eq_false_iff, Bool.and_eq_false_iff, Bool.not_eq_false', Bool.not_eq_eq_eq_not, Bool.not_true, Bool.not_false] at hC3
              -- region 16: agree.go:99
              refine W.reg ?_
              refine WL.q (Y.move (.pl rfl)) rfl ?_
              refine WL.q (Y.fn (.cons (.pl rfl) (.nil))) rfl ?_
              refine WL.q (Y.assign (.pl rfl)) rfl ?_
              refine WL.nil ?_
              exact W.joinAt hK15 (()) (by first | trivial | omega) (.cons (rfl) (.nil)) (.cons (i := 2) rfl (.cons (i := 10) rfl (.nil))) (fun w hw => hw.cong (by simp [memM, initF]))
            · -- C3 no
              try simp only [Bool.or_eq_true, Bool.and_eq_true, Bool.not_eq_true', decide_eq_true_eq, decide_eq_false_iff_not, Bool.or_eq_false_iff, Bool.and_eq_false_iff, Bool.not_eq_false', Bool.not_eq_eq_eq_not, Bool.not_true, Bool.not_false] at hC3
              exact absurd trivial hC3
        · -- behind J0
          intro _ _
          refine W.seq fun K19 hK19 => ?_
          -- region 17: agree.go:101
          refine W.seqR fun Q20 hQ20 => ?_
          refine WL.q (Y.move (.pl rfl)) rfl ?_
          refine WL.q (Y.len Try.underlying22 (.pl rfl)) rfl ?_
          refine WL.q (Y.move (.pl rfl)) rfl ?_
          refine WL.next hQ20 (.cons (i := 10) rfl (.cons (i := 12) rfl (.cons (i := 60) rfl (.cons (i := 61) rfl (.cons (i := 62) rfl (.nil)))))) ?_
          refine W.block ?_
          refine W.loop (γ := Nat) (Em := fun k => [(62, .int .i64 (k : Int))]) (M := fun q => memM bm bp bs bx bo vs.length (.slice a1 vs.length c1) (runF 3 vs ls q)) (I := fun q => q ≤ ls.length) (m := fun q => ls.length - q) (0) (Nat.zero_le _) (.cons rfl (.nil)) (.cons (i := 10) rfl (.cons (i := 12) rfl (.cons (i := 60) rfl (.cons (i := 61) rfl (.nil))))) (fun w hw => hw.cong (by simp [memM, runF, initF])) (fun q hI K21 hK21 => ?_)
          -- region 18: agree.go:101
          refine W.seqR fun Q22 hQ22 => ?_
          refine WL.q (Y.lss (.pl rfl) (.pl rfl)) rfl ?_
          refine WL.next hQ22 (.cons (i := 10) rfl (.cons (i := 12) rfl (.cons (i := 60) rfl (.cons (i := 61) rfl (.cons (i := 62) rfl (.cons (i := 63) rfl (.nil))))))) ?_
          refine W.seq fun K23 hK23 => ?_
          refine W.cond (.pl rfl) (fun hC4 => ?_) (fun hC4 => ?_)
          · -- C4 yes
            try simp only [Bool.or_eq_true, Bool.and_eq_true, Bool.not_eq_true', decide_eq_true_eq, decide_eq_false_iff_not, Bool.or_eq_false_iff, Bool.and_eq_false_iff, Bool.not_eq_false', Bool.not_eq_eq_eq_not, Bool.not_true, Bool.not_false] at hC4
            have hwq := hall q (by omega)
            refine W.skip ?_
            refine W.go hK23 (.cons (i := 10) rfl (.cons (i := 12) rfl (.cons (i := 60) rfl (.cons (i := 61) rfl (.cons (i := 62) rfl (.nil)))))) ?_
            refine W.seq fun K24 hK24 => ?_
            refine W.block ?_
            -- region 19: agree.go:101
            refine W.seqR fun Q25 hQ25 => ?_
            refine WL.q (Y.elem1N Try.underlying22 cells3 (.pl rfl) (.pl rfl) (by omega) (hlc q (by omega)).1) rfl ?_
            refine WL.q (Y.load Try.underlying3 rfl (.pl rfl) (fun w hw => hw.roW (hlc q (by omega)).2)) rfl ?_
            refine WL.q (Y.assign (.pl rfl)) rfl ?_
            refine WL.next hQ25 (.cons (i := 10) rfl (.cons (i := 12) rfl (.cons (i := 14) rfl (.cons (i := 60) rfl (.cons (i := 61) rfl (.cons (i := 62) rfl (.nil))))))) ?_
            -- region 20: agree.go:102
            refine W.seqR fun Q26 hQ26 => ?_
            refine WL.q (Y.move (.pl rfl)) rfl ?_
            refine WL.q (Y.nilCheck (.pl rfl)) rfl ?_
            refine WL.q ((by first | exact Y.fieldAddr0 (off := 5) (ft := 22) Try.underlying36 rfl cells22 (.pl rfl) | exact Y.fieldAddr (off := 5) (ft := 22) Try.underlying36 rfl cells22 (.pl rfl))) rfl ?_
            refine WL.q (Y.load Try.underlying22 rfl (.pl rfl) (fun w hw => by first | exact cell_lit (hw.obj (i := 0) rfl) rfl)) rfl ?_
            refine WL.q (Y.move (.pl rfl)) rfl ?_
            refine WL.q (Y.own1Z Try.underlying22 cells3 (.pl rfl) (.pl rfl) (by omega)) rfl ?_
            refine WL.q (Y.load Try.underlying3 rfl (.pl rfl) (fun w hw => hw.row (i := 4) (k := ls[q].toNat) (xs := (runF 3 vs ls q).out) rfl (by have := (run_ok (algo := 3) (vs := vs) (ls := ls) (q := q) hn8 (by omega) hl3).out; omega))) rfl ?_
            refine WL.q (Y.lss (.pl rfl) (.pl rfl)) rfl ?_
            refine WL.next hQ26 (.cons (i := 10) rfl (.cons (i := 12) rfl (.cons (i := 14) rfl (.cons (i := 60) rfl (.cons (i := 61) rfl (.cons (i := 62) rfl (.cons (i := 73) rfl (.nil)))))))) ?_
            refine W.cond (.pl rfl) (fun hC5 => ?_) (fun hC5 => ?_)
            · -- C5 yes
              try simp only [Bool.or_eq_true, Bool.and_eq_true, Bool.not_eq_true', decide_eq_true_eq, decide_eq_false_iff_not, Bool.or_eq_false_iff, Bool.and_eq_false_iff, Bool.not_eq_false', Bool.not_eq_eq_eq_not, Bool.not_true, Bool.not_false] at hC5
              have hou : (runF 3 vs ls q).out.getD ls[q].toNat 0 < 0 := by rw [getD_get (by have := (run_ok (algo := 3) (vs := vs) (ls := ls) (q := q) hn8 (by omega) hl3).out; omega)]; exact hC5
              -- region 21: agree.go:103
              refine W.reg ?_
              refine WL.q (Y.move (.pl rfl)) rfl ?_
              refine WL.q (Y.move (.pl rfl)) rfl ?_
              refine WL.step (WO.callV (fun _ : Unit => .tuple #[]) (fun _ => memM bm bp bs bx bo vs.length (.slice a1 vs.length c1) (turnF 3 vs (runF 3 vs ls q) ls[q].toNat)) (fun _ => True) isGo14 (.pl rfl) (.cons (.pl rfl) (.nil)) rfl (fun w hw => (nai_ok hw h1o (run_ok (q := q) hn8 (by omega) hl3) (by omega)).mono fun e w2 ⟨h3, h4⟩ => ⟨(), trivial, h3, h4⟩) ?_)
              intro _ _
              refine WL.nil ?_
              refine W.go hK24 (.cons (i := 10) rfl (.cons (i := 12) rfl (.cons (i := 60) rfl (.cons (i := 61) rfl (.cons (i := 62) rfl (.nil)))))) ?_
              -- region 22: agree.go:101
              refine W.reg ?_
              refine WL.q (Y.add (.pl rfl) (.pl rfl) (by omega)) rfl ?_
              refine WL.q (Y.move (.pl rfl)) rfl ?_
              refine WL.nil ?_
              exact W.again hK21 (q + 1) (by first | trivial | omega) (by omega) (.cons (rfl) (.nil)) (.cons (i := 10) rfl (.cons (i := 12) rfl (.cons (i := 60) rfl (.cons (i := 61) rfl (.nil))))) (fun w hw => hw.cong (by rw [runF_succ (by omega)]; simp only [stepF, if_pos hou]))
            · -- C5 no
              try simp only [Bool.or_eq_true, Bool.and_eq_true, Bool.not_eq_true', decide_eq_true_eq, decide_eq_false_iff_not, Bool.or_eq_false_iff, Bool.and_eq_false_iff, Bool.not_eq_false', Bool.not_eq_eq_eq_not, Bool.not_true, Bool.not_false] at hC5
              have hou : ¬ (runF 3 vs ls q).out.getD ls[q].toNat 0 < 0 := by rw [getD_get (by have := (run_ok (algo := 3) (vs := vs) (ls := ls) (q := q) hn8 (by omega) hl3).out; omega)]; exact hC5
              refine W.skip ?_
              refine W.go hK24 (.cons (i := 10) rfl (.cons (i := 12) rfl (.cons (i := 60) rfl (.cons (i := 61) rfl (.cons (i := 62) rfl (.nil)))))) ?_
              -- region 22: agree.go:101
              refine W.reg ?_
              refine WL.q (Y.add (.pl rfl) (.pl rfl) (by omega)) rfl ?_
              refine WL.q (Y.move (.pl rfl)) rfl ?_
              refine WL.nil ?_
              exact W.again hK21 (q + 1) (by first | trivial | omega) (by omega) (.cons (rfl) (.nil)) (.cons (i := 10) rfl (.cons (i := 12) rfl (.cons (i := 60) rfl (.cons (i := 61) rfl (.nil))))) (fun w hw => hw.cong (by rw [runF_succ (by omega)]; simp only [stepF, if_neg hou]))
          · -- C4 no
            try simp only [Bool.or_eq_true, Bool.and_eq_true, Bool.not_eq_true', decide_eq_true_eq, decide_eq_false_iff_not, Bool.or_eq_false_iff, Bool.and_eq_false_iff, Bool.not_eq_false', Bool.not_eq_eq_eq_not, Bool.not_true, Bool.not_false] at hC4
            obtain rfl : q = ls.length := by omega
            refine W.exit ?_
            refine W.go hK19 (.cons (i := 10) rfl (.nil)) ?_
            -- region 23: agree.go:106
            refine W.seqR fun Q27 hQ27 => ?_
            refine WL.q (Y.move (.pl rfl)) rfl ?_
            refine WL.q (Y.nilCheck (.pl rfl)) rfl ?_
            refine WL.q ((by first | exact Y.fieldAddr0 (off := 5) (ft := 22) Try.underlying36 rfl cells22 (.pl rfl) | exact Y.fieldAddr (off := 5) (ft := 22) Try.underlying36 rfl cells22 (.pl rfl))) rfl ?_
            refine WL.q (Y.load Try.underlying22 rfl (.pl rfl) (fun w hw => by first | exact cell_lit (hw.obj (i := 0) rfl) rfl)) rfl ?_
            refine WL.q (Y.assign (.pl rfl)) rfl ?_
            refine WL.q (Y.assign (.pl rfl)) rfl ?_
            refine WL.next hQ27 (.cons (i := 6) rfl (.cons (i := 7) rfl (.nil))) ?_
            refine W.ret2 (fn := Try.f7) Try.results7 rfl rfl (fun _ _ h => h) (fun w hw => ?_)
            refine hR _ _ ?_
            exact ⟨bo, trivial, rfl, by rw [playF_eq]; exact hw.pick [4] rfl⟩

end Go.Proofs.Ytglhflmecmidkaa
