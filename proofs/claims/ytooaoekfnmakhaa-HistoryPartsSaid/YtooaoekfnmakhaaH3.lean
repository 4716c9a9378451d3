/- history: Calls. -/
import Derived.Test.YtooaoekfnmakhaaH2
set_option linter.unusedVariables false
set_option linter.unusedSimpArgs false
set_option linter.unusedSectionVars false
set_option maxRecDepth 100000
namespace Go.Proofs.Ytooaoekfnmakhaa
open Go.RowKit
theorem cells36 : Try.prog.cellsOf 36 = 3 + 1 := by kernel_rfl
theorem isGo37 : IsGo Try.prog 37 := ⟨_, Try.func37, by kernel_rfl, rfl⟩
theorem isGo38 : IsGo Try.prog 38 := ⟨_, Try.func38, by kernel_rfl, rfl⟩
theorem zero36 : ∃ i, Try.prog.info? 36 = some i ∧ i.zero = some (Value.agg #[(Value.int .i64 0), (Value.int .i64 0), (Value.int .i64 0), (Value.int .i64 0)]) := ⟨_, rfl, by kernel_rfl⟩
theorem shape84 : Shape Try.prog 84 [(0, 1), (1, 1), (2, 8)] #[(Value.slice none 0 0), (Value.slice none 0 0), (Value.int .i64 0), (Value.int .i64 0), (Value.int .i64 0), (Value.int .i64 0), (Value.int .i64 0), (Value.int .i64 0), (Value.int .i64 0), (Value.int .i64 0)] := ⟨_, _, Value.agg #[(Value.slice none 0 0), (Value.slice none 0 0), (Value.int .i64 0), (Value.int .i64 0), (Value.int .i64 0), (Value.int .i64 0), (Value.int .i64 0), (Value.int .i64 0), (Value.int .i64 0), (Value.int .i64 0)], Try.underlying84, rfl, by kernel_rfl, rfl, by kernel_rfl, by decide⟩
def evsF (ts : List Int) : List Ev → Int → Rd → Int × Int × Rd
  | [], i, r => (0, i, r)
  | v :: l, i, r => if (eventF ts r i v).1 ≠ 0 then ((eventF ts r i v).1, i, r) else evsF ts l (i + 1) (eventF ts r i v).2
def rd0 : Rd := ⟨[], List.replicate 8 0⟩
def callsF (ts : List Int) (l : List Ev) : List Cl × Int × Int :=
  if typesF ts ≠ 0 then ([], 0, typesF ts) else if 200 < l.length then ([], 0, 2)
  else if (evsF ts l 0 rd0).1 ≠ 0 then ([], (evsF ts l 0 rd0).2.1, (evsF ts l 0 rd0).1) else ((evsF ts l 0 rd0).2.2.out, 0, 0)
theorem rd0_ok : rd0.Ok := ⟨rfl, fun w hw => by
  show 0 ≤ (List.replicate 8 (0 : Int)).getD w 0 ∧ (List.replicate 8 (0 : Int)).getD w 0 ≤ 0
  rw [getD_get (by simpa using hw), List.getElem_replicate]; exact ⟨Int.le_refl _, Int.le_refl _⟩, by simp [rd0]⟩
theorem event_inv {ts : List Int} {r : Rd} {i : Int} {v : Ev} {q : Nat} (h : r.Ok) (hl : r.out.length ≤ q) (hq : q < 1000) : (eventF ts r i v).2.Ok ∧ (eventF ts r i v).2.out.length ≤ q + 1 := by
  have same : r.Ok ∧ r.out.length ≤ q + 1 := ⟨h, by omega⟩
  unfold eventF
  split
  · exact same
  · rename_i h0
    have hw : v.who.toNat < r.opn.length := by have := h.l8; omega
    split
    · split
      · exact same
      · split
        · exact same
        · refine ⟨⟨by simpa using h.l8, fun w hw8 => ?_, by simp; omega⟩, by simp; omega⟩
          have := h.ge w hw8
          simp only
          rw [getD_set hw]
          simp only [List.length_append, List.length_cons, List.length_nil]
          split <;> omega
    · split
      · exact same
      · split
        · exact same
        · refine ⟨⟨by simpa using h.l8, fun w hw8 => ?_, by simpa using h.sm⟩, by simp; omega⟩
          have := h.ge w hw8
          simp only
          rw [getD_set hw]
          simp only [List.length_set]
          split <;> omega
theorem evs_step {ts : List Int} {l : List Ev} {q : Nat} {r : Rd} (hq : q < l.length) (h : (eventF ts r q l[q]).1 = 0) : evsF ts (l.drop q) q r = evsF ts (l.drop (q + 1)) ((q + 1 : Nat) : Int) (eventF ts r q l[q]).2 := by
  rw [List.drop_eq_getElem_cons hq]
  simp only [evsF, h, ne_eq, not_true_eq_false, if_false]
  rfl
theorem evs_err {ts : List Int} {l : List Ev} {q : Nat} {r : Rd} (hq : q < l.length) (h : (eventF ts r q l[q]).1 ≠ 0) : evsF ts (l.drop q) q r = ((eventF ts r q l[q]).1, (q : Int), r) := by
  rw [List.drop_eq_getElem_cons hq]
  simp only [evsF, ne_eq, h, not_false_eq_true, if_true]

theorem calls_ok (v1 v2 : Value) (ts : List Int) (l : List Ev) (w : World) (h1 : IntsIn w v1 ts) (h2 : SlIn encE 4 w v2 l) (hl1 : ts.length ≤ maxLen) (hl2 : l.length ≤ maxLen) :
    Made Try.prog 15 [v1, v2] w (fun g : Option Addr × Nat => .tuple #[.slice g.1 (callsF ts l).1.length g.2, .int .i64 (callsF ts l).2.1, .int .i64 (callsF ts l).2.2]) (fun g => [cRow g.1 g.2 30 7 (callsF ts l).1.length ((callsF ts l).1.flatMap encC)]) (fun _ => True) := by
  have h1i := h1
  have h1o := h1.old
  obtain ⟨a1, c1, rfl, hcap1, hv⟩ := h1
  obtain ⟨a2, c2, rfl, hcap2, hlc⟩ := h2
  have hm1 := hl1
  have hm2 := hl2
  unfold maxLen at hm1 hm2
  refine W.enter (n := 43) Try.func15 rfl rfl Sub.refl (by simp) (St.start w) fun R hR => ?_
  -- region 0: history.go:98
  refine W.seqR fun Q1 hQ1 => ?_
  refine WL.q (Y.assign (.pl rfl)) rfl ?_
  refine WL.q (Y.assign (.pl rfl)) rfl ?_
  refine WL.q (Y.assign (.pl rfl)) rfl ?_
  refine WL.next hQ1 (.cons (i := 0) rfl (.cons (i := 1) rfl (.nil))) ?_
  refine W.seq fun K2 hK2 => ?_
  -- region 1: history.go:99
  refine W.seqR fun Q3 hQ3 => ?_
  refine WL.q (Y.move (.pl rfl)) rfl ?_
  refine WL.step (WO.callP isGo37 (.cons (.pl rfl) (.nil)) rfl (fun w hw => types_ok _ ts w (h1i.mono hw) hl1) ?_)
  refine WL.q (Y.assign (.pl rfl)) rfl ?_
  refine WL.next hQ3 (.cons (i := 0) rfl (.cons (i := 1) rfl (.cons (i := 7) rfl (.nil)))) ?_
  -- region 2: history.go:99
  refine W.seqR fun Q4 hQ4 => ?_
  refine WL.q (Y.move (.pl rfl)) rfl ?_
  refine WL.q (Y.neq (.pl rfl) (.pl rfl)) rfl ?_
  refine WL.next hQ4 (.cons (i := 0) rfl (.cons (i := 1) rfl (.cons (i := 7) rfl (.cons (i := 15) rfl (.nil))))) ?_
  refine W.cond (.pl rfl) (fun hC0 => ?_) (fun hC0 => ?_)
  · -- C0 yes
    try simp only [Bool.or_eq_true, Bool.and_eq_true, Bool.not_eq_true', decide_eq_true_eq, decide_eq_false_iff_not, Bool.or_eq_false_iff, Bool.and_eq_false_iff, Bool.not_eq_false', Bool.not_eq_eq_eq_not, Bool.not_true, Bool.not_false] at hC0
    have hF : callsF ts l = ([], 0, typesF ts) := by unfold callsF; rw [if_pos hC0]
    -- region 3: history.go:100
    refine W.seqR fun Q5 hQ5 => ?_
    refine WL.q (Y.move (.pl rfl)) rfl ?_
    refine WL.q (Y.assign (.pl rfl)) rfl ?_
    refine WL.q (Y.assign (.pl rfl)) rfl ?_
    refine WL.q (Y.assign (.pl rfl)) rfl ?_
    refine WL.next hQ5 (.cons (i := 4) rfl (.cons (i := 5) rfl (.cons (i := 6) rfl (.nil)))) ?_
    refine W.ret3 (fn := Try.f15) Try.results15 rfl rfl rfl (fun _ _ h => h) (fun w hw => ?_)
    refine hR _ _ ?_
    refine ⟨(none, 0), trivial, by rw [hF]; rfl, by rw [hF]; exact hw.nilRow _ _⟩
  · -- C0 no
    try simp only [Bool.or_eq_true, Bool.and_eq_true, Bool.not_eq_true', decide_eq_true_eq, decide_eq_false_iff_not, Bool.or_eq_false_iff, Bool.and_eq_false_iff, Bool.not_eq_false', Bool.not_eq_eq_eq_not, Bool.not_true, Bool.not_false] at hC0
    have hts4 : ts.length ≤ 4 := types_le hC0
    refine W.skip ?_
    refine W.go hK2 (.cons (i := 0) rfl (.cons (i := 1) rfl (.nil))) ?_
    refine W.seq fun K6 hK6 => ?_
    -- region 4: history.go:102
    refine W.seqR fun Q7 hQ7 => ?_
    refine WL.q (Y.move (.pl rfl)) rfl ?_
    refine WL.q (Y.len Try.underlying23 (.pl rfl)) rfl ?_
    refine WL.q (Y.gtr (.pl rfl) (.pl rfl)) rfl ?_
    refine WL.next hQ7 (.cons (i := 0) rfl (.cons (i := 1) rfl (.cons (i := 19) rfl (.nil)))) ?_
    refine W.cond (.pl rfl) (fun hC1 => ?_) (fun hC1 => ?_)
    · -- C1 yes
      try simp only [Bool.or_eq_true, Bool.and_eq_true, Bool.not_eq_true', decide_eq_true_eq, decide_eq_false_iff_not, Bool.or_eq_false_iff, Bool.and_eq_false_iff, Bool.not_eq_false', Bool.not_eq_eq_eq_not, Bool.not_true, Bool.not_false] at hC1
      have hF : callsF ts l = ([], 0, 2) := by unfold callsF; rw [if_neg (by simp [hC0]), if_pos (by omega)]
      -- region 5: history.go:103
      refine W.seqR fun Q8 hQ8 => ?_
      refine WL.q (Y.assign (.pl rfl)) rfl ?_
      refine WL.q (Y.assign (.pl rfl)) rfl ?_
      refine WL.q (Y.assign (.pl rfl)) rfl ?_
      refine WL.next hQ8 (.cons (i := 4) rfl (.cons (i := 5) rfl (.cons (i := 6) rfl (.nil)))) ?_
      refine W.ret3 (fn := Try.f15) Try.results15 rfl rfl rfl (fun _ _ h => h) (fun w hw => ?_)
      refine hR _ _ ?_
      refine ⟨(none, 0), trivial, by rw [hF]; rfl, by rw [hF]; exact hw.nilRow _ _⟩
    · -- C1 no
      try simp only [Bool.or_eq_true, Bool.and_eq_true, Bool.not_eq_true', decide_eq_true_eq, decide_eq_false_iff_not, Bool.or_eq_false_iff, Bool.and_eq_false_iff, Bool.not_eq_false', Bool.not_eq_eq_eq_not, Bool.not_true, Bool.not_false] at hC1
      refine W.skip ?_
      refine W.go hK6 (.cons (i := 0) rfl (.cons (i := 1) rfl (.nil))) ?_
      -- region 6: history.go:105
      refine W.seqR fun Q9 hQ9 => ?_
      refine WL.q (Y.move (.pl rfl)) rfl ?_
      refine WL.q (Y.build shape84 (.cons (.pl rfl) (.nil)) (by simp [Value.oneCell']) rfl) rfl ?_
      refine WL.step (WO.boxA (.pl rfl) rfl fun b22 => ?_)
      refine WL.q (Y.assign (.pl rfl)) rfl ?_
      refine WL.next hQ9 (.cons (i := 1) rfl (.cons (i := 8) rfl (.nil))) ?_
      refine W.seq fun K10 hK10 => ?_
      -- region 7: history.go:106
      refine W.seqR fun Q11 hQ11 => ?_
      refine WL.q (Y.move (.pl rfl)) rfl ?_
      refine WL.q (Y.len Try.underlying23 (.pl rfl)) rfl ?_
      refine WL.q (Y.move (.pl rfl)) rfl ?_
      refine WL.next hQ11 (.cons (i := 8) rfl (.cons (i := 23) rfl (.cons (i := 24) rfl (.cons (i := 25) rfl (.nil))))) ?_
      refine W.block ?_
      refine W.loop (γ := Nat × Rd × Option Addr × Nat) (Em := fun x => [(25, .int .i64 (x.1 : Int))]) (M := fun x => memR b22 x.2.2.1 x.2.2.2 (.slice a1 ts.length c1) x.2.1) (I := fun x => x.1 ≤ l.length ∧ x.2.1.Ok ∧ x.2.1.out.length ≤ x.1 ∧ evsF ts l 0 rd0 = evsF ts (l.drop x.1) x.1 x.2.1) (m := fun x => l.length - x.1) ((0, rd0, none, 0)) (⟨Nat.zero_le _, rd0_ok, by simp [rd0], rfl⟩) (.cons rfl (.nil)) (.cons (i := 8) rfl (.cons (i := 23) rfl (.cons (i := 24) rfl (.nil)))) (fun w hw => ((hw.nilRow 30 7).pick [1, 0] rfl).cong rfl) (fun ⟨q, r, A, cap⟩ hI K12 hK12 => ?_)
      have hok := hI.2.1
      simp only at hI hok
      -- region 8: history.go:106
      refine W.seqR fun Q13 hQ13 => ?_
      refine WL.q (Y.lss (.pl rfl) (.pl rfl)) rfl ?_
      refine WL.next hQ13 (.cons (i := 8) rfl (.cons (i := 23) rfl (.cons (i := 24) rfl (.cons (i := 25) rfl (.cons (i := 26) rfl (.nil)))))) ?_
      refine W.seq fun K14 hK14 => ?_
      refine W.cond (.pl rfl) (fun hC2 => ?_) (fun hC2 => ?_)
      · -- C2 yes
        try simp only [Bool.or_eq_true, Bool.and_eq_true, Bool.not_eq_true', decide_eq_true_eq, decide_eq_false_iff_not, Bool.or_eq_false_iff, Bool.and_eq_false_iff, Bool.not_eq_false', Bool.not_eq_eq_eq_not, Bool.not_true, Bool.not_false] at hC2
        have hq : q < l.length := by omega
        refine W.skip ?_
        refine W.go hK14 (.cons (i := 8) rfl (.cons (i := 23) rfl (.cons (i := 24) rfl (.cons (i := 25) rfl (.nil))))) ?_
        refine W.seq fun K15 hK15 => ?_
        refine W.block ?_
        -- region 9: history.go:106
        refine W.seqR fun Q16 hQ16 => ?_
        refine WL.q (Y.move (.pl rfl)) rfl ?_
        refine WL.q (Y.elemN Try.underlying23 cells36 (.pl rfl) (.pl rfl) (by omega) (hlc q (by omega)).1) rfl ?_
        refine WL.q (Y.loadAggE Try.underlying36 rfl cells36 (hlc q (by omega)).1.1 (.pl rfl) rfl (fun w hw => hw.roA (hlc q (by omega)).2)) rfl ?_
        refine WL.step (WO.alloc (cs := #[(Value.int .i64 0), (Value.int .i64 0), (Value.int .i64 0), (Value.int .i64 0)]) zero36 rfl rfl fun b10 => ?_)
        refine WL.q (Y.assign (.pl rfl)) rfl ?_
        refine WL.step (WO.storeA cells36 (.pl rfl) (.pl rfl) rfl (by simp [encE, Value.oneCell']) (i := 0) rfl (by simp [encE]) ?_)
        refine WL.next hQ16 (.cons (i := 8) rfl (.cons (i := 9) rfl (.cons (i := 10) rfl (.cons (i := 23) rfl (.cons (i := 24) rfl (.cons (i := 25) rfl (.nil))))))) ?_
        -- region 10: history.go:107
        refine W.seqR fun Q17 hQ17 => ?_
        refine WL.q (Y.move (.pl rfl)) rfl ?_
        refine WL.q (Y.move (.pl rfl)) rfl ?_
        refine WL.q (Y.loadAgg Try.underlying36 rfl cells36 (.pl rfl) rfl (fun w hw => at_obj hw (i := 0) rfl (cs := encE l[q]) (by intro j v hj; rw [Nat.zero_add]; simpa [putAt, encE] using hj))) rfl ?_
        refine WL.step (WO.call (fun g : Option Addr × Nat => .int .i64 (eventF ts r q l[q]).1) (fun g => memR b22 g.1 g.2 (.slice a1 ts.length c1) (eventF ts r q l[q]).2) (fun _ => True) isGo38 (.cons (.pl rfl) (.cons (.pl rfl) (.cons (.pl rfl) (.nil)))) rfl (fun w hw => (event_ok (v := l[q]) (hw.pick [1, 2] rfl) h1o hts4 hok (by omega)).mono fun e w2 ⟨h3, A2, c2, h4⟩ => ⟨(A2, c2), trivial, h3, h4⟩) ?_)
        rintro ⟨A', cap'⟩ _
        refine WL.q (Y.assign (.pl rfl)) rfl ?_
        refine WL.next hQ17 (.cons (i := 8) rfl (.cons (i := 9) rfl (.cons (i := 11) rfl (.cons (i := 23) rfl (.cons (i := 24) rfl (.cons (i := 25) rfl (.nil))))))) ?_
        -- region 11: history.go:107
        refine W.seqR fun Q18 hQ18 => ?_
        refine WL.q (Y.move (.pl rfl)) rfl ?_
        refine WL.q (Y.neq (.pl rfl) (.pl rfl)) rfl ?_
        refine WL.next hQ18 (.cons (i := 8) rfl (.cons (i := 9) rfl (.cons (i := 11) rfl (.cons (i := 23) rfl (.cons (i := 24) rfl (.cons (i := 25) rfl (.cons (i := 35) rfl (.nil)))))))) ?_
        refine W.cond (.pl rfl) (fun hC3 => ?_) (fun hC3 => ?_)
        · -- C3 yes
          try simp only [Bool.or_eq_true, Bool.and_eq_true, Bool.not_eq_true', decide_eq_true_eq, decide_eq_false_iff_not, Bool.or_eq_false_iff, Bool.and_eq_false_iff, Bool.not_eq_false', Bool.not_eq_eq_eq_not, Bool.not_true, Bool.not_false] at hC3
          have hF : callsF ts l = ([], (q : Int), (eventF ts r q l[q]).1) := by unfold callsF; rw [if_neg (by simp [hC0]), if_neg (by omega), hI.2.2.2, evs_err hq hC3]; simp [hC3]
          -- region 12: history.go:108
          refine W.seqR fun Q19 hQ19 => ?_
          refine WL.q (Y.move (.pl rfl)) rfl ?_
          refine WL.q (Y.move (.pl rfl)) rfl ?_
          refine WL.q (Y.assign (.pl rfl)) rfl ?_
          refine WL.q (Y.assign (.pl rfl)) rfl ?_
          refine WL.q (Y.assign (.pl rfl)) rfl ?_
          refine WL.next hQ19 (.cons (i := 4) rfl (.cons (i := 5) rfl (.cons (i := 6) rfl (.nil)))) ?_
          refine W.ret3 (fn := Try.f15) Try.results15 rfl rfl rfl (fun _ _ h => h) (fun w hw => ?_)
          refine hR _ _ ?_
          refine ⟨(none, 0), trivial, by rw [hF]; rfl, by rw [hF]; exact St.nilRow (hw.pick [] rfl) _ _⟩
        · -- C3 no
          try simp only [Bool.or_eq_true, Bool.and_eq_true, Bool.not_eq_true', decide_eq_true_eq, decide_eq_false_iff_not, Bool.or_eq_false_iff, Bool.and_eq_false_iff, Bool.not_eq_false', Bool.not_eq_eq_eq_not, Bool.not_true, Bool.not_false] at hC3
          have hinv := event_inv (ts := ts) (i := q) (v := l[q]) (q := q) hI.2.1 hI.2.2.1 (by omega)
          refine W.skip ?_
          refine W.go hK15 (.cons (i := 8) rfl (.cons (i := 23) rfl (.cons (i := 24) rfl (.cons (i := 25) rfl (.nil))))) ?_
          -- region 13: history.go:106
          refine W.reg ?_
          refine WL.q (Y.add (.pl rfl) (.pl rfl) (by omega)) rfl ?_
          refine WL.q (Y.move (.pl rfl)) rfl ?_
          refine WL.nil ?_
          exact W.again hK12 ((q + 1, (eventF ts r q l[q]).2, A', cap')) (⟨hq, hinv.1, hinv.2, hI.2.2.2.trans (evs_step hq hC3)⟩) (by omega) (.cons (rfl) (.nil)) (.cons (i := 8) rfl (.cons (i := 23) rfl (.cons (i := 24) rfl (.nil)))) (fun w hw => hw)
      · -- C2 no
        try simp only [Bool.or_eq_true, Bool.and_eq_true, Bool.not_eq_true', decide_eq_true_eq, decide_eq_false_iff_not, Bool.or_eq_false_iff, Bool.and_eq_false_iff, Bool.not_eq_false', Bool.not_eq_eq_eq_not, Bool.not_true, Bool.not_false] at hC2
        obtain rfl : q = l.length := by omega
        have hev := hI.2.2.2
        have hF : callsF ts l = (r.out, 0, 0) := by unfold callsF; rw [if_neg (by simp [hC0]), if_neg (by omega), hev, List.drop_of_length_le (Nat.le_refl _)]; simp [evsF]
        refine W.exit ?_
        refine W.go hK10 (.cons (i := 8) rfl (.nil)) ?_
        -- region 14: history.go:111
        refine W.seqR fun Q20 hQ20 => ?_
        refine WL.q (Y.move (.pl rfl)) rfl ?_
        refine WL.q (Y.nilCheck (.pl rfl)) rfl ?_
        refine WL.q ((by first | exact Y.fieldAddr0 (off := 1) (ft := 24) Try.underlying84 rfl cells24 (.pl rfl) | exact Y.fieldAddr (off := 1) (ft := 24) Try.underlying84 rfl cells24 (.pl rfl))) rfl ?_
        refine WL.q (Y.load Try.underlying24 rfl (.pl rfl) (fun w hw => cell_lit (hw.obj (i := 0) rfl) rfl)) rfl ?_
        refine WL.q (Y.assign (.pl rfl)) rfl ?_
        refine WL.q (Y.assign (.pl rfl)) rfl ?_
        refine WL.q (Y.assign (.pl rfl)) rfl ?_
        refine WL.next hQ20 (.cons (i := 4) rfl (.cons (i := 5) rfl (.cons (i := 6) rfl (.nil)))) ?_
        refine W.ret3 (fn := Try.f15) Try.results15 rfl rfl rfl (fun _ _ h => h) (fun w hw => ?_)
        refine hR _ _ ?_
        refine ⟨(A, cap), trivial, by rw [hF], by rw [hF]; exact hw.pick [1] rfl⟩

end Go.Proofs.Ytooaoekfnmakhaa
