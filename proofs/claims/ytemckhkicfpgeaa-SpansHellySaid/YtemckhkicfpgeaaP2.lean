/- The laws of spans: what their code computes, and the walks. -/
import Derived.Test.YtemckhkicfpgeaaP1
set_option linter.unusedVariables false
set_option linter.unusedSimpArgs false
set_option linter.unusedSectionVars false
set_option maxRecDepth 100000
namespace Go.Proofs.Ytemckhkicfpgeaa
open Go.RowKit
theorem isGo27 : IsGo Try.prog 27 := ⟨_, Try.func27, by kernel_rfl, rfl⟩
theorem isGo30 : IsGo Try.prog 30 := ⟨_, Try.func30, by kernel_rfl, rfl⟩
def alibkeep_SpansLong_L5 (N : Nat) (l1 : (List Span)) (later8 : Int) : ((List Span) × Int) → Option (((List Span) × Int) ⊕ (List Span))
  | (n25, v26) =>
    cond (decide (v26 < (((([] : List Span) ++ l1)).length : Int)))
      (bd (ix n25 v26) fun (x27 : Span) =>
      ck (ok64 (x27.from_ + later8)) <|
      bd (ix n25 v26) fun (x29 : Span) =>
      bd (ix (n25.set v26.toNat (Span.mk (x27.from_ + later8) x29.to_)) v26) fun (x30 : Span) =>
      ck (ok64 (x29.to_ + later8)) <|
      bd (ix (n25.set v26.toNat (Span.mk (x27.from_ + later8) x29.to_)) v26) fun (x32 : Span) =>
      ck (ok64 (v26 + 1)) <|
      some (.inl ((n25.set v26.toNat (Span.mk (x27.from_ + later8) (x29.to_ + later8))), (v26 + 1))))
      (some (.inr n25))

def alibkeep_SpansLong_L7 (N : Nat) (r34 : (Int × (List Int) × Int)) (r9 : (Int × (List Int) × Int)) : Int → Option (Int ⊕ (Unit ⊕ Bool))
  | v38 =>
    cond (decide (v38 < 12))
      (bd ((cond ((decide (r34.2.2 = 0)) == true) (ax 12 0 r34.2.1 v38) (some 0))) fun (x39 : Int) =>
      bd ((cond ((decide (r34.2.2 = 0)) == true) (ax 12 0 r9.2.1 v38) (some 0))) fun (x40 : Int) =>
      cond ((decide (r34.2.2 = 0)) && (!(decide ((bclrI .u16 x39 x40) = 0))))
        (some (.inr (.inr false)))
        (ck (ok64 (v38 + 1)) <|
        some (.inl (v38 + 1))))
      (some (.inr (.inl ())))

def alibkeep_SpansLong (N : Nat) (l1 : (List Span)) (k6 : Int) (more7 : Int) (later8 : Int) : Option Bool :=
  bd (spans_Of N l1) fun (r9 : (Int × (List Int) × Int)) =>
  bd (alibkeep_spansLives N) fun (r11 : Bool) =>
  cond ((((((((!r11) || (!(decide (r9.2.2 = 0)))) || (decide (k6 < 0))) || (decide (((l1).length : Int) ≤ k6))) || (decide (more7 < 0))) || (decide (later8 < 0))) || (decide (1000000 < more7))) || (decide (1000000 < later8)))
    (bd (alibkeep_spansLives N) fun (r12 : Bool) =>
    some r12)
    (ck (limB 16 ((([] : List Span)).length + (l1).length)) <|
    ck (limB 16 ((([] : List Span)).length + (l1).length)) <|
    bd (ix (([] : List Span) ++ l1) k6) fun (x21 : Span) =>
    ck (ok64 (x21.to_ + more7)) <|
    bd (ix (([] : List Span) ++ l1) k6) fun (x23 : Span) =>
    bd (α := (List Span)) (iter (alibkeep_SpansLong_L5 N l1 later8) N ((([] : List Span) ++ l1), 0)) <|
    fun (n24 : (List Span)) => 
      bd (spans_Of N ((([] : List Span) ++ l1).set k6.toNat (Span.mk x23.from_ (x21.to_ + more7)))) fun (r34 : (Int × (List Int) × Int)) =>
      bd (spans_Of N n24) fun (r36 : (Int × (List Int) × Int)) =>
      cond ((decide (r36.2.2 = 0)) && (!(decide (r36.1 = r9.1) && eqA 12 r36.2.1 r9.2.1)))
        (some false)
        (bd (α := (Unit ⊕ Bool)) (iter (alibkeep_SpansLong_L7 N r34 r9) N 0) <|
        Sum.elim (fun _ => 
          some true) (fun p => some p)))

theorem alibkeep_SpansLong_ok {N : Nat} {l1 : (List Span)} {k6 : Int} {more7 : Int} {later8 : Int} {res : Bool} (hF : alibkeep_SpansLong N l1 k6 more7 later8 = some res) (w : World) {v5 : Value} (hs4 : SlIn encSpan 2 w v5 l1) :
    Pure Try.prog 9 [v5, .int .i64 k6, .int .i64 more7, .int .i64 later8] w (.bool res) := by
  obtain ⟨A2, c3, rfl, hcc3, hs4⟩ := hs4.form
  refine W.enter (n := 131) Try.func9 rfl rfl Sub.refl (by simp) (St.start w) fun R hR => ?_
  unfold alibkeep_SpansLong at hF
  -- region 0: spans.go:62
  refine W.seqR fun Q1 hQ1 => ?_
  refine WL.q (Y.assign (.pl rfl)) rfl ?_
  refine WL.next hQ1 (.cons (i := 0) rfl (.cons (i := 1) rfl (.cons (i := 2) rfl (.cons (i := 3) rfl (.nil))))) ?_
  -- region 1: spans.go:63
  refine W.seqR fun Q2 hQ2 => ?_
  refine WL.q (Y.move (.pl rfl)) rfl ?_
  obtain ⟨r9, hr9, hF⟩ := bnd hF
  refine WL.step (WO.callP isGo26 (.cons (.pl rfl) (.nil)) rfl (fun w hw => spans_Of_ok (hr9) w (hs4.mono hw)) ?_)
  refine WL.q (Y.move (.pl rfl)) rfl ?_
  refine WL.q (Y.extract (.pl rfl) rfl) rfl ?_
  refine WL.q (Y.extract (.pl rfl) rfl) rfl ?_
  refine WL.step (WO.alloc (cs := (encRel (Rel.mk 0 [])).toArray) zero25 rfl rfl fun b10 => ?_)
  refine WL.step (WO.storeBA (ds := (encRel (Rel.mk r9.1 r9.2.1))) (cs' := (encRel (Rel.mk r9.1 r9.2.1))) cells25 (.pl rfl) (.pl rfl) rfl (oneRel _) (i := 0) rfl (lel (o := 0) (l := 13) (m := 13) (by decide) rfl rfl) (putW rfl) ?_)
  refine WL.q (Y.assign (.pl rfl)) rfl ?_
  refine WL.next hQ2 (.cons (i := 0) rfl (.cons (i := 1) rfl (.cons (i := 2) rfl (.cons (i := 3) rfl (.cons (i := 9) rfl (.cons (i := 10) rfl (.nil))))))) ?_
  refine W.seq fun K3 hK3 => ?_
  -- region 2: spans.go:64
  refine W.seqR fun Q4 hQ4 => ?_
  obtain ⟨r11, hr11, hF⟩ := bnd hF
  refine WL.step (WO.callP isGo27 (.nil) rfl (fun w hw => alibkeep_spansLives_ok (hr11) w ) ?_)
  refine WL.q (Y.not (.pl rfl)) rfl ?_
  refine WL.q (Y.move (.pl rfl)) rfl ?_
  refine WL.g (.pl rfl rfl rfl) (fun hg => Y.move (.pl rfl)) rfl ?_
  refine WL.g (.pl rfl rfl rfl) (fun hg => Y.neq (.gd (hg) rfl) (.pl rfl)) rfl ?_
  refine WL.q (Y.or (.pl rfl) (fun h2 => .gd (eqf h2) rfl)) rfl ?_
  refine WL.q (Y.move (.pl rfl)) rfl ?_
  refine WL.g (.pl rfl rfl rfl) (fun hg => Y.move (.pl rfl)) rfl ?_
  refine WL.g (.pl rfl rfl rfl) (fun hg => Y.lss (.gd (hg) rfl) (.pl rfl)) rfl ?_
  refine WL.q (Y.or (.pl rfl) (fun h2 => .gd (eqf h2) rfl)) rfl ?_
  refine WL.q (Y.move (.pl rfl)) rfl ?_
  refine WL.g (.pl rfl rfl rfl) (fun hg => Y.move (.pl rfl)) rfl ?_
  refine WL.g (.pl rfl rfl rfl) (fun hg => Y.move (.pl rfl)) rfl ?_
  refine WL.g (.pl rfl rfl rfl) (fun hg => Y.len Try.underlying39 (.gd (hg) rfl)) rfl ?_
  refine WL.g (.pl rfl rfl rfl) (fun hg => Y.geq (.gd (hg) rfl) (.gd (hg) rfl)) rfl ?_
  refine WL.q (Y.or (.pl rfl) (fun h2 => .gd (eqf h2) rfl)) rfl ?_
  refine WL.q (Y.move (.pl rfl)) rfl ?_
  refine WL.g (.pl rfl rfl rfl) (fun hg => Y.move (.pl rfl)) rfl ?_
  refine WL.g (.pl rfl rfl rfl) (fun hg => Y.lss (.gd (hg) rfl) (.pl rfl)) rfl ?_
  refine WL.q (Y.or (.pl rfl) (fun h2 => .gd (eqf h2) rfl)) rfl ?_
  refine WL.q (Y.move (.pl rfl)) rfl ?_
  refine WL.g (.pl rfl rfl rfl) (fun hg => Y.move (.pl rfl)) rfl ?_
  refine WL.g (.pl rfl rfl rfl) (fun hg => Y.lss (.gd (hg) rfl) (.pl rfl)) rfl ?_
  refine WL.q (Y.or (.pl rfl) (fun h2 => .gd (eqf h2) rfl)) rfl ?_
  refine WL.q (Y.move (.pl rfl)) rfl ?_
  refine WL.g (.pl rfl rfl rfl) (fun hg => Y.move (.pl rfl)) rfl ?_
  refine WL.g (.pl rfl rfl rfl) (fun hg => Y.gtr (.gd (hg) rfl) (.pl rfl)) rfl ?_
  refine WL.q (Y.or (.pl rfl) (fun h2 => .gd (eqf h2) rfl)) rfl ?_
  refine WL.q (Y.move (.pl rfl)) rfl ?_
  refine WL.g (.pl rfl rfl rfl) (fun hg => Y.move (.pl rfl)) rfl ?_
  refine WL.g (.pl rfl rfl rfl) (fun hg => Y.gtr (.gd (hg) rfl) (.pl rfl)) rfl ?_
  refine WL.q (Y.or (.pl rfl) (fun h2 => .gd (eqf h2) rfl)) rfl ?_
  refine WL.next hQ4 (.cons (i := 0) rfl (.cons (i := 1) rfl (.cons (i := 2) rfl (.cons (i := 3) rfl (.cons (i := 9) rfl (.cons (i := 55) rfl (.nil))))))) ?_
  refine W.cond (.pl rfl) (fun hC5 => ?_) (fun hC5 => ?_)
  · replace hF := cpos hC5 hF
    -- region 3: spans.go:65
    refine W.seqR fun Q6 hQ6 => ?_
    obtain ⟨r12, hr12, hF⟩ := bnd hF
    refine WL.step (WO.callP isGo27 (.nil) rfl (fun w hw => alibkeep_spansLives_ok (hr12) w ) ?_)
    refine WL.q (Y.assign (.pl rfl)) rfl ?_
    refine WL.next hQ6 (.cons (i := 8) rfl (.nil)) ?_
    obtain rfl := Option.some.inj hF
    refine W.retV (fn := Try.f9) (vs := [.bool r12]) Try.results9 ⟨.tmp rfl, trivial⟩ (fun _ _ h => h) (fun w hw => ?_)
    exact hR _ _ ⟨rfl, (hw.pick [] rfl)⟩
  · replace hF := cneg hC5 hF
    refine W.skip ?_
    refine W.go hK3 (.cons (i := 0) rfl (.cons (i := 1) rfl (.cons (i := 2) rfl (.cons (i := 3) rfl (.cons (i := 9) rfl (.nil)))))) ?_
    -- region 4: spans.go:67
    refine W.seqR fun Q7 hQ7 => ?_
    refine WL.step (WO.bsliceC (enc := encSpan) (ys := ([] : List Span)) Try.underlying39 bz43 (.nil) rfl lenSpan rfl rfl (by decide) (by decide) rfl fun b13 => ?_)
    refine WL.q (Y.move (.pl rfl)) rfl ?_
    obtain ⟨hk16, hF⟩ := ckh hF
    refine WL.step (WO.appendSO (enc := encSpan) (ys := l1) (xs := ([] : List Span)) Try.underlying39 ap43 lenSpan oneSpan (.pl rfl) rfl (.pl rfl) (i := 0) rfl (fun w hw => (hs4.mono hw)) (hk16) rfl fun A14 c15 => ?_)
    refine WL.step (WO.bsliceC (enc := encSpan) (ys := ([] : List Span)) Try.underlying39 bz43 (.nil) rfl lenSpan rfl rfl (by decide) (by decide) rfl fun b17 => ?_)
    refine WL.q (Y.move (.pl rfl)) rfl ?_
    obtain ⟨hk20, hF⟩ := ckh hF
    refine WL.step (WO.appendSO (enc := encSpan) (ys := l1) (xs := ([] : List Span)) Try.underlying39 ap43 lenSpan oneSpan (.pl rfl) rfl (.pl rfl) (i := 0) rfl (fun w hw => (hs4.mono hw)) (hk20) rfl fun A18 c19 => ?_)
    refine WL.q (Y.assign (.pl rfl)) rfl ?_
    refine WL.q (Y.assign (.pl rfl)) rfl ?_
    refine WL.next hQ7 (.cons (i := 1) rfl (.cons (i := 2) rfl (.cons (i := 3) rfl (.cons (i := 9) rfl (.cons (i := 11) rfl (.cons (i := 12) rfl (.nil))))))) ?_
    -- region 5: spans.go:68
    refine W.seqR fun Q8 hQ8 => ?_
    refine WL.q (Y.move (.pl rfl)) rfl ?_
    refine WL.q (Y.move (.pl rfl)) rfl ?_
    obtain ⟨x21, hx21, hF⟩ := bnd hF
    refine WL.q (Y.rowEl Try.underlying39 cells43 (i := 1) rfl (.pl rfl) rfl (.pl rfl) (ix_lt (hx21))) rfl ?_
    refine WL.q (Y.rowField (off := 1) (ft := 3) Try.underlying43 rfl cells3 (i' := 1) rfl (ix_lt (hx21)) (.pl rfl)) rfl ?_
    refine WL.q (Y.loadR (enc := encSpan) (v := .int .i64 x21.to_) (a := x21) (idx := k6) (j := 1) Try.underlying3 rfl lenSpan (i := 1) rfl (.pl rfl) (ix_get (hx21)) rfl rfl) rfl ?_
    refine WL.q (Y.move (.pl rfl)) rfl ?_
    obtain ⟨hk22, hF⟩ := ckh hF
    refine WL.q (Y.add (.pl rfl) (.pl rfl) (ok64_lt (hk22))) rfl ?_
    obtain ⟨x23, hx23, hF⟩ := bnd hF
    refine WL.q (Y.rowEl Try.underlying39 cells43 (i := 1) rfl (.pl rfl) rfl (.pl rfl) (ix_lt (hx23))) rfl ?_
    refine WL.q (Y.rowField (off := 1) (ft := 3) Try.underlying43 rfl cells3 (i' := 1) rfl (ix_lt (hx23)) (.pl rfl)) rfl ?_
    refine WL.step (WO.storeS (enc := encSpan) (a := x23) (a' := (Span.mk x23.from_ (x21.to_ + more7))) (idx := k6) (j := 1) cells3 (.pl rfl) (.pl rfl) rfl lenSpan (i := 1) rfl (ix_get (hx23)) rfl (by decide) rfl ?_)
    refine WL.next hQ8 (.cons (i := 3) rfl (.cons (i := 9) rfl (.cons (i := 11) rfl (.cons (i := 12) rfl (.nil))))) ?_
    obtain ⟨o9, hF9, hF⟩ := bnd hF
    refine W.join1 (Em := fun (n24 : (List Span)) => [(11, .slice A14 (((([] : List Span) ++ l1).set k6.toNat (Span.mk x23.from_ (x21.to_ + more7)))).length c15), (12, .slice A18 (n24).length c19)]) (M := fun n24 => [cBx b10 25 (encRel (Rel.mk r9.1 r9.2.1)), cR encSpan 2 A14 c15 43 ((([] : List Span) ++ l1).set k6.toNat (Span.mk x23.from_ (x21.to_ + more7))), cR encSpan 2 A18 c19 43 n24]) (I := fun n24 => n24 = o9) (.cons (i := 9) rfl (.nil)) (fun K10 hK10 => ?_) ?_
    · -- up to
      -- region 6: spans.go:69
      refine W.seqR fun Q11 hQ11 => ?_
      refine WL.q (Y.move (.pl rfl)) rfl ?_
      refine WL.q (Y.len Try.underlying39 (.pl rfl)) rfl ?_
      refine WL.q (Y.move (.pl rfl)) rfl ?_
      refine WL.next hQ11 (.cons (i := 3) rfl (.cons (i := 9) rfl (.cons (i := 11) rfl (.cons (i := 12) rfl (.cons (i := 73) rfl (.cons (i := 74) rfl (.nil))))))) ?_
      refine W.block ?_
      refine W.loop2 (Em := fun (n25 : (List Span)) (v26 : Int) => [(11, .slice A14 (((([] : List Span) ++ l1).set k6.toNat (Span.mk x23.from_ (x21.to_ + more7)))).length c15), (12, .slice A18 (n25).length c19), (74, .int .i64 v26)]) (M := fun n25 v26 => [cBx b10 25 (encRel (Rel.mk r9.1 r9.2.1)), cR encSpan 2 A14 c15 43 ((([] : List Span) ++ l1).set k6.toNat (Span.mk x23.from_ (x21.to_ + more7))), cR encSpan 2 A18 c19 43 n25]) (I := fun n25 v26 k12 => iter (alibkeep_SpansLong_L5 N l1 later8) k12 (n25, v26) = some o9) (([] : List Span) ++ l1) 0 N (hF9) (.cons (eqSl (by simp)) (.cons rfl (.cons rfl (.nil)))) (.cons (i := 3) rfl (.cons (i := 9) rfl (.cons (i := 73) rfl (.nil)))) (fun w hw => hw.pick [2, 1, 0] rfl) (fun n25 v26 k12 hI K13 hK13 => ?_)
      obtain ⟨k12, t12, rfl, hF12, hN12⟩ := iter_step hI
      -- region 7: spans.go:69
      refine W.seqR fun Q14 hQ14 => ?_
      refine WL.q (Y.lss (.pl rfl) (.pl rfl)) rfl ?_
      refine WL.next hQ14 (.cons (i := 3) rfl (.cons (i := 9) rfl (.cons (i := 11) rfl (.cons (i := 12) rfl (.cons (i := 73) rfl (.cons (i := 74) rfl (.cons (i := 75) rfl (.nil)))))))) ?_
      refine W.seq fun K15 hK15 => ?_
      refine W.cond (.pl rfl) (fun hC16 => ?_) (fun hC16 => ?_)
      · replace hF12 := cpos hC16 hF12
        refine W.skip ?_
        refine W.go hK15 (.cons (i := 3) rfl (.cons (i := 9) rfl (.cons (i := 11) rfl (.cons (i := 12) rfl (.cons (i := 73) rfl (.cons (i := 74) rfl (.nil))))))) ?_
        refine W.seq fun K17 hK17 => ?_
        refine W.block ?_
        -- region 8: spans.go:69
        refine W.seqR fun Q18 hQ18 => ?_
        refine WL.q (Y.move (.pl rfl)) rfl ?_
        refine WL.q (Y.assign (.pl rfl)) rfl ?_
        refine WL.next hQ18 (.cons (i := 3) rfl (.cons (i := 9) rfl (.cons (i := 11) rfl (.cons (i := 12) rfl (.cons (i := 13) rfl (.cons (i := 73) rfl (.cons (i := 74) rfl (.nil)))))))) ?_
        -- region 9: spans.go:70
        refine W.seqR fun Q19 hQ19 => ?_
        refine WL.q (Y.move (.pl rfl)) rfl ?_
        refine WL.q (Y.move (.pl rfl)) rfl ?_
        obtain ⟨x27, hx27, hF12⟩ := bnd hF12
        refine WL.q (Y.rowEl Try.underlying39 cells43 (i := 2) rfl (.pl rfl) rfl (.pl rfl) (ix_lt (hx27))) rfl ?_
        refine WL.q (Y.rowField (off := 0) (ft := 3) Try.underlying43 rfl cells3 (i' := 2) rfl (ix_lt (hx27)) (.pl rfl)) rfl ?_
        refine WL.q (Y.loadR (enc := encSpan) (v := .int .i64 x27.from_) (a := x27) (idx := v26) (j := 0) Try.underlying3 rfl lenSpan (i := 2) rfl (.pl rfl) (ix_get (hx27)) rfl rfl) rfl ?_
        refine WL.q (Y.move (.pl rfl)) rfl ?_
        obtain ⟨hk28, hF12⟩ := ckh hF12
        refine WL.q (Y.add (.pl rfl) (.pl rfl) (ok64_lt (hk28))) rfl ?_
        obtain ⟨x29, hx29, hF12⟩ := bnd hF12
        refine WL.q (Y.rowEl Try.underlying39 cells43 (i := 2) rfl (.pl rfl) rfl (.pl rfl) (ix_lt (hx29))) rfl ?_
        refine WL.q (Y.rowField (off := 0) (ft := 3) Try.underlying43 rfl cells3 (i' := 2) rfl (ix_lt (hx29)) (.pl rfl)) rfl ?_
        refine WL.step (WO.storeS (enc := encSpan) (a := x29) (a' := (Span.mk (x27.from_ + later8) x29.to_)) (idx := v26) (j := 0) cells3 (.pl rfl) (.pl rfl) rfl lenSpan (i := 2) rfl (ix_get (hx29)) rfl (by decide) rfl ?_)
        refine WL.next hQ19 (.cons (i := 3) rfl (.cons (i := 9) rfl (.cons (i := 11) rfl (.cons (i := 12) rfl (.cons (i := 13) rfl (.cons (i := 73) rfl (.cons (i := 74) rfl (.nil)))))))) ?_
        -- region 10: spans.go:71
        refine W.reg ?_
        refine WL.q (Y.move (.pl rfl)) rfl ?_
        refine WL.q (Y.move (.pl rfl)) rfl ?_
        obtain ⟨x30, hx30, hF12⟩ := bnd hF12
        refine WL.q (Y.rowEl Try.underlying39 cells43 (i := 2) rfl (.pl rfl) (by simp) (.pl rfl) (ix_lt (hx30))) rfl ?_
        refine WL.q (Y.rowField (off := 1) (ft := 3) Try.underlying43 rfl cells3 (i' := 2) rfl (ix_lt (hx30)) (.pl rfl)) rfl ?_
        refine WL.q (Y.loadR (enc := encSpan) (v := .int .i64 x29.to_) (a := (Span.mk (x27.from_ + later8) x29.to_)) (idx := v26) (j := 1) Try.underlying3 rfl lenSpan (i := 2) rfl (.pl rfl) (setget (⟨(ix_lt (hx30)).1, by simpa only [List.length_set] using (ix_lt (hx30)).2⟩)) rfl rfl) rfl ?_
        refine WL.q (Y.move (.pl rfl)) rfl ?_
        obtain ⟨hk31, hF12⟩ := ckh hF12
        refine WL.q (Y.add (.pl rfl) (.pl rfl) (ok64_lt (hk31))) rfl ?_
        obtain ⟨x32, hx32, hF12⟩ := bnd hF12
        refine WL.q (Y.rowEl Try.underlying39 cells43 (i := 2) rfl (.pl rfl) (by simp) (.pl rfl) (ix_lt (hx32))) rfl ?_
        refine WL.q (Y.rowField (off := 1) (ft := 3) Try.underlying43 rfl cells3 (i' := 2) rfl (ix_lt (hx32)) (.pl rfl)) rfl ?_
        refine WL.step (WO.storeFS (enc := encSpan) (a := (Span.mk (x27.from_ + later8) x29.to_)) (a' := (Span.mk (x27.from_ + later8) (x29.to_ + later8))) (idx := v26) (j := 1) cells3 (.pl rfl) (.pl rfl) rfl lenSpan (i := 2) rfl (⟨(ix_lt (hx32)).1, by simpa only [List.length_set] using (ix_lt (hx32)).2⟩) rfl (by decide) rfl ?_)
        refine WL.nil ?_
        refine W.go hK17 (.cons (i := 3) rfl (.cons (i := 9) rfl (.cons (i := 11) rfl (.cons (i := 12) rfl (.cons (i := 73) rfl (.cons (i := 74) rfl (.nil))))))) ?_
        -- region 11: spans.go:69
        refine W.reg ?_
        obtain ⟨hk33, hF12⟩ := ckh hF12
        refine WL.q (Y.add (.pl rfl) (.pl rfl) (ok64_lt (hk33))) rfl ?_
        refine WL.q (Y.move (.pl rfl)) rfl ?_
        refine WL.nil ?_
        obtain rfl := Option.some.inj hF12
        exact W.again2 hK13 (n25.set v26.toNat (Span.mk (x27.from_ + later8) (x29.to_ + later8))) (v26 + 1) k12 hN12 (Nat.lt_succ_self _) (.cons rfl (.cons (eqSl (by simp)) (.cons rfl (.nil)))) (.cons (i := 3) rfl (.cons (i := 9) rfl (.cons (i := 73) rfl (.nil)))) (fun w hw => hw.pick [0, 1, 2] rfl)
      · replace hF12 := cneg hC16 hF12
        refine W.exit ?_
        obtain rfl := Option.some.inj hF12
        exact W.joinAt1 hK10 n25 (einr hN12) (.cons rfl (.cons rfl (.nil))) (.cons (i := 9) rfl (.nil)) (fun w hw => hw.pick [0, 1, 2] rfl)
    · -- behind
      rintro n24 rfl
      -- region 12: spans.go:73
      refine W.seqR fun Q22 hQ22 => ?_
      refine WL.q (Y.move (.pl rfl)) rfl ?_
      obtain ⟨r34, hr34, hF⟩ := bnd hF
      refine WL.step (WO.callP isGo26 (.cons (.pl rfl) (.nil)) rfl (fun w hw => spans_Of_ok (hr34) w (SlIn.ofRow lenSpan hw (i := 1) rfl)) ?_)
      refine WL.q (Y.move (.pl rfl)) rfl ?_
      refine WL.q (Y.extract (.pl rfl) rfl) rfl ?_
      refine WL.q (Y.extract (.pl rfl) rfl) rfl ?_
      refine WL.step (WO.alloc (cs := (encRel (Rel.mk 0 [])).toArray) zero25 rfl rfl fun b35 => ?_)
      refine WL.step (WO.storeBA (ds := (encRel (Rel.mk r34.1 r34.2.1))) (cs' := (encRel (Rel.mk r34.1 r34.2.1))) cells25 (.pl rfl) (.pl rfl) rfl (oneRel _) (i := 0) rfl (lel (o := 0) (l := 13) (m := 13) (by decide) rfl rfl) (putW rfl) ?_)
      refine WL.q (Y.assign (.pl rfl)) rfl ?_
      refine WL.next hQ22 (.cons (i := 9) rfl (.cons (i := 12) rfl (.cons (i := 14) rfl (.cons (i := 15) rfl (.nil))))) ?_
      -- region 13: spans.go:74
      refine W.seqR fun Q23 hQ23 => ?_
      refine WL.q (Y.move (.pl rfl)) rfl ?_
      obtain ⟨r36, hr36, hF⟩ := bnd hF
      refine WL.step (WO.callP isGo26 (.cons (.pl rfl) (.nil)) rfl (fun w hw => spans_Of_ok (hr36) w (SlIn.ofRow lenSpan hw (i := 3) rfl)) ?_)
      refine WL.q (Y.move (.pl rfl)) rfl ?_
      refine WL.q (Y.extract (.pl rfl) rfl) rfl ?_
      refine WL.q (Y.extract (.pl rfl) rfl) rfl ?_
      refine WL.step (WO.alloc (cs := (encRel (Rel.mk 0 [])).toArray) zero25 rfl rfl fun b37 => ?_)
      refine WL.step (WO.storeBA (ds := (encRel (Rel.mk r36.1 r36.2.1))) (cs' := (encRel (Rel.mk r36.1 r36.2.1))) cells25 (.pl rfl) (.pl rfl) rfl (oneRel _) (i := 0) rfl (lel (o := 0) (l := 13) (m := 13) (by decide) rfl rfl) (putW rfl) ?_)
      refine WL.q (Y.assign (.pl rfl)) rfl ?_
      refine WL.next hQ23 (.cons (i := 9) rfl (.cons (i := 14) rfl (.cons (i := 15) rfl (.cons (i := 16) rfl (.cons (i := 17) rfl (.nil)))))) ?_
      refine W.seq fun K24 hK24 => ?_
      -- region 14: spans.go:75
      refine W.seqR fun Q25 hQ25 => ?_
      refine WL.q (Y.move (.pl rfl)) rfl ?_
      refine WL.q (Y.eql (.pl rfl) (.pl rfl)) rfl ?_
      refine WL.q (Y.move (.pl rfl)) rfl ?_
      refine WL.g (.pl rfl rfl rfl) (fun hg => Y.loadBA (ds := (encRel (Rel.mk r36.1 r36.2.1))) Try.underlying25 rfl cells25 (.pl rfl) (i := 0) rfl rfl subW) rfl ?_
      refine WL.g (.pl rfl rfl rfl) (fun hg => Y.loadBA (ds := (encRel (Rel.mk r9.1 r9.2.1))) Try.underlying25 rfl cells25 (.pl rfl) (i := 2) rfl rfl subW) rfl ?_
      refine WL.g (.pl rfl rfl rfl) (fun hg => Y.neqG eqg25 (.gd (hg) rfl) (.gd (hg) rfl)) rfl ?_
      refine WL.q (Y.and (.pl rfl) (fun h2 => .gd (eqt h2) rfl)) rfl ?_
      refine WL.next hQ25 (.cons (i := 9) rfl (.cons (i := 14) rfl (.cons (i := 15) rfl (.cons (i := 112) rfl (.nil))))) ?_
      refine W.cond (.pl rfl) (fun hC26 => ?_) (fun hC26 => ?_)
      · replace hF := cpos hC26 hF
        -- region 15: spans.go:76
        refine W.seqR fun Q27 hQ27 => ?_
        refine WL.q (Y.assign (.pl rfl)) rfl ?_
        refine WL.next hQ27 (.cons (i := 8) rfl (.nil)) ?_
        obtain rfl := Option.some.inj hF
        refine W.retV (fn := Try.f9) (vs := [.bool false]) Try.results9 ⟨.tmp rfl, trivial⟩ (fun _ _ h => h) (fun w hw => ?_)
        exact hR _ _ ⟨rfl, (hw.pick [] rfl)⟩
      · replace hF := cneg hC26 hF
        refine W.skip ?_
        refine W.go hK24 (.cons (i := 9) rfl (.cons (i := 14) rfl (.cons (i := 15) rfl (.nil)))) ?_
        obtain ⟨o28, hF28, hF⟩ := bnd hF
        refine W.join0 (Em := []) (M := []) (I := (.inl ()) = o28) (.nil) (fun K29 hK29 => ?_) ?_
        · -- up to
          -- region 16: spans.go:78
          refine W.seqR fun Q30 hQ30 => ?_
          refine WL.q (Y.move (.pl rfl)) rfl ?_
          refine WL.next hQ30 (.cons (i := 9) rfl (.cons (i := 14) rfl (.cons (i := 15) rfl (.cons (i := 113) rfl (.nil))))) ?_
          refine W.block ?_
          refine W.loop1 (Em := fun (v38 : Int) => [(113, .int .i64 v38)]) (M := fun v38 => [cBx b10 25 (encRel (Rel.mk r9.1 r9.2.1)), cBx b35 25 (encRel (Rel.mk r34.1 r34.2.1))]) (I := fun v38 k31 => iter (alibkeep_SpansLong_L7 N r34 r9) k31 v38 = some o28) 0 N (hF28) (.cons rfl (.nil)) (.cons (i := 9) rfl (.cons (i := 14) rfl (.cons (i := 15) rfl (.nil)))) (fun w hw => hw.pick [2, 1] rfl) (fun v38 k31 hI K32 hK32 => ?_)
          obtain ⟨k31, t31, rfl, hF31, hN31⟩ := iter_step hI
          -- region 17: spans.go:78
          refine W.seqR fun Q33 hQ33 => ?_
          refine WL.q (Y.lss (.pl rfl) (.pl rfl)) rfl ?_
          refine WL.next hQ33 (.cons (i := 9) rfl (.cons (i := 14) rfl (.cons (i := 15) rfl (.cons (i := 113) rfl (.cons (i := 114) rfl (.nil)))))) ?_
          refine W.seq fun K34 hK34 => ?_
          refine W.cond (.pl rfl) (fun hC35 => ?_) (fun hC35 => ?_)
          · replace hF31 := cpos hC35 hF31
            refine W.skip ?_
            refine W.go hK34 (.cons (i := 9) rfl (.cons (i := 14) rfl (.cons (i := 15) rfl (.cons (i := 113) rfl (.nil))))) ?_
            refine W.seq fun K36 hK36 => ?_
            refine W.block ?_
            -- region 18: spans.go:78
            refine W.seqR fun Q37 hQ37 => ?_
            refine WL.q (Y.move (.pl rfl)) rfl ?_
            refine WL.q (Y.assign (.pl rfl)) rfl ?_
            refine WL.next hQ37 (.cons (i := 9) rfl (.cons (i := 14) rfl (.cons (i := 15) rfl (.cons (i := 18) rfl (.cons (i := 113) rfl (.nil)))))) ?_
            -- region 19: spans.go:79
            refine W.seqD (by kernel_rfl) (by kernel_rfl) fun R38 hR38 => ?_
            refine WD.q (Y.move (.pl rfl)) rfl ?_
            refine WD.q (Y.eql (.pl rfl) (.pl rfl)) rfl ?_
            refine WD.q (Y.move (.pl rfl)) rfl ?_
            refine WD.g (.pl rfl rfl rfl) (fun hg => Y.move (.pl rfl)) rfl ?_
            refine WD.g (.pl rfl rfl rfl) (fun hg => Y.fieldAddr0 (off := 1) (ft := 23) Try.underlying25 rfl cells23 (.pl rfl)) rfl ?_
            obtain ⟨x39, hx39, hF31⟩ := bnd hF31
            refine WD.g (.pl rfl rfl rfl) (fun hg => Y.arrZ Try.underlying23 cells22 (.gd (hg) rfl) (.gd (hg) rfl) (ax_lt (gpos hg hx39))) rfl ?_
            refine WD.g (.pl rfl rfl rfl) (fun hg => Y.loadB (v := .int .u16 x39) Try.underlying22 rfl (.gd (hg) rfl) (i := 1) rfl (cellsA (pre := (Value.int .i64 r34.1 :: [])) (off := 1) (post := []) (a := r34.2.1) (enc := (eI .u16)) (d := 0) (n := 12) (sz := 1) (j := 0) (fun _ => rfl) rfl (ax_nat (gpos hg hx39)) (ax_get (gpos hg hx39)) rfl)) rfl ?_
            refine WD.g (.pl rfl rfl rfl) (fun hg => Y.move (.pl rfl)) rfl ?_
            refine WD.g (.pl rfl rfl rfl) (fun hg => Y.fieldAddr0 (off := 1) (ft := 23) Try.underlying25 rfl cells23 (.pl rfl)) rfl ?_
            obtain ⟨x40, hx40, hF31⟩ := bnd hF31
            refine WD.g (.pl rfl rfl rfl) (fun hg => Y.arrZ Try.underlying23 cells22 (.gd (hg) rfl) (.gd (hg) rfl) (ax_lt (gpos hg hx40))) rfl ?_
            refine WD.g (.pl rfl rfl rfl) (fun hg => Y.loadB (v := .int .u16 x40) Try.underlying22 rfl (.gd (hg) rfl) (i := 0) rfl (cellsA (pre := (Value.int .i64 r9.1 :: [])) (off := 1) (post := []) (a := r9.2.1) (enc := (eI .u16)) (d := 0) (n := 12) (sz := 1) (j := 0) (fun _ => rfl) rfl (ax_nat (gpos hg hx40)) (ax_get (gpos hg hx40)) rfl)) rfl ?_
            refine WD.g (.pl rfl rfl rfl) (fun hg => Y.bclr (.gd (hg) rfl) (.gd (hg) rfl)) rfl ?_
            refine WD.g (.pl rfl rfl rfl) (fun hg => Y.neq (.gd (hg) rfl) (.pl rfl)) rfl ?_
            refine WD.q (Y.and (.pl rfl) (fun h2 => .gd (eqt h2) rfl)) rfl ?_
            refine WD.next hR38 (.cons (i := 9) rfl (.cons (i := 14) rfl (.cons (i := 15) rfl (.cons (i := 113) rfl (.cons (i := 129) rfl (.nil)))))) ?_
            refine W.cond (.pl rfl) (fun hC39 => ?_) (fun hC39 => ?_)
            · replace hF31 := cpos hC39 hF31
              -- region 20: spans.go:80
              refine W.seqR fun Q40 hQ40 => ?_
              refine WL.q (Y.assign (.pl rfl)) rfl ?_
              refine WL.next hQ40 (.cons (i := 8) rfl (.nil)) ?_
              obtain rfl := Option.some.inj hF31
              obtain rfl := einr hN31
              obtain rfl := Option.some.inj hF
              refine W.retV (fn := Try.f9) (vs := [.bool false]) Try.results9 ⟨.tmp rfl, trivial⟩ (fun _ _ h => h) (fun w hw => ?_)
              exact hR _ _ ⟨rfl, (hw.pick [] rfl)⟩
            · replace hF31 := cneg hC39 hF31
              refine W.skip ?_
              refine W.go hK36 (.cons (i := 9) rfl (.cons (i := 14) rfl (.cons (i := 15) rfl (.cons (i := 113) rfl (.nil))))) ?_
              -- region 21: spans.go:78
              refine W.reg ?_
              obtain ⟨hk41, hF31⟩ := ckh hF31
              refine WL.q (Y.add (.pl rfl) (.pl rfl) (ok64_lt (hk41))) rfl ?_
              refine WL.q (Y.move (.pl rfl)) rfl ?_
              refine WL.nil ?_
              obtain rfl := Option.some.inj hF31
              exact W.again1 hK32 (v38 + 1) k31 hN31 (Nat.lt_succ_self _) (.cons rfl (.nil)) (.cons (i := 9) rfl (.cons (i := 14) rfl (.cons (i := 15) rfl (.nil)))) (fun w hw => hw.pick [0, 1] rfl)
          · replace hF31 := cneg hC35 hF31
            refine W.exit ?_
            obtain rfl := Option.some.inj hF31
            exact W.joinAt0 hK29  (einr hN31) (.nil) (.nil) (fun w hw => hw.pick [] rfl)
        · -- behind
          rintro  rfl
          -- region 22: spans.go:83
          refine W.seqR fun Q42 hQ42 => ?_
          refine WL.q (Y.assign (.pl rfl)) rfl ?_
          refine WL.next hQ42 (.cons (i := 8) rfl (.nil)) ?_
          obtain rfl := Option.some.inj hF
          refine W.retV (fn := Try.f9) (vs := [.bool true]) Try.results9 ⟨.tmp rfl, trivial⟩ (fun _ _ h => h) (fun w hw => ?_)
          exact hR _ _ ⟨rfl, (hw.pick [] rfl)⟩

def alibkeep_SpansHelly_L27 (N : Nat) (l1 : (List Span)) (x18 : Span) : (Bool × Int) → Option ((Bool × Int) ⊕ Bool)
  | (all20, v21) =>
    cond (decide (v21 < ((l1).length : Int)))
      (bd (ix l1 v21) fun (x22 : Span) =>
      ck (ok64 (v21 + 1)) <|
      some (.inl (((all20 && (decide (x18.from_ ≤ x22.to_))) && (decide (x22.from_ ≤ x18.to_))), (v21 + 1))))
      (some (.inr all20))

def alibkeep_SpansHelly_L25 (N : Nat) (l1 : (List Span)) : (Bool × Int) → Option ((Bool × Int) ⊕ Bool)
  | (all15, v16) =>
    cond (decide (v16 < ((l1).length : Int)))
      (bd (α := Bool) (bd (ix l1 v16) fun (x18 : Span) =>
        iter (alibkeep_SpansHelly_L27 N l1 x18) N (all15, 0)) <|
      fun (all17 : Bool) => 
        ck (ok64 (v16 + 1)) <|
        some (.inl (all17, (v16 + 1))))
      (some (.inr all15))

def alibkeep_SpansHelly (N : Nat) (l1 : (List Span)) : Option Bool :=
  bd (spans_Meets N l1) fun (r6 : (Int × Int × Int)) =>
  bd (spans_Of N l1) fun (r7 : (Int × (List Int) × Int)) =>
  bd (α := Bool) (bd (alibkeep_spansLives N) fun (r10 : Bool) =>
    cond ((!r10) == false)
      (bd (alibkeep_ok N ([r6.2.2, r7.2.2] : List Int)) fun (r12 : Bool) =>
      some ((!r10) || (!r12)))
      (some ((!r10) || false))) <|
  fun (v9 : Bool) => 
    cond v9
      (bd (alibkeep_spansLives N) fun (r13 : Bool) =>
      some (r13 && (decide (r6.2.2 = r7.2.2))))
      (bd (α := Bool) (iter (alibkeep_SpansHelly_L25 N l1) N (true, 0)) <|
      fun (all14 : Bool) => 
        cond (all14 && (!(decide (r6.2.1 = ((l1).length : Int)))))
          (some false)
          (bd (order_Apart N (Rel.mk r7.1 r7.2.1)) fun (r26 : ((List Int) × Int)) =>
          some ((decide (r26.2 = 0)) && (decide (((r26.1).length : Int) = r6.2.1)))))

theorem alibkeep_SpansHelly_ok {N : Nat} {l1 : (List Span)} {res : Bool} (hF : alibkeep_SpansHelly N l1 = some res) (w : World) {v5 : Value} (hs4 : SlIn encSpan 2 w v5 l1) :
    Pure Try.prog 11 [v5] w (.bool res) := by
  obtain ⟨A2, c3, rfl, hcc3, hs4⟩ := hs4.form
  refine W.enter (n := 90) Try.func11 rfl rfl Sub.refl (by simp) (St.start w) fun R hR => ?_
  unfold alibkeep_SpansHelly at hF
  -- region 0: spans.go:42
  refine W.seqR fun Q1 hQ1 => ?_
  refine WL.q (Y.assign (.pl rfl)) rfl ?_
  refine WL.next hQ1 (.cons (i := 0) rfl (.nil)) ?_
  -- region 1: spans.go:43
  refine W.seqR fun Q2 hQ2 => ?_
  refine WL.q (Y.move (.pl rfl)) rfl ?_
  obtain ⟨r6, hr6, hF⟩ := bnd hF
  refine WL.step (WO.callP isGo31 (.cons (.pl rfl) (.nil)) rfl (fun w hw => spans_Meets_ok (hr6) w (hs4.mono hw)) ?_)
  refine WL.q (Y.move (.pl rfl)) rfl ?_
  refine WL.q (Y.extract (.pl rfl) rfl) rfl ?_
  refine WL.q (Y.extract (.pl rfl) rfl) rfl ?_
  refine WL.q (Y.extract (.pl rfl) rfl) rfl ?_
  refine WL.q (Y.assign (.pl rfl)) rfl ?_
  refine WL.q (Y.assign (.pl rfl)) rfl ?_
  refine WL.q (Y.assign (.pl rfl)) rfl ?_
  refine WL.next hQ2 (.cons (i := 0) rfl (.cons (i := 4) rfl (.cons (i := 5) rfl (.nil)))) ?_
  -- region 2: spans.go:44
  refine W.seqR fun Q3 hQ3 => ?_
  refine WL.q (Y.move (.pl rfl)) rfl ?_
  obtain ⟨r7, hr7, hF⟩ := bnd hF
  refine WL.step (WO.callP isGo26 (.cons (.pl rfl) (.nil)) rfl (fun w hw => spans_Of_ok (hr7) w (hs4.mono hw)) ?_)
  refine WL.q (Y.move (.pl rfl)) rfl ?_
  refine WL.q (Y.extract (.pl rfl) rfl) rfl ?_
  refine WL.q (Y.extract (.pl rfl) rfl) rfl ?_
  refine WL.step (WO.alloc (cs := (encRel (Rel.mk 0 [])).toArray) zero25 rfl rfl fun b8 => ?_)
  refine WL.step (WO.storeBA (ds := (encRel (Rel.mk r7.1 r7.2.1))) (cs' := (encRel (Rel.mk r7.1 r7.2.1))) cells25 (.pl rfl) (.pl rfl) rfl (oneRel _) (i := 0) rfl (lel (o := 0) (l := 13) (m := 13) (by decide) rfl rfl) (putW rfl) ?_)
  refine WL.q (Y.assign (.pl rfl)) rfl ?_
  refine WL.next hQ3 (.cons (i := 0) rfl (.cons (i := 4) rfl (.cons (i := 5) rfl (.cons (i := 6) rfl (.cons (i := 7) rfl (.nil)))))) ?_
  refine W.seq fun K4 hK4 => ?_
  obtain ⟨o5, hF5, hF⟩ := bnd hF
  refine W.join1 (Em := fun (v9 : Bool) => [(34, .bool v9)]) (M := fun v9 => [cBx b8 25 (encRel (Rel.mk r7.1 r7.2.1))]) (I := fun v9 => v9 = o5) (.cons (i := 0) rfl (.cons (i := 4) rfl (.cons (i := 5) rfl (.cons (i := 6) rfl (.cons (i := 7) rfl (.nil)))))) (fun K6 hK6 => ?_) ?_
  · -- up to
    -- region 3: spans.go:45
    refine W.reg ?_
    obtain ⟨r10, hr10, hF5⟩ := bnd hF5
    refine WL.step (WO.callP isGo27 (.nil) rfl (fun w hw => alibkeep_spansLives_ok (hr10) w ) ?_)
    refine WL.q (Y.not (.pl rfl)) rfl ?_
    refine WL.q (Y.move (.pl rfl)) rfl ?_
    refine WL.g (.pl rfl rfl rfl) (fun hg => Y.move (.pl rfl)) rfl ?_
    refine WL.g (.pl rfl rfl rfl) (fun hg => Y.move (.pl rfl)) rfl ?_
    refine bsplit ((!r10) == false) (fun hg7 => ?_) (fun hg7 => ?_)
    · replace hF5 := cpos hg7 hF5
      refine WL.gd (.pl rfl rfl rfl) (hg7) ?_
      refine WL.step (WO.bsliceC (enc := (eI .i64)) (ys := ([r6.2.2, r7.2.2] : List Int)) Try.underlying75 bz26 (.cons (.gd (hg7) rfl) (.cons (.gd (hg7) rfl) (.nil))) rfl (fun _ => rfl) rfl rfl (by decide) (by decide) rfl fun b11 => ?_)
      refine WL.gd (.pl rfl rfl rfl) (hg7) ?_
      obtain ⟨r12, hr12, hF5⟩ := bnd hF5
      refine WL.step (WO.callP isGo20 (.cons (.pl rfl) (.nil)) rfl (fun w hw => alibkeep_ok_ok (hr12) w (SlIn.ofRow (fun _ => rfl) hw (i := 0) rfl)) ?_)
      refine WL.gd (.pl rfl rfl rfl) (hg7) ?_
      refine WL.q (Y.not (.pl rfl)) rfl ?_
      refine WL.q (Y.or (.pl rfl) (fun _ => .pl rfl)) rfl ?_
      refine WL.nil ?_
      exact W.joinAt1 hK6 ((!r10) || (!r12)) (Option.some.inj hF5) (.cons rfl (.nil)) (.cons (i := 0) rfl (.cons (i := 4) rfl (.cons (i := 5) rfl (.cons (i := 6) rfl (.cons (i := 7) rfl (.nil)))))) (fun w hw => hw.pick [1] rfl)
    · replace hF5 := cneg hg7 hF5
      refine WL.gn (.pl rfl rfl rfl) hg7 rfl ?_
      refine WL.gn (.pl rfl rfl rfl) hg7 rfl ?_
      refine WL.gn (.pl rfl rfl rfl) hg7 rfl ?_
      refine WL.q (Y.or (b := false) (.pl rfl) (fun h2 => (gabsO hg7 h2).elim)) rfl ?_
      refine WL.nil ?_
      exact W.joinAt1 hK6 ((!r10) || false) (Option.some.inj hF5) (.cons rfl (.nil)) (.cons (i := 0) rfl (.cons (i := 4) rfl (.cons (i := 5) rfl (.cons (i := 6) rfl (.cons (i := 7) rfl (.nil)))))) (fun w hw => hw.pick [0] rfl)
  · -- behind
    rintro v9 rfl
    refine W.cond (.pl rfl) (fun hC8 => ?_) (fun hC8 => ?_)
    · replace hF := cpos hC8 hF
      -- region 4: spans.go:46
      refine W.seqR fun Q9 hQ9 => ?_
      obtain ⟨r13, hr13, hF⟩ := bnd hF
      refine WL.step (WO.callP isGo27 (.nil) rfl (fun w hw => alibkeep_spansLives_ok (hr13) w ) ?_)
      refine WL.q (Y.move (.pl rfl)) rfl ?_
      refine WL.g (.pl rfl rfl rfl) (fun hg => Y.move (.pl rfl)) rfl ?_
      refine WL.g (.pl rfl rfl rfl) (fun hg => Y.move (.pl rfl)) rfl ?_
      refine WL.g (.pl rfl rfl rfl) (fun hg => Y.eql (.gd (hg) rfl) (.gd (hg) rfl)) rfl ?_
      refine WL.q (Y.and (.pl rfl) (fun h2 => .gd (eqt h2) rfl)) rfl ?_
      refine WL.q (Y.assign (.pl rfl)) rfl ?_
      refine WL.next hQ9 (.cons (i := 2) rfl (.nil)) ?_
      obtain rfl := Option.some.inj hF
      refine W.retV (fn := Try.f11) (vs := [.bool (r13 && (decide (r6.2.2 = r7.2.2)))]) Try.results11 ⟨.tmp rfl, trivial⟩ (fun _ _ h => h) (fun w hw => ?_)
      exact hR _ _ ⟨rfl, (hw.pick [] rfl)⟩
    · replace hF := cneg hC8 hF
      refine W.skip ?_
      refine W.go hK4 (.cons (i := 0) rfl (.cons (i := 4) rfl (.cons (i := 6) rfl (.nil)))) ?_
      -- region 5: spans.go:48
      refine W.seqR fun Q10 hQ10 => ?_
      refine WL.q (Y.assign (.pl rfl)) rfl ?_
      refine WL.next hQ10 (.cons (i := 0) rfl (.cons (i := 4) rfl (.cons (i := 6) rfl (.cons (i := 8) rfl (.nil))))) ?_
      obtain ⟨o11, hF11, hF⟩ := bnd hF
      refine W.join1 (Em := fun (all14 : Bool) => [(8, .bool all14)]) (M := fun all14 => [cBx b8 25 (encRel (Rel.mk r7.1 r7.2.1))]) (I := fun all14 => all14 = o11) (.cons (i := 0) rfl (.cons (i := 4) rfl (.cons (i := 6) rfl (.nil)))) (fun K12 hK12 => ?_) ?_
      · -- up to
        -- region 6: spans.go:49
        refine W.seqR fun Q13 hQ13 => ?_
        refine WL.q (Y.move (.pl rfl)) rfl ?_
        refine WL.q (Y.len Try.underlying39 (.pl rfl)) rfl ?_
        refine WL.q (Y.move (.pl rfl)) rfl ?_
        refine WL.next hQ13 (.cons (i := 0) rfl (.cons (i := 4) rfl (.cons (i := 6) rfl (.cons (i := 8) rfl (.cons (i := 41) rfl (.cons (i := 42) rfl (.cons (i := 43) rfl (.nil)))))))) ?_
        refine W.block ?_
        refine W.loop2 (Em := fun (all15 : Bool) (v16 : Int) => [(8, .bool all15), (43, .int .i64 v16)]) (M := fun all15 v16 => [cBx b8 25 (encRel (Rel.mk r7.1 r7.2.1))]) (I := fun all15 v16 k14 => iter (alibkeep_SpansHelly_L25 N l1) k14 (all15, v16) = some o11) true 0 N (hF11) (.cons rfl (.cons rfl (.nil))) (.cons (i := 0) rfl (.cons (i := 4) rfl (.cons (i := 6) rfl (.cons (i := 41) rfl (.cons (i := 42) rfl (.nil)))))) (fun w hw => hw.pick [0] rfl) (fun all15 v16 k14 hI K15 hK15 => ?_)
        obtain ⟨k14, t14, rfl, hF14, hN14⟩ := iter_step hI
        -- region 7: spans.go:49
        refine W.seqR fun Q16 hQ16 => ?_
        refine WL.q (Y.lss (.pl rfl) (.pl rfl)) rfl ?_
        refine WL.next hQ16 (.cons (i := 0) rfl (.cons (i := 4) rfl (.cons (i := 6) rfl (.cons (i := 8) rfl (.cons (i := 41) rfl (.cons (i := 42) rfl (.cons (i := 43) rfl (.cons (i := 44) rfl (.nil))))))))) ?_
        refine W.seq fun K17 hK17 => ?_
        refine W.cond (.pl rfl) (fun hC18 => ?_) (fun hC18 => ?_)
        · replace hF14 := cpos hC18 hF14
          refine W.skip ?_
          refine W.go hK17 (.cons (i := 0) rfl (.cons (i := 4) rfl (.cons (i := 6) rfl (.cons (i := 8) rfl (.cons (i := 41) rfl (.cons (i := 42) rfl (.cons (i := 43) rfl (.nil)))))))) ?_
          obtain ⟨o19, hF19, hF14⟩ := bnd hF14
          refine W.join1 (Em := fun (all17 : Bool) => [(8, .bool all17)]) (M := fun all17 => [cBx b8 25 (encRel (Rel.mk r7.1 r7.2.1))]) (I := fun all17 => all17 = o19) (.cons (i := 0) rfl (.cons (i := 4) rfl (.cons (i := 6) rfl (.cons (i := 41) rfl (.cons (i := 42) rfl (.cons (i := 43) rfl (.nil))))))) (fun K20 hK20 => ?_) ?_
          · -- up to
            refine W.block ?_
            -- region 8: spans.go:49
            refine W.seqR fun Q21 hQ21 => ?_
            obtain ⟨x18, hx18, hF19⟩ := bnd hF19
            refine WL.q (Y.slEl Try.underlying39 cells43 hs4 (.pl rfl) (.pl rfl) (ix_lt (hx18))) rfl ?_
            refine WL.q (Y.loadSA (enc := encSpan) (ds := (encSpan x18)) (j := 0) Try.underlying43 rfl cells43 hs4 (.pl rfl) (hx18) rfl rfl subW) rfl ?_
            refine WL.step (WO.alloc (cs := (encSpan (Span.mk 0 0)).toArray) zero43 rfl rfl fun b19 => ?_)
            refine WL.step (WO.storeBA (ds := (encSpan x18)) (cs' := (encSpan x18)) cells43 (.pl rfl) (.pl rfl) rfl (oneSpan _) (i := 0) rfl (lel (o := 0) (l := 2) (m := 2) (by decide) rfl rfl) (putW rfl) ?_)
            refine WL.next hQ21 (.cons (i := 0) rfl (.cons (i := 4) rfl (.cons (i := 6) rfl (.cons (i := 8) rfl (.cons (i := 10) rfl (.cons (i := 41) rfl (.cons (i := 42) rfl (.cons (i := 43) rfl (.nil))))))))) ?_
            -- region 9: spans.go:50
            refine W.seqR fun Q22 hQ22 => ?_
            refine WL.q (Y.move (.pl rfl)) rfl ?_
            refine WL.q (Y.len Try.underlying39 (.pl rfl)) rfl ?_
            refine WL.q (Y.move (.pl rfl)) rfl ?_
            refine WL.next hQ22 (.cons (i := 0) rfl (.cons (i := 4) rfl (.cons (i := 6) rfl (.cons (i := 8) rfl (.cons (i := 10) rfl (.cons (i := 41) rfl (.cons (i := 42) rfl (.cons (i := 43) rfl (.cons (i := 47) rfl (.cons (i := 48) rfl (.cons (i := 49) rfl (.nil)))))))))))) ?_
            refine W.block ?_
            refine W.loop2 (Em := fun (all20 : Bool) (v21 : Int) => [(8, .bool all20), (49, .int .i64 v21)]) (M := fun all20 v21 => [cBx b8 25 (encRel (Rel.mk r7.1 r7.2.1)), cBx b19 43 (encSpan x18)]) (I := fun all20 v21 k23 => iter (alibkeep_SpansHelly_L27 N l1 x18) k23 (all20, v21) = some o19) all15 0 N (hF19) (.cons rfl (.cons rfl (.nil))) (.cons (i := 0) rfl (.cons (i := 4) rfl (.cons (i := 6) rfl (.cons (i := 10) rfl (.cons (i := 41) rfl (.cons (i := 42) rfl (.cons (i := 43) rfl (.cons (i := 47) rfl (.cons (i := 48) rfl (.nil)))))))))) (fun w hw => hw.pick [1, 0] rfl) (fun all20 v21 k23 hI K24 hK24 => ?_)
            obtain ⟨k23, t23, rfl, hF23, hN23⟩ := iter_step hI
            -- region 10: spans.go:50
            refine W.seqR fun Q25 hQ25 => ?_
            refine WL.q (Y.lss (.pl rfl) (.pl rfl)) rfl ?_
            refine WL.next hQ25 (.cons (i := 0) rfl (.cons (i := 4) rfl (.cons (i := 6) rfl (.cons (i := 8) rfl (.cons (i := 10) rfl (.cons (i := 41) rfl (.cons (i := 42) rfl (.cons (i := 43) rfl (.cons (i := 47) rfl (.cons (i := 48) rfl (.cons (i := 49) rfl (.cons (i := 50) rfl (.nil))))))))))))) ?_
            refine W.seq fun K26 hK26 => ?_
            refine W.cond (.pl rfl) (fun hC27 => ?_) (fun hC27 => ?_)
            · replace hF23 := cpos hC27 hF23
              refine W.skip ?_
              refine W.go hK26 (.cons (i := 0) rfl (.cons (i := 4) rfl (.cons (i := 6) rfl (.cons (i := 8) rfl (.cons (i := 10) rfl (.cons (i := 41) rfl (.cons (i := 42) rfl (.cons (i := 43) rfl (.cons (i := 47) rfl (.cons (i := 48) rfl (.cons (i := 49) rfl (.nil)))))))))))) ?_
              refine W.seq fun K28 hK28 => ?_
              refine W.block ?_
              -- region 11: spans.go:50
              refine W.seqR fun Q29 hQ29 => ?_
              obtain ⟨x22, hx22, hF23⟩ := bnd hF23
              refine WL.q (Y.slEl Try.underlying39 cells43 hs4 (.pl rfl) (.pl rfl) (ix_lt (hx22))) rfl ?_
              refine WL.q (Y.loadSA (enc := encSpan) (ds := (encSpan x22)) (j := 0) Try.underlying43 rfl cells43 hs4 (.pl rfl) (hx22) rfl rfl subW) rfl ?_
              refine WL.step (WO.alloc (cs := (encSpan (Span.mk 0 0)).toArray) zero43 rfl rfl fun b23 => ?_)
              refine WL.step (WO.storeBA (ds := (encSpan x22)) (cs' := (encSpan x22)) cells43 (.pl rfl) (.pl rfl) rfl (oneSpan _) (i := 0) rfl (lel (o := 0) (l := 2) (m := 2) (by decide) rfl rfl) (putW rfl) ?_)
              refine WL.next hQ29 (.cons (i := 0) rfl (.cons (i := 4) rfl (.cons (i := 6) rfl (.cons (i := 8) rfl (.cons (i := 10) rfl (.cons (i := 12) rfl (.cons (i := 41) rfl (.cons (i := 42) rfl (.cons (i := 43) rfl (.cons (i := 47) rfl (.cons (i := 48) rfl (.cons (i := 49) rfl (.nil))))))))))))) ?_
              -- region 12: spans.go:51
              refine W.reg ?_
              refine WL.q (Y.move (.pl rfl)) rfl ?_
              refine WL.q (Y.move (.pl rfl)) rfl ?_
              refine WL.g (.pl rfl rfl rfl) (fun hg => Y.fieldAddr0 (off := 0) (ft := 3) Try.underlying43 rfl cells3 (.pl rfl)) rfl ?_
              refine WL.g (.pl rfl rfl rfl) (fun hg => Y.loadB (v := .int .i64 x18.from_) Try.underlying3 rfl (.gd (hg) rfl) (i := 2) rfl (rfl)) rfl ?_
              refine WL.g (.pl rfl rfl rfl) (fun hg => Y.fieldAddr0 (off := 1) (ft := 3) Try.underlying43 rfl cells3 (.pl rfl)) rfl ?_
              refine WL.g (.pl rfl rfl rfl) (fun hg => Y.loadB (v := .int .i64 x22.to_) Try.underlying3 rfl (.gd (hg) rfl) (i := 0) rfl (rfl)) rfl ?_
              refine WL.g (.pl rfl rfl rfl) (fun hg => Y.leq (.gd (hg) rfl) (.gd (hg) rfl)) rfl ?_
              refine WL.q (Y.and (.pl rfl) (fun h2 => .gd (eqt h2) rfl)) rfl ?_
              refine WL.q (Y.move (.pl rfl)) rfl ?_
              refine WL.g (.pl rfl rfl rfl) (fun hg => Y.fieldAddr0 (off := 0) (ft := 3) Try.underlying43 rfl cells3 (.pl rfl)) rfl ?_
              refine WL.g (.pl rfl rfl rfl) (fun hg => Y.loadB (v := .int .i64 x22.from_) Try.underlying3 rfl (.gd (hg) rfl) (i := 0) rfl (rfl)) rfl ?_
              refine WL.g (.pl rfl rfl rfl) (fun hg => Y.fieldAddr0 (off := 1) (ft := 3) Try.underlying43 rfl cells3 (.pl rfl)) rfl ?_
              refine WL.g (.pl rfl rfl rfl) (fun hg => Y.loadB (v := .int .i64 x18.to_) Try.underlying3 rfl (.gd (hg) rfl) (i := 2) rfl (rfl)) rfl ?_
              refine WL.g (.pl rfl rfl rfl) (fun hg => Y.leq (.gd (hg) rfl) (.gd (hg) rfl)) rfl ?_
              refine WL.q (Y.and (.pl rfl) (fun h2 => .gd (eqt h2) rfl)) rfl ?_
              refine WL.q (Y.assign (.pl rfl)) rfl ?_
              refine WL.nil ?_
              refine W.go hK28 (.cons (i := 0) rfl (.cons (i := 4) rfl (.cons (i := 6) rfl (.cons (i := 8) rfl (.cons (i := 10) rfl (.cons (i := 41) rfl (.cons (i := 42) rfl (.cons (i := 43) rfl (.cons (i := 47) rfl (.cons (i := 48) rfl (.cons (i := 49) rfl (.nil)))))))))))) ?_
              -- region 13: spans.go:50
              refine W.reg ?_
              obtain ⟨hk24, hF23⟩ := ckh hF23
              refine WL.q (Y.add (.pl rfl) (.pl rfl) (ok64_lt (hk24))) rfl ?_
              refine WL.q (Y.move (.pl rfl)) rfl ?_
              refine WL.nil ?_
              obtain rfl := Option.some.inj hF23
              exact W.again2 hK24 ((all20 && (decide (x18.from_ ≤ x22.to_))) && (decide (x22.from_ ≤ x18.to_))) (v21 + 1) k23 hN23 (Nat.lt_succ_self _) (.cons rfl (.cons rfl (.nil))) (.cons (i := 0) rfl (.cons (i := 4) rfl (.cons (i := 6) rfl (.cons (i := 10) rfl (.cons (i := 41) rfl (.cons (i := 42) rfl (.cons (i := 43) rfl (.cons (i := 47) rfl (.cons (i := 48) rfl (.nil)))))))))) (fun w hw => hw.pick [1, 2] rfl)
            · replace hF23 := cneg hC27 hF23
              refine W.exit ?_
              obtain rfl := Option.some.inj hF23
              exact W.joinAt1 hK20 all20 (einr hN23) (.cons rfl (.nil)) (.cons (i := 0) rfl (.cons (i := 4) rfl (.cons (i := 6) rfl (.cons (i := 41) rfl (.cons (i := 42) rfl (.cons (i := 43) rfl (.nil))))))) (fun w hw => hw.pick [0] rfl)
          · -- behind
            rintro all17 rfl
            -- region 14: spans.go:49
            refine W.reg ?_
            obtain ⟨hk25, hF14⟩ := ckh hF14
            refine WL.q (Y.add (.pl rfl) (.pl rfl) (ok64_lt (hk25))) rfl ?_
            refine WL.q (Y.move (.pl rfl)) rfl ?_
            refine WL.nil ?_
            obtain rfl := Option.some.inj hF14
            exact W.again2 hK15 all17 (v16 + 1) k14 hN14 (Nat.lt_succ_self _) (.cons rfl (.cons rfl (.nil))) (.cons (i := 0) rfl (.cons (i := 4) rfl (.cons (i := 6) rfl (.cons (i := 41) rfl (.cons (i := 42) rfl (.nil)))))) (fun w hw => hw.pick [0] rfl)
        · replace hF14 := cneg hC18 hF14
          refine W.exit ?_
          obtain rfl := Option.some.inj hF14
          exact W.joinAt1 hK12 all15 (einr hN14) (.cons rfl (.nil)) (.cons (i := 0) rfl (.cons (i := 4) rfl (.cons (i := 6) rfl (.nil)))) (fun w hw => hw.pick [0] rfl)
      · -- behind
        rintro all14 rfl
        refine W.seq fun K33 hK33 => ?_
        -- region 15: spans.go:54
        refine W.seqR fun Q34 hQ34 => ?_
        refine WL.q (Y.move (.pl rfl)) rfl ?_
        refine WL.q (Y.move (.pl rfl)) rfl ?_
        refine WL.g (.pl rfl rfl rfl) (fun hg => Y.move (.pl rfl)) rfl ?_
        refine WL.g (.pl rfl rfl rfl) (fun hg => Y.move (.pl rfl)) rfl ?_
        refine WL.g (.pl rfl rfl rfl) (fun hg => Y.len Try.underlying39 (.gd (hg) rfl)) rfl ?_
        refine WL.g (.pl rfl rfl rfl) (fun hg => Y.neq (.gd (hg) rfl) (.gd (hg) rfl)) rfl ?_
        refine WL.q (Y.and (.pl rfl) (fun h2 => .gd (eqt h2) rfl)) rfl ?_
        refine WL.next hQ34 (.cons (i := 4) rfl (.cons (i := 6) rfl (.cons (i := 76) rfl (.nil)))) ?_
        refine W.cond (.pl rfl) (fun hC35 => ?_) (fun hC35 => ?_)
        · replace hF := cpos hC35 hF
          -- region 16: spans.go:55
          refine W.seqR fun Q36 hQ36 => ?_
          refine WL.q (Y.assign (.pl rfl)) rfl ?_
          refine WL.next hQ36 (.cons (i := 2) rfl (.nil)) ?_
          obtain rfl := Option.some.inj hF
          refine W.retV (fn := Try.f11) (vs := [.bool false]) Try.results11 ⟨.tmp rfl, trivial⟩ (fun _ _ h => h) (fun w hw => ?_)
          exact hR _ _ ⟨rfl, (hw.pick [] rfl)⟩
        · replace hF := cneg hC35 hF
          refine W.skip ?_
          refine W.go hK33 (.cons (i := 4) rfl (.cons (i := 6) rfl (.nil))) ?_
          -- region 17: spans.go:57
          refine W.seqR fun Q37 hQ37 => ?_
          refine WL.q (Y.loadBA (ds := (encRel (Rel.mk r7.1 r7.2.1))) Try.underlying25 rfl cells25 (.pl rfl) (i := 0) rfl rfl subW) rfl ?_
          obtain ⟨r26, hr26, hF⟩ := bnd hF
          refine WL.step (WO.callM isGo18 (.cons (.pl rfl) (.nil)) rfl (fun w hw => order_Apart_ok (hr26) w ) ?_)
          rintro ⟨A27, c28⟩ -
          refine WL.q (Y.move (.pl rfl)) rfl ?_
          refine WL.q (Y.extract (.pl rfl) rfl) rfl ?_
          refine WL.q (Y.extract (.pl rfl) rfl) rfl ?_
          refine WL.q (Y.assign (.pl rfl)) rfl ?_
          refine WL.q (Y.assign (.pl rfl)) rfl ?_
          refine WL.next hQ37 (.cons (i := 4) rfl (.cons (i := 13) rfl (.cons (i := 14) rfl (.nil)))) ?_
          -- region 18: spans.go:58
          refine W.seqR fun Q38 hQ38 => ?_
          refine WL.q (Y.move (.pl rfl)) rfl ?_
          refine WL.q (Y.eql (.pl rfl) (.pl rfl)) rfl ?_
          refine WL.q (Y.move (.pl rfl)) rfl ?_
          refine WL.g (.pl rfl rfl rfl) (fun hg => Y.move (.pl rfl)) rfl ?_
          refine WL.g (.pl rfl rfl rfl) (fun hg => Y.len Try.underlying34 (.gd (hg) rfl)) rfl ?_
          refine WL.g (.pl rfl rfl rfl) (fun hg => Y.move (.pl rfl)) rfl ?_
          refine WL.g (.pl rfl rfl rfl) (fun hg => Y.eql (.gd (hg) rfl) (.gd (hg) rfl)) rfl ?_
          refine WL.q (Y.and (.pl rfl) (fun h2 => .gd (eqt h2) rfl)) rfl ?_
          refine WL.q (Y.assign (.pl rfl)) rfl ?_
          refine WL.next hQ38 (.cons (i := 2) rfl (.nil)) ?_
          obtain rfl := Option.some.inj hF
          refine W.retV (fn := Try.f11) (vs := [.bool ((decide (r26.2 = 0)) && (decide (((r26.1).length : Int) = r6.2.1)))]) Try.results11 ⟨.tmp rfl, trivial⟩ (fun _ _ h => h) (fun w hw => ?_)
          exact hR _ _ ⟨rfl, (hw.pick [] rfl)⟩

def alibref_Spanned_L1899 (N : Nat) (r1 : Rel) (v3 : Int) (v4 : Int) (v5 : Int) : Int → Option (Int ⊕ (Unit ⊕ Bool))
  | v6 =>
    cond (decide (v6 < r1.n))
      (bd (alibref_Ahead N r1 v3 v3) fun (r7 : Bool) =>
      bd ((cond (r7 == false) (alibref_Ahead N r1 v3 v4) (some false))) fun (r8 : Bool) =>
      bd ((cond ((r7 == false) && (r8 == true)) (alibref_Ahead N r1 v5 v6) (some false))) fun (r9 : Bool) =>
      bd ((cond ((r7 == false) && ((r8 && r9) == true)) (alibref_Ahead N r1 v3 v6) (some false))) fun (r10 : Bool) =>
      bd ((cond ((r7 == false) && (((r8 && r9) && (!r10)) == true)) (alibref_Ahead N r1 v5 v4) (some false))) fun (r11 : Bool) =>
      cond (r7 || (((r8 && r9) && (!r10)) && (!r11)))
        (some (.inr (.inr false)))
        (ck (ok64 (v6 + 1)) <|
        some (.inl (v6 + 1))))
      (some (.inr (.inl ())))

def alibref_Spanned_L1895 (N : Nat) (r1 : Rel) (v3 : Int) (v4 : Int) : Int → Option (Int ⊕ (Unit ⊕ Bool))
  | v5 =>
    cond (decide (v5 < r1.n))
      (bd (α := (Unit ⊕ Bool)) (bd (α := (Unit ⊕ Bool)) (iter (alibref_Spanned_L1899 N r1 v3 v4 v5) N 0) <|
        Sum.elim (fun _ => 
          bd (alibref_Ahead N r1 v3 v4) fun (r13 : Bool) =>
          bd ((cond (r13 == true) (alibref_Ahead N r1 v4 v5) (some false))) fun (r14 : Bool) =>
          bd ((cond ((r13 && r14) == true) (alibref_Ahead N r1 v3 v5) (some false))) fun (r15 : Bool) =>
          cond ((r13 && r14) && (!r15))
            (some (.inr false))
            (some (.inl ()))) (fun p => some (.inr p))) <|
      Sum.elim (fun _ => 
        ck (ok64 (v5 + 1)) <|
        some (.inl (v5 + 1))) (fun p => some (.inr (.inr p))))
      (some (.inr (.inl ())))

def alibref_Spanned_L1873 (N : Nat) (r1 : Rel) (v3 : Int) : Int → Option (Int ⊕ (Unit ⊕ Bool))
  | v4 =>
    cond (decide (v4 < r1.n))
      (bd (α := (Unit ⊕ Bool)) (iter (alibref_Spanned_L1895 N r1 v3 v4) N 0) <|
      Sum.elim (fun _ => 
        ck (ok64 (v4 + 1)) <|
        some (.inl (v4 + 1))) (fun p => some (.inr (.inr p))))
      (some (.inr (.inl ())))

def alibref_Spanned_L1741 (N : Nat) (r1 : Rel) : Int → Option (Int ⊕ (Unit ⊕ Bool))
  | v3 =>
    cond (decide (v3 < r1.n))
      (bd (α := (Unit ⊕ Bool)) (iter (alibref_Spanned_L1873 N r1 v3) N 0) <|
      Sum.elim (fun _ => 
        ck (ok64 (v3 + 1)) <|
        some (.inl (v3 + 1))) (fun p => some (.inr (.inr p))))
      (some (.inr (.inl ())))

def alibref_Spanned (N : Nat) (r1 : Rel) : Option Bool :=
  bd (α := (Unit ⊕ Bool)) (iter (alibref_Spanned_L1741 N r1) N 0) <|
  Sum.elim (fun _ => 
    some true) (fun p => some p)

theorem alibref_Spanned_ok {N : Nat} {r1 : Rel} {res : Bool} (hF : alibref_Spanned N r1 = some res) (w : World) :
    Pure Try.prog 30 [.agg (encRel r1).toArray] w (.bool res) := by
  refine W.enter (n := 78) Try.func30 rfl rfl Sub.refl (by simp) (St.start w) fun R hR => ?_
  unfold alibref_Spanned at hF
  -- region 0: spans.go:32
  refine W.seqR fun Q1 hQ1 => ?_
  refine WL.step (WO.boxA (.pl rfl) rfl fun b2 => ?_)
  refine WL.q (Y.assign (.pl rfl)) rfl ?_
  refine WL.next hQ1 (.cons (i := 1) rfl (.nil)) ?_
  obtain ⟨o2, hF2, hF⟩ := bnd hF
  refine W.join0 (Em := []) (M := []) (I := (.inl ()) = o2) (.nil) (fun K3 hK3 => ?_) ?_
  · -- up to
    -- region 1: spans.go:33
    refine W.seqR fun Q4 hQ4 => ?_
    refine WL.q (Y.fieldAddr0 (off := 0) (ft := 3) Try.underlying25 rfl cells3 (.pl rfl)) rfl ?_
    refine WL.q (Y.loadB (v := .int .i64 r1.n) Try.underlying3 rfl (.pl rfl) (i := 0) rfl (rfl)) rfl ?_
    refine WL.q (Y.move (.pl rfl)) rfl ?_
    refine WL.next hQ4 (.cons (i := 1) rfl (.cons (i := 8) rfl (.cons (i := 9) rfl (.nil)))) ?_
    refine W.block ?_
    refine W.loop1 (Em := fun (v3 : Int) => [(9, .int .i64 v3)]) (M := fun v3 => [cBx b2 25 (encRel r1)]) (I := fun v3 k5 => iter (alibref_Spanned_L1741 N r1) k5 v3 = some o2) 0 N (hF2) (.cons rfl (.nil)) (.cons (i := 1) rfl (.cons (i := 8) rfl (.nil))) (fun w hw => hw.pick [0] rfl) (fun v3 k5 hI K6 hK6 => ?_)
    obtain ⟨k5, t5, rfl, hF5, hN5⟩ := iter_step hI
    -- region 2: spans.go:33
    refine W.seqR fun Q7 hQ7 => ?_
    refine WL.q (Y.lss (.pl rfl) (.pl rfl)) rfl ?_
    refine WL.next hQ7 (.cons (i := 1) rfl (.cons (i := 8) rfl (.cons (i := 9) rfl (.cons (i := 10) rfl (.nil))))) ?_
    refine W.seq fun K8 hK8 => ?_
    refine W.cond (.pl rfl) (fun hC9 => ?_) (fun hC9 => ?_)
    · replace hF5 := cpos hC9 hF5
      refine W.skip ?_
      refine W.go hK8 (.cons (i := 1) rfl (.cons (i := 8) rfl (.cons (i := 9) rfl (.nil)))) ?_
      obtain ⟨o10, hF10, hF5⟩ := bnd hF5
      refine W.join0 (Em := []) (M := [cBx b2 25 (encRel r1)]) (I := (.inl ()) = o10) (.cons (i := 1) rfl (.cons (i := 8) rfl (.cons (i := 9) rfl (.nil)))) (fun K11 hK11 => ?_) ?_
      · -- up to
        refine W.block ?_
        -- region 3: spans.go:33
        refine W.seqR fun Q12 hQ12 => ?_
        refine WL.q (Y.move (.pl rfl)) rfl ?_
        refine WL.q (Y.assign (.pl rfl)) rfl ?_
        refine WL.next hQ12 (.cons (i := 1) rfl (.cons (i := 3) rfl (.cons (i := 8) rfl (.cons (i := 9) rfl (.nil))))) ?_
        -- region 4: spans.go:34
        refine W.seqR fun Q13 hQ13 => ?_
        refine WL.q (Y.fieldAddr0 (off := 0) (ft := 3) Try.underlying25 rfl cells3 (.pl rfl)) rfl ?_
        refine WL.q (Y.loadB (v := .int .i64 r1.n) Try.underlying3 rfl (.pl rfl) (i := 0) rfl (rfl)) rfl ?_
        refine WL.q (Y.move (.pl rfl)) rfl ?_
        refine WL.next hQ13 (.cons (i := 1) rfl (.cons (i := 3) rfl (.cons (i := 8) rfl (.cons (i := 9) rfl (.cons (i := 13) rfl (.cons (i := 14) rfl (.nil))))))) ?_
        refine W.block ?_
        refine W.loop1 (Em := fun (v4 : Int) => [(14, .int .i64 v4)]) (M := fun v4 => [cBx b2 25 (encRel r1)]) (I := fun v4 k14 => iter (alibref_Spanned_L1873 N r1 v3) k14 v4 = some o10) 0 N (hF10) (.cons rfl (.nil)) (.cons (i := 1) rfl (.cons (i := 3) rfl (.cons (i := 8) rfl (.cons (i := 9) rfl (.cons (i := 13) rfl (.nil)))))) (fun w hw => hw.pick [0] rfl) (fun v4 k14 hI K15 hK15 => ?_)
        obtain ⟨k14, t14, rfl, hF14, hN14⟩ := iter_step hI
        -- region 5: spans.go:34
        refine W.seqR fun Q16 hQ16 => ?_
        refine WL.q (Y.lss (.pl rfl) (.pl rfl)) rfl ?_
        refine WL.next hQ16 (.cons (i := 1) rfl (.cons (i := 3) rfl (.cons (i := 8) rfl (.cons (i := 9) rfl (.cons (i := 13) rfl (.cons (i := 14) rfl (.cons (i := 15) rfl (.nil)))))))) ?_
        refine W.seq fun K17 hK17 => ?_
        refine W.cond (.pl rfl) (fun hC18 => ?_) (fun hC18 => ?_)
        · replace hF14 := cpos hC18 hF14
          refine W.skip ?_
          refine W.go hK17 (.cons (i := 1) rfl (.cons (i := 3) rfl (.cons (i := 8) rfl (.cons (i := 9) rfl (.cons (i := 13) rfl (.cons (i := 14) rfl (.nil))))))) ?_
          obtain ⟨o19, hF19, hF14⟩ := bnd hF14
          refine W.join0 (Em := []) (M := [cBx b2 25 (encRel r1)]) (I := (.inl ()) = o19) (.cons (i := 1) rfl (.cons (i := 3) rfl (.cons (i := 8) rfl (.cons (i := 9) rfl (.cons (i := 13) rfl (.cons (i := 14) rfl (.nil))))))) (fun K20 hK20 => ?_) ?_
          · -- up to
            refine W.block ?_
            -- region 6: spans.go:34
            refine W.seqR fun Q21 hQ21 => ?_
            refine WL.q (Y.move (.pl rfl)) rfl ?_
            refine WL.q (Y.assign (.pl rfl)) rfl ?_
            refine WL.next hQ21 (.cons (i := 1) rfl (.cons (i := 3) rfl (.cons (i := 4) rfl (.cons (i := 8) rfl (.cons (i := 9) rfl (.cons (i := 13) rfl (.cons (i := 14) rfl (.nil)))))))) ?_
            -- region 7: spans.go:35
            refine W.seqR fun Q22 hQ22 => ?_
            refine WL.q (Y.fieldAddr0 (off := 0) (ft := 3) Try.underlying25 rfl cells3 (.pl rfl)) rfl ?_
            refine WL.q (Y.loadB (v := .int .i64 r1.n) Try.underlying3 rfl (.pl rfl) (i := 0) rfl (rfl)) rfl ?_
            refine WL.q (Y.move (.pl rfl)) rfl ?_
            refine WL.next hQ22 (.cons (i := 1) rfl (.cons (i := 3) rfl (.cons (i := 4) rfl (.cons (i := 8) rfl (.cons (i := 9) rfl (.cons (i := 13) rfl (.cons (i := 14) rfl (.cons (i := 18) rfl (.cons (i := 19) rfl (.nil)))))))))) ?_
            refine W.block ?_
            refine W.loop1 (Em := fun (v5 : Int) => [(19, .int .i64 v5)]) (M := fun v5 => [cBx b2 25 (encRel r1)]) (I := fun v5 k23 => iter (alibref_Spanned_L1895 N r1 v3 v4) k23 v5 = some o19) 0 N (hF19) (.cons rfl (.nil)) (.cons (i := 1) rfl (.cons (i := 3) rfl (.cons (i := 4) rfl (.cons (i := 8) rfl (.cons (i := 9) rfl (.cons (i := 13) rfl (.cons (i := 14) rfl (.cons (i := 18) rfl (.nil))))))))) (fun w hw => hw.pick [0] rfl) (fun v5 k23 hI K24 hK24 => ?_)
            obtain ⟨k23, t23, rfl, hF23, hN23⟩ := iter_step hI
            -- region 8: spans.go:35
            refine W.seqR fun Q25 hQ25 => ?_
            refine WL.q (Y.lss (.pl rfl) (.pl rfl)) rfl ?_
            refine WL.next hQ25 (.cons (i := 1) rfl (.cons (i := 3) rfl (.cons (i := 4) rfl (.cons (i := 8) rfl (.cons (i := 9) rfl (.cons (i := 13) rfl (.cons (i := 14) rfl (.cons (i := 18) rfl (.cons (i := 19) rfl (.cons (i := 20) rfl (.nil))))))))))) ?_
            refine W.seq fun K26 hK26 => ?_
            refine W.cond (.pl rfl) (fun hC27 => ?_) (fun hC27 => ?_)
            · replace hF23 := cpos hC27 hF23
              refine W.skip ?_
              refine W.go hK26 (.cons (i := 1) rfl (.cons (i := 3) rfl (.cons (i := 4) rfl (.cons (i := 8) rfl (.cons (i := 9) rfl (.cons (i := 13) rfl (.cons (i := 14) rfl (.cons (i := 18) rfl (.cons (i := 19) rfl (.nil)))))))))) ?_
              obtain ⟨o28, hF28, hF23⟩ := bnd hF23
              refine W.join0 (Em := []) (M := [cBx b2 25 (encRel r1)]) (I := (.inl ()) = o28) (.cons (i := 1) rfl (.cons (i := 3) rfl (.cons (i := 4) rfl (.cons (i := 8) rfl (.cons (i := 9) rfl (.cons (i := 13) rfl (.cons (i := 14) rfl (.cons (i := 18) rfl (.cons (i := 19) rfl (.nil)))))))))) (fun K29 hK29 => ?_) ?_
              · -- up to
                refine W.block ?_
                -- region 9: spans.go:35
                refine W.seqR fun Q30 hQ30 => ?_
                refine WL.q (Y.move (.pl rfl)) rfl ?_
                refine WL.q (Y.assign (.pl rfl)) rfl ?_
                refine WL.next hQ30 (.cons (i := 1) rfl (.cons (i := 3) rfl (.cons (i := 4) rfl (.cons (i := 5) rfl (.cons (i := 8) rfl (.cons (i := 9) rfl (.cons (i := 13) rfl (.cons (i := 14) rfl (.cons (i := 18) rfl (.cons (i := 19) rfl (.nil))))))))))) ?_
                obtain ⟨o31, hF31, hF28⟩ := bnd hF28
                refine W.join0 (Em := []) (M := [cBx b2 25 (encRel r1)]) (I := (.inl ()) = o31) (.cons (i := 1) rfl (.cons (i := 3) rfl (.cons (i := 4) rfl (.cons (i := 5) rfl (.cons (i := 8) rfl (.cons (i := 9) rfl (.cons (i := 13) rfl (.cons (i := 14) rfl (.cons (i := 18) rfl (.cons (i := 19) rfl (.nil))))))))))) (fun K32 hK32 => ?_) ?_
                · -- up to
                  -- region 10: spans.go:36
                  refine W.seqR fun Q33 hQ33 => ?_
                  refine WL.q (Y.fieldAddr0 (off := 0) (ft := 3) Try.underlying25 rfl cells3 (.pl rfl)) rfl ?_
                  refine WL.q (Y.loadB (v := .int .i64 r1.n) Try.underlying3 rfl (.pl rfl) (i := 0) rfl (rfl)) rfl ?_
                  refine WL.q (Y.move (.pl rfl)) rfl ?_
                  refine WL.next hQ33 (.cons (i := 1) rfl (.cons (i := 3) rfl (.cons (i := 4) rfl (.cons (i := 5) rfl (.cons (i := 8) rfl (.cons (i := 9) rfl (.cons (i := 13) rfl (.cons (i := 14) rfl (.cons (i := 18) rfl (.cons (i := 19) rfl (.cons (i := 23) rfl (.cons (i := 24) rfl (.nil))))))))))))) ?_
                  refine W.block ?_
                  refine W.loop1 (Em := fun (v6 : Int) => [(24, .int .i64 v6)]) (M := fun v6 => [cBx b2 25 (encRel r1)]) (I := fun v6 k34 => iter (alibref_Spanned_L1899 N r1 v3 v4 v5) k34 v6 = some o31) 0 N (hF31) (.cons rfl (.nil)) (.cons (i := 1) rfl (.cons (i := 3) rfl (.cons (i := 4) rfl (.cons (i := 5) rfl (.cons (i := 8) rfl (.cons (i := 9) rfl (.cons (i := 13) rfl (.cons (i := 14) rfl (.cons (i := 18) rfl (.cons (i := 19) rfl (.cons (i := 23) rfl (.nil)))))))))))) (fun w hw => hw.pick [0] rfl) (fun v6 k34 hI K35 hK35 => ?_)
                  obtain ⟨k34, t34, rfl, hF34, hN34⟩ := iter_step hI
                  -- region 11: spans.go:36
                  refine W.seqR fun Q36 hQ36 => ?_
                  refine WL.q (Y.lss (.pl rfl) (.pl rfl)) rfl ?_
                  refine WL.next hQ36 (.cons (i := 1) rfl (.cons (i := 3) rfl (.cons (i := 4) rfl (.cons (i := 5) rfl (.cons (i := 8) rfl (.cons (i := 9) rfl (.cons (i := 13) rfl (.cons (i := 14) rfl (.cons (i := 18) rfl (.cons (i := 19) rfl (.cons (i := 23) rfl (.cons (i := 24) rfl (.cons (i := 25) rfl (.nil)))))))))))))) ?_
                  refine W.seq fun K37 hK37 => ?_
                  refine W.cond (.pl rfl) (fun hC38 => ?_) (fun hC38 => ?_)
                  · replace hF34 := cpos hC38 hF34
                    refine W.skip ?_
                    refine W.go hK37 (.cons (i := 1) rfl (.cons (i := 3) rfl (.cons (i := 4) rfl (.cons (i := 5) rfl (.cons (i := 8) rfl (.cons (i := 9) rfl (.cons (i := 13) rfl (.cons (i := 14) rfl (.cons (i := 18) rfl (.cons (i := 19) rfl (.cons (i := 23) rfl (.cons (i := 24) rfl (.nil))))))))))))) ?_
                    refine W.seq fun K39 hK39 => ?_
                    refine W.block ?_
                    -- region 12: spans.go:36
                    refine W.seqR fun Q40 hQ40 => ?_
                    refine WL.q (Y.move (.pl rfl)) rfl ?_
                    refine WL.q (Y.assign (.pl rfl)) rfl ?_
                    refine WL.next hQ40 (.cons (i := 1) rfl (.cons (i := 3) rfl (.cons (i := 4) rfl (.cons (i := 5) rfl (.cons (i := 6) rfl (.cons (i := 8) rfl (.cons (i := 9) rfl (.cons (i := 13) rfl (.cons (i := 14) rfl (.cons (i := 18) rfl (.cons (i := 19) rfl (.cons (i := 23) rfl (.cons (i := 24) rfl (.nil)))))))))))))) ?_
                    -- region 13: spans.go:37
                    refine W.seqR fun Q41 hQ41 => ?_
                    refine WL.q (Y.loadBA (ds := (encRel r1)) Try.underlying25 rfl cells25 (.pl rfl) (i := 0) rfl rfl subW) rfl ?_
                    refine WL.q (Y.move (.pl rfl)) rfl ?_
                    refine WL.q (Y.move (.pl rfl)) rfl ?_
                    obtain ⟨r7, hr7, hF34⟩ := bnd hF34
                    refine WL.step (WO.callP isGo21 (.cons (.pl rfl) (.cons (.pl rfl) (.cons (.pl rfl) (.nil)))) rfl (fun w hw => alibref_Ahead_ok (hr7) w ) ?_)
                    refine WL.q (Y.move (.pl rfl)) rfl ?_
                    refine WL.g (.pl rfl rfl rfl) (fun hg => Y.loadBA (ds := (encRel r1)) Try.underlying25 rfl cells25 (.pl rfl) (i := 0) rfl rfl subW) rfl ?_
                    refine WL.g (.pl rfl rfl rfl) (fun hg => Y.move (.pl rfl)) rfl ?_
                    refine WL.g (.pl rfl rfl rfl) (fun hg => Y.move (.pl rfl)) rfl ?_
                    obtain ⟨r8, hr8, hF34⟩ := bnd hF34
                    refine WL.gP (.pl rfl rfl rfl) isGo21 (fun hg => (.cons (.gd (hg) rfl) (.cons (.gd (hg) rfl) (.cons (.gd (hg) rfl) (.nil))))) rfl (fun hg w hw => alibref_Ahead_ok (gpos hg hr8) w ) ?_
                    refine WL.g (.pl rfl rfl rfl) (fun hg => Y.move (.gd (hg) rfl)) rfl ?_
                    refine WL.g (.gd rfl rfl rfl) (fun hg => Y.loadBA (ds := (encRel r1)) Try.underlying25 rfl cells25 (.pl rfl) (i := 0) rfl rfl subW) rfl ?_
                    refine WL.g (.gd rfl rfl rfl) (fun hg => Y.move (.pl rfl)) rfl ?_
                    refine WL.g (.gd rfl rfl rfl) (fun hg => Y.move (.pl rfl)) rfl ?_
                    obtain ⟨r9, hr9, hF34⟩ := bnd hF34
                    refine WL.gP (.gd rfl rfl rfl) isGo21 (fun hg => (.cons (.gd (hg) rfl) (.cons (.gd (hg) rfl) (.cons (.gd (hg) rfl) (.nil))))) rfl (fun hg w hw => alibref_Ahead_ok (gpos hg hr9) w ) ?_
                    refine WL.g (.pl rfl rfl rfl) (fun hg => Y.and (.gd (hg) rfl) (fun h2 => .gd (band hg (eqt h2)) rfl)) rfl ?_
                    refine WL.g (.pl rfl rfl rfl) (fun hg => Y.move (.gd (hg) rfl)) rfl ?_
                    refine WL.g (.gd rfl rfl rfl) (fun hg => Y.loadBA (ds := (encRel r1)) Try.underlying25 rfl cells25 (.pl rfl) (i := 0) rfl rfl subW) rfl ?_
                    refine WL.g (.gd rfl rfl rfl) (fun hg => Y.move (.pl rfl)) rfl ?_
                    refine WL.g (.gd rfl rfl rfl) (fun hg => Y.move (.pl rfl)) rfl ?_
                    obtain ⟨r10, hr10, hF34⟩ := bnd hF34
                    refine WL.gP (.gd rfl rfl rfl) isGo21 (fun hg => (.cons (.gd (hg) rfl) (.cons (.gd (hg) rfl) (.cons (.gd (hg) rfl) (.nil))))) rfl (fun hg w hw => alibref_Ahead_ok (gpos hg hr10) w ) ?_
                    refine WL.g (.gd rfl rfl rfl) (fun hg => Y.not (.gd (hg) rfl)) rfl ?_
                    refine WL.g (.pl rfl rfl rfl) (fun hg => Y.and (.gd (hg) rfl) (fun h2 => .gd (band hg (eqt h2)) rfl)) rfl ?_
                    refine WL.g (.pl rfl rfl rfl) (fun hg => Y.move (.gd (hg) rfl)) rfl ?_
                    refine WL.g (.gd rfl rfl rfl) (fun hg => Y.loadBA (ds := (encRel r1)) Try.underlying25 rfl cells25 (.pl rfl) (i := 0) rfl rfl subW) rfl ?_
                    refine WL.g (.gd rfl rfl rfl) (fun hg => Y.move (.pl rfl)) rfl ?_
                    refine WL.g (.gd rfl rfl rfl) (fun hg => Y.move (.pl rfl)) rfl ?_
                    obtain ⟨r11, hr11, hF34⟩ := bnd hF34
                    refine WL.gP (.gd rfl rfl rfl) isGo21 (fun hg => (.cons (.gd (hg) rfl) (.cons (.gd (hg) rfl) (.cons (.gd (hg) rfl) (.nil))))) rfl (fun hg w hw => alibref_Ahead_ok (gpos hg hr11) w ) ?_
                    refine WL.g (.gd rfl rfl rfl) (fun hg => Y.not (.gd (hg) rfl)) rfl ?_
                    refine WL.g (.pl rfl rfl rfl) (fun hg => Y.and (.gd (hg) rfl) (fun h2 => .gd (band hg (eqt h2)) rfl)) rfl ?_
                    refine WL.q (Y.or (.pl rfl) (fun h2 => .gd (eqf h2) rfl)) rfl ?_
                    refine WL.next hQ41 (.cons (i := 1) rfl (.cons (i := 3) rfl (.cons (i := 4) rfl (.cons (i := 5) rfl (.cons (i := 8) rfl (.cons (i := 9) rfl (.cons (i := 13) rfl (.cons (i := 14) rfl (.cons (i := 18) rfl (.cons (i := 19) rfl (.cons (i := 23) rfl (.cons (i := 24) rfl (.cons (i := 56) rfl (.nil)))))))))))))) ?_
                    refine W.cond (.pl rfl) (fun hC42 => ?_) (fun hC42 => ?_)
                    · replace hF34 := cpos hC42 hF34
                      -- region 14: spans.go:38
                      refine W.seqR fun Q43 hQ43 => ?_
                      refine WL.q (Y.assign (.pl rfl)) rfl ?_
                      refine WL.next hQ43 (.cons (i := 2) rfl (.nil)) ?_
                      obtain rfl := Option.some.inj hF34
                      obtain rfl := einr hN34
                      obtain rfl := Option.some.inj hF28
                      obtain rfl := Option.some.inj hF23
                      obtain rfl := einr hN23
                      obtain rfl := Option.some.inj hF14
                      obtain rfl := einr hN14
                      obtain rfl := Option.some.inj hF5
                      obtain rfl := einr hN5
                      obtain rfl := Option.some.inj hF
                      refine W.retV (fn := Try.f30) (vs := [.bool false]) Try.results30 ⟨.tmp rfl, trivial⟩ (fun _ _ h => h) (fun w hw => ?_)
                      exact hR _ _ ⟨rfl, (hw.pick [] rfl)⟩
                    · replace hF34 := cneg hC42 hF34
                      refine W.skip ?_
                      refine W.go hK39 (.cons (i := 1) rfl (.cons (i := 3) rfl (.cons (i := 4) rfl (.cons (i := 5) rfl (.cons (i := 8) rfl (.cons (i := 9) rfl (.cons (i := 13) rfl (.cons (i := 14) rfl (.cons (i := 18) rfl (.cons (i := 19) rfl (.cons (i := 23) rfl (.cons (i := 24) rfl (.nil))))))))))))) ?_
                      -- region 15: spans.go:36
                      refine W.reg ?_
                      obtain ⟨hk12, hF34⟩ := ckh hF34
                      refine WL.q (Y.add (.pl rfl) (.pl rfl) (ok64_lt (hk12))) rfl ?_
                      refine WL.q (Y.move (.pl rfl)) rfl ?_
                      refine WL.nil ?_
                      obtain rfl := Option.some.inj hF34
                      exact W.again1 hK35 (v6 + 1) k34 hN34 (Nat.lt_succ_self _) (.cons rfl (.nil)) (.cons (i := 1) rfl (.cons (i := 3) rfl (.cons (i := 4) rfl (.cons (i := 5) rfl (.cons (i := 8) rfl (.cons (i := 9) rfl (.cons (i := 13) rfl (.cons (i := 14) rfl (.cons (i := 18) rfl (.cons (i := 19) rfl (.cons (i := 23) rfl (.nil)))))))))))) (fun w hw => hw.pick [0] rfl)
                  · replace hF34 := cneg hC38 hF34
                    refine W.exit ?_
                    obtain rfl := Option.some.inj hF34
                    exact W.joinAt0 hK32  (einr hN34) (.nil) (.cons (i := 1) rfl (.cons (i := 3) rfl (.cons (i := 4) rfl (.cons (i := 5) rfl (.cons (i := 8) rfl (.cons (i := 9) rfl (.cons (i := 13) rfl (.cons (i := 14) rfl (.cons (i := 18) rfl (.cons (i := 19) rfl (.nil))))))))))) (fun w hw => hw.pick [0] rfl)
                · -- behind
                  rintro  rfl
                  -- region 16: spans.go:41
                  refine W.seqR fun Q45 hQ45 => ?_
                  refine WL.q (Y.loadBA (ds := (encRel r1)) Try.underlying25 rfl cells25 (.pl rfl) (i := 0) rfl rfl subW) rfl ?_
                  refine WL.q (Y.move (.pl rfl)) rfl ?_
                  refine WL.q (Y.move (.pl rfl)) rfl ?_
                  obtain ⟨r13, hr13, hF28⟩ := bnd hF28
                  refine WL.step (WO.callP isGo21 (.cons (.pl rfl) (.cons (.pl rfl) (.cons (.pl rfl) (.nil)))) rfl (fun w hw => alibref_Ahead_ok (hr13) w ) ?_)
                  refine WL.q (Y.move (.pl rfl)) rfl ?_
                  refine WL.g (.pl rfl rfl rfl) (fun hg => Y.loadBA (ds := (encRel r1)) Try.underlying25 rfl cells25 (.pl rfl) (i := 0) rfl rfl subW) rfl ?_
                  refine WL.g (.pl rfl rfl rfl) (fun hg => Y.move (.pl rfl)) rfl ?_
                  refine WL.g (.pl rfl rfl rfl) (fun hg => Y.move (.pl rfl)) rfl ?_
                  obtain ⟨r14, hr14, hF28⟩ := bnd hF28
                  refine WL.gP (.pl rfl rfl rfl) isGo21 (fun hg => (.cons (.gd (hg) rfl) (.cons (.gd (hg) rfl) (.cons (.gd (hg) rfl) (.nil))))) rfl (fun hg w hw => alibref_Ahead_ok (gpos hg hr14) w ) ?_
                  refine WL.q (Y.and (.pl rfl) (fun h2 => .gd (eqt h2) rfl)) rfl ?_
                  refine WL.q (Y.move (.pl rfl)) rfl ?_
                  refine WL.g (.pl rfl rfl rfl) (fun hg => Y.loadBA (ds := (encRel r1)) Try.underlying25 rfl cells25 (.pl rfl) (i := 0) rfl rfl subW) rfl ?_
                  refine WL.g (.pl rfl rfl rfl) (fun hg => Y.move (.pl rfl)) rfl ?_
                  refine WL.g (.pl rfl rfl rfl) (fun hg => Y.move (.pl rfl)) rfl ?_
                  obtain ⟨r15, hr15, hF28⟩ := bnd hF28
                  refine WL.gP (.pl rfl rfl rfl) isGo21 (fun hg => (.cons (.gd (hg) rfl) (.cons (.gd (hg) rfl) (.cons (.gd (hg) rfl) (.nil))))) rfl (fun hg w hw => alibref_Ahead_ok (gpos hg hr15) w ) ?_
                  refine WL.g (.pl rfl rfl rfl) (fun hg => Y.not (.gd (hg) rfl)) rfl ?_
                  refine WL.q (Y.and (.pl rfl) (fun h2 => .gd (eqt h2) rfl)) rfl ?_
                  refine WL.next hQ45 (.cons (i := 1) rfl (.cons (i := 3) rfl (.cons (i := 4) rfl (.cons (i := 8) rfl (.cons (i := 9) rfl (.cons (i := 13) rfl (.cons (i := 14) rfl (.cons (i := 18) rfl (.cons (i := 19) rfl (.cons (i := 74) rfl (.nil))))))))))) ?_
                  refine W.cond (.pl rfl) (fun hC46 => ?_) (fun hC46 => ?_)
                  · replace hF28 := cpos hC46 hF28
                    -- region 17: spans.go:42
                    refine W.seqR fun Q47 hQ47 => ?_
                    refine WL.q (Y.assign (.pl rfl)) rfl ?_
                    refine WL.next hQ47 (.cons (i := 2) rfl (.nil)) ?_
                    obtain rfl := Option.some.inj hF28
                    obtain rfl := Option.some.inj hF23
                    obtain rfl := einr hN23
                    obtain rfl := Option.some.inj hF14
                    obtain rfl := einr hN14
                    obtain rfl := Option.some.inj hF5
                    obtain rfl := einr hN5
                    obtain rfl := Option.some.inj hF
                    refine W.retV (fn := Try.f30) (vs := [.bool false]) Try.results30 ⟨.tmp rfl, trivial⟩ (fun _ _ h => h) (fun w hw => ?_)
                    exact hR _ _ ⟨rfl, (hw.pick [] rfl)⟩
                  · replace hF28 := cneg hC46 hF28
                    refine W.skip ?_
                    exact W.joinAt0 hK29  (Option.some.inj hF28) (.nil) (.cons (i := 1) rfl (.cons (i := 3) rfl (.cons (i := 4) rfl (.cons (i := 8) rfl (.cons (i := 9) rfl (.cons (i := 13) rfl (.cons (i := 14) rfl (.cons (i := 18) rfl (.cons (i := 19) rfl (.nil)))))))))) (fun w hw => hw.pick [0] rfl)
              · -- behind
                rintro  rfl
                -- region 18: spans.go:35
                refine W.reg ?_
                obtain ⟨hk16, hF23⟩ := ckh hF23
                refine WL.q (Y.add (.pl rfl) (.pl rfl) (ok64_lt (hk16))) rfl ?_
                refine WL.q (Y.move (.pl rfl)) rfl ?_
                refine WL.nil ?_
                obtain rfl := Option.some.inj hF23
                exact W.again1 hK24 (v5 + 1) k23 hN23 (Nat.lt_succ_self _) (.cons rfl (.nil)) (.cons (i := 1) rfl (.cons (i := 3) rfl (.cons (i := 4) rfl (.cons (i := 8) rfl (.cons (i := 9) rfl (.cons (i := 13) rfl (.cons (i := 14) rfl (.cons (i := 18) rfl (.nil))))))))) (fun w hw => hw.pick [0] rfl)
            · replace hF23 := cneg hC27 hF23
              refine W.exit ?_
              obtain rfl := Option.some.inj hF23
              exact W.joinAt0 hK20  (einr hN23) (.nil) (.cons (i := 1) rfl (.cons (i := 3) rfl (.cons (i := 8) rfl (.cons (i := 9) rfl (.cons (i := 13) rfl (.cons (i := 14) rfl (.nil))))))) (fun w hw => hw.pick [0] rfl)
          · -- behind
            rintro  rfl
            -- region 19: spans.go:34
            refine W.reg ?_
            obtain ⟨hk17, hF14⟩ := ckh hF14
            refine WL.q (Y.add (.pl rfl) (.pl rfl) (ok64_lt (hk17))) rfl ?_
            refine WL.q (Y.move (.pl rfl)) rfl ?_
            refine WL.nil ?_
            obtain rfl := Option.some.inj hF14
            exact W.again1 hK15 (v4 + 1) k14 hN14 (Nat.lt_succ_self _) (.cons rfl (.nil)) (.cons (i := 1) rfl (.cons (i := 3) rfl (.cons (i := 8) rfl (.cons (i := 9) rfl (.cons (i := 13) rfl (.nil)))))) (fun w hw => hw.pick [0] rfl)
        · replace hF14 := cneg hC18 hF14
          refine W.exit ?_
          obtain rfl := Option.some.inj hF14
          exact W.joinAt0 hK11  (einr hN14) (.nil) (.cons (i := 1) rfl (.cons (i := 8) rfl (.cons (i := 9) rfl (.nil)))) (fun w hw => hw.pick [0] rfl)
      · -- behind
        rintro  rfl
        -- region 20: spans.go:33
        refine W.reg ?_
        obtain ⟨hk18, hF5⟩ := ckh hF5
        refine WL.q (Y.add (.pl rfl) (.pl rfl) (ok64_lt (hk18))) rfl ?_
        refine WL.q (Y.move (.pl rfl)) rfl ?_
        refine WL.nil ?_
        obtain rfl := Option.some.inj hF5
        exact W.again1 hK6 (v3 + 1) k5 hN5 (Nat.lt_succ_self _) (.cons rfl (.nil)) (.cons (i := 1) rfl (.cons (i := 8) rfl (.nil))) (fun w hw => hw.pick [0] rfl)
    · replace hF5 := cneg hC9 hF5
      refine W.exit ?_
      obtain rfl := Option.some.inj hF5
      exact W.joinAt0 hK3  (einr hN5) (.nil) (.nil) (fun w hw => hw.pick [] rfl)
  · -- behind
    rintro  rfl
    -- region 21: spans.go:47
    refine W.seqR fun Q51 hQ51 => ?_
    refine WL.q (Y.assign (.pl rfl)) rfl ?_
    refine WL.next hQ51 (.cons (i := 2) rfl (.nil)) ?_
    obtain rfl := Option.some.inj hF
    refine W.retV (fn := Try.f30) (vs := [.bool true]) Try.results30 ⟨.tmp rfl, trivial⟩ (fun _ _ h => h) (fun w hw => ?_)
    exact hR _ _ ⟨rfl, (hw.pick [] rfl)⟩

def alibkeep_SpansFishburn (N : Nat) (l1 : (List Span)) (r6 : Rel) : Option Bool :=
  bd (spans_Of N l1) fun (r8 : (Int × (List Int) × Int)) =>
  bd (alibkeep_spansLives N) fun (r10 : Bool) =>
  cond (!r10)
    (some false)
    (bd (α := (Unit ⊕ Bool)) (cond (decide (r8.2.2 = 0))
        (bd (spans_Make N (Rel.mk r8.1 r8.2.1)) fun (r11 : ((List Span) × Int)) =>
        bd (spans_Of N r11.1) fun (r14 : (Int × (List Int) × Int)) =>
        cond (((!(decide (r11.2 = 0))) || (!(decide (r14.2.2 = 0)))) || (!(decide (r14.1 = r8.1) && eqA 12 r14.2.1 r8.2.1)))
          (some (.inr false))
          (some (.inl ())))
        (some (.inl ()))) <|
    Sum.elim (fun _ => 
      bd (spans_Make N r6) fun (r16 : ((List Span) × Int)) =>
      bd (order_Check N r6) fun (r19 : Int) =>
      cond (!(decide (r19 = 0)))
        (bd (order_Check N r6) fun (r20 : Int) =>
        some (decide (r16.2 = r20)))
        (bd (order_Close N r6) fun (r21 : (Int × (List Int) × Bool × Int)) =>
        bd ((cond (((decide (r21.2.2.2 = 0)) == true) && (((!r21.2.2.1) && (decide (r21.1 = r6.n) && eqA 12 r21.2.1 r6.after)) == true)) (alibref_Spanned N r6) (some false))) fun (r23 : Bool) =>
        some (((decide (r21.2.2.2 = 0)) && ((decide (r16.2 = 0)) == (((!r21.2.2.1) && (decide (r21.1 = r6.n) && eqA 12 r21.2.1 r6.after)) && r23))) && ((decide (r16.2 = 0)) || (decide (((r16.1).length : Int) = 0)))))) (fun p => some p))

theorem alibkeep_SpansFishburn_ok {N : Nat} {l1 : (List Span)} {r6 : Rel} {res : Bool} (hF : alibkeep_SpansFishburn N l1 r6 = some res) (w : World) {v5 : Value} (hs4 : SlIn encSpan 2 w v5 l1) :
    Pure Try.prog 10 [v5, .agg (encRel r6).toArray] w (.bool res) := by
  obtain ⟨A2, c3, rfl, hcc3, hs4⟩ := hs4.form
  refine W.enter (n := 91) Try.func10 rfl rfl Sub.refl (by simp) (St.start w) fun R hR => ?_
  unfold alibkeep_SpansFishburn at hF
  -- region 0: spans.go:21
  refine W.seqR fun Q1 hQ1 => ?_
  refine WL.step (WO.boxA (.pl rfl) rfl fun b7 => ?_)
  refine WL.q (Y.assign (.pl rfl)) rfl ?_
  refine WL.next hQ1 (.cons (i := 0) rfl (.cons (i := 3) rfl (.nil))) ?_
  -- region 1: spans.go:22
  refine W.seqR fun Q2 hQ2 => ?_
  refine WL.q (Y.move (.pl rfl)) rfl ?_
  obtain ⟨r8, hr8, hF⟩ := bnd hF
  refine WL.step (WO.callP isGo26 (.cons (.pl rfl) (.nil)) rfl (fun w hw => spans_Of_ok (hr8) w (hs4.mono hw)) ?_)
  refine WL.q (Y.move (.pl rfl)) rfl ?_
  refine WL.q (Y.extract (.pl rfl) rfl) rfl ?_
  refine WL.q (Y.extract (.pl rfl) rfl) rfl ?_
  refine WL.step (WO.alloc (cs := (encRel (Rel.mk 0 [])).toArray) zero25 rfl rfl fun b9 => ?_)
  refine WL.step (WO.storeBA (ds := (encRel (Rel.mk r8.1 r8.2.1))) (cs' := (encRel (Rel.mk r8.1 r8.2.1))) cells25 (.pl rfl) (.pl rfl) rfl (oneRel _) (i := 0) rfl (lel (o := 0) (l := 13) (m := 13) (by decide) rfl rfl) (putW rfl) ?_)
  refine WL.q (Y.assign (.pl rfl)) rfl ?_
  refine WL.next hQ2 (.cons (i := 3) rfl (.cons (i := 5) rfl (.cons (i := 6) rfl (.nil)))) ?_
  refine W.seq fun K3 hK3 => ?_
  -- region 2: spans.go:23
  refine W.seqR fun Q4 hQ4 => ?_
  obtain ⟨r10, hr10, hF⟩ := bnd hF
  refine WL.step (WO.callP isGo27 (.nil) rfl (fun w hw => alibkeep_spansLives_ok (hr10) w ) ?_)
  refine WL.q (Y.not (.pl rfl)) rfl ?_
  refine WL.next hQ4 (.cons (i := 3) rfl (.cons (i := 5) rfl (.cons (i := 6) rfl (.cons (i := 22) rfl (.nil))))) ?_
  refine W.cond (.pl rfl) (fun hC5 => ?_) (fun hC5 => ?_)
  · replace hF := cpos hC5 hF
    -- region 3: spans.go:24
    refine W.seqR fun Q6 hQ6 => ?_
    refine WL.q (Y.assign (.pl rfl)) rfl ?_
    refine WL.next hQ6 (.cons (i := 4) rfl (.nil)) ?_
    obtain rfl := Option.some.inj hF
    refine W.retV (fn := Try.f10) (vs := [.bool false]) Try.results10 ⟨.tmp rfl, trivial⟩ (fun _ _ h => h) (fun w hw => ?_)
    exact hR _ _ ⟨rfl, (hw.pick [] rfl)⟩
  · replace hF := cneg hC5 hF
    refine W.skip ?_
    refine W.go hK3 (.cons (i := 3) rfl (.cons (i := 5) rfl (.cons (i := 6) rfl (.nil)))) ?_
    obtain ⟨o7, hF7, hF⟩ := bnd hF
    refine W.join0 (Em := []) (M := [cBx b7 25 (encRel r6)]) (I := (.inl ()) = o7) (.cons (i := 3) rfl (.nil)) (fun K8 hK8 => ?_) ?_
    · -- up to
      -- region 4: spans.go:26
      refine W.seqR fun Q9 hQ9 => ?_
      refine WL.q (Y.move (.pl rfl)) rfl ?_
      refine WL.q (Y.eql (.pl rfl) (.pl rfl)) rfl ?_
      refine WL.next hQ9 (.cons (i := 3) rfl (.cons (i := 5) rfl (.cons (i := 24) rfl (.nil)))) ?_
      refine W.cond (.pl rfl) (fun hC10 => ?_) (fun hC10 => ?_)
      · replace hF7 := cpos hC10 hF7
        -- region 5: spans.go:27
        refine W.seqR fun Q11 hQ11 => ?_
        refine WL.q (Y.loadBA (ds := (encRel (Rel.mk r8.1 r8.2.1))) Try.underlying25 rfl cells25 (.pl rfl) (i := 0) rfl rfl subW) rfl ?_
        obtain ⟨r11, hr11, hF7⟩ := bnd hF7
        refine WL.step (WO.callM isGo28 (.cons (.pl rfl) (.nil)) rfl (fun w hw => spans_Make_ok (hr11) w ) ?_)
        rintro ⟨A12, c13⟩ -
        refine WL.q (Y.move (.pl rfl)) rfl ?_
        refine WL.q (Y.extract (.pl rfl) rfl) rfl ?_
        refine WL.q (Y.extract (.pl rfl) rfl) rfl ?_
        refine WL.q (Y.assign (.pl rfl)) rfl ?_
        refine WL.q (Y.assign (.pl rfl)) rfl ?_
        refine WL.next hQ11 (.cons (i := 3) rfl (.cons (i := 5) rfl (.cons (i := 7) rfl (.cons (i := 8) rfl (.nil))))) ?_
        -- region 6: spans.go:28
        refine W.seqR fun Q12 hQ12 => ?_
        refine WL.q (Y.move (.pl rfl)) rfl ?_
        obtain ⟨r14, hr14, hF7⟩ := bnd hF7
        refine WL.step (WO.callP isGo26 (.cons (.pl rfl) (.nil)) rfl (fun w hw => spans_Of_ok (hr14) w (SlIn.ofRow lenSpan hw (i := 0) rfl)) ?_)
        refine WL.q (Y.move (.pl rfl)) rfl ?_
        refine WL.q (Y.extract (.pl rfl) rfl) rfl ?_
        refine WL.q (Y.extract (.pl rfl) rfl) rfl ?_
        refine WL.step (WO.alloc (cs := (encRel (Rel.mk 0 [])).toArray) zero25 rfl rfl fun b15 => ?_)
        refine WL.step (WO.storeBA (ds := (encRel (Rel.mk r14.1 r14.2.1))) (cs' := (encRel (Rel.mk r14.1 r14.2.1))) cells25 (.pl rfl) (.pl rfl) rfl (oneRel _) (i := 0) rfl (lel (o := 0) (l := 13) (m := 13) (by decide) rfl rfl) (putW rfl) ?_)
        refine WL.q (Y.assign (.pl rfl)) rfl ?_
        refine WL.next hQ12 (.cons (i := 3) rfl (.cons (i := 5) rfl (.cons (i := 8) rfl (.cons (i := 9) rfl (.cons (i := 10) rfl (.nil)))))) ?_
        -- region 7: spans.go:29
        refine W.seqR fun Q13 hQ13 => ?_
        refine WL.q (Y.move (.pl rfl)) rfl ?_
        refine WL.q (Y.neq (.pl rfl) (.pl rfl)) rfl ?_
        refine WL.q (Y.move (.pl rfl)) rfl ?_
        refine WL.g (.pl rfl rfl rfl) (fun hg => Y.move (.pl rfl)) rfl ?_
        refine WL.g (.pl rfl rfl rfl) (fun hg => Y.neq (.gd (hg) rfl) (.pl rfl)) rfl ?_
        refine WL.q (Y.or (.pl rfl) (fun h2 => .gd (eqf h2) rfl)) rfl ?_
        refine WL.q (Y.move (.pl rfl)) rfl ?_
        refine WL.g (.pl rfl rfl rfl) (fun hg => Y.loadBA (ds := (encRel (Rel.mk r14.1 r14.2.1))) Try.underlying25 rfl cells25 (.pl rfl) (i := 0) rfl rfl subW) rfl ?_
        refine WL.g (.pl rfl rfl rfl) (fun hg => Y.loadBA (ds := (encRel (Rel.mk r8.1 r8.2.1))) Try.underlying25 rfl cells25 (.pl rfl) (i := 2) rfl rfl subW) rfl ?_
        refine WL.g (.pl rfl rfl rfl) (fun hg => Y.neqG eqg25 (.gd (hg) rfl) (.gd (hg) rfl)) rfl ?_
        refine WL.q (Y.or (.pl rfl) (fun h2 => .gd (eqf h2) rfl)) rfl ?_
        refine WL.next hQ13 (.cons (i := 3) rfl (.cons (i := 45) rfl (.nil))) ?_
        refine W.cond (.pl rfl) (fun hC14 => ?_) (fun hC14 => ?_)
        · replace hF7 := cpos hC14 hF7
          -- region 8: spans.go:30
          refine W.seqR fun Q15 hQ15 => ?_
          refine WL.q (Y.assign (.pl rfl)) rfl ?_
          refine WL.next hQ15 (.cons (i := 4) rfl (.nil)) ?_
          obtain rfl := Option.some.inj hF7
          obtain rfl := Option.some.inj hF
          refine W.retV (fn := Try.f10) (vs := [.bool false]) Try.results10 ⟨.tmp rfl, trivial⟩ (fun _ _ h => h) (fun w hw => ?_)
          exact hR _ _ ⟨rfl, (hw.pick [] rfl)⟩
        · replace hF7 := cneg hC14 hF7
          refine W.skip ?_
          exact W.joinAt0 hK8  (Option.some.inj hF7) (.nil) (.cons (i := 3) rfl (.nil)) (fun w hw => hw.pick [3] rfl)
      · replace hF7 := cneg hC10 hF7
        refine W.skip ?_
        exact W.joinAt0 hK8  (Option.some.inj hF7) (.nil) (.cons (i := 3) rfl (.nil)) (fun w hw => hw.pick [1] rfl)
    · -- behind
      rintro  rfl
      -- region 9: spans.go:33
      refine W.seqR fun Q16 hQ16 => ?_
      refine WL.q (Y.loadBA (ds := (encRel r6)) Try.underlying25 rfl cells25 (.pl rfl) (i := 0) rfl rfl subW) rfl ?_
      obtain ⟨r16, hr16, hF⟩ := bnd hF
      refine WL.step (WO.callM isGo28 (.cons (.pl rfl) (.nil)) rfl (fun w hw => spans_Make_ok (hr16) w ) ?_)
      rintro ⟨A17, c18⟩ -
      refine WL.q (Y.move (.pl rfl)) rfl ?_
      refine WL.q (Y.extract (.pl rfl) rfl) rfl ?_
      refine WL.q (Y.extract (.pl rfl) rfl) rfl ?_
      refine WL.q (Y.assign (.pl rfl)) rfl ?_
      refine WL.q (Y.assign (.pl rfl)) rfl ?_
      refine WL.next hQ16 (.cons (i := 3) rfl (.cons (i := 11) rfl (.cons (i := 12) rfl (.nil)))) ?_
      refine W.seq fun K17 hK17 => ?_
      -- region 10: spans.go:34
      refine W.seqR fun Q18 hQ18 => ?_
      refine WL.q (Y.loadBA (ds := (encRel r6)) Try.underlying25 rfl cells25 (.pl rfl) (i := 1) rfl rfl subW) rfl ?_
      obtain ⟨r19, hr19, hF⟩ := bnd hF
      refine WL.step (WO.callP isGo29 (.cons (.pl rfl) (.nil)) rfl (fun w hw => order_Check_ok (hr19) w ) ?_)
      refine WL.q (Y.neq (.pl rfl) (.pl rfl)) rfl ?_
      refine WL.next hQ18 (.cons (i := 3) rfl (.cons (i := 11) rfl (.cons (i := 12) rfl (.cons (i := 53) rfl (.nil))))) ?_
      refine W.cond (.pl rfl) (fun hC19 => ?_) (fun hC19 => ?_)
      · replace hF := cpos hC19 hF
        -- region 11: spans.go:35
        refine W.seqR fun Q20 hQ20 => ?_
        refine WL.q (Y.move (.pl rfl)) rfl ?_
        refine WL.q (Y.loadBA (ds := (encRel r6)) Try.underlying25 rfl cells25 (.pl rfl) (i := 1) rfl rfl subW) rfl ?_
        obtain ⟨r20, hr20, hF⟩ := bnd hF
        refine WL.step (WO.callP isGo29 (.cons (.pl rfl) (.nil)) rfl (fun w hw => order_Check_ok (hr20) w ) ?_)
        refine WL.q (Y.eql (.pl rfl) (.pl rfl)) rfl ?_
        refine WL.q (Y.assign (.pl rfl)) rfl ?_
        refine WL.next hQ20 (.cons (i := 4) rfl (.nil)) ?_
        obtain rfl := Option.some.inj hF
        refine W.retV (fn := Try.f10) (vs := [.bool (decide (r16.2 = r20))]) Try.results10 ⟨.tmp rfl, trivial⟩ (fun _ _ h => h) (fun w hw => ?_)
        exact hR _ _ ⟨rfl, (hw.pick [] rfl)⟩
      · replace hF := cneg hC19 hF
        refine W.skip ?_
        refine W.go hK17 (.cons (i := 3) rfl (.cons (i := 11) rfl (.cons (i := 12) rfl (.nil)))) ?_
        -- region 12: spans.go:37
        refine W.seqR fun Q21 hQ21 => ?_
        refine WL.q (Y.loadBA (ds := (encRel r6)) Try.underlying25 rfl cells25 (.pl rfl) (i := 1) rfl rfl subW) rfl ?_
        obtain ⟨r21, hr21, hF⟩ := bnd hF
        refine WL.step (WO.callP isGo15 (.cons (.pl rfl) (.nil)) rfl (fun w hw => order_Close_ok (hr21) w ) ?_)
        refine WL.q (Y.move (.pl rfl)) rfl ?_
        refine WL.q (Y.extract (.pl rfl) rfl) rfl ?_
        refine WL.q (Y.extract (.pl rfl) rfl) rfl ?_
        refine WL.q (Y.extract (.pl rfl) rfl) rfl ?_
        refine WL.step (WO.alloc (cs := (encRel (Rel.mk 0 [])).toArray) zero25 rfl rfl fun b22 => ?_)
        refine WL.step (WO.storeBA (ds := (encRel (Rel.mk r21.1 r21.2.1))) (cs' := (encRel (Rel.mk r21.1 r21.2.1))) cells25 (.pl rfl) (.pl rfl) rfl (oneRel _) (i := 0) rfl (lel (o := 0) (l := 13) (m := 13) (by decide) rfl rfl) (putW rfl) ?_)
        refine WL.q (Y.assign (.pl rfl)) rfl ?_
        refine WL.q (Y.assign (.pl rfl)) rfl ?_
        refine WL.next hQ21 (.cons (i := 3) rfl (.cons (i := 11) rfl (.cons (i := 12) rfl (.cons (i := 13) rfl (.cons (i := 14) rfl (.cons (i := 15) rfl (.nil))))))) ?_
        -- region 13: spans.go:38
        refine W.seqR fun Q22 hQ22 => ?_
        refine WL.q (Y.move (.pl rfl)) rfl ?_
        refine WL.q (Y.eql (.pl rfl) (.pl rfl)) rfl ?_
        refine WL.q (Y.move (.pl rfl)) rfl ?_
        refine WL.g (.pl rfl rfl rfl) (fun hg => Y.move (.pl rfl)) rfl ?_
        refine WL.g (.pl rfl rfl rfl) (fun hg => Y.eql (.gd (hg) rfl) (.pl rfl)) rfl ?_
        refine WL.g (.pl rfl rfl rfl) (fun hg => Y.move (.pl rfl)) rfl ?_
        refine WL.g (.pl rfl rfl rfl) (fun hg => Y.not (.gd (hg) rfl)) rfl ?_
        refine WL.g (.pl rfl rfl rfl) (fun hg => Y.move (.gd (hg) rfl)) rfl ?_
        refine WL.g (.gd rfl rfl rfl) (fun hg => Y.loadBA (ds := (encRel (Rel.mk r21.1 r21.2.1))) Try.underlying25 rfl cells25 (.pl rfl) (i := 0) rfl rfl subW) rfl ?_
        refine WL.g (.gd rfl rfl rfl) (fun hg => Y.loadBA (ds := (encRel r6)) Try.underlying25 rfl cells25 (.pl rfl) (i := 2) rfl rfl subW) rfl ?_
        refine WL.g (.gd rfl rfl rfl) (fun hg => Y.eqlG eqg25 (.gd (hg) rfl) (.gd (hg) rfl)) rfl ?_
        refine WL.g (.pl rfl rfl rfl) (fun hg => Y.and (.gd (hg) rfl) (fun h2 => .gd (band hg (eqt h2)) rfl)) rfl ?_
        refine WL.g (.pl rfl rfl rfl) (fun hg => Y.move (.gd (hg) rfl)) rfl ?_
        refine WL.g (.gd rfl rfl rfl) (fun hg => Y.loadBA (ds := (encRel r6)) Try.underlying25 rfl cells25 (.pl rfl) (i := 2) rfl rfl subW) rfl ?_
        obtain ⟨r23, hr23, hF⟩ := bnd hF
        refine WL.gP (.gd rfl rfl rfl) isGo30 (fun hg => (.cons (.gd (hg) rfl) (.nil))) rfl (fun hg w hw => alibref_Spanned_ok (gpos hg hr23) w ) ?_
        refine WL.g (.pl rfl rfl rfl) (fun hg => Y.and (.gd (hg) rfl) (fun h2 => .gd (band hg (eqt h2)) rfl)) rfl ?_
        refine WL.g (.pl rfl rfl rfl) (fun hg => Y.eqlB Try.underlying4 (.gd (hg) rfl) (.gd (hg) rfl)) rfl ?_
        refine WL.q (Y.and (.pl rfl) (fun h2 => .gd (eqt h2) rfl)) rfl ?_
        refine WL.q (Y.move (.pl rfl)) rfl ?_
        refine WL.g (.pl rfl rfl rfl) (fun hg => Y.move (.pl rfl)) rfl ?_
        refine WL.g (.pl rfl rfl rfl) (fun hg => Y.eql (.gd (hg) rfl) (.pl rfl)) rfl ?_
        refine WL.g (.pl rfl rfl rfl) (fun hg => Y.move (.gd (hg) rfl)) rfl ?_
        refine WL.g (.gd rfl rfl rfl) (fun hg => Y.move (.pl rfl)) rfl ?_
        refine WL.g (.gd rfl rfl rfl) (fun hg => Y.len Try.underlying39 (.gd (hg) rfl)) rfl ?_
        refine WL.g (.gd rfl rfl rfl) (fun hg => Y.eql (.gd (hg) rfl) (.pl rfl)) rfl ?_
        refine WL.g (.pl rfl rfl rfl) (fun hg => Y.or (.gd (hg) rfl) (fun h2 => .gd (band hg (eqf h2)) rfl)) rfl ?_
        refine WL.q (Y.and (.pl rfl) (fun h2 => .gd (eqt h2) rfl)) rfl ?_
        refine WL.q (Y.assign (.pl rfl)) rfl ?_
        refine WL.next hQ22 (.cons (i := 4) rfl (.nil)) ?_
        obtain rfl := Option.some.inj hF
        refine W.retV (fn := Try.f10) (vs := [.bool (((decide (r21.2.2.2 = 0)) && ((decide (r16.2 = 0)) == (((!r21.2.2.1) && (decide (r21.1 = r6.n) && eqA 12 r21.2.1 r6.after)) && r23))) && ((decide (r16.2 = 0)) || (decide (((r16.1).length : Int) = 0))))]) Try.results10 ⟨.tmp rfl, trivial⟩ (fun _ _ h => h) (fun w hw => ?_)
        exact hR _ _ ⟨rfl, (hw.pick [] rfl)⟩

end Go.Proofs.Ytemckhkicfpgeaa
