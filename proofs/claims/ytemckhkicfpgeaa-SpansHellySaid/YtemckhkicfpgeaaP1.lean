/- Spans: what their code computes, and the walks. -/
import Derived.Test.YtemckhkicfpgeaaR3
import Derived.Test.YtemckhkicfpgeaaView
set_option linter.unusedVariables false
set_option linter.unusedSimpArgs false
set_option linter.unusedSectionVars false
set_option maxRecDepth 100000
namespace Go.Proofs.Ytemckhkicfpgeaa
open Go.RowKit
structure Span where
  from_ : Int
  to_ : Int
deriving DecidableEq
def Span.z : Span := ⟨0, 0⟩
def encSpan (x : Span) : List Value := (Value.int .i64 x.from_ :: (Value.int .i64 x.to_ :: []))
theorem lenSpan (x : Span) : (encSpan x).length = 2 := rfl
theorem eqSpan (x y : Span) : eqCells [true, true] (encSpan x) (encSpan y) = some (decide (x = y)) := by
  cases x; cases y; simp [encSpan, eqCells, Span.mk.injEq, Bool.beq_eq_decide_eq]
theorem oneSpan : ∀ x, ∀ v ∈ encSpan x, v.oneCell' = true := fun x => (one_cons rfl (one_cons rfl one_nil))
theorem cells43 : Try.prog.cellsOf 43 = 1 + 1 := by kernel_rfl
theorem isGo26 : IsGo Try.prog 26 := ⟨_, Try.func26, by kernel_rfl, rfl⟩
theorem isGo28 : IsGo Try.prog 28 := ⟨_, Try.func28, by kernel_rfl, rfl⟩
theorem isGo31 : IsGo Try.prog 31 := ⟨_, Try.func31, by kernel_rfl, rfl⟩
theorem isGo46 : IsGo Try.prog 46 := ⟨_, Try.func46, by kernel_rfl, rfl⟩
theorem isGo47 : IsGo Try.prog 47 := ⟨_, Try.func47, by kernel_rfl, rfl⟩
theorem isGo48 : IsGo Try.prog 48 := ⟨_, Try.func48, by kernel_rfl, rfl⟩
theorem isGo49 : IsGo Try.prog 49 := ⟨_, Try.func49, by kernel_rfl, rfl⟩
theorem isGo50 : IsGo Try.prog 50 := ⟨_, Try.func50, by kernel_rfl, rfl⟩
theorem isGo52 : IsGo Try.prog 52 := ⟨_, Try.func52, by kernel_rfl, rfl⟩
theorem isGo53 : IsGo Try.prog 53 := ⟨_, Try.func53, by kernel_rfl, rfl⟩
theorem isGo62 : IsGo Try.prog 62 := ⟨_, Try.func62, by kernel_rfl, rfl⟩
theorem isGo63 : IsGo Try.prog 63 := ⟨_, Try.func63, by kernel_rfl, rfl⟩
theorem isGo69 : IsGo Try.prog 69 := ⟨_, Try.func69, by kernel_rfl, rfl⟩
theorem isGo77 : IsGo Try.prog 77 := ⟨_, Try.func77, by kernel_rfl, rfl⟩
theorem isGo78 : IsGo Try.prog 78 := ⟨_, Try.func78, by kernel_rfl, rfl⟩
theorem zero22 : ∃ i, Try.prog.info? 22 = some i ∧ i.zero = some (Value.int .u16 0) := ⟨_, rfl, by kernel_rfl⟩
theorem zero43 : ∃ i, Try.prog.info? 43 = some i ∧ i.zero = some (Value.agg #[(Value.int .i64 0), (Value.int .i64 0)]) := ⟨_, rfl, by kernel_rfl⟩
theorem bz43 : ∃ i, Try.prog.info? 43 = some i ∧ i.zero = some (Value.agg #[(Value.int .i64 0), (Value.int .i64 0)]) ∧ i.size = 2 := ⟨_, rfl, by kernel_rfl, by kernel_rfl⟩
theorem mka22 : ∃ i z, Try.prog.info? 22 = some i ∧ i.zero = some z ∧ i.size = 1 ∧ i.bytes = 2 ∧ z.cells = ([(Value.int .u16 0)] : List Value).toArray ∧ ([(Value.int .u16 0)] : List Value).length = 1 ∧ 0 < 1 := ⟨_, (Value.int .u16 0), rfl, by kernel_rfl, by kernel_rfl, by kernel_rfl, rfl, rfl, by decide⟩
theorem eqs43 : EqShape Try.prog 43 [true, true] := ⟨_, Try.underlying43, by kernel_rfl, by kernel_rfl, by kernel_rfl⟩
theorem ap43 : ∃ i z, Try.prog.info? 43 = some i ∧ i.zero = some z ∧ i.size = 2 ∧ i.bytes = 16 ∧ z.cells.size = 2 ∧ 0 < 2 := ⟨_, (Value.agg #[(Value.int .i64 0), (Value.int .i64 0)]), rfl, by kernel_rfl, by kernel_rfl, by kernel_rfl, by kernel_rfl, by decide⟩
theorem shape43 : Shape Try.prog 43 [(0, 1), (1, 1)] #[(Value.int .i64 0), (Value.int .i64 0)] := ⟨_, _, Value.agg #[(Value.int .i64 0), (Value.int .i64 0)], Try.underlying43, rfl, by kernel_rfl, rfl, by kernel_rfl, by decide⟩
def spans_Check_L3 (N : Nat) (l1 : (List Span)) : Int → Option (Int ⊕ (Unit ⊕ Int))
  | v6 =>
    cond (decide (v6 < ((l1).length : Int)))
      (bd (ix l1 v6) fun (x7 : Span) =>
      cond (((decide (x7.from_ < 0)) || (decide (x7.to_ < x7.from_))) || (decide (1000000 < x7.to_)))
        (some (.inr (.inr 3)))
        (ck (ok64 (v6 + 1)) <|
        some (.inl (v6 + 1))))
      (some (.inr (.inl ())))

def spans_Check (N : Nat) (l1 : (List Span)) : Option Int :=
  cond (decide (12 < ((l1).length : Int)))
    (some 2)
    (bd (α := (Unit ⊕ Int)) (iter (spans_Check_L3 N l1) N 0) <|
    Sum.elim (fun _ => 
      some 0) (fun p => some p))

theorem spans_Check_ok {N : Nat} {l1 : (List Span)} {res : Int} (hF : spans_Check N l1 = some res) (w : World) {v5 : Value} (hs4 : SlIn encSpan 2 w v5 l1) :
    Pure Try.prog 46 [v5] w (.int .i64 res) := by
  obtain ⟨A2, c3, rfl, hcc3, hs4⟩ := hs4.form
  refine W.enter (n := 30) Try.func46 rfl rfl Sub.refl (by simp) (St.start w) fun R hR => ?_
  unfold spans_Check at hF
  -- region 0: spans.go:13
  refine W.seqR fun Q1 hQ1 => ?_
  refine WL.q (Y.assign (.pl rfl)) rfl ?_
  refine WL.next hQ1 (.cons (i := 0) rfl (.nil)) ?_
  refine W.seq fun K2 hK2 => ?_
  -- region 1: spans.go:14
  refine W.seqR fun Q3 hQ3 => ?_
  refine WL.q (Y.move (.pl rfl)) rfl ?_
  refine WL.q (Y.len Try.underlying39 (.pl rfl)) rfl ?_
  refine WL.q (Y.gtr (.pl rfl) (.pl rfl)) rfl ?_
  refine WL.next hQ3 (.cons (i := 0) rfl (.cons (i := 7) rfl (.nil))) ?_
  refine W.cond (.pl rfl) (fun hC4 => ?_) (fun hC4 => ?_)
  · replace hF := cpos hC4 hF
    -- region 2: spans.go:15
    refine W.seqR fun Q5 hQ5 => ?_
    refine WL.q (Y.assign (.pl rfl)) rfl ?_
    refine WL.next hQ5 (.cons (i := 2) rfl (.nil)) ?_
    obtain rfl := Option.some.inj hF
    refine W.retV (fn := Try.f46) (vs := [.int .i64 2]) Try.results46 ⟨.tmp rfl, trivial⟩ (fun _ _ h => h) (fun w hw => ?_)
    exact hR _ _ ⟨rfl, (hw.pick [] rfl)⟩
  · replace hF := cneg hC4 hF
    refine W.skip ?_
    refine W.go hK2 (.cons (i := 0) rfl (.nil)) ?_
    obtain ⟨o6, hF6, hF⟩ := bnd hF
    refine W.join0 (Em := []) (M := []) (I := (.inl ()) = o6) (.nil) (fun K7 hK7 => ?_) ?_
    · -- up to
      -- region 3: spans.go:17
      refine W.seqR fun Q8 hQ8 => ?_
      refine WL.q (Y.move (.pl rfl)) rfl ?_
      refine WL.q (Y.len Try.underlying39 (.pl rfl)) rfl ?_
      refine WL.q (Y.move (.pl rfl)) rfl ?_
      refine WL.next hQ8 (.cons (i := 8) rfl (.cons (i := 9) rfl (.cons (i := 10) rfl (.nil)))) ?_
      refine W.block ?_
      refine W.loop1 (Em := fun (v6 : Int) => [(10, .int .i64 v6)]) (M := fun v6 => []) (I := fun v6 k9 => iter (spans_Check_L3 N l1) k9 v6 = some o6) 0 N (hF6) (.cons rfl (.nil)) (.cons (i := 8) rfl (.cons (i := 9) rfl (.nil))) (fun w hw => hw.pick [] rfl) (fun v6 k9 hI K10 hK10 => ?_)
      obtain ⟨k9, t9, rfl, hF9, hN9⟩ := iter_step hI
      -- region 4: spans.go:17
      refine W.seqR fun Q11 hQ11 => ?_
      refine WL.q (Y.lss (.pl rfl) (.pl rfl)) rfl ?_
      refine WL.next hQ11 (.cons (i := 8) rfl (.cons (i := 9) rfl (.cons (i := 10) rfl (.cons (i := 11) rfl (.nil))))) ?_
      refine W.seq fun K12 hK12 => ?_
      refine W.cond (.pl rfl) (fun hC13 => ?_) (fun hC13 => ?_)
      · replace hF9 := cpos hC13 hF9
        refine W.skip ?_
        refine W.go hK12 (.cons (i := 8) rfl (.cons (i := 9) rfl (.cons (i := 10) rfl (.nil)))) ?_
        refine W.seq fun K14 hK14 => ?_
        refine W.block ?_
        -- region 5: spans.go:17
        refine W.seqR fun Q15 hQ15 => ?_
        obtain ⟨x7, hx7, hF9⟩ := bnd hF9
        refine WL.q (Y.slEl Try.underlying39 cells43 hs4 (.pl rfl) (.pl rfl) (ix_lt (hx7))) rfl ?_
        refine WL.q (Y.loadSA (enc := encSpan) (ds := (encSpan x7)) (j := 0) Try.underlying43 rfl cells43 hs4 (.pl rfl) (hx7) rfl rfl subW) rfl ?_
        refine WL.step (WO.alloc (cs := (encSpan (Span.mk 0 0)).toArray) zero43 rfl rfl fun b8 => ?_)
        refine WL.step (WO.storeBA (ds := (encSpan x7)) (cs' := (encSpan x7)) cells43 (.pl rfl) (.pl rfl) rfl (oneSpan _) (i := 0) rfl (lel (o := 0) (l := 2) (m := 2) (by decide) rfl rfl) (putW rfl) ?_)
        refine WL.next hQ15 (.cons (i := 4) rfl (.cons (i := 8) rfl (.cons (i := 9) rfl (.cons (i := 10) rfl (.nil))))) ?_
        -- region 6: spans.go:18
        refine W.seqR fun Q16 hQ16 => ?_
        refine WL.q (Y.fieldAddr0 (off := 0) (ft := 3) Try.underlying43 rfl cells3 (.pl rfl)) rfl ?_
        refine WL.q (Y.loadB (v := .int .i64 x7.from_) Try.underlying3 rfl (.pl rfl) (i := 0) rfl (rfl)) rfl ?_
        refine WL.q (Y.lss (.pl rfl) (.pl rfl)) rfl ?_
        refine WL.q (Y.move (.pl rfl)) rfl ?_
        refine WL.g (.pl rfl rfl rfl) (fun hg => Y.fieldAddr0 (off := 0) (ft := 3) Try.underlying43 rfl cells3 (.pl rfl)) rfl ?_
        refine WL.g (.pl rfl rfl rfl) (fun hg => Y.loadB (v := .int .i64 x7.from_) Try.underlying3 rfl (.gd (hg) rfl) (i := 0) rfl (rfl)) rfl ?_
        refine WL.g (.pl rfl rfl rfl) (fun hg => Y.fieldAddr0 (off := 1) (ft := 3) Try.underlying43 rfl cells3 (.pl rfl)) rfl ?_
        refine WL.g (.pl rfl rfl rfl) (fun hg => Y.loadB (v := .int .i64 x7.to_) Try.underlying3 rfl (.gd (hg) rfl) (i := 0) rfl (rfl)) rfl ?_
        refine WL.g (.pl rfl rfl rfl) (fun hg => Y.gtr (.gd (hg) rfl) (.gd (hg) rfl)) rfl ?_
        refine WL.q (Y.or (.pl rfl) (fun h2 => .gd (eqf h2) rfl)) rfl ?_
        refine WL.q (Y.move (.pl rfl)) rfl ?_
        refine WL.g (.pl rfl rfl rfl) (fun hg => Y.fieldAddr0 (off := 1) (ft := 3) Try.underlying43 rfl cells3 (.pl rfl)) rfl ?_
        refine WL.g (.pl rfl rfl rfl) (fun hg => Y.loadB (v := .int .i64 x7.to_) Try.underlying3 rfl (.gd (hg) rfl) (i := 0) rfl (rfl)) rfl ?_
        refine WL.g (.pl rfl rfl rfl) (fun hg => Y.gtr (.gd (hg) rfl) (.pl rfl)) rfl ?_
        refine WL.q (Y.or (.pl rfl) (fun h2 => .gd (eqf h2) rfl)) rfl ?_
        refine WL.next hQ16 (.cons (i := 8) rfl (.cons (i := 9) rfl (.cons (i := 10) rfl (.cons (i := 28) rfl (.nil))))) ?_
        refine W.cond (.pl rfl) (fun hC17 => ?_) (fun hC17 => ?_)
        · replace hF9 := cpos hC17 hF9
          -- region 7: spans.go:19
          refine W.seqR fun Q18 hQ18 => ?_
          refine WL.q (Y.assign (.pl rfl)) rfl ?_
          refine WL.next hQ18 (.cons (i := 2) rfl (.nil)) ?_
          obtain rfl := Option.some.inj hF9
          obtain rfl := einr hN9
          obtain rfl := Option.some.inj hF
          refine W.retV (fn := Try.f46) (vs := [.int .i64 3]) Try.results46 ⟨.tmp rfl, trivial⟩ (fun _ _ h => h) (fun w hw => ?_)
          exact hR _ _ ⟨rfl, (hw.pick [] rfl)⟩
        · replace hF9 := cneg hC17 hF9
          refine W.skip ?_
          refine W.go hK14 (.cons (i := 8) rfl (.cons (i := 9) rfl (.cons (i := 10) rfl (.nil)))) ?_
          -- region 8: spans.go:17
          refine W.reg ?_
          obtain ⟨hk9, hF9⟩ := ckh hF9
          refine WL.q (Y.add (.pl rfl) (.pl rfl) (ok64_lt (hk9))) rfl ?_
          refine WL.q (Y.move (.pl rfl)) rfl ?_
          refine WL.nil ?_
          obtain rfl := Option.some.inj hF9
          exact W.again1 hK10 (v6 + 1) k9 hN9 (Nat.lt_succ_self _) (.cons rfl (.nil)) (.cons (i := 8) rfl (.cons (i := 9) rfl (.nil))) (fun w hw => hw.pick [] rfl)
      · replace hF9 := cneg hC13 hF9
        refine W.exit ?_
        obtain rfl := Option.some.inj hF9
        exact W.joinAt0 hK7  (einr hN9) (.nil) (.nil) (fun w hw => hw.pick [] rfl)
    · -- behind
      rintro  rfl
      -- region 9: spans.go:22
      refine W.seqR fun Q20 hQ20 => ?_
      refine WL.q (Y.assign (.pl rfl)) rfl ?_
      refine WL.next hQ20 (.cons (i := 2) rfl (.nil)) ?_
      obtain rfl := Option.some.inj hF
      refine W.retV (fn := Try.f46) (vs := [.int .i64 0]) Try.results46 ⟨.tmp rfl, trivial⟩ (fun _ _ h => h) (fun w hw => ?_)
      exact hR _ _ ⟨rfl, (hw.pick [] rfl)⟩

def spans_of_L27 (N : Nat) (l1 : (List Span)) (x12 : Span) (v10 : Int) : ((List Int) × Int) → Option (((List Int) × Int) ⊕ (List Int))
  | (After14, v15) =>
    cond (decide (v15 < ((l1).length : Int)))
      (bd (ix l1 v15) fun (x16 : Span) =>
      cond (decide (x12.to_ < x16.from_))
        (bd (ax 12 0 After14 v10) fun (x18 : Int) =>
        bd (ax 12 0 After14 v10) fun (x19 : Int) =>
        ck (ok64 (v15 + 1)) <|
        some (.inl ((setA 12 0 After14 v10 (borI .u16 x18 (shlI .u16 1 (IntKind.u64.wrap v15)))), (v15 + 1))))
        (ck (ok64 (v15 + 1)) <|
        some (.inl (After14, (v15 + 1)))))
      (some (.inr After14))

def spans_of_L25 (N : Nat) (l1 : (List Span)) : ((List Int) × Int) → Option (((List Int) × Int) ⊕ (List Int))
  | (After9, v10) =>
    cond (decide (v10 < ((l1).length : Int)))
      (bd (α := (List Int)) (bd (ix l1 v10) fun (x12 : Span) =>
        iter (spans_of_L27 N l1 x12 v10) N (After9, 0)) <|
      fun (After11 : (List Int)) => 
        ck (ok64 (v10 + 1)) <|
        some (.inl (After11, (v10 + 1))))
      (some (.inr After9))

def spans_of (N : Nat) (l1 : (List Span)) : Option (List Int) :=
  bd (α := (List Int)) (iter (spans_of_L25 N l1) N ([], 0)) <|
  fun (After8 : (List Int)) => 
    some After8

theorem spans_of_ok {N : Nat} {l1 : (List Span)} {res : (List Int)} (hF : spans_of N l1 = some res) (w : World) {v5 : Value} (hs4 : SlIn encSpan 2 w v5 l1) :
    Pure Try.prog 47 [v5] w (.agg (encRel (Rel.mk ((l1).length : Int) res)).toArray) := by
  obtain ⟨A2, c3, rfl, hcc3, hs4⟩ := hs4.form
  refine W.enter (n := 43) Try.func47 rfl rfl Sub.refl (by simp) (St.start w) fun R hR => ?_
  unfold spans_of at hF
  -- region 0: spans.go:25
  refine W.seqR fun Q1 hQ1 => ?_
  refine WL.step (WO.alloc (cs := (encRel (Rel.mk 0 [])).toArray) zero25 rfl rfl fun b6 => ?_)
  refine WL.next hQ1 (.cons (i := 0) rfl (.cons (i := 2) rfl (.nil))) ?_
  -- region 1: spans.go:26
  refine W.seqR fun Q2 hQ2 => ?_
  refine WL.q (Y.move (.pl rfl)) rfl ?_
  refine WL.q (Y.len Try.underlying39 (.pl rfl)) rfl ?_
  refine WL.q (Y.build (cs := (encRel (Rel.mk ((l1).length : Int) [])).toArray) shape25 (.cons (.pl rfl) (.nil)) (one_parts ⟨rfl, trivial⟩) rfl) rfl ?_
  refine WL.step (WO.alloc (cs := (encRel (Rel.mk 0 [])).toArray) zero25 rfl rfl fun b7 => ?_)
  refine WL.step (WO.storeBA (ds := (encRel (Rel.mk ((l1).length : Int) []))) (cs' := (encRel (Rel.mk ((l1).length : Int) []))) cells25 (.pl rfl) (.pl rfl) rfl (oneRel _) (i := 0) rfl (lel (o := 0) (l := 13) (m := 13) (by decide) rfl rfl) (putW rfl) ?_)
  refine WL.next hQ2 (.cons (i := 0) rfl (.cons (i := 2) rfl (.cons (i := 3) rfl (.nil)))) ?_
  obtain ⟨o3, hF3, hF⟩ := bnd hF
  refine W.join1 (Em := fun (After8 : (List Int)) => []) (M := fun After8 => [cBx b6 25 (encRel (Rel.mk 0 [])), cBx b7 25 (encRel (Rel.mk ((l1).length : Int) After8))]) (I := fun After8 => After8 = o3) (.cons (i := 2) rfl (.cons (i := 3) rfl (.nil))) (fun K4 hK4 => ?_) ?_
  · -- up to
    -- region 2: spans.go:27
    refine W.seqR fun Q5 hQ5 => ?_
    refine WL.q (Y.move (.pl rfl)) rfl ?_
    refine WL.q (Y.len Try.underlying39 (.pl rfl)) rfl ?_
    refine WL.q (Y.move (.pl rfl)) rfl ?_
    refine WL.next hQ5 (.cons (i := 0) rfl (.cons (i := 2) rfl (.cons (i := 3) rfl (.cons (i := 11) rfl (.cons (i := 12) rfl (.cons (i := 13) rfl (.nil))))))) ?_
    refine W.block ?_
    refine W.loop2 (Em := fun (After9 : (List Int)) (v10 : Int) => [(13, .int .i64 v10)]) (M := fun After9 v10 => [cBx b6 25 (encRel (Rel.mk 0 [])), cBx b7 25 (encRel (Rel.mk ((l1).length : Int) After9))]) (I := fun After9 v10 k6 => iter (spans_of_L25 N l1) k6 (After9, v10) = some o3) [] 0 N (hF3) (.cons rfl (.nil)) (.cons (i := 0) rfl (.cons (i := 2) rfl (.cons (i := 3) rfl (.cons (i := 11) rfl (.cons (i := 12) rfl (.nil)))))) (fun w hw => hw.pick [1, 0] rfl) (fun After9 v10 k6 hI K7 hK7 => ?_)
    obtain ⟨k6, t6, rfl, hF6, hN6⟩ := iter_step hI
    -- region 3: spans.go:27
    refine W.seqR fun Q8 hQ8 => ?_
    refine WL.q (Y.lss (.pl rfl) (.pl rfl)) rfl ?_
    refine WL.next hQ8 (.cons (i := 0) rfl (.cons (i := 2) rfl (.cons (i := 3) rfl (.cons (i := 11) rfl (.cons (i := 12) rfl (.cons (i := 13) rfl (.cons (i := 14) rfl (.nil)))))))) ?_
    refine W.seq fun K9 hK9 => ?_
    refine W.cond (.pl rfl) (fun hC10 => ?_) (fun hC10 => ?_)
    · replace hF6 := cpos hC10 hF6
      refine W.skip ?_
      refine W.go hK9 (.cons (i := 0) rfl (.cons (i := 2) rfl (.cons (i := 3) rfl (.cons (i := 11) rfl (.cons (i := 12) rfl (.cons (i := 13) rfl (.nil))))))) ?_
      obtain ⟨o11, hF11, hF6⟩ := bnd hF6
      refine W.join1 (Em := fun (After11 : (List Int)) => []) (M := fun After11 => [cBx b6 25 (encRel (Rel.mk 0 [])), cBx b7 25 (encRel (Rel.mk ((l1).length : Int) After11))]) (I := fun After11 => After11 = o11) (.cons (i := 0) rfl (.cons (i := 2) rfl (.cons (i := 3) rfl (.cons (i := 11) rfl (.cons (i := 12) rfl (.cons (i := 13) rfl (.nil))))))) (fun K12 hK12 => ?_) ?_
      · -- up to
        refine W.block ?_
        -- region 4: spans.go:27
        refine W.seqR fun Q13 hQ13 => ?_
        refine WL.q (Y.move (.pl rfl)) rfl ?_
        obtain ⟨x12, hx12, hF11⟩ := bnd hF11
        refine WL.q (Y.slEl Try.underlying39 cells43 hs4 (.pl rfl) (.pl rfl) (ix_lt (hx12))) rfl ?_
        refine WL.q (Y.loadSA (enc := encSpan) (ds := (encSpan x12)) (j := 0) Try.underlying43 rfl cells43 hs4 (.pl rfl) (hx12) rfl rfl subW) rfl ?_
        refine WL.step (WO.alloc (cs := (encSpan (Span.mk 0 0)).toArray) zero43 rfl rfl fun b13 => ?_)
        refine WL.q (Y.assign (.pl rfl)) rfl ?_
        refine WL.step (WO.storeBA (ds := (encSpan x12)) (cs' := (encSpan x12)) cells43 (.pl rfl) (.pl rfl) rfl (oneSpan _) (i := 0) rfl (lel (o := 0) (l := 2) (m := 2) (by decide) rfl rfl) (putW rfl) ?_)
        refine WL.next hQ13 (.cons (i := 0) rfl (.cons (i := 2) rfl (.cons (i := 3) rfl (.cons (i := 4) rfl (.cons (i := 5) rfl (.cons (i := 11) rfl (.cons (i := 12) rfl (.cons (i := 13) rfl (.nil))))))))) ?_
        -- region 5: spans.go:28
        refine W.seqR fun Q14 hQ14 => ?_
        refine WL.q (Y.move (.pl rfl)) rfl ?_
        refine WL.q (Y.len Try.underlying39 (.pl rfl)) rfl ?_
        refine WL.q (Y.move (.pl rfl)) rfl ?_
        refine WL.next hQ14 (.cons (i := 0) rfl (.cons (i := 2) rfl (.cons (i := 3) rfl (.cons (i := 4) rfl (.cons (i := 5) rfl (.cons (i := 11) rfl (.cons (i := 12) rfl (.cons (i := 13) rfl (.cons (i := 18) rfl (.cons (i := 19) rfl (.cons (i := 20) rfl (.nil)))))))))))) ?_
        refine W.block ?_
        refine W.loop2 (Em := fun (After14 : (List Int)) (v15 : Int) => [(20, .int .i64 v15)]) (M := fun After14 v15 => [cBx b6 25 (encRel (Rel.mk 0 [])), cBx b7 25 (encRel (Rel.mk ((l1).length : Int) After14)), cBx b13 43 (encSpan x12)]) (I := fun After14 v15 k15 => iter (spans_of_L27 N l1 x12 v10) k15 (After14, v15) = some o11) After9 0 N (hF11) (.cons rfl (.nil)) (.cons (i := 0) rfl (.cons (i := 2) rfl (.cons (i := 3) rfl (.cons (i := 4) rfl (.cons (i := 5) rfl (.cons (i := 11) rfl (.cons (i := 12) rfl (.cons (i := 13) rfl (.cons (i := 18) rfl (.cons (i := 19) rfl (.nil))))))))))) (fun w hw => hw.pick [1, 2, 0] rfl) (fun After14 v15 k15 hI K16 hK16 => ?_)
        obtain ⟨k15, t15, rfl, hF15, hN15⟩ := iter_step hI
        -- region 6: spans.go:28
        refine W.seqR fun Q17 hQ17 => ?_
        refine WL.q (Y.lss (.pl rfl) (.pl rfl)) rfl ?_
        refine WL.next hQ17 (.cons (i := 0) rfl (.cons (i := 2) rfl (.cons (i := 3) rfl (.cons (i := 4) rfl (.cons (i := 5) rfl (.cons (i := 11) rfl (.cons (i := 12) rfl (.cons (i := 13) rfl (.cons (i := 18) rfl (.cons (i := 19) rfl (.cons (i := 20) rfl (.cons (i := 21) rfl (.nil))))))))))))) ?_
        refine W.seq fun K18 hK18 => ?_
        refine W.cond (.pl rfl) (fun hC19 => ?_) (fun hC19 => ?_)
        · replace hF15 := cpos hC19 hF15
          refine W.skip ?_
          refine W.go hK18 (.cons (i := 0) rfl (.cons (i := 2) rfl (.cons (i := 3) rfl (.cons (i := 4) rfl (.cons (i := 5) rfl (.cons (i := 11) rfl (.cons (i := 12) rfl (.cons (i := 13) rfl (.cons (i := 18) rfl (.cons (i := 19) rfl (.cons (i := 20) rfl (.nil)))))))))))) ?_
          refine W.seq fun K20 hK20 => ?_
          refine W.block ?_
          -- region 7: spans.go:28
          refine W.seqR fun Q21 hQ21 => ?_
          refine WL.q (Y.move (.pl rfl)) rfl ?_
          obtain ⟨x16, hx16, hF15⟩ := bnd hF15
          refine WL.q (Y.slEl Try.underlying39 cells43 hs4 (.pl rfl) (.pl rfl) (ix_lt (hx16))) rfl ?_
          refine WL.q (Y.loadSA (enc := encSpan) (ds := (encSpan x16)) (j := 0) Try.underlying43 rfl cells43 hs4 (.pl rfl) (hx16) rfl rfl subW) rfl ?_
          refine WL.step (WO.alloc (cs := (encSpan (Span.mk 0 0)).toArray) zero43 rfl rfl fun b17 => ?_)
          refine WL.q (Y.assign (.pl rfl)) rfl ?_
          refine WL.step (WO.storeBA (ds := (encSpan x16)) (cs' := (encSpan x16)) cells43 (.pl rfl) (.pl rfl) rfl (oneSpan _) (i := 0) rfl (lel (o := 0) (l := 2) (m := 2) (by decide) rfl rfl) (putW rfl) ?_)
          refine WL.next hQ21 (.cons (i := 0) rfl (.cons (i := 2) rfl (.cons (i := 3) rfl (.cons (i := 4) rfl (.cons (i := 5) rfl (.cons (i := 6) rfl (.cons (i := 7) rfl (.cons (i := 11) rfl (.cons (i := 12) rfl (.cons (i := 13) rfl (.cons (i := 18) rfl (.cons (i := 19) rfl (.cons (i := 20) rfl (.nil)))))))))))))) ?_
          -- region 8: spans.go:29
          refine W.seqR fun Q22 hQ22 => ?_
          refine WL.q (Y.fieldAddr0 (off := 1) (ft := 3) Try.underlying43 rfl cells3 (.pl rfl)) rfl ?_
          refine WL.q (Y.loadB (v := .int .i64 x12.to_) Try.underlying3 rfl (.pl rfl) (i := 3) rfl (rfl)) rfl ?_
          refine WL.q (Y.fieldAddr0 (off := 0) (ft := 3) Try.underlying43 rfl cells3 (.pl rfl)) rfl ?_
          refine WL.q (Y.loadB (v := .int .i64 x16.from_) Try.underlying3 rfl (.pl rfl) (i := 0) rfl (rfl)) rfl ?_
          refine WL.q (Y.lss (.pl rfl) (.pl rfl)) rfl ?_
          refine WL.next hQ22 (.cons (i := 0) rfl (.cons (i := 2) rfl (.cons (i := 3) rfl (.cons (i := 4) rfl (.cons (i := 5) rfl (.cons (i := 6) rfl (.cons (i := 11) rfl (.cons (i := 12) rfl (.cons (i := 13) rfl (.cons (i := 18) rfl (.cons (i := 19) rfl (.cons (i := 20) rfl (.cons (i := 29) rfl (.nil)))))))))))))) ?_
          refine W.cond (.pl rfl) (fun hC23 => ?_) (fun hC23 => ?_)
          · replace hF15 := cpos hC23 hF15
            -- region 9: spans.go:30
            refine W.reg ?_
            refine WL.q (Y.move (.pl rfl)) rfl ?_
            refine WL.q (Y.fieldAddr0 (off := 1) (ft := 23) Try.underlying25 rfl cells23 (.pl rfl)) rfl ?_
            obtain ⟨x18, hx18, hF15⟩ := bnd hF15
            refine WL.q (Y.arrZ Try.underlying23 cells22 (.pl rfl) (.pl rfl) (ax_lt (hx18))) rfl ?_
            refine WL.q (Y.loadB (v := .int .u16 x18) Try.underlying22 rfl (.pl rfl) (i := 2) rfl (cellsA (pre := (Value.int .i64 ((l1).length : Int) :: [])) (off := 1) (post := []) (a := After14) (enc := (eI .u16)) (d := 0) (n := 12) (sz := 1) (j := 0) (fun _ => rfl) rfl (ax_nat (hx18)) (ax_get (hx18)) rfl)) rfl ?_
            refine WL.q (Y.move (.pl rfl)) rfl ?_
            refine WL.q (Y.conv Try.underlying3 Try.underlying63 (.pl rfl)) rfl ?_
            refine WL.q (Y.shl (.pl rfl) (.pl rfl) (wrapU_nn rfl _)) rfl ?_
            refine WL.q (Y.bor (.pl rfl) (.pl rfl)) rfl ?_
            refine WL.q (Y.fieldAddr0 (off := 1) (ft := 23) Try.underlying25 rfl cells23 (.pl rfl)) rfl ?_
            obtain ⟨x19, hx19, hF15⟩ := bnd hF15
            refine WL.q (Y.arrZ Try.underlying23 cells22 (.pl rfl) (.pl rfl) (ax_lt (hx19))) rfl ?_
            refine WL.step (WO.storeB (cs' := (encRel (Rel.mk ((l1).length : Int) (setA 12 0 After14 v10 (borI .u16 x18 (shlI .u16 1 (IntKind.u64.wrap v15))))))) cells22 (.pl rfl) (.pl rfl) rfl (i := 2) rfl (ltl (m := 13) (offlt (off := 1) (sz := 1) (j := 0) (ax_nat (hx19)) (by decide)) rfl) (cellsSet (pre := (Value.int .i64 ((l1).length : Int) :: [])) (off := 1) (post := []) (a := After14) (enc := (eI .u16)) (d := 0) (n := 12) (sz := 1) (j := 0) (x := x19) (x' := (borI .u16 x18 (shlI .u16 1 (IntKind.u64.wrap v15)))) (fun _ => rfl) rfl (ax_lt (hx19)) (ax_get (hx19)) (by decide) rfl rfl) ?_)
            refine WL.nil ?_
            refine W.go hK20 (.cons (i := 0) rfl (.cons (i := 2) rfl (.cons (i := 3) rfl (.cons (i := 4) rfl (.cons (i := 5) rfl (.cons (i := 11) rfl (.cons (i := 12) rfl (.cons (i := 13) rfl (.cons (i := 18) rfl (.cons (i := 19) rfl (.cons (i := 20) rfl (.nil)))))))))))) ?_
            -- region 10: spans.go:28
            refine W.reg ?_
            obtain ⟨hk20, hF15⟩ := ckh hF15
            refine WL.q (Y.add (.pl rfl) (.pl rfl) (ok64_lt (hk20))) rfl ?_
            refine WL.q (Y.move (.pl rfl)) rfl ?_
            refine WL.nil ?_
            obtain rfl := Option.some.inj hF15
            exact W.again2 hK16 (setA 12 0 After14 v10 (borI .u16 x18 (shlI .u16 1 (IntKind.u64.wrap v15)))) (v15 + 1) k15 hN15 (Nat.lt_succ_self _) (.cons rfl (.nil)) (.cons (i := 0) rfl (.cons (i := 2) rfl (.cons (i := 3) rfl (.cons (i := 4) rfl (.cons (i := 5) rfl (.cons (i := 11) rfl (.cons (i := 12) rfl (.cons (i := 13) rfl (.cons (i := 18) rfl (.cons (i := 19) rfl (.nil))))))))))) (fun w hw => hw.pick [1, 2, 3] rfl)
          · replace hF15 := cneg hC23 hF15
            refine W.skip ?_
            refine W.go hK20 (.cons (i := 0) rfl (.cons (i := 2) rfl (.cons (i := 3) rfl (.cons (i := 4) rfl (.cons (i := 5) rfl (.cons (i := 11) rfl (.cons (i := 12) rfl (.cons (i := 13) rfl (.cons (i := 18) rfl (.cons (i := 19) rfl (.cons (i := 20) rfl (.nil)))))))))))) ?_
            -- region 10: spans.go:28
            refine W.reg ?_
            obtain ⟨hk21, hF15⟩ := ckh hF15
            refine WL.q (Y.add (.pl rfl) (.pl rfl) (ok64_lt (hk21))) rfl ?_
            refine WL.q (Y.move (.pl rfl)) rfl ?_
            refine WL.nil ?_
            obtain rfl := Option.some.inj hF15
            exact W.again2 hK16 After14 (v15 + 1) k15 hN15 (Nat.lt_succ_self _) (.cons rfl (.nil)) (.cons (i := 0) rfl (.cons (i := 2) rfl (.cons (i := 3) rfl (.cons (i := 4) rfl (.cons (i := 5) rfl (.cons (i := 11) rfl (.cons (i := 12) rfl (.cons (i := 13) rfl (.cons (i := 18) rfl (.cons (i := 19) rfl (.nil))))))))))) (fun w hw => hw.pick [1, 2, 3] rfl)
        · replace hF15 := cneg hC19 hF15
          refine W.exit ?_
          obtain rfl := Option.some.inj hF15
          exact W.joinAt1 hK12 After14 (einr hN15) (.nil) (.cons (i := 0) rfl (.cons (i := 2) rfl (.cons (i := 3) rfl (.cons (i := 11) rfl (.cons (i := 12) rfl (.cons (i := 13) rfl (.nil))))))) (fun w hw => hw.pick [0, 1] rfl)
      · -- behind
        rintro After11 rfl
        -- region 11: spans.go:27
        refine W.reg ?_
        obtain ⟨hk22, hF6⟩ := ckh hF6
        refine WL.q (Y.add (.pl rfl) (.pl rfl) (ok64_lt (hk22))) rfl ?_
        refine WL.q (Y.move (.pl rfl)) rfl ?_
        refine WL.nil ?_
        obtain rfl := Option.some.inj hF6
        exact W.again2 hK7 After11 (v10 + 1) k6 hN6 (Nat.lt_succ_self _) (.cons rfl (.nil)) (.cons (i := 0) rfl (.cons (i := 2) rfl (.cons (i := 3) rfl (.cons (i := 11) rfl (.cons (i := 12) rfl (.nil)))))) (fun w hw => hw.pick [0, 1] rfl)
    · replace hF6 := cneg hC10 hF6
      refine W.exit ?_
      obtain rfl := Option.some.inj hF6
      exact W.joinAt1 hK4 After9 (einr hN6) (.nil) (.cons (i := 2) rfl (.cons (i := 3) rfl (.nil))) (fun w hw => hw.pick [0, 1] rfl)
  · -- behind
    rintro After8 rfl
    -- region 12: spans.go:34
    refine W.seqR fun Q28 hQ28 => ?_
    refine WL.q (Y.loadBA (ds := (encRel (Rel.mk ((l1).length : Int) After8))) Try.underlying25 rfl cells25 (.pl rfl) (i := 1) rfl rfl subW) rfl ?_
    refine WL.step (WO.storeBA (ds := (encRel (Rel.mk ((l1).length : Int) After8))) (cs' := (encRel (Rel.mk ((l1).length : Int) After8))) cells25 (.pl rfl) (.pl rfl) rfl (oneRel _) (i := 0) rfl (lel (o := 0) (l := 13) (m := 13) (by decide) rfl rfl) (putW rfl) ?_)
    refine WL.next hQ28 (.cons (i := 2) rfl (.nil)) ?_
    obtain rfl := Option.some.inj hF
    refine W.retV (fn := Try.f47) (vs := [.agg (encRel (Rel.mk ((l1).length : Int) After8)).toArray]) Try.results47 ⟨.cellA Try.underlying25 rfl cells25 rfl (i := 0) rfl rfl, trivial⟩ (fun _ _ h => h) (fun w hw => ?_)
    exact hR _ _ ⟨rfl, (hw.pick [] rfl)⟩

def spans_Of (N : Nat) (l1 : (List Span)) : Option (Int × (List Int) × Int) :=
  bd (spans_Check N l1) fun (r7 : Int) =>
  cond (!(decide (r7 = 0)))
    (some (0, [], r7))
    (bd (spans_of N l1) fun (r8 : (List Int)) =>
    some (((l1).length : Int), r8, 0))

theorem spans_Of_ok {N : Nat} {l1 : (List Span)} {res : (Int × (List Int) × Int)} (hF : spans_Of N l1 = some res) (w : World) {v5 : Value} (hs4 : SlIn encSpan 2 w v5 l1) :
    Pure Try.prog 26 [v5] w (.tuple #[.agg (encRel (Rel.mk res.1 res.2.1)).toArray, .int .i64 res.2.2]) := by
  obtain ⟨A2, c3, rfl, hcc3, hs4⟩ := hs4.form
  refine W.enter (n := 13) Try.func26 rfl rfl Sub.refl (by simp) (St.start w) fun R hR => ?_
  unfold spans_Of at hF
  -- region 0: spans.go:38
  refine W.seqR fun Q1 hQ1 => ?_
  refine WL.step (WO.alloc (cs := (encRel (Rel.mk 0 [])).toArray) zero25 rfl rfl fun b6 => ?_)
  refine WL.q (Y.assign (.pl rfl)) rfl ?_
  refine WL.next hQ1 (.cons (i := 0) rfl (.cons (i := 2) rfl (.nil))) ?_
  refine W.seq fun K2 hK2 => ?_
  -- region 1: spans.go:39
  refine W.seqR fun Q3 hQ3 => ?_
  refine WL.q (Y.move (.pl rfl)) rfl ?_
  obtain ⟨r7, hr7, hF⟩ := bnd hF
  refine WL.step (WO.callP isGo46 (.cons (.pl rfl) (.nil)) rfl (fun w hw => spans_Check_ok (hr7) w (hs4.mono hw)) ?_)
  refine WL.q (Y.assign (.pl rfl)) rfl ?_
  refine WL.next hQ3 (.cons (i := 0) rfl (.cons (i := 2) rfl (.cons (i := 4) rfl (.nil)))) ?_
  -- region 2: spans.go:39
  refine W.seqR fun Q4 hQ4 => ?_
  refine WL.q (Y.move (.pl rfl)) rfl ?_
  refine WL.q (Y.neq (.pl rfl) (.pl rfl)) rfl ?_
  refine WL.next hQ4 (.cons (i := 0) rfl (.cons (i := 2) rfl (.cons (i := 4) rfl (.cons (i := 8) rfl (.nil))))) ?_
  refine W.cond (.pl rfl) (fun hC5 => ?_) (fun hC5 => ?_)
  · replace hF := cpos hC5 hF
    -- region 3: spans.go:40
    refine W.seqR fun Q6 hQ6 => ?_
    refine WL.q (Y.build (cs := (encRel (Rel.mk 0 [])).toArray) shape25 (.nil) (one_parts trivial) rfl) rfl ?_
    refine WL.q (Y.move (.pl rfl)) rfl ?_
    refine WL.step (WO.storeBA (ds := (encRel (Rel.mk 0 []))) (cs' := (encRel (Rel.mk 0 []))) cells25 (.pl rfl) (.pl rfl) rfl (oneRel _) (i := 0) rfl (lel (o := 0) (l := 13) (m := 13) (by decide) rfl rfl) (putW rfl) ?_)
    refine WL.q (Y.assign (.pl rfl)) rfl ?_
    refine WL.next hQ6 (.cons (i := 2) rfl (.cons (i := 3) rfl (.nil))) ?_
    obtain rfl := Option.some.inj hF
    refine W.retV (fn := Try.f26) (vs := [.agg (encRel (Rel.mk 0 [])).toArray, .int .i64 r7]) Try.results26 ⟨.cellA Try.underlying25 rfl cells25 rfl (i := 0) rfl rfl, ⟨.tmp rfl, trivial⟩⟩ (fun _ _ h => h) (fun w hw => ?_)
    exact hR _ _ ⟨rfl, (hw.pick [] rfl)⟩
  · replace hF := cneg hC5 hF
    refine W.skip ?_
    refine W.go hK2 (.cons (i := 0) rfl (.cons (i := 2) rfl (.nil))) ?_
    -- region 4: spans.go:42
    refine W.seqR fun Q7 hQ7 => ?_
    refine WL.q (Y.move (.pl rfl)) rfl ?_
    obtain ⟨r8, hr8, hF⟩ := bnd hF
    refine WL.step (WO.callP isGo47 (.cons (.pl rfl) (.nil)) rfl (fun w hw => spans_of_ok (hr8) w (hs4.mono hw)) ?_)
    refine WL.step (WO.storeBA (ds := (encRel (Rel.mk ((l1).length : Int) r8))) (cs' := (encRel (Rel.mk ((l1).length : Int) r8))) cells25 (.pl rfl) (.pl rfl) rfl (oneRel _) (i := 0) rfl (lel (o := 0) (l := 13) (m := 13) (by decide) rfl rfl) (putW rfl) ?_)
    refine WL.q (Y.assign (.pl rfl)) rfl ?_
    refine WL.next hQ7 (.cons (i := 2) rfl (.cons (i := 3) rfl (.nil))) ?_
    obtain rfl := Option.some.inj hF
    refine W.retV (fn := Try.f26) (vs := [.agg (encRel (Rel.mk ((l1).length : Int) r8)).toArray, .int .i64 0]) Try.results26 ⟨.cellA Try.underlying25 rfl cells25 rfl (i := 0) rfl rfl, ⟨.tmp rfl, trivial⟩⟩ (fun _ _ h => h) (fun w hw => ?_)
    exact hR _ _ ⟨rfl, (hw.pick [] rfl)⟩

/-- slices.Clone -/
theorem slices_Clone_uint16_uint16_ok {xs : List Int} (hb : limB 2 xs.length = true) (w : World) {v : Value} (h : SlIn (eI .u16) 1 w v xs) :
    Made Try.prog 48 [v] w (fun g : Option Addr × Nat => .slice g.1 xs.length g.2) (fun g => [cR (eI .u16) 1 g.1 g.2 22 xs]) (fun _ => True) := by
  obtain ⟨A1, c1, rfl, hc1, hs⟩ := h.form
  refine W.enter (n := 8) Try.func48 rfl rfl Sub.refl (by simp) (St.start w) fun R hR => ?_
  refine W.seqR fun Q1 hQ1 => ?_
  refine WL.q (Y.assign (.pl rfl)) rfl ?_
  refine WL.next hQ1 (.cons (i := 0) rfl (.nil)) ?_
  refine W.seq fun K2 hK2 => ?_
  refine W.seqR fun Q3 hQ3 => ?_
  refine WL.q (Y.move (.pl rfl)) rfl ?_
  refine WL.q (Y.eqNil Try.underlying71 (.pl rfl)) rfl ?_
  refine WL.next hQ3 (.cons (i := 0) rfl (.cons (i := 4) rfl (.nil))) ?_
  refine W.cond (.pl rfl) (fun hC => ?_) (fun hC => ?_)
  · refine W.seqR fun Q4 hQ4 => ?_
    refine WL.q (Y.assign (.pl rfl)) rfl ?_
    refine WL.next hQ4 (.cons (i := 2) rfl (.nil)) ?_
    have hx : xs = [] := by
      cases xs with
      | nil => rfl
      | cons a r =>
        have := (hs.okA' (idx := 0) ⟨Int.le_refl _, by simp⟩).1
        rw [Option.isNone_iff_eq_none] at hC
        rw [hC] at this; cases this
    subst hx
    refine W.retV (fn := Try.f48) (vs := [.slice none 0 0]) Try.results48 ⟨.tmp rfl, trivial⟩ (fun _ _ h => h) (fun w hw => ?_)
    exact hR _ _ ⟨(none, 0), trivial, rfl, St.nilR hw (eI .u16) 1 22⟩
  · refine W.skip ?_
    refine W.go hK2 (.cons (i := 0) rfl (.nil)) ?_
    obtain ⟨a1, rfl⟩ : ∃ a, A1 = some a := by cases A1 with
      | none => cases hC
      | some a => exact ⟨a, rfl⟩
    refine W.seqR fun Q5 hQ5 => ?_
    refine WL.step (WO.bsliceC (enc := (eI .u16)) (ys := []) Try.underlying71 bz22 (.nil) rfl (fun _ => rfl) rfl rfl (by decide) (by decide) rfl fun b => ?_)
    refine WL.q (Y.move (.pl rfl)) rfl ?_
    refine WL.step (WO.appendS (enc := (eI .u16)) (ys := xs) (xs := []) Try.underlying71 ap22 (fun _ => rfl) oneI (.pl rfl) rfl (.pl rfl) (i := 0) rfl (fun w hw => hs.mono hw) (by simpa using hb) rfl fun A c => ?_)
    refine WL.q (Y.assign (.pl rfl)) rfl ?_
    refine WL.next hQ5 (.cons (i := 2) rfl (.nil)) ?_
    refine W.retV (fn := Try.f48) (vs := [.slice A xs.length c]) Try.results48 ⟨.tmp rfl, trivial⟩ (fun _ _ h => h) (fun w hw => ?_)
    exact hR _ _ ⟨(A, c), trivial, rfl, hw⟩

def math_bits_Len32 (N : Nat) (x1 : Int) : Option Int :=
  bd (α := (Int × Int)) (cond (decide (65536 ≤ x1))
      (some ((shrI .u32 x1 16), 16))
      (some (x1, 0))) <|
  fun (x2, n3) => 
    bd (α := (Int × Int)) (cond (decide (256 ≤ x2))
        (ck (ok64 (n3 + 8)) <|
        some ((shrI .u32 x2 8), (n3 + 8)))
        (some (x2, n3))) <|
    fun (x4, n5) => 
      bd (sx ⟨#[0, 1, 2, 2, 3, 3, 3, 3, 4, 4, 4, 4, 4, 4, 4, 4, 5, 5, 5, 5, 5, 5, 5, 5, 5, 5, 5, 5, 5, 5, 5, 5, 6, 6, 6, 6, 6, 6, 6, 6, 6, 6, 6, 6, 6, 6, 6, 6, 6, 6, 6, 6, 6, 6, 6, 6, 6, 6, 6, 6, 6, 6, 6, 6, 7, 7, 7, 7, 7, 7, 7, 7, 7, 7, 7, 7, 7, 7, 7, 7, 7, 7, 7, 7, 7, 7, 7, 7, 7, 7, 7, 7, 7, 7, 7, 7, 7, 7, 7, 7, 7, 7, 7, 7, 7, 7, 7, 7, 7, 7, 7, 7, 7, 7, 7, 7, 7, 7, 7, 7, 7, 7, 7, 7, 7, 7, 7, 7, 8, 8, 8, 8, 8, 8, 8, 8, 8, 8, 8, 8, 8, 8, 8, 8, 8, 8, 8, 8, 8, 8, 8, 8, 8, 8, 8, 8, 8, 8, 8, 8, 8, 8, 8, 8, 8, 8, 8, 8, 8, 8, 8, 8, 8, 8, 8, 8, 8, 8, 8, 8, 8, 8, 8, 8, 8, 8, 8, 8, 8, 8, 8, 8, 8, 8, 8, 8, 8, 8, 8, 8, 8, 8, 8, 8, 8, 8, 8, 8, 8, 8, 8, 8, 8, 8, 8, 8, 8, 8, 8, 8, 8, 8, 8, 8, 8, 8, 8, 8, 8, 8, 8, 8, 8, 8, 8, 8, 8, 8, 8, 8, 8, 8, 8, 8, 8, 8, 8, 8, 8, 8, 8, 8, 8, 8, 8, 8]⟩ (IntKind.u8.wrap x4)) fun (x7 : Int) =>
      ck (ok64 (n5 + (IntKind.i64.wrap x7))) <|
      some (n5 + (IntKind.i64.wrap x7))

theorem math_bits_Len32_ok {N : Nat} {x1 : Int} {res : Int} (hF : math_bits_Len32 N x1 = some res) (w : World) :
    Pure Try.prog 77 [.int .u32 x1] w (.int .i64 res) := by
  refine W.enter (n := 19) Try.func77 rfl rfl Sub.refl (by simp) (St.start w) fun R hR => ?_
  unfold math_bits_Len32 at hF
  -- region 0: bits.go:324
  refine W.seqR fun Q1 hQ1 => ?_
  refine WL.q (Y.assign (.pl rfl)) rfl ?_
  refine WL.next hQ1 (.cons (i := 0) rfl (.cons (i := 2) rfl (.nil))) ?_
  obtain ⟨o2, hF2, hF⟩ := bnd hF
  refine W.join2 (Em := fun (x2 : Int) (n3 : Int) => [(0, .int .u32 x2), (2, .int .i64 n3)]) (M := fun x2 n3 => []) (I := fun x2 n3 => (x2, n3) = o2) (.nil) (fun K3 hK3 => ?_) ?_
  · -- up to
    -- region 1: bits.go:325
    refine W.seqR fun Q4 hQ4 => ?_
    refine WL.q (Y.move (.pl rfl)) rfl ?_
    refine WL.q (Y.geq (.pl rfl) (.pl rfl)) rfl ?_
    refine WL.next hQ4 (.cons (i := 0) rfl (.cons (i := 2) rfl (.cons (i := 4) rfl (.nil)))) ?_
    refine W.cond (.pl rfl) (fun hC5 => ?_) (fun hC5 => ?_)
    · replace hF2 := cpos hC5 hF2
      -- region 2: bits.go:326
      refine W.seqR fun Q6 hQ6 => ?_
      refine WL.q (Y.move (.pl rfl)) rfl ?_
      refine WL.q (Y.shr (.pl rfl) (.pl rfl) (by decide)) rfl ?_
      refine WL.q (Y.assign (.pl rfl)) rfl ?_
      refine WL.next hQ6 (.cons (i := 0) rfl (.nil)) ?_
      -- region 3: bits.go:327
      refine W.reg ?_
      refine WL.q (Y.assign (.pl rfl)) rfl ?_
      refine WL.nil ?_
      exact W.joinAt2 hK3 (shrI .u32 x1 16) 16 (Option.some.inj hF2) (.cons rfl (.cons rfl (.nil))) (.nil) (fun w hw => hw.pick [] rfl)
    · replace hF2 := cneg hC5 hF2
      refine W.skip ?_
      exact W.joinAt2 hK3 x1 0 (Option.some.inj hF2) (.cons rfl (.cons rfl (.nil))) (.nil) (fun w hw => hw.pick [] rfl)
  · -- behind
    rintro x2 n3 rfl
    obtain ⟨o8, hF8, hF⟩ := bnd hF
    refine W.join2 (Em := fun (x4 : Int) (n5 : Int) => [(0, .int .u32 x4), (2, .int .i64 n5)]) (M := fun x4 n5 => []) (I := fun x4 n5 => (x4, n5) = o8) (.nil) (fun K9 hK9 => ?_) ?_
    · -- up to
      -- region 4: bits.go:329
      refine W.seqR fun Q10 hQ10 => ?_
      refine WL.q (Y.move (.pl rfl)) rfl ?_
      refine WL.q (Y.geq (.pl rfl) (.pl rfl)) rfl ?_
      refine WL.next hQ10 (.cons (i := 0) rfl (.cons (i := 2) rfl (.cons (i := 8) rfl (.nil)))) ?_
      refine W.cond (.pl rfl) (fun hC11 => ?_) (fun hC11 => ?_)
      · replace hF8 := cpos hC11 hF8
        -- region 5: bits.go:330
        refine W.seqR fun Q12 hQ12 => ?_
        refine WL.q (Y.move (.pl rfl)) rfl ?_
        refine WL.q (Y.shr (.pl rfl) (.pl rfl) (by decide)) rfl ?_
        refine WL.q (Y.assign (.pl rfl)) rfl ?_
        refine WL.next hQ12 (.cons (i := 0) rfl (.cons (i := 2) rfl (.nil))) ?_
        -- region 6: bits.go:331
        refine W.reg ?_
        refine WL.q (Y.move (.pl rfl)) rfl ?_
        obtain ⟨hk6, hF8⟩ := ckh hF8
        refine WL.q (Y.add (.pl rfl) (.pl rfl) (ok64_lt (hk6))) rfl ?_
        refine WL.q (Y.assign (.pl rfl)) rfl ?_
        refine WL.nil ?_
        exact W.joinAt2 hK9 (shrI .u32 x2 8) (n3 + 8) (Option.some.inj hF8) (.cons rfl (.cons rfl (.nil))) (.nil) (fun w hw => hw.pick [] rfl)
      · replace hF8 := cneg hC11 hF8
        refine W.skip ?_
        exact W.joinAt2 hK9 x2 n3 (Option.some.inj hF8) (.cons rfl (.cons rfl (.nil))) (.nil) (fun w hw => hw.pick [] rfl)
    · -- behind
      rintro x4 n5 rfl
      -- region 7: bits.go:333
      refine W.seqR fun Q14 hQ14 => ?_
      refine WL.q (Y.move (.pl rfl)) rfl ?_
      refine WL.q (Y.move (.pl rfl)) rfl ?_
      refine WL.q (Y.conv Try.underlying112 Try.underlying5 (.pl rfl)) rfl ?_
      obtain ⟨x7, hx7, hF⟩ := bnd hF
      refine WL.q (Y.sindex Try.underlying9 (.pl rfl) (.pl rfl) (hx7)) rfl ?_
      refine WL.q (Y.conv Try.underlying5 Try.underlying3 (.pl rfl)) rfl ?_
      obtain ⟨hk8, hF⟩ := ckh hF
      refine WL.q (Y.add (.pl rfl) (.pl rfl) (ok64_lt (hk8))) rfl ?_
      refine WL.q (Y.assign (.pl rfl)) rfl ?_
      refine WL.next hQ14 (.cons (i := 2) rfl (.nil)) ?_
      obtain rfl := Option.some.inj hF
      refine W.retV (fn := Try.f77) (vs := [.int .i64 (n5 + (IntKind.i64.wrap x7))]) Try.results77 ⟨.tmp rfl, trivial⟩ (fun _ _ h => h) (fun w hw => ?_)
      exact hR _ _ ⟨rfl, (hw.pick [] rfl)⟩

def math_bits_Len64 (N : Nat) (x1 : Int) : Option Int :=
  bd (α := (Int × Int)) (cond (decide (4294967296 ≤ x1))
      (some ((shrI .u64 x1 32), 32))
      (some (x1, 0))) <|
  fun (x2, n3) => 
    bd (α := (Int × Int)) (cond (decide (65536 ≤ x2))
        (ck (ok64 (n3 + 16)) <|
        some ((shrI .u64 x2 16), (n3 + 16)))
        (some (x2, n3))) <|
    fun (x4, n5) => 
      bd (α := (Int × Int)) (cond (decide (256 ≤ x4))
          (ck (ok64 (n5 + 8)) <|
          some ((shrI .u64 x4 8), (n5 + 8)))
          (some (x4, n5))) <|
      fun (x7, n8) => 
        bd (sx ⟨#[0, 1, 2, 2, 3, 3, 3, 3, 4, 4, 4, 4, 4, 4, 4, 4, 5, 5, 5, 5, 5, 5, 5, 5, 5, 5, 5, 5, 5, 5, 5, 5, 6, 6, 6, 6, 6, 6, 6, 6, 6, 6, 6, 6, 6, 6, 6, 6, 6, 6, 6, 6, 6, 6, 6, 6, 6, 6, 6, 6, 6, 6, 6, 6, 7, 7, 7, 7, 7, 7, 7, 7, 7, 7, 7, 7, 7, 7, 7, 7, 7, 7, 7, 7, 7, 7, 7, 7, 7, 7, 7, 7, 7, 7, 7, 7, 7, 7, 7, 7, 7, 7, 7, 7, 7, 7, 7, 7, 7, 7, 7, 7, 7, 7, 7, 7, 7, 7, 7, 7, 7, 7, 7, 7, 7, 7, 7, 7, 8, 8, 8, 8, 8, 8, 8, 8, 8, 8, 8, 8, 8, 8, 8, 8, 8, 8, 8, 8, 8, 8, 8, 8, 8, 8, 8, 8, 8, 8, 8, 8, 8, 8, 8, 8, 8, 8, 8, 8, 8, 8, 8, 8, 8, 8, 8, 8, 8, 8, 8, 8, 8, 8, 8, 8, 8, 8, 8, 8, 8, 8, 8, 8, 8, 8, 8, 8, 8, 8, 8, 8, 8, 8, 8, 8, 8, 8, 8, 8, 8, 8, 8, 8, 8, 8, 8, 8, 8, 8, 8, 8, 8, 8, 8, 8, 8, 8, 8, 8, 8, 8, 8, 8, 8, 8, 8, 8, 8, 8, 8, 8, 8, 8, 8, 8, 8, 8, 8, 8, 8, 8, 8, 8, 8, 8, 8, 8]⟩ (IntKind.u8.wrap x7)) fun (x10 : Int) =>
        ck (ok64 (n8 + (IntKind.i64.wrap x10))) <|
        some (n8 + (IntKind.i64.wrap x10))

theorem math_bits_Len64_ok {N : Nat} {x1 : Int} {res : Int} (hF : math_bits_Len64 N x1 = some res) (w : World) :
    Pure Try.prog 78 [.int .u64 x1] w (.int .i64 res) := by
  refine W.enter (n := 25) Try.func78 rfl rfl Sub.refl (by simp) (St.start w) fun R hR => ?_
  unfold math_bits_Len64 at hF
  -- region 0: bits.go:337
  refine W.seqR fun Q1 hQ1 => ?_
  refine WL.q (Y.assign (.pl rfl)) rfl ?_
  refine WL.next hQ1 (.cons (i := 0) rfl (.cons (i := 2) rfl (.nil))) ?_
  obtain ⟨o2, hF2, hF⟩ := bnd hF
  refine W.join2 (Em := fun (x2 : Int) (n3 : Int) => [(0, .int .u64 x2), (2, .int .i64 n3)]) (M := fun x2 n3 => []) (I := fun x2 n3 => (x2, n3) = o2) (.nil) (fun K3 hK3 => ?_) ?_
  · -- up to
    -- region 1: bits.go:338
    refine W.seqR fun Q4 hQ4 => ?_
    refine WL.q (Y.move (.pl rfl)) rfl ?_
    refine WL.q (Y.geq (.pl rfl) (.pl rfl)) rfl ?_
    refine WL.next hQ4 (.cons (i := 0) rfl (.cons (i := 2) rfl (.cons (i := 4) rfl (.nil)))) ?_
    refine W.cond (.pl rfl) (fun hC5 => ?_) (fun hC5 => ?_)
    · replace hF2 := cpos hC5 hF2
      -- region 2: bits.go:339
      refine W.seqR fun Q6 hQ6 => ?_
      refine WL.q (Y.move (.pl rfl)) rfl ?_
      refine WL.q (Y.shr (.pl rfl) (.pl rfl) (by decide)) rfl ?_
      refine WL.q (Y.assign (.pl rfl)) rfl ?_
      refine WL.next hQ6 (.cons (i := 0) rfl (.nil)) ?_
      -- region 3: bits.go:340
      refine W.reg ?_
      refine WL.q (Y.assign (.pl rfl)) rfl ?_
      refine WL.nil ?_
      exact W.joinAt2 hK3 (shrI .u64 x1 32) 32 (Option.some.inj hF2) (.cons rfl (.cons rfl (.nil))) (.nil) (fun w hw => hw.pick [] rfl)
    · replace hF2 := cneg hC5 hF2
      refine W.skip ?_
      exact W.joinAt2 hK3 x1 0 (Option.some.inj hF2) (.cons rfl (.cons rfl (.nil))) (.nil) (fun w hw => hw.pick [] rfl)
  · -- behind
    rintro x2 n3 rfl
    obtain ⟨o8, hF8, hF⟩ := bnd hF
    refine W.join2 (Em := fun (x4 : Int) (n5 : Int) => [(0, .int .u64 x4), (2, .int .i64 n5)]) (M := fun x4 n5 => []) (I := fun x4 n5 => (x4, n5) = o8) (.nil) (fun K9 hK9 => ?_) ?_
    · -- up to
      -- region 4: bits.go:342
      refine W.seqR fun Q10 hQ10 => ?_
      refine WL.q (Y.move (.pl rfl)) rfl ?_
      refine WL.q (Y.geq (.pl rfl) (.pl rfl)) rfl ?_
      refine WL.next hQ10 (.cons (i := 0) rfl (.cons (i := 2) rfl (.cons (i := 8) rfl (.nil)))) ?_
      refine W.cond (.pl rfl) (fun hC11 => ?_) (fun hC11 => ?_)
      · replace hF8 := cpos hC11 hF8
        -- region 5: bits.go:343
        refine W.seqR fun Q12 hQ12 => ?_
        refine WL.q (Y.move (.pl rfl)) rfl ?_
        refine WL.q (Y.shr (.pl rfl) (.pl rfl) (by decide)) rfl ?_
        refine WL.q (Y.assign (.pl rfl)) rfl ?_
        refine WL.next hQ12 (.cons (i := 0) rfl (.cons (i := 2) rfl (.nil))) ?_
        -- region 6: bits.go:344
        refine W.reg ?_
        refine WL.q (Y.move (.pl rfl)) rfl ?_
        obtain ⟨hk6, hF8⟩ := ckh hF8
        refine WL.q (Y.add (.pl rfl) (.pl rfl) (ok64_lt (hk6))) rfl ?_
        refine WL.q (Y.assign (.pl rfl)) rfl ?_
        refine WL.nil ?_
        exact W.joinAt2 hK9 (shrI .u64 x2 16) (n3 + 16) (Option.some.inj hF8) (.cons rfl (.cons rfl (.nil))) (.nil) (fun w hw => hw.pick [] rfl)
      · replace hF8 := cneg hC11 hF8
        refine W.skip ?_
        exact W.joinAt2 hK9 x2 n3 (Option.some.inj hF8) (.cons rfl (.cons rfl (.nil))) (.nil) (fun w hw => hw.pick [] rfl)
    · -- behind
      rintro x4 n5 rfl
      obtain ⟨o14, hF14, hF⟩ := bnd hF
      refine W.join2 (Em := fun (x7 : Int) (n8 : Int) => [(0, .int .u64 x7), (2, .int .i64 n8)]) (M := fun x7 n8 => []) (I := fun x7 n8 => (x7, n8) = o14) (.nil) (fun K15 hK15 => ?_) ?_
      · -- up to
        -- region 7: bits.go:346
        refine W.seqR fun Q16 hQ16 => ?_
        refine WL.q (Y.move (.pl rfl)) rfl ?_
        refine WL.q (Y.geq (.pl rfl) (.pl rfl)) rfl ?_
        refine WL.next hQ16 (.cons (i := 0) rfl (.cons (i := 2) rfl (.cons (i := 14) rfl (.nil)))) ?_
        refine W.cond (.pl rfl) (fun hC17 => ?_) (fun hC17 => ?_)
        · replace hF14 := cpos hC17 hF14
          -- region 8: bits.go:347
          refine W.seqR fun Q18 hQ18 => ?_
          refine WL.q (Y.move (.pl rfl)) rfl ?_
          refine WL.q (Y.shr (.pl rfl) (.pl rfl) (by decide)) rfl ?_
          refine WL.q (Y.assign (.pl rfl)) rfl ?_
          refine WL.next hQ18 (.cons (i := 0) rfl (.cons (i := 2) rfl (.nil))) ?_
          -- region 9: bits.go:348
          refine W.reg ?_
          refine WL.q (Y.move (.pl rfl)) rfl ?_
          obtain ⟨hk9, hF14⟩ := ckh hF14
          refine WL.q (Y.add (.pl rfl) (.pl rfl) (ok64_lt (hk9))) rfl ?_
          refine WL.q (Y.assign (.pl rfl)) rfl ?_
          refine WL.nil ?_
          exact W.joinAt2 hK15 (shrI .u64 x4 8) (n5 + 8) (Option.some.inj hF14) (.cons rfl (.cons rfl (.nil))) (.nil) (fun w hw => hw.pick [] rfl)
        · replace hF14 := cneg hC17 hF14
          refine W.skip ?_
          exact W.joinAt2 hK15 x4 n5 (Option.some.inj hF14) (.cons rfl (.cons rfl (.nil))) (.nil) (fun w hw => hw.pick [] rfl)
      · -- behind
        rintro x7 n8 rfl
        -- region 10: bits.go:350
        refine W.seqR fun Q20 hQ20 => ?_
        refine WL.q (Y.move (.pl rfl)) rfl ?_
        refine WL.q (Y.move (.pl rfl)) rfl ?_
        refine WL.q (Y.conv Try.underlying114 Try.underlying5 (.pl rfl)) rfl ?_
        obtain ⟨x10, hx10, hF⟩ := bnd hF
        refine WL.q (Y.sindex Try.underlying9 (.pl rfl) (.pl rfl) (hx10)) rfl ?_
        refine WL.q (Y.conv Try.underlying5 Try.underlying3 (.pl rfl)) rfl ?_
        obtain ⟨hk11, hF⟩ := ckh hF
        refine WL.q (Y.add (.pl rfl) (.pl rfl) (ok64_lt (hk11))) rfl ?_
        refine WL.q (Y.assign (.pl rfl)) rfl ?_
        refine WL.next hQ20 (.cons (i := 2) rfl (.nil)) ?_
        obtain rfl := Option.some.inj hF
        refine W.retV (fn := Try.f78) (vs := [.int .i64 (n8 + (IntKind.i64.wrap x10))]) Try.results78 ⟨.tmp rfl, trivial⟩ (fun _ _ h => h) (fun w hw => ?_)
        exact hR _ _ ⟨rfl, (hw.pick [] rfl)⟩

def math_bits_Len (N : Nat) (x1 : Int) : Option Int :=
  cond false
    (bd (math_bits_Len32 N (IntKind.u32.wrap x1)) fun (r2 : Int) =>
    some r2)
    (bd (math_bits_Len64 N x1) fun (r3 : Int) =>
    some r3)

theorem math_bits_Len_ok {N : Nat} {x1 : Int} {res : Int} (hF : math_bits_Len N x1 = some res) (w : World) :
    Pure Try.prog 63 [.int .u64 x1] w (.int .i64 res) := by
  refine W.enter (n := 8) Try.func63 rfl rfl Sub.refl (by simp) (St.start w) fun R hR => ?_
  unfold math_bits_Len at hF
  -- region 0: bits.go:302
  refine W.seqR fun Q1 hQ1 => ?_
  refine WL.q (Y.assign (.pl rfl)) rfl ?_
  refine WL.next hQ1 (.cons (i := 0) rfl (.nil)) ?_
  refine W.seq fun K2 hK2 => ?_
  refine W.cond (.pl rfl) (fun hC3 => ?_) (fun hC3 => ?_)
  · replace hF := cpos hC3 hF
    -- region 1: bits.go:304
    refine W.seqR fun Q4 hQ4 => ?_
    refine WL.q (Y.move (.pl rfl)) rfl ?_
    refine WL.q (Y.conv Try.underlying63 Try.underlying112 (.pl rfl)) rfl ?_
    obtain ⟨r2, hr2, hF⟩ := bnd hF
    refine WL.step (WO.callP isGo77 (.cons (.pl rfl) (.nil)) rfl (fun w hw => math_bits_Len32_ok (hr2) w ) ?_)
    refine WL.q (Y.assign (.pl rfl)) rfl ?_
    refine WL.next hQ4 (.cons (i := 2) rfl (.nil)) ?_
    obtain rfl := Option.some.inj hF
    refine W.retV (fn := Try.f63) (vs := [.int .i64 r2]) Try.results63 ⟨.tmp rfl, trivial⟩ (fun _ _ h => h) (fun w hw => ?_)
    exact hR _ _ ⟨rfl, (hw.pick [] rfl)⟩
  · replace hF := cneg hC3 hF
    refine W.skip ?_
    refine W.go hK2 (.cons (i := 0) rfl (.nil)) ?_
    -- region 2: bits.go:306
    refine W.seqR fun Q5 hQ5 => ?_
    refine WL.q (Y.move (.pl rfl)) rfl ?_
    obtain ⟨r3, hr3, hF⟩ := bnd hF
    refine WL.step (WO.callP isGo78 (.cons (.pl rfl) (.nil)) rfl (fun w hw => math_bits_Len64_ok (hr3) w ) ?_)
    refine WL.q (Y.assign (.pl rfl)) rfl ?_
    refine WL.next hQ5 (.cons (i := 2) rfl (.nil)) ?_
    obtain rfl := Option.some.inj hF
    refine W.retV (fn := Try.f63) (vs := [.int .i64 r3]) Try.results63 ⟨.tmp rfl, trivial⟩ (fun _ _ h => h) (fun w hw => ?_)
    exact hR _ _ ⟨rfl, (hw.pick [] rfl)⟩

def spans_Make_1 (N : Nat) (a1 : Int) (b2 : Int) : Option Int :=
  bd (math_bits_OnesCount16 N a1) fun (r3 : Int) =>
  bd (math_bits_OnesCount16 N b2) fun (r4 : Int) =>
  ck (ok64 (r3 - r4)) <|
  cond (!(decide ((r3 - r4) = 0)))
    (some (r3 - r4))
    (ck (ok64 ((IntKind.i64.wrap a1) - (IntKind.i64.wrap b2))) <|
    some ((IntKind.i64.wrap a1) - (IntKind.i64.wrap b2)))

theorem spans_Make_1_ok {N : Nat} {a1 : Int} {b2 : Int} {res : Int} (hF : spans_Make_1 N a1 b2 = some res) (w : World) :
    Pure Try.prog 50 [.int .u16 a1, .int .u16 b2] w (.int .i64 res) := by
  refine W.enter (n := 19) Try.func50 rfl rfl Sub.refl (by simp) (St.start w) fun R hR => ?_
  unfold spans_Make_1 at hF
  -- region 0: spans.go:59
  refine W.seqR fun Q1 hQ1 => ?_
  refine WL.q (Y.assign (.pl rfl)) rfl ?_
  refine WL.next hQ1 (.cons (i := 0) rfl (.cons (i := 1) rfl (.nil))) ?_
  refine W.seq fun K2 hK2 => ?_
  -- region 1: spans.go:60
  refine W.seqR fun Q3 hQ3 => ?_
  refine WL.q (Y.move (.pl rfl)) rfl ?_
  obtain ⟨r3, hr3, hF⟩ := bnd hF
  refine WL.step (WO.callP isGo51 (.cons (.pl rfl) (.nil)) rfl (fun w hw => math_bits_OnesCount16_ok (hr3) w ) ?_)
  refine WL.q (Y.move (.pl rfl)) rfl ?_
  obtain ⟨r4, hr4, hF⟩ := bnd hF
  refine WL.step (WO.callP isGo51 (.cons (.pl rfl) (.nil)) rfl (fun w hw => math_bits_OnesCount16_ok (hr4) w ) ?_)
  obtain ⟨hk5, hF⟩ := ckh hF
  refine WL.q (Y.sub (.pl rfl) (.pl rfl) (ok64_lt (hk5))) rfl ?_
  refine WL.q (Y.assign (.pl rfl)) rfl ?_
  refine WL.next hQ3 (.cons (i := 0) rfl (.cons (i := 1) rfl (.cons (i := 5) rfl (.nil)))) ?_
  -- region 2: spans.go:60
  refine W.seqR fun Q4 hQ4 => ?_
  refine WL.q (Y.move (.pl rfl)) rfl ?_
  refine WL.q (Y.neq (.pl rfl) (.pl rfl)) rfl ?_
  refine WL.next hQ4 (.cons (i := 0) rfl (.cons (i := 1) rfl (.cons (i := 5) rfl (.cons (i := 12) rfl (.nil))))) ?_
  refine W.cond (.pl rfl) (fun hC5 => ?_) (fun hC5 => ?_)
  · replace hF := cpos hC5 hF
    -- region 3: spans.go:61
    refine W.seqR fun Q6 hQ6 => ?_
    refine WL.q (Y.move (.pl rfl)) rfl ?_
    refine WL.q (Y.assign (.pl rfl)) rfl ?_
    refine WL.next hQ6 (.cons (i := 4) rfl (.nil)) ?_
    obtain rfl := Option.some.inj hF
    refine W.retV (fn := Try.f50) (vs := [.int .i64 (r3 - r4)]) Try.results50 ⟨.tmp rfl, trivial⟩ (fun _ _ h => h) (fun w hw => ?_)
    exact hR _ _ ⟨rfl, (hw.pick [] rfl)⟩
  · replace hF := cneg hC5 hF
    refine W.skip ?_
    refine W.go hK2 (.cons (i := 0) rfl (.cons (i := 1) rfl (.nil))) ?_
    -- region 4: spans.go:63
    refine W.seqR fun Q7 hQ7 => ?_
    refine WL.q (Y.move (.pl rfl)) rfl ?_
    refine WL.q (Y.conv Try.underlying22 Try.underlying3 (.pl rfl)) rfl ?_
    refine WL.q (Y.move (.pl rfl)) rfl ?_
    refine WL.q (Y.conv Try.underlying22 Try.underlying3 (.pl rfl)) rfl ?_
    obtain ⟨hk6, hF⟩ := ckh hF
    refine WL.q (Y.sub (.pl rfl) (.pl rfl) (ok64_lt (hk6))) rfl ?_
    refine WL.q (Y.assign (.pl rfl)) rfl ?_
    refine WL.next hQ7 (.cons (i := 4) rfl (.nil)) ?_
    obtain rfl := Option.some.inj hF
    refine W.retV (fn := Try.f50) (vs := [.int .i64 ((IntKind.i64.wrap a1) - (IntKind.i64.wrap b2))]) Try.results50 ⟨.tmp rfl, trivial⟩ (fun _ _ h => h) (fun w hw => ?_)
    exact hR _ _ ⟨rfl, (hw.pick [] rfl)⟩

def slices_insertionSortCmpFunc_uint16_L13 (N : Nat) (a4 : Int) : ((List Int) × Int) → Option (((List Int) × Int) ⊕ (List Int))
  | (v12, j14) =>
    bd (α := Bool) (bd ((cond ((decide (a4 < j14)) == true) (ix v12 j14) (some 0))) fun (x16 : Int) =>
      ck (!((decide (a4 < j14)) == true) || (ok64 (j14 - 1))) <|
      bd ((cond ((decide (a4 < j14)) == true) (ix v12 (j14 - 1)) (some 0))) fun (x18 : Int) =>
      cond ((decide (a4 < j14)) == true)
        (bd (spans_Make_1 N x16 x18) fun (r19 : Int) =>
        some ((decide (a4 < j14)) && (decide (r19 < 0))))
        (some ((decide (a4 < j14)) && false))) <|
    fun (v15 : Bool) => 
      cond v15
        (ck (ok64 (j14 - 1)) <|
        ck (ok64 (j14 - 1)) <|
        bd (ix v12 (j14 - 1)) fun (x22 : Int) =>
        bd (ix v12 j14) fun (x23 : Int) =>
        bd (ix v12 j14) fun (x24 : Int) =>
        bd (ix (v12.set j14.toNat x22) (j14 - 1)) fun (x25 : Int) =>
        ck (ok64 (j14 - 1)) <|
        some (.inl (((v12.set j14.toNat x22).set (j14 - 1).toNat x23), (j14 - 1))))
        (some (.inr v12))

def slices_insertionSortCmpFunc_uint16_L11 (N : Nat) (b5 : Int) (a4 : Int) : ((List Int) × Int) → Option (((List Int) × Int) ⊕ (List Int))
  | (v7, i9) =>
    cond (decide (i9 < b5))
      (bd (α := (List Int)) (iter (slices_insertionSortCmpFunc_uint16_L13 N a4) N (v7, i9)) <|
      fun (v10 : (List Int)) => 
        ck (ok64 (i9 + 1)) <|
        some (.inl (v10, (i9 + 1))))
      (some (.inr v7))

def slices_insertionSortCmpFunc_uint16 (N : Nat) (data3 : (List Int)) (a4 : Int) (b5 : Int) : Option (List Int) :=
  ck (ok64 (a4 + 1)) <|
  bd (α := (List Int)) (iter (slices_insertionSortCmpFunc_uint16_L11 N b5 a4) N (data3, (a4 + 1))) <| fun p => some p

theorem slices_insertionSortCmpFunc_uint16_ok {N : Nat} {data3 : (List Int)} {a4 : Int} {b5 : Int} {A1 : Option Addr} {c2 : Nat} {res : (List Int)} (hF : slices_insertionSortCmpFunc_uint16 N data3 a4 b5 = some res) {w0 w : World} {T : List Chunk} (hw : St w0.heap.size w0 ([cR (eI .u16) 1 A1 c2 22 data3] ++ T) w) :
    Calls Try.prog 69 (List.toArray [.slice A1 (data3).length c2, .int .i64 a4, .int .i64 b5, .func (.func 50) #[] #[]]) w (fun e w' => ∃ g : Unit, ((res).length = (data3).length) ∧ e = .returned (.tuple #[]) ∧ St w0.heap.size w0 ([cR (eI .u16) 1 A1 c2 22 res] ++ T) w') := by
  refine W.enter (n := 53) Try.func69 rfl rfl Sub.refl (by simp) hw fun R hR => ?_
  unfold slices_insertionSortCmpFunc_uint16 at hF
  -- region 0: zsortanyfunc.go:11
  refine W.seqR fun Q1 hQ1 => ?_
  refine WL.q (Y.move (.pl rfl)) rfl ?_
  obtain ⟨hk6, hF⟩ := ckh hF
  refine WL.q (Y.add (.pl rfl) (.pl rfl) (ok64_lt (hk6))) rfl ?_
  refine WL.q (Y.assign (.pl rfl)) rfl ?_
  refine WL.next hQ1 (.cons (i := 0) rfl (.cons (i := 1) rfl (.cons (i := 2) rfl (.cons (i := 3) rfl (.cons (i := 8) rfl (.nil)))))) ?_
  refine W.block ?_
  obtain ⟨o2, hL2, hF⟩ := bnd hF
  refine W.loop2 (Em := fun (v7 : (List Int)) (i9 : Int) => [(0, .slice A1 (v7).length c2), (8, .int .i64 i9)]) (M := fun v7 i9 => ([cR (eI .u16) 1 A1 c2 22 v7] ++ T)) (I := fun v7 i9 k2 => iter (slices_insertionSortCmpFunc_uint16_L11 N b5 a4) k2 (v7, i9) = some o2 ∧ (v7).length = (data3).length) data3 (a4 + 1) N (⟨hL2, (by simp)⟩) (.cons rfl (.cons rfl (.nil))) (.cons (i := 1) rfl (.cons (i := 2) rfl (.cons (i := 3) rfl (.nil)))) (fun w hw => hw.pickK 1 [0] rfl) (fun v7 i9 k2 hI K3 hK3 => ?_)
  obtain ⟨hI, hl8⟩ := hI
  obtain ⟨k2, t2, rfl, hF2, hN2⟩ := iter_step hI
  refine W.seq fun K4 hK4 => ?_
  -- region 1: zsortanyfunc.go:11
  refine W.seqR fun Q5 hQ5 => ?_
  refine WL.q (Y.move (.pl rfl)) rfl ?_
  refine WL.q (Y.move (.pl rfl)) rfl ?_
  refine WL.q (Y.lss (.pl rfl) (.pl rfl)) rfl ?_
  refine WL.next hQ5 (.cons (i := 0) rfl (.cons (i := 1) rfl (.cons (i := 2) rfl (.cons (i := 3) rfl (.cons (i := 8) rfl (.cons (i := 14) rfl (.nil))))))) ?_
  refine W.cond (.pl rfl) (fun hC6 => ?_) (fun hC6 => ?_)
  · replace hF2 := cpos hC6 hF2
    refine W.skip ?_
    refine W.go hK4 (.cons (i := 0) rfl (.cons (i := 1) rfl (.cons (i := 2) rfl (.cons (i := 3) rfl (.cons (i := 8) rfl (.nil)))))) ?_
    obtain ⟨o7, hF7, hF2⟩ := bnd hF2
    refine W.join1 (Em := fun (v10 : (List Int)) => [(0, .slice A1 (v10).length c2)]) (M := fun v10 => ([cR (eI .u16) 1 A1 c2 22 v10] ++ T)) (I := fun v10 => v10 = o7 ∧ (v10).length = (data3).length) (.cons (i := 1) rfl (.cons (i := 2) rfl (.cons (i := 3) rfl (.cons (i := 8) rfl (.nil))))) (fun K8 hK8 => ?_) ?_
    · -- up to
      refine W.block ?_
      -- region 3: zsortanyfunc.go:12
      refine W.seqR fun Q9 hQ9 => ?_
      refine WL.q (Y.move (.pl rfl)) rfl ?_
      refine WL.q (Y.assign (.pl rfl)) rfl ?_
      refine WL.next hQ9 (.cons (i := 0) rfl (.cons (i := 1) rfl (.cons (i := 2) rfl (.cons (i := 3) rfl (.cons (i := 8) rfl (.cons (i := 9) rfl (.nil))))))) ?_
      refine W.block ?_
      refine W.loop2 (Em := fun (v12 : (List Int)) (j14 : Int) => [(0, .slice A1 (v12).length c2), (9, .int .i64 j14)]) (M := fun v12 j14 => ([cR (eI .u16) 1 A1 c2 22 v12] ++ T)) (I := fun v12 j14 k10 => iter (slices_insertionSortCmpFunc_uint16_L13 N a4) k10 (v12, j14) = some o7 ∧ (v12).length = (data3).length) v7 i9 N (⟨hF7, (by simp [hl8])⟩) (.cons rfl (.cons rfl (.nil))) (.cons (i := 1) rfl (.cons (i := 2) rfl (.cons (i := 3) rfl (.cons (i := 8) rfl (.nil))))) (fun w hw => hw.pickK 1 [0] rfl) (fun v12 j14 k10 hI K11 hK11 => ?_)
      obtain ⟨hI, hl13⟩ := hI
      obtain ⟨k10, t10, rfl, hF10, hN10⟩ := iter_step hI
      refine W.seq fun K12 hK12 => ?_
      obtain ⟨o13, hF13, hF10⟩ := bnd hF10
      refine W.join1 (Em := fun (v15 : Bool) => [(34, .bool v15)]) (M := fun v15 => ([cR (eI .u16) 1 A1 c2 22 v12] ++ T)) (I := fun v15 => v15 = o13) (.cons (i := 0) rfl (.cons (i := 1) rfl (.cons (i := 2) rfl (.cons (i := 3) rfl (.cons (i := 8) rfl (.cons (i := 9) rfl (.nil))))))) (fun K14 hK14 => ?_) ?_
      · -- up to
        -- region 4: zsortanyfunc.go:12
        refine W.regX 16 (by kernel_rfl) ?_
        refine WX.pure 0 #[true, false, false, false, false, false, false, false, false, false, false, false, false, false, false, false, false] rfl (by kernel_rfl) (fun _ _ => Y.move (.pl rfl)) rfl ?_
        refine WX.pure 1 #[true, true, false, false, false, false, false, false, false, false, false, false, false, false, false, false, false] rfl (by kernel_rfl) (fun _ _ => Y.move (.pl rfl)) rfl ?_
        refine WX.pure 2 #[true, true, true, false, false, false, false, false, false, false, false, false, false, false, false, false, false] rfl (by kernel_rfl) (fun _ _ => Y.gtr (.pl rfl) (.pl rfl)) rfl ?_
        refine WX.pure 3 #[true, true, true, true, false, false, false, false, false, false, false, false, false, false, false, false, false] rfl (by kernel_rfl) (fun _ _ => Y.move (.pl rfl)) rfl ?_
        refine WX.pureY 4 #[true, true, true, true, true, false, false, false, false, false, false, false, false, false, false, false, false] rfl (by kernel_rfl) (fun _ _ => Yg.g (.pl rfl rfl rfl) (fun hg => Y.move (.pl rfl))) rfl ?_
        refine WX.pureY 5 #[true, true, true, true, true, true, false, false, false, false, false, false, false, false, false, false, false] rfl (by kernel_rfl) (fun _ _ => Yg.g (.pl rfl rfl rfl) (fun hg => Y.move (.pl rfl))) rfl ?_
        refine WX.pureY 6 #[true, true, true, true, true, true, true, false, false, false, false, false, false, false, false, false, false] rfl (by kernel_rfl) (fun _ _ => Yg.g (.pl rfl rfl rfl) (fun hg => Y.move (.pl rfl))) rfl ?_
        obtain ⟨x16, hx16, hF13⟩ := bnd hF13
        refine WX.takeY 7 #[true, true, true, true, true, true, true, true, false, false, false, false, false, false, false, false, false] (fun w hw => St.tail [] hw) rfl (by kernel_rfl) (Yg.g (.pl rfl rfl rfl) (fun hg => Y.rowEl Try.underlying71 cells22 (i := 0) rfl (.gd (hg) rfl) rfl (.gd (hg) rfl) (ix_lt (gpos hg hx16)))) rfl ?_
        refine WX.takeY 8 #[true, true, true, true, true, true, true, true, true, false, false, false, false, false, false, false, false] (fun w hw => St.tail [] hw) rfl (by kernel_rfl) (Yg.g (.pl rfl rfl rfl) (fun hg => Y.loadR (enc := (eI .u16)) (v := .int .u16 x16) (a := x16) (idx := j14) (j := 0) Try.underlying22 rfl (fun _ => rfl) (i := 0) rfl (.gd (hg) rfl) (ix_get (gpos hg hx16)) rfl rfl)) rfl ?_
        refine WX.pureY 9 #[true, true, true, true, true, true, true, true, true, true, false, false, false, false, false, false, false] rfl (by kernel_rfl) (fun _ _ => Yg.g (.pl rfl rfl rfl) (fun hg => Y.move (.pl rfl))) rfl ?_
        refine WX.pureY 10 #[true, true, true, true, true, true, true, true, true, true, true, false, false, false, false, false, false] rfl (by kernel_rfl) (fun _ _ => Yg.g (.pl rfl rfl rfl) (fun hg => Y.move (.pl rfl))) rfl ?_
        obtain ⟨hk17, hF13⟩ := ckh hF13
        refine WX.pureY 11 #[true, true, true, true, true, true, true, true, true, true, true, true, false, false, false, false, false] rfl (by kernel_rfl) (fun _ _ => Yg.g (.pl rfl rfl rfl) (fun hg => Y.sub (.gd (hg) rfl) (.pl rfl) (ok64_lt (gor hg hk17)))) rfl ?_
        obtain ⟨x18, hx18, hF13⟩ := bnd hF13
        refine WX.takeY 12 #[true, true, true, true, true, true, true, true, true, true, true, true, true, false, false, false, false] (fun w hw => St.tail [] hw) rfl (by kernel_rfl) (Yg.g (.pl rfl rfl rfl) (fun hg => Y.rowEl Try.underlying71 cells22 (i := 0) rfl (.gd (hg) rfl) rfl (.gd (hg) rfl) (ix_lt (gpos hg hx18)))) rfl ?_
        refine WX.takeY 13 #[true, true, true, true, true, true, true, true, true, true, true, true, true, true, false, false, false] (fun w hw => St.tail [] hw) rfl (by kernel_rfl) (Yg.g (.pl rfl rfl rfl) (fun hg => Y.loadR (enc := (eI .u16)) (v := .int .u16 x18) (a := x18) (idx := (j14 - 1)) (j := 0) Try.underlying22 rfl (fun _ => rfl) (i := 0) rfl (.gd (hg) rfl) (ix_get (gpos hg hx18)) rfl rfl)) rfl ?_
        refine bsplit ((decide (a4 < j14)) == true) (fun hg16 => ?_) (fun hg16 => ?_)
        · replace hF13 := cpos hg16 hF13
          obtain ⟨r19, hr19, hF13⟩ := bnd hF13
          refine WX.one 14 #[true, true, true, true, true, true, true, true, true, true, true, true, true, true, true, false, false] (fun w hw => St.tail [] hw) rfl (by kernel_rfl) (WO.gT (.pl rfl rfl rfl) (hg16) (WO.callG (γ := Unit) (first := []) (cap := []) (fun g => .int .i64 r19) (fun g => ([cR (eI .u16) 1 A1 c2 22 v12] ++ T)) (fun _ => True) isGo50 (.gd (hg16) rfl) (.cons (.gd (hg16) rfl) (.cons (.gd (hg16) rfl) (.nil))) rfl (fun w hw => (spans_Make_1_ok (hr19) w ).calls hw) ?_))
          rintro _ -
          refine WX.pureY 15 #[true, true, true, true, true, true, true, true, true, true, true, true, true, true, true, true, false] rfl (by kernel_rfl) (fun _ _ => Yg.yes (.pl rfl rfl rfl) (hg16) (Y.lss (.pl rfl) (.pl rfl))) rfl ?_
          refine WX.stop #[true, true, true, true, true, true, true, true, true, true, true, true, true, true, true, true, true] (fun w hw => St.tail [] hw) rfl (by kernel_rfl) (WO.q (Y.and (.pl rfl) (fun _ => .pl rfl)) rfl ?_)
          refine WA.done (by kernel_rfl) ?_
          exact W.joinAt1 hK14 ((decide (a4 < j14)) && (decide (r19 < 0))) (Option.some.inj hF13) (.cons rfl (.nil)) (.cons (i := 0) rfl (.cons (i := 1) rfl (.cons (i := 2) rfl (.cons (i := 3) rfl (.cons (i := 8) rfl (.cons (i := 9) rfl (.nil))))))) (fun w hw => hw.pickK 1 [0] rfl)
        · replace hF13 := cneg hg16 hF13
          refine WX.one 14 #[true, true, true, true, true, true, true, true, true, true, true, true, true, true, true, false, false] (fun w hw => St.tail [] hw) rfl (by kernel_rfl) (WO.gN (.pl rfl rfl rfl) hg16 rfl ?_)
          refine WX.pureY 15 #[true, true, true, true, true, true, true, true, true, true, true, true, true, true, true, true, false] rfl (by kernel_rfl) (fun _ _ => Yg.no (.pl rfl rfl rfl) hg16) rfl ?_
          refine WX.stop #[true, true, true, true, true, true, true, true, true, true, true, true, true, true, true, true, true] (fun w hw => St.tail [] hw) rfl (by kernel_rfl) (WO.q (Y.and (b := false) (.pl rfl) (fun h2 => (gabsA hg16 h2).elim)) rfl ?_)
          refine WA.done (by kernel_rfl) ?_
          exact W.joinAt1 hK14 ((decide (a4 < j14)) && false) (Option.some.inj hF13) (.cons rfl (.nil)) (.cons (i := 0) rfl (.cons (i := 1) rfl (.cons (i := 2) rfl (.cons (i := 3) rfl (.cons (i := 8) rfl (.cons (i := 9) rfl (.nil))))))) (fun w hw => hw.pickK 1 [0] rfl)
      · -- behind
        rintro v15 rfl
        refine W.cond (.pl rfl) (fun hC17 => ?_) (fun hC17 => ?_)
        · replace hF10 := cpos hC17 hF10
          refine W.skip ?_
          refine W.go hK12 (.cons (i := 0) rfl (.cons (i := 1) rfl (.cons (i := 2) rfl (.cons (i := 3) rfl (.cons (i := 8) rfl (.cons (i := 9) rfl (.nil))))))) ?_
          refine W.seq fun K18 hK18 => ?_
          refine W.block ?_
          -- region 6: zsortanyfunc.go:13
          refine W.know (fun w hw => (hw.row_lim (i := 0) rfl).2.2) (fun hok20 => ?_)
          refine W.regX 15 (by kernel_rfl) ?_
          refine WX.pure 0 #[true, false, false, false, false, false, false, false, false, false, false, false, false, false, false, false, false, false] rfl (by kernel_rfl) (fun _ _ => Y.move (.pl rfl)) rfl ?_
          refine WX.pure 1 #[true, true, false, false, false, false, false, false, false, false, false, false, false, false, false, false, false, false] rfl (by kernel_rfl) (fun _ _ => Y.move (.pl rfl)) rfl ?_
          refine WX.pure 2 #[true, true, true, false, false, false, false, false, false, false, false, false, false, false, false, false, false, false] rfl (by kernel_rfl) (fun _ _ => Y.move (.pl rfl)) rfl ?_
          refine WX.pure 3 #[true, true, true, true, false, false, false, false, false, false, false, false, false, false, false, false, false, false] rfl (by kernel_rfl) (fun _ _ => Y.move (.pl rfl)) rfl ?_
          obtain ⟨hk20, hF10⟩ := ckh hF10
          refine WX.pure 4 #[true, true, true, true, true, false, false, false, false, false, false, false, false, false, false, false, false, false] rfl (by kernel_rfl) (fun _ _ => Y.sub (.pl rfl) (.pl rfl) (ok64_lt (hk20))) rfl ?_
          refine WX.pure 5 #[true, true, true, true, true, true, false, false, false, false, false, false, false, false, false, false, false, false] rfl (by kernel_rfl) (fun _ _ => Y.move (.pl rfl)) rfl ?_
          refine WX.pure 6 #[true, true, true, true, true, true, true, false, false, false, false, false, false, false, false, false, false, false] rfl (by kernel_rfl) (fun _ _ => Y.move (.pl rfl)) rfl ?_
          obtain ⟨hk21, hF10⟩ := ckh hF10
          refine WX.pure 7 #[true, true, true, true, true, true, true, true, false, false, false, false, false, false, false, false, false, false] rfl (by kernel_rfl) (fun _ _ => Y.sub (.pl rfl) (.pl rfl) (ok64_lt (hk21))) rfl ?_
          obtain ⟨x22, hx22, hF10⟩ := bnd hF10
          refine WX.pure 8 #[true, true, true, true, true, true, true, true, true, false, false, false, false, false, false, false, false, false] rfl (by kernel_rfl) (fun _ _ => Y.okEl (xs := v12) Try.underlying71 cells22 hok20 (.pl rfl) rfl (.pl rfl) (ix_lt (hx22))) rfl ?_
          refine WX.take 9 #[true, true, true, true, true, true, true, true, true, true, false, false, false, false, false, false, false, false] (fun w hw => St.tail [] hw) rfl (by kernel_rfl) (Y.loadR (enc := (eI .u16)) (v := .int .u16 x22) (a := x22) (idx := (j14 - 1)) (j := 0) Try.underlying22 rfl (fun _ => rfl) (i := 0) rfl (.pl rfl) (ix_get (hx22)) rfl rfl) rfl ?_
          refine WX.pure 10 #[true, true, true, true, true, true, true, true, true, true, true, false, false, false, false, false, false, false] rfl (by kernel_rfl) (fun _ _ => Y.move (.pl rfl)) rfl ?_
          refine WX.pure 11 #[true, true, true, true, true, true, true, true, true, true, true, true, false, false, false, false, false, false] rfl (by kernel_rfl) (fun _ _ => Y.move (.pl rfl)) rfl ?_
          obtain ⟨x23, hx23, hF10⟩ := bnd hF10
          refine WX.pure 12 #[true, true, true, true, true, true, true, true, true, true, true, true, true, false, false, false, false, false] rfl (by kernel_rfl) (fun _ _ => Y.okEl (xs := v12) Try.underlying71 cells22 hok20 (.pl rfl) rfl (.pl rfl) (ix_lt (hx23))) rfl ?_
          refine WX.take 13 #[true, true, true, true, true, true, true, true, true, true, true, true, true, true, false, false, false, false] (fun w hw => St.tail [] hw) rfl (by kernel_rfl) (Y.loadR (enc := (eI .u16)) (v := .int .u16 x23) (a := x23) (idx := j14) (j := 0) Try.underlying22 rfl (fun _ => rfl) (i := 0) rfl (.pl rfl) (ix_get (hx23)) rfl rfl) rfl ?_
          obtain ⟨x24, hx24, hF10⟩ := bnd hF10
          refine WX.pure 14 #[true, true, true, true, true, true, true, true, true, true, true, true, true, true, true, false, false, false] rfl (by kernel_rfl) (fun _ _ => Y.okEl (xs := v12) Try.underlying71 cells22 hok20 (.pl rfl) rfl (.pl rfl) (ix_lt (hx24))) rfl ?_
          refine WX.stop #[true, true, true, true, true, true, true, true, true, true, true, true, true, true, true, true, false, false] (fun w hw => St.tail [] hw) rfl (by kernel_rfl) (WO.storeS (enc := (eI .u16)) (a := x24) (a' := x22) (idx := j14) (j := 0) cells22 (.pl rfl) (.pl rfl) rfl (fun _ => rfl) (i := 0) rfl (ix_get (hx24)) rfl (by decide) rfl ?_)
          obtain ⟨x25, hx25, hF10⟩ := bnd hF10
          refine WA.take 16 #[true, true, true, true, true, true, true, true, true, true, true, true, true, true, true, true, true, false] rfl (by kernel_rfl) (fun _ _ => Y.okEl (xs := (v12.set j14.toNat x22)) Try.underlying71 cells22 (by simpa only [List.length_set, hl8, hl13] using hok20) (.pl rfl) (by simp [hl8, hl13]) (.pl rfl) (ix_lt (hx25))) rfl ?_
          refine WA.branch [17] (by kernel_rfl) ⟨?_, trivial⟩
          refine WI.step #[true, true, true, true, true, true, true, true, true, true, true, true, true, true, true, true, true, true] rfl rfl (WO.storeS (enc := (eI .u16)) (a := x25) (a' := x23) (idx := (j14 - 1)) (j := 0) cells22 (.pl rfl) (.pl rfl) rfl (fun _ => rfl) (i := 0) rfl (ix_get (hx25)) rfl (by decide) rfl ?_)
          refine WA.done (by kernel_rfl) ?_
          refine W.go hK18 (.cons (i := 0) rfl (.cons (i := 1) rfl (.cons (i := 2) rfl (.cons (i := 3) rfl (.cons (i := 8) rfl (.cons (i := 9) rfl (.nil))))))) ?_
          -- region 5: zsortanyfunc.go:12
          refine W.reg ?_
          refine WL.q (Y.move (.pl rfl)) rfl ?_
          obtain ⟨hk26, hF10⟩ := ckh hF10
          refine WL.q (Y.sub (.pl rfl) (.pl rfl) (ok64_lt (hk26))) rfl ?_
          refine WL.q (Y.assign (.pl rfl)) rfl ?_
          refine WL.nil ?_
          obtain rfl := Option.some.inj hF10
          exact W.again2 hK11 ((v12.set j14.toNat x22).set (j14 - 1).toNat x23) (j14 - 1) k10 ⟨hN10, (by simp [hl8, hl13])⟩ (Nat.lt_succ_self _) (.cons (eqSl (by simp [hl8, hl13])) (.cons rfl (.nil))) (.cons (i := 1) rfl (.cons (i := 2) rfl (.cons (i := 3) rfl (.cons (i := 8) rfl (.nil))))) (fun w hw => hw.pickK 1 [0] rfl)
        · replace hF10 := cneg hC17 hF10
          refine W.exit ?_
          obtain rfl := Option.some.inj hF10
          exact W.joinAt1 hK8 v12 (⟨einr hN10, (by simp [hl8, hl13])⟩) (.cons rfl (.nil)) (.cons (i := 1) rfl (.cons (i := 2) rfl (.cons (i := 3) rfl (.cons (i := 8) rfl (.nil))))) (fun w hw => hw.pickK 1 [0] rfl)
    · -- behind
      rintro v10 ⟨rfl, hl11⟩
      -- region 2: zsortanyfunc.go:11
      refine W.reg ?_
      refine WL.q (Y.move (.pl rfl)) rfl ?_
      obtain ⟨hk27, hF2⟩ := ckh hF2
      refine WL.q (Y.add (.pl rfl) (.pl rfl) (ok64_lt (hk27))) rfl ?_
      refine WL.q (Y.assign (.pl rfl)) rfl ?_
      refine WL.nil ?_
      obtain rfl := Option.some.inj hF2
      exact W.again2 hK3 v10 (i9 + 1) k2 ⟨hN2, (by simp [hl8, hl11])⟩ (Nat.lt_succ_self _) (.cons rfl (.cons rfl (.nil))) (.cons (i := 1) rfl (.cons (i := 2) rfl (.cons (i := 3) rfl (.nil)))) (fun w hw => hw.pickK 1 [0] rfl)
  · replace hF2 := cneg hC6 hF2
    refine W.exit ?_
    obtain rfl := Option.some.inj hF2
    obtain rfl := einr hN2
    obtain rfl := Option.some.inj hF
    refine W.endV (fn := Try.f69) (vs := []) Try.results69 trivial (fun _ _ h => h) (fun w hw => ?_)
    exact hR _ _ ⟨(), (by simp [hl8]), rfl, (hw.pickK 1 [0] rfl)⟩

def slices_pdqsortCmpFunc_uint16_L1 (N : Nat) (b5 : Int) (a4 : Int) (data3 : (List Int)) : Unit → Option (Unit ⊕ (List Int))
  | _ =>
    ck (ok64 (b5 - a4)) <|
    cond (decide ((b5 - a4) ≤ 12))
      (bd (slices_insertionSortCmpFunc_uint16 N data3 a4 b5) fun (r8 : (List Int)) =>
      some (.inr r8))
      (none)

def slices_pdqsortCmpFunc_uint16 (N : Nat) (data3 : (List Int)) (a4 : Int) (b5 : Int) (limit6 : Int) : Option (List Int) :=
  bd (α := (List Int)) (iter (slices_pdqsortCmpFunc_uint16_L1 N b5 a4 data3) N ()) <| fun p => some p

theorem slices_pdqsortCmpFunc_uint16_ok {N : Nat} {data3 : (List Int)} {a4 : Int} {b5 : Int} {limit6 : Int} {A1 : Option Addr} {c2 : Nat} {res : (List Int)} (hF : slices_pdqsortCmpFunc_uint16 N data3 a4 b5 limit6 = some res) {w0 w : World} {T : List Chunk} (hw : St w0.heap.size w0 ([cR (eI .u16) 1 A1 c2 22 data3] ++ T) w) :
    Calls Try.prog 62 (List.toArray [.slice A1 (data3).length c2, .int .i64 a4, .int .i64 b5, .int .i64 limit6, .func (.func 50) #[] #[]]) w (fun e w' => ∃ g : Unit, ((res).length = (data3).length) ∧ e = .returned (.tuple #[]) ∧ St w0.heap.size w0 ([cR (eI .u16) 1 A1 c2 22 res] ++ T) w') := by
  refine W.enter (n := 148) Try.func62 rfl rfl Sub.refl (by simp) hw fun R hR => ?_
  unfold slices_pdqsortCmpFunc_uint16 at hF
  -- region 0: zsortanyfunc.go:65
  refine W.seqR fun Q1 hQ1 => ?_
  refine WL.q (Y.assign (.pl rfl)) rfl ?_
  refine WL.next hQ1 (.cons (i := 0) rfl (.cons (i := 1) rfl (.cons (i := 2) rfl (.cons (i := 3) rfl (.cons (i := 4) rfl (.cons (i := 10) rfl (.nil))))))) ?_
  -- region 1: zsortanyfunc.go:66
  refine W.seqR fun Q2 hQ2 => ?_
  refine WL.q (Y.assign (.pl rfl)) rfl ?_
  refine WL.next hQ2 (.cons (i := 0) rfl (.cons (i := 1) rfl (.cons (i := 2) rfl (.cons (i := 3) rfl (.cons (i := 4) rfl (.cons (i := 10) rfl (.cons (i := 11) rfl (.nil)))))))) ?_
  refine W.block ?_
  obtain ⟨o3, hL3, hF⟩ := bnd hF
  refine W.loop0 (Em := []) (M := ([cR (eI .u16) 1 A1 c2 22 data3] ++ T)) (I := fun k3 => iter (slices_pdqsortCmpFunc_uint16_L1 N b5 a4 data3) k3 () = some o3) N (hL3) (.nil) (.cons (i := 0) rfl (.cons (i := 1) rfl (.cons (i := 2) rfl (.cons (i := 3) rfl (.cons (i := 4) rfl (.cons (i := 10) rfl (.cons (i := 11) rfl (.nil)))))))) (fun w hw => hw.pickK 1 [0] rfl) (fun k3 hI K4 hK4 => ?_)
  obtain ⟨k3, t3, rfl, hF3, hN3⟩ := iter_step hI
  refine W.block ?_
  -- region 2: zsortanyfunc.go:70
  refine W.seqR fun Q5 hQ5 => ?_
  refine WL.q (Y.move (.pl rfl)) rfl ?_
  refine WL.q (Y.move (.pl rfl)) rfl ?_
  obtain ⟨hk7, hF3⟩ := ckh hF3
  refine WL.q (Y.sub (.pl rfl) (.pl rfl) (ok64_lt (hk7))) rfl ?_
  refine WL.q (Y.assign (.pl rfl)) rfl ?_
  refine WL.next hQ5 (.cons (i := 0) rfl (.cons (i := 1) rfl (.cons (i := 2) rfl (.cons (i := 3) rfl (.cons (i := 4) rfl (.cons (i := 10) rfl (.cons (i := 11) rfl (.cons (i := 12) rfl (.nil))))))))) ?_
  refine W.seq fun K6 hK6 => ?_
  -- region 3: zsortanyfunc.go:72
  refine W.seqR fun Q7 hQ7 => ?_
  refine WL.q (Y.move (.pl rfl)) rfl ?_
  refine WL.q (Y.leq (.pl rfl) (.pl rfl)) rfl ?_
  refine WL.next hQ7 (.cons (i := 0) rfl (.cons (i := 1) rfl (.cons (i := 2) rfl (.cons (i := 3) rfl (.cons (i := 4) rfl (.cons (i := 10) rfl (.cons (i := 11) rfl (.cons (i := 12) rfl (.cons (i := 25) rfl (.nil)))))))))) ?_
  refine W.cond (.pl rfl) (fun hC8 => ?_) (fun hC8 => ?_)
  · replace hF3 := cpos hC8 hF3
    -- region 4: zsortanyfunc.go:73
    refine W.seqR fun Q9 hQ9 => ?_
    refine WL.q (Y.move (.pl rfl)) rfl ?_
    refine WL.q (Y.move (.pl rfl)) rfl ?_
    refine WL.q (Y.move (.pl rfl)) rfl ?_
    refine WL.q (Y.move (.pl rfl)) rfl ?_
    obtain ⟨r8, hr8, hF3⟩ := bnd hF3
    refine WL.step (WO.call (γ := Unit) (fun g => .tuple #[]) (fun g => ([cR (eI .u16) 1 A1 c2 22 r8] ++ T)) (fun _ => (r8).length = (data3).length) isGo69 (.cons (.pl rfl) (.cons (.pl rfl) (.cons (.pl rfl) (.cons (.pl rfl) (.nil))))) rfl (fun w hw => slices_insertionSortCmpFunc_uint16_ok (T := ([] ++ T)) (hr8) (hw.pickK 1 [0] rfl) ) ?_)
    rintro _ hl9
    refine WL.next hQ9 (.nil) ?_
    obtain rfl := Option.some.inj hF3
    obtain rfl := einr hN3
    obtain rfl := Option.some.inj hF
    refine W.retV (fn := Try.f62) (vs := []) Try.results62 trivial (fun _ _ h => h) (fun w hw => ?_)
    exact hR _ _ ⟨(), (by simp [hl9]), rfl, (hw.pickK 1 [0] rfl)⟩
  · replace hF3 := cneg hC8 hF3
    refine W.skip ?_
    refine W.go hK6 (.cons (i := 0) rfl (.cons (i := 1) rfl (.cons (i := 2) rfl (.cons (i := 3) rfl (.cons (i := 4) rfl (.cons (i := 10) rfl (.cons (i := 11) rfl (.cons (i := 12) rfl (.nil))))))))) ?_
    refine W.seq fun K10 hK10 => ?_
    exact nomatch hF3

def slices_SortFunc_uint16_uint16 (N : Nat) (x3 : (List Int)) : Option (List Int) :=
  bd (math_bits_Len N (IntKind.u64.wrap ((x3).length : Int))) fun (r4 : Int) =>
  bd (slices_pdqsortCmpFunc_uint16 N x3 0 ((x3).length : Int) r4) fun (r5 : (List Int)) =>
  some r5

theorem slices_SortFunc_uint16_uint16_ok {N : Nat} {x3 : (List Int)} {A1 : Option Addr} {c2 : Nat} {res : (List Int)} (hF : slices_SortFunc_uint16_uint16 N x3 = some res) {w0 w : World} {T : List Chunk} (hw : St w0.heap.size w0 ([cR (eI .u16) 1 A1 c2 22 x3] ++ T) w) :
    Calls Try.prog 49 (List.toArray [.slice A1 (x3).length c2, .func (.func 50) #[] #[]]) w (fun e w' => ∃ g : Unit, ((res).length = (x3).length) ∧ e = .returned (.tuple #[]) ∧ St w0.heap.size w0 ([cR (eI .u16) 1 A1 c2 22 res] ++ T) w') := by
  refine W.enter (n := 14) Try.func49 rfl rfl Sub.refl (by simp) hw fun R hR => ?_
  unfold slices_SortFunc_uint16_uint16 at hF
  -- region 0: sort.go:31
  refine W.seqR fun Q1 hQ1 => ?_
  refine WL.q (Y.move (.pl rfl)) rfl ?_
  refine WL.q (Y.len Try.underlying71 (.pl rfl)) rfl ?_
  refine WL.q (Y.assign (.pl rfl)) rfl ?_
  refine WL.next hQ1 (.cons (i := 0) rfl (.cons (i := 1) rfl (.cons (i := 4) rfl (.nil)))) ?_
  -- region 1: sort.go:32
  refine W.reg ?_
  refine WL.q (Y.move (.pl rfl)) rfl ?_
  refine WL.q (Y.move (.pl rfl)) rfl ?_
  refine WL.q (Y.move (.pl rfl)) rfl ?_
  refine WL.q (Y.conv Try.underlying3 Try.underlying63 (.pl rfl)) rfl ?_
  obtain ⟨r4, hr4, hF⟩ := bnd hF
  refine WL.step (WO.callP isGo63 (.cons (.pl rfl) (.nil)) rfl (fun w hw => math_bits_Len_ok (hr4) w ) ?_)
  refine WL.q (Y.move (.pl rfl)) rfl ?_
  obtain ⟨r5, hr5, hF⟩ := bnd hF
  refine WL.step (WO.call (γ := Unit) (fun g => .tuple #[]) (fun g => ([cR (eI .u16) 1 A1 c2 22 r5] ++ T)) (fun _ => (r5).length = (x3).length) isGo62 (.cons (.pl rfl) (.cons (.pl rfl) (.cons (.pl rfl) (.cons (.pl rfl) (.cons (.pl rfl) (.nil)))))) rfl (fun w hw => slices_pdqsortCmpFunc_uint16_ok (T := ([] ++ T)) (hr5) (hw.pickK 1 [0] rfl) ) ?_)
  rintro _ hl6
  refine WL.nil ?_
  obtain rfl := Option.some.inj hF
  refine W.endV (fn := Try.f49) (vs := []) Try.results49 trivial (fun _ _ h => h) (fun w hw => ?_)
  exact hR _ _ ⟨(), (by simp [hl6]), rfl, (hw.pickK 1 [0] rfl)⟩

def slices_Compact_uint16_uint16_L51 (N : Nat) (k4 : Int) : ((List Int) × Int × Int) → Option (((List Int) × Int × Int) ⊕ ((List Int) × Int))
  | (v12, k14, k216) =>
    cond (decide (k216 < (((v12.drop k4.toNat)).length : Int)))
      (bd (ix (v12.drop k4.toNat) k216) fun (x17 : Int) =>
      ck (ok64 (k216 - 1)) <|
      bd (ix (v12.drop k4.toNat) (k216 - 1)) fun (x19 : Int) =>
      cond (!(decide (x17 = x19)))
        (bd (ix (v12.drop k4.toNat) k216) fun (x20 : Int) =>
        bd (ix v12 k14) fun (x21 : Int) =>
        ck (ok64 (k14 + 1)) <|
        ck (ok64 (k216 + 1)) <|
        some (.inl ((v12.set k14.toNat x20), (k14 + 1), (k216 + 1))))
        (ck (ok64 (k216 + 1)) <|
        some (.inl (v12, k14, (k216 + 1)))))
      (some (.inr (v12, k14)))

def slices_Compact_uint16_uint16_L47 (N : Nat) (s3 : (List Int)) : Int → Option (Int ⊕ (Unit ⊕ (List Int)))
  | k4 =>
    cond (decide (k4 < ((s3).length : Int)))
      (bd (α := (Unit ⊕ (List Int))) (bd (ix s3 k4) fun (x5 : Int) =>
        ck (ok64 (k4 - 1)) <|
        bd (ix s3 (k4 - 1)) fun (x7 : Int) =>
        cond (decide (x5 = x7))
          (ck (slB (s3).length k4 ((s3).length : Int)) <|
          bd (α := ((List Int) × Int)) (iter (slices_Compact_uint16_uint16_L51 N k4) N (s3, k4, 1)) <|
          fun (v9, k11) => 
            ck (slB (v9).length k11 ((v9).length : Int)) <|
            ck (slB ((ovr v9 k11.toNat (List.replicate ((v9.drop k11.toNat)).length (0 : Int)))).length 0 k11) <|
            some (.inr ((ovr v9 k11.toNat (List.replicate ((v9.drop k11.toNat)).length (0 : Int))).take k11.toNat)))
          (some (.inl ()))) <|
      Sum.elim (fun _ => 
        ck (ok64 (k4 + 1)) <|
        some (.inl (k4 + 1))) (fun p => some (.inr (.inr p))))
      (some (.inr (.inl ())))

def slices_Compact_uint16_uint16 (N : Nat) (s3 : (List Int)) : Option (List Int) :=
  cond (decide (((s3).length : Int) < 2))
    (some s3)
    (bd (α := (Unit ⊕ (List Int))) (iter (slices_Compact_uint16_uint16_L47 N s3) N 1) <|
    Sum.elim (fun _ => 
      some s3) (fun p => some p))

theorem slices_Compact_uint16_uint16_ok {N : Nat} {s3 : (List Int)} {A1 : Option Addr} {c2 : Nat} {res : (List Int)} (hF : slices_Compact_uint16_uint16 N s3 = some res) {w0 w : World} {T : List Chunk} (hw : St w0.heap.size w0 ([cR (eI .u16) 1 A1 c2 22 s3] ++ T) w) :
    Calls Try.prog 52 (List.toArray [.slice A1 (s3).length c2]) w (fun e w' => ∃ g : Unit, (True) ∧ e = .returned (.slice A1 (res).length c2) ∧ St w0.heap.size w0 ([cR (eI .u16) 1 A1 c2 22 res] ++ T) w') := by
  refine W.enter (n := 61) Try.func52 rfl rfl Sub.refl (by simp) hw fun R hR => ?_
  unfold slices_Compact_uint16_uint16 at hF
  -- region 0: slices.go:371
  refine W.seqR fun Q1 hQ1 => ?_
  refine WL.q (Y.assign (.pl rfl)) rfl ?_
  refine WL.next hQ1 (.cons (i := 0) rfl (.nil)) ?_
  refine W.seq fun K2 hK2 => ?_
  -- region 1: slices.go:372
  refine W.seqR fun Q3 hQ3 => ?_
  refine WL.q (Y.move (.pl rfl)) rfl ?_
  refine WL.q (Y.len Try.underlying71 (.pl rfl)) rfl ?_
  refine WL.q (Y.lss (.pl rfl) (.pl rfl)) rfl ?_
  refine WL.next hQ3 (.cons (i := 0) rfl (.cons (i := 8) rfl (.nil))) ?_
  refine W.cond (.pl rfl) (fun hC4 => ?_) (fun hC4 => ?_)
  · replace hF := cpos hC4 hF
    -- region 2: slices.go:373
    refine W.seqR fun Q5 hQ5 => ?_
    refine WL.q (Y.move (.pl rfl)) rfl ?_
    refine WL.q (Y.assign (.pl rfl)) rfl ?_
    refine WL.next hQ5 (.cons (i := 2) rfl (.nil)) ?_
    obtain rfl := Option.some.inj hF
    refine W.retV (fn := Try.f52) (vs := [.slice A1 (s3).length c2]) Try.results52 ⟨.tmp rfl, trivial⟩ (fun _ _ h => h) (fun w hw => ?_)
    exact hR _ _ ⟨(), trivial, rfl, (hw.pickK 1 [0] rfl)⟩
  · replace hF := cneg hC4 hF
    refine W.skip ?_
    refine W.go hK2 (.cons (i := 0) rfl (.nil)) ?_
    obtain ⟨o6, hF6, hF⟩ := bnd hF
    refine W.join0 (Em := []) (M := ([cR (eI .u16) 1 A1 c2 22 s3] ++ T)) (I := (.inl ()) = o6) (.cons (i := 0) rfl (.nil)) (fun K7 hK7 => ?_) ?_
    · -- up to
      -- region 3: slices.go:375
      refine W.seqR fun Q8 hQ8 => ?_
      refine WL.q (Y.assign (.pl rfl)) rfl ?_
      refine WL.next hQ8 (.cons (i := 0) rfl (.cons (i := 3) rfl (.nil))) ?_
      refine W.block ?_
      refine W.loop1 (Em := fun (k4 : Int) => [(3, .int .i64 k4)]) (M := fun k4 => ([cR (eI .u16) 1 A1 c2 22 s3] ++ T)) (I := fun k4 k9 => iter (slices_Compact_uint16_uint16_L47 N s3) k9 k4 = some o6) 1 N (hF6) (.cons rfl (.nil)) (.cons (i := 0) rfl (.nil)) (fun w hw => hw.pickK 1 [0] rfl) (fun k4 k9 hI K10 hK10 => ?_)
      obtain ⟨k9, t9, rfl, hF9, hN9⟩ := iter_step hI
      refine W.seq fun K11 hK11 => ?_
      -- region 4: slices.go:375
      refine W.seqR fun Q12 hQ12 => ?_
      refine WL.q (Y.move (.pl rfl)) rfl ?_
      refine WL.q (Y.move (.pl rfl)) rfl ?_
      refine WL.q (Y.len Try.underlying71 (.pl rfl)) rfl ?_
      refine WL.q (Y.lss (.pl rfl) (.pl rfl)) rfl ?_
      refine WL.next hQ12 (.cons (i := 0) rfl (.cons (i := 3) rfl (.cons (i := 13) rfl (.nil)))) ?_
      refine W.cond (.pl rfl) (fun hC13 => ?_) (fun hC13 => ?_)
      · replace hF9 := cpos hC13 hF9
        refine W.skip ?_
        refine W.go hK11 (.cons (i := 0) rfl (.cons (i := 3) rfl (.nil))) ?_
        obtain ⟨o14, hF14, hF9⟩ := bnd hF9
        refine W.join0 (Em := []) (M := ([cR (eI .u16) 1 A1 c2 22 s3] ++ T)) (I := (.inl ()) = o14) (.cons (i := 0) rfl (.cons (i := 3) rfl (.nil))) (fun K15 hK15 => ?_) ?_
        · -- up to
          refine W.block ?_
          -- region 6: slices.go:376
          refine W.seqD (by kernel_rfl) (by kernel_rfl) fun R16 hR16 => ?_
          refine WD.q (Y.move (.pl rfl)) rfl ?_
          refine WD.q (Y.move (.pl rfl)) rfl ?_
          obtain ⟨x5, hx5, hF14⟩ := bnd hF14
          refine WD.q (Y.rowEl Try.underlying71 cells22 (i := 0) rfl (.pl rfl) rfl (.pl rfl) (ix_lt (hx5))) rfl ?_
          refine WD.q (Y.loadR (enc := (eI .u16)) (v := .int .u16 x5) (a := x5) (idx := k4) (j := 0) Try.underlying22 rfl (fun _ => rfl) (i := 0) rfl (.pl rfl) (ix_get (hx5)) rfl rfl) rfl ?_
          refine WD.q (Y.move (.pl rfl)) rfl ?_
          refine WD.q (Y.move (.pl rfl)) rfl ?_
          obtain ⟨hk6, hF14⟩ := ckh hF14
          refine WD.q (Y.sub (.pl rfl) (.pl rfl) (ok64_lt (hk6))) rfl ?_
          obtain ⟨x7, hx7, hF14⟩ := bnd hF14
          refine WD.q (Y.rowEl Try.underlying71 cells22 (i := 0) rfl (.pl rfl) rfl (.pl rfl) (ix_lt (hx7))) rfl ?_
          refine WD.q (Y.loadR (enc := (eI .u16)) (v := .int .u16 x7) (a := x7) (idx := (k4 - 1)) (j := 0) Try.underlying22 rfl (fun _ => rfl) (i := 0) rfl (.pl rfl) (ix_get (hx7)) rfl rfl) rfl ?_
          refine WD.q (Y.eql (.pl rfl) (.pl rfl)) rfl ?_
          refine WD.next hR16 (.cons (i := 0) rfl (.cons (i := 3) rfl (.cons (i := 25) rfl (.nil)))) ?_
          refine W.cond (.pl rfl) (fun hC17 => ?_) (fun hC17 => ?_)
          · replace hF14 := cpos hC17 hF14
            -- region 7: slices.go:377
            refine W.seqR fun Q18 hQ18 => ?_
            refine WL.q (Y.move (.pl rfl)) rfl ?_
            refine WL.q (Y.move (.pl rfl)) rfl ?_
            obtain ⟨hk8, hF14⟩ := ckh hF14
            refine WL.q (Y.sliceR1 Try.underlying71 cells22 (i := 0) rfl (.pl rfl) rfl (.pl rfl) (hk8)) rfl ?_
            refine WL.q (Y.assign (.pl rfl)) rfl ?_
            refine WL.next hQ18 (.cons (i := 0) rfl (.cons (i := 3) rfl (.cons (i := 4) rfl (.nil)))) ?_
            obtain ⟨o19, hF19, hF14⟩ := bnd hF14
            refine W.join2 (Em := fun (v9 : (List Int)) (k11 : Int) => [(0, .slice A1 (v9).length c2), (3, .int .i64 k11)]) (M := fun v9 k11 => ([cR (eI .u16) 1 A1 c2 22 v9] ++ T)) (I := fun v9 k11 => (v9, k11) = o19 ∧ (v9).length = (s3).length) (.nil) (fun K20 hK20 => ?_) ?_
            · -- up to
              -- region 8: slices.go:378
              refine W.seqR fun Q21 hQ21 => ?_
              refine WL.q (Y.assign (.pl rfl)) rfl ?_
              refine WL.next hQ21 (.cons (i := 0) rfl (.cons (i := 3) rfl (.cons (i := 4) rfl (.cons (i := 5) rfl (.nil))))) ?_
              refine W.block ?_
              refine W.loop3 (Em := fun (v12 : (List Int)) (k14 : Int) (k216 : Int) => [(0, .slice A1 (v12).length c2), (3, .int .i64 k14), (4, .slice (subA A1 c2 k4.toNat 1) ((v12.drop k4.toNat)).length (c2 - k4.toNat)), (5, .int .i64 k216)]) (M := fun v12 k14 k216 => ([cR (eI .u16) 1 A1 c2 22 v12] ++ T)) (I := fun v12 k14 k216 k22 => iter (slices_Compact_uint16_uint16_L51 N k4) k22 (v12, k14, k216) = some o19 ∧ (v12).length = (s3).length ∧ slB (v12).length k4 ((v12).length : Int) = true) s3 k4 1 N (⟨hF19, (by simp), (hk8)⟩) (.cons rfl (.cons rfl (.cons rfl (.cons rfl (.nil))))) (.nil) (fun w hw => hw.pickK 1 [0] rfl) (fun v12 k14 k216 k22 hI K23 hK23 => ?_)
              obtain ⟨hI, hl13, hs15⟩ := hI
              obtain ⟨k22, t22, rfl, hF22, hN22⟩ := iter_step hI
              refine W.seq fun K24 hK24 => ?_
              -- region 9: slices.go:378
              refine W.seqR fun Q25 hQ25 => ?_
              refine WL.q (Y.move (.pl rfl)) rfl ?_
              refine WL.q (Y.move (.pl rfl)) rfl ?_
              refine WL.q (Y.len Try.underlying71 (.pl rfl)) rfl ?_
              refine WL.q (Y.lss (.pl rfl) (.pl rfl)) rfl ?_
              refine WL.next hQ25 (.cons (i := 0) rfl (.cons (i := 3) rfl (.cons (i := 4) rfl (.cons (i := 5) rfl (.cons (i := 32) rfl (.nil)))))) ?_
              refine W.cond (.pl rfl) (fun hC26 => ?_) (fun hC26 => ?_)
              · replace hF22 := cpos hC26 hF22
                refine W.skip ?_
                refine W.go hK24 (.cons (i := 0) rfl (.cons (i := 3) rfl (.cons (i := 4) rfl (.cons (i := 5) rfl (.nil))))) ?_
                refine W.seq fun K27 hK27 => ?_
                refine W.block ?_
                -- region 11: slices.go:379
                refine W.seqD (by kernel_rfl) (by kernel_rfl) fun R28 hR28 => ?_
                refine WD.q (Y.move (.pl rfl)) rfl ?_
                refine WD.q (Y.move (.pl rfl)) rfl ?_
                obtain ⟨x17, hx17, hF22⟩ := bnd hF22
                refine WD.q (Y.viewEl (xs := v12) Try.underlying71 cells22 (i := 0) rfl (.pl rfl) (.pl rfl) (slB_le (hs15)).1 (ix_lt (hx17)) (ix_lt (ix_view1 (slB_le (hs15)).1 (hx17))).2) rfl ?_
                refine WD.q (Y.loadR (enc := (eI .u16)) (v := .int .u16 x17) (a := x17) (idx := (k4 + k216)) (j := 0) Try.underlying22 rfl (fun _ => rfl) (i := 0) rfl (.pl rfl) (ix_get (ix_view1 (slB_le (hs15)).1 (hx17))) rfl rfl) rfl ?_
                refine WD.q (Y.move (.pl rfl)) rfl ?_
                refine WD.q (Y.move (.pl rfl)) rfl ?_
                obtain ⟨hk18, hF22⟩ := ckh hF22
                refine WD.q (Y.sub (.pl rfl) (.pl rfl) (ok64_lt (hk18))) rfl ?_
                obtain ⟨x19, hx19, hF22⟩ := bnd hF22
                refine WD.q (Y.viewEl (xs := v12) Try.underlying71 cells22 (i := 0) rfl (.pl rfl) (.pl rfl) (slB_le (hs15)).1 (ix_lt (hx19)) (ix_lt (ix_view1 (slB_le (hs15)).1 (hx19))).2) rfl ?_
                refine WD.q (Y.loadR (enc := (eI .u16)) (v := .int .u16 x19) (a := x19) (idx := (k4 + (k216 - 1))) (j := 0) Try.underlying22 rfl (fun _ => rfl) (i := 0) rfl (.pl rfl) (ix_get (ix_view1 (slB_le (hs15)).1 (hx19))) rfl rfl) rfl ?_
                refine WD.q (Y.neq (.pl rfl) (.pl rfl)) rfl ?_
                refine WD.next hR28 (.cons (i := 0) rfl (.cons (i := 3) rfl (.cons (i := 4) rfl (.cons (i := 5) rfl (.cons (i := 44) rfl (.nil)))))) ?_
                refine W.cond (.pl rfl) (fun hC29 => ?_) (fun hC29 => ?_)
                · replace hF22 := cpos hC29 hF22
                  -- region 12: slices.go:380
                  refine W.seqR fun Q30 hQ30 => ?_
                  refine WL.q (Y.move (.pl rfl)) rfl ?_
                  refine WL.q (Y.move (.pl rfl)) rfl ?_
                  refine WL.q (Y.move (.pl rfl)) rfl ?_
                  refine WL.q (Y.move (.pl rfl)) rfl ?_
                  obtain ⟨x20, hx20, hF22⟩ := bnd hF22
                  refine WL.q (Y.viewEl (xs := v12) Try.underlying71 cells22 (i := 0) rfl (.pl rfl) (.pl rfl) (slB_le (hs15)).1 (ix_lt (hx20)) (ix_lt (ix_view1 (slB_le (hs15)).1 (hx20))).2) rfl ?_
                  refine WL.q (Y.loadR (enc := (eI .u16)) (v := .int .u16 x20) (a := x20) (idx := (k4 + k216)) (j := 0) Try.underlying22 rfl (fun _ => rfl) (i := 0) rfl (.pl rfl) (ix_get (ix_view1 (slB_le (hs15)).1 (hx20))) rfl rfl) rfl ?_
                  obtain ⟨x21, hx21, hF22⟩ := bnd hF22
                  refine WL.q (Y.rowEl Try.underlying71 cells22 (i := 0) rfl (.pl rfl) rfl (.pl rfl) (ix_lt (hx21))) rfl ?_
                  refine WL.step (WO.storeS (enc := (eI .u16)) (a := x21) (a' := x20) (idx := k14) (j := 0) cells22 (.pl rfl) (.pl rfl) rfl (fun _ => rfl) (i := 0) rfl (ix_get (hx21)) rfl (by decide) rfl ?_)
                  refine WL.next hQ30 (.cons (i := 0) rfl (.cons (i := 3) rfl (.cons (i := 4) rfl (.cons (i := 5) rfl (.nil))))) ?_
                  -- region 13: slices.go:381
                  refine W.reg ?_
                  refine WL.q (Y.move (.pl rfl)) rfl ?_
                  obtain ⟨hk22, hF22⟩ := ckh hF22
                  refine WL.q (Y.add (.pl rfl) (.pl rfl) (ok64_lt (hk22))) rfl ?_
                  refine WL.q (Y.assign (.pl rfl)) rfl ?_
                  refine WL.nil ?_
                  refine W.go hK27 (.cons (i := 0) rfl (.cons (i := 3) rfl (.cons (i := 4) rfl (.cons (i := 5) rfl (.nil))))) ?_
                  -- region 10: slices.go:378
                  refine W.reg ?_
                  refine WL.q (Y.move (.pl rfl)) rfl ?_
                  obtain ⟨hk23, hF22⟩ := ckh hF22
                  refine WL.q (Y.add (.pl rfl) (.pl rfl) (ok64_lt (hk23))) rfl ?_
                  refine WL.q (Y.assign (.pl rfl)) rfl ?_
                  refine WL.nil ?_
                  obtain rfl := Option.some.inj hF22
                  exact W.again3 hK23 (v12.set k14.toNat x20) (k14 + 1) (k216 + 1) k22 ⟨hN22, (by simp [hl13]), ((by simpa only [List.length_set, hl13] using (hs15)))⟩ (Nat.lt_succ_self _) (.cons (eqSl (by simp [hl13])) (.cons rfl (.cons (eqSl (by simp [hl13])) (.cons rfl (.nil))))) (.nil) (fun w hw => hw.pickK 1 [0] rfl)
                · replace hF22 := cneg hC29 hF22
                  refine W.skip ?_
                  refine W.go hK27 (.cons (i := 0) rfl (.cons (i := 3) rfl (.cons (i := 4) rfl (.cons (i := 5) rfl (.nil))))) ?_
                  -- region 10: slices.go:378
                  refine W.reg ?_
                  refine WL.q (Y.move (.pl rfl)) rfl ?_
                  obtain ⟨hk24, hF22⟩ := ckh hF22
                  refine WL.q (Y.add (.pl rfl) (.pl rfl) (ok64_lt (hk24))) rfl ?_
                  refine WL.q (Y.assign (.pl rfl)) rfl ?_
                  refine WL.nil ?_
                  obtain rfl := Option.some.inj hF22
                  exact W.again3 hK23 v12 k14 (k216 + 1) k22 ⟨hN22, (by simp [hl13]), (hs15)⟩ (Nat.lt_succ_self _) (.cons rfl (.cons rfl (.cons rfl (.cons rfl (.nil))))) (.nil) (fun w hw => hw.pickK 1 [0] rfl)
              · replace hF22 := cneg hC26 hF22
                refine W.exit ?_
                obtain rfl := Option.some.inj hF22
                exact W.joinAt2 hK20 v12 k14 (⟨einr hN22, (by simp [hl13])⟩) (.cons rfl (.cons rfl (.nil))) (.nil) (fun w hw => hw.pickK 1 [0] rfl)
            · -- behind
              rintro v9 k11 ⟨rfl, hl10⟩
              -- region 14: slices.go:385
              refine W.seqR fun Q34 hQ34 => ?_
              refine WL.q (Y.move (.pl rfl)) rfl ?_
              refine WL.q (Y.move (.pl rfl)) rfl ?_
              obtain ⟨hk25, hF14⟩ := ckh hF14
              refine WL.q (Y.sliceR1 Try.underlying71 cells22 (i := 0) rfl (.pl rfl) rfl (.pl rfl) (hk25)) rfl ?_
              refine WL.step (WO.clearV (enc := (eI .u16)) (sz := 1) (z := 0) (lo := k11) (xs := v9) Try.underlying71 zero22 rfl (fun _ => rfl) oneI (i := 0) rfl (.pl rfl) (fun _ => rfl) (slB_le (hk25)).1 (fit1 (hk25)) rfl ?_)
              refine WL.next hQ34 (.cons (i := 0) rfl (.cons (i := 3) rfl (.nil))) ?_
              -- region 15: slices.go:386
              refine W.seqR fun Q35 hQ35 => ?_
              refine WL.q (Y.move (.pl rfl)) rfl ?_
              refine WL.q (Y.move (.pl rfl)) rfl ?_
              obtain ⟨hk26, hF14⟩ := ckh hF14
              refine WL.q (Y.sliceR0 Try.underlying71 cells22 (i := 0) rfl (.pl rfl) (by simp [hl10]) (.pl rfl) (hk26)) rfl ?_
              refine WL.q (Y.assign (.pl rfl)) rfl ?_
              refine WL.next hQ35 (.cons (i := 2) rfl (.nil)) ?_
              obtain rfl := Option.some.inj hF14
              obtain rfl := Option.some.inj hF9
              obtain rfl := einr hN9
              obtain rfl := Option.some.inj hF
              refine W.retV (fn := Try.f52) (vs := [.slice A1 (((ovr v9 k11.toNat (List.replicate ((v9.drop k11.toNat)).length (0 : Int))).take k11.toNat)).length c2]) Try.results52 ⟨.tmp rfl, trivial⟩ (fun _ _ h => h) (fun w hw => ?_)
              exact hR _ _ ⟨(), trivial, rfl, ((St.trunc (enc := (eI .u16)) (sz := 1) (j := k11.toNat) hw (fun _ => rfl) (i := 0) rfl).pickK 1 [0] rfl)⟩
          · replace hF14 := cneg hC17 hF14
            refine W.skip ?_
            exact W.joinAt0 hK15  (Option.some.inj hF14) (.nil) (.cons (i := 0) rfl (.cons (i := 3) rfl (.nil))) (fun w hw => hw.pickK 1 [0] rfl)
        · -- behind
          rintro  rfl
          -- region 5: slices.go:375
          refine W.reg ?_
          refine WL.q (Y.move (.pl rfl)) rfl ?_
          obtain ⟨hk27, hF9⟩ := ckh hF9
          refine WL.q (Y.add (.pl rfl) (.pl rfl) (ok64_lt (hk27))) rfl ?_
          refine WL.q (Y.assign (.pl rfl)) rfl ?_
          refine WL.nil ?_
          obtain rfl := Option.some.inj hF9
          exact W.again1 hK10 (k4 + 1) k9 hN9 (Nat.lt_succ_self _) (.cons rfl (.nil)) (.cons (i := 0) rfl (.nil)) (fun w hw => hw.pickK 1 [0] rfl)
      · replace hF9 := cneg hC13 hF9
        refine W.exit ?_
        obtain rfl := Option.some.inj hF9
        exact W.joinAt0 hK7  (einr hN9) (.nil) (.cons (i := 0) rfl (.nil)) (fun w hw => hw.pickK 1 [0] rfl)
    · -- behind
      rintro  rfl
      -- region 16: slices.go:389
      refine W.seqR fun Q37 hQ37 => ?_
      refine WL.q (Y.move (.pl rfl)) rfl ?_
      refine WL.q (Y.assign (.pl rfl)) rfl ?_
      refine WL.next hQ37 (.cons (i := 2) rfl (.nil)) ?_
      obtain rfl := Option.some.inj hF
      refine W.retV (fn := Try.f52) (vs := [.slice A1 (s3).length c2]) Try.results52 ⟨.tmp rfl, trivial⟩ (fun _ _ h => h) (fun w hw => ?_)
      exact hR _ _ ⟨(), trivial, rfl, (hw.pickK 1 [0] rfl)⟩

def slices_Index_uint16_uint16_L3 (N : Nat) (s1 : (List Int)) (v6 : Int) : Int → Option (Int ⊕ (Unit ⊕ Int))
  | v7 =>
    cond (decide (v7 < ((s1).length : Int)))
      (bd (ix s1 v7) fun (x8 : Int) =>
      cond (decide (v6 = x8))
        (some (.inr (.inr v7)))
        (ck (ok64 (v7 + 1)) <|
        some (.inl (v7 + 1))))
      (some (.inr (.inl ())))

def slices_Index_uint16_uint16 (N : Nat) (s1 : (List Int)) (v6 : Int) : Option Int :=
  bd (α := (Unit ⊕ Int)) (iter (slices_Index_uint16_uint16_L3 N s1 v6) N 0) <|
  Sum.elim (fun _ => 
    some (-1)) (fun p => some p)

theorem slices_Index_uint16_uint16_ok {N : Nat} {s1 : (List Int)} {v6 : Int} {res : Int} (hF : slices_Index_uint16_uint16 N s1 v6 = some res) (w : World) {v5 : Value} (hs4 : SlIn (eI .u16) 1 w v5 s1) :
    Pure Try.prog 53 [v5, .int .u16 v6] w (.int .i64 res) := by
  obtain ⟨A2, c3, rfl, hcc3, hs4⟩ := hs4.form
  refine W.enter (n := 19) Try.func53 rfl rfl Sub.refl (by simp) (St.start w) fun R hR => ?_
  unfold slices_Index_uint16_uint16 at hF
  -- region 0: slices.go:96
  refine W.seqR fun Q1 hQ1 => ?_
  refine WL.q (Y.assign (.pl rfl)) rfl ?_
  refine WL.next hQ1 (.cons (i := 0) rfl (.cons (i := 1) rfl (.nil))) ?_
  obtain ⟨o2, hF2, hF⟩ := bnd hF
  refine W.join0 (Em := []) (M := []) (I := (.inl ()) = o2) (.nil) (fun K3 hK3 => ?_) ?_
  · -- up to
    -- region 1: slices.go:97
    refine W.seqR fun Q4 hQ4 => ?_
    refine WL.q (Y.move (.pl rfl)) rfl ?_
    refine WL.q (Y.len Try.underlying71 (.pl rfl)) rfl ?_
    refine WL.q (Y.move (.pl rfl)) rfl ?_
    refine WL.next hQ4 (.cons (i := 0) rfl (.cons (i := 1) rfl (.cons (i := 7) rfl (.cons (i := 8) rfl (.nil))))) ?_
    refine W.block ?_
    refine W.loop1 (Em := fun (v7 : Int) => [(8, .int .i64 v7)]) (M := fun v7 => []) (I := fun v7 k5 => iter (slices_Index_uint16_uint16_L3 N s1 v6) k5 v7 = some o2) 0 N (hF2) (.cons rfl (.nil)) (.cons (i := 0) rfl (.cons (i := 1) rfl (.cons (i := 7) rfl (.nil)))) (fun w hw => hw.pick [] rfl) (fun v7 k5 hI K6 hK6 => ?_)
    obtain ⟨k5, t5, rfl, hF5, hN5⟩ := iter_step hI
    -- region 2: slices.go:97
    refine W.seqR fun Q7 hQ7 => ?_
    refine WL.q (Y.lss (.pl rfl) (.pl rfl)) rfl ?_
    refine WL.next hQ7 (.cons (i := 0) rfl (.cons (i := 1) rfl (.cons (i := 7) rfl (.cons (i := 8) rfl (.cons (i := 9) rfl (.nil)))))) ?_
    refine W.seq fun K8 hK8 => ?_
    refine W.cond (.pl rfl) (fun hC9 => ?_) (fun hC9 => ?_)
    · replace hF5 := cpos hC9 hF5
      refine W.skip ?_
      refine W.go hK8 (.cons (i := 0) rfl (.cons (i := 1) rfl (.cons (i := 7) rfl (.cons (i := 8) rfl (.nil))))) ?_
      refine W.seq fun K10 hK10 => ?_
      refine W.block ?_
      -- region 3: slices.go:97
      refine W.seqR fun Q11 hQ11 => ?_
      refine WL.q (Y.move (.pl rfl)) rfl ?_
      refine WL.q (Y.assign (.pl rfl)) rfl ?_
      refine WL.next hQ11 (.cons (i := 0) rfl (.cons (i := 1) rfl (.cons (i := 5) rfl (.cons (i := 7) rfl (.cons (i := 8) rfl (.nil)))))) ?_
      -- region 4: slices.go:98
      refine W.seqR fun Q12 hQ12 => ?_
      refine WL.q (Y.move (.pl rfl)) rfl ?_
      refine WL.q (Y.move (.pl rfl)) rfl ?_
      refine WL.q (Y.move (.pl rfl)) rfl ?_
      obtain ⟨x8, hx8, hF5⟩ := bnd hF5
      refine WL.q (Y.slEl Try.underlying71 cells22 hs4 (.pl rfl) (.pl rfl) (ix_lt (hx8))) rfl ?_
      refine WL.q (Y.loadS (enc := (eI .u16)) (v := .int .u16 x8) (j := 0) Try.underlying22 rfl hs4 (.pl rfl) (hx8) rfl rfl) rfl ?_
      refine WL.q (Y.eql (.pl rfl) (.pl rfl)) rfl ?_
      refine WL.next hQ12 (.cons (i := 0) rfl (.cons (i := 1) rfl (.cons (i := 5) rfl (.cons (i := 7) rfl (.cons (i := 8) rfl (.cons (i := 16) rfl (.nil))))))) ?_
      refine W.cond (.pl rfl) (fun hC13 => ?_) (fun hC13 => ?_)
      · replace hF5 := cpos hC13 hF5
        -- region 5: slices.go:99
        refine W.seqR fun Q14 hQ14 => ?_
        refine WL.q (Y.move (.pl rfl)) rfl ?_
        refine WL.q (Y.assign (.pl rfl)) rfl ?_
        refine WL.next hQ14 (.cons (i := 4) rfl (.nil)) ?_
        obtain rfl := Option.some.inj hF5
        obtain rfl := einr hN5
        obtain rfl := Option.some.inj hF
        refine W.retV (fn := Try.f53) (vs := [.int .i64 v7]) Try.results53 ⟨.tmp rfl, trivial⟩ (fun _ _ h => h) (fun w hw => ?_)
        exact hR _ _ ⟨rfl, (hw.pick [] rfl)⟩
      · replace hF5 := cneg hC13 hF5
        refine W.skip ?_
        refine W.go hK10 (.cons (i := 0) rfl (.cons (i := 1) rfl (.cons (i := 7) rfl (.cons (i := 8) rfl (.nil))))) ?_
        -- region 6: slices.go:97
        refine W.reg ?_
        obtain ⟨hk9, hF5⟩ := ckh hF5
        refine WL.q (Y.add (.pl rfl) (.pl rfl) (ok64_lt (hk9))) rfl ?_
        refine WL.q (Y.move (.pl rfl)) rfl ?_
        refine WL.nil ?_
        obtain rfl := Option.some.inj hF5
        exact W.again1 hK6 (v7 + 1) k5 hN5 (Nat.lt_succ_self _) (.cons rfl (.nil)) (.cons (i := 0) rfl (.cons (i := 1) rfl (.cons (i := 7) rfl (.nil)))) (fun w hw => hw.pick [] rfl)
    · replace hF5 := cneg hC9 hF5
      refine W.exit ?_
      obtain rfl := Option.some.inj hF5
      exact W.joinAt0 hK3  (einr hN5) (.nil) (.nil) (fun w hw => hw.pick [] rfl)
  · -- behind
    rintro  rfl
    -- region 7: slices.go:102
    refine W.seqR fun Q16 hQ16 => ?_
    refine WL.q (Y.assign (.pl rfl)) rfl ?_
    refine WL.next hQ16 (.cons (i := 4) rfl (.nil)) ?_
    obtain rfl := Option.some.inj hF
    refine W.retV (fn := Try.f53) (vs := [.int .i64 (-1)]) Try.results53 ⟨.tmp rfl, trivial⟩ (fun _ _ h => h) (fun w hw => ?_)
    exact hR _ _ ⟨rfl, (hw.pick [] rfl)⟩

def spans_Make_L53 (N : Nat) (r1 : Rel) (v8 : Int) : ((List Int) × Int) → Option (((List Int) × Int) ⊕ (List Int))
  | (before10, v11) =>
    cond (decide (v11 < r1.n))
      (bd (ax 12 0 r1.after v8) fun (x12 : Int) =>
      cond (decide ((bandI .u16 (shrI .u16 x12 (IntKind.u64.wrap v11)) 1) = 1))
        (bd (ix before10 v11) fun (x13 : Int) =>
        bd (ix before10 v11) fun (x14 : Int) =>
        ck (ok64 (v11 + 1)) <|
        some (.inl ((before10.set v11.toNat (borI .u16 x13 (shlI .u16 1 (IntKind.u64.wrap v8)))), (v11 + 1))))
        (ck (ok64 (v11 + 1)) <|
        some (.inl (before10, (v11 + 1)))))
      (some (.inr before10))

def spans_Make_L51 (N : Nat) (r1 : Rel) : ((List Int) × Int) → Option (((List Int) × Int) ⊕ (List Int))
  | (before7, v8) =>
    cond (decide (v8 < r1.n))
      (bd (α := (List Int)) (iter (spans_Make_L53 N r1 v8) N (before7, 0)) <|
      fun (before9 : (List Int)) => 
        ck (ok64 (v8 + 1)) <|
        some (.inl (before9, (v8 + 1))))
      (some (.inr before7))

def spans_Make_L79 (N : Nat) (r23 : (List Int)) (v30 : Int) : (Int × Int) → Option ((Int × Int) ⊕ Int)
  | (To38, v39) =>
    cond (decide (v39 < ((r23).length : Int)))
      (bd (ix r23 v39) fun (x40 : Int) =>
      cond (decide ((bandI .u16 (shrI .u16 x40 (IntKind.u64.wrap v30)) 1) = 0))
        (ck (ok64 (v39 + 1)) <|
        some (.inl (v39, (v39 + 1))))
        (ck (ok64 (v39 + 1)) <|
        some (.inl (To38, (v39 + 1)))))
      (some (.inr To38))

def spans_Make_L75 (N : Nat) (r1 : Rel) (before6 : (List Int)) (r23 : (List Int)) : ((List Span) × Int) → Option (((List Span) × Int) ⊕ (List Span))
  | (out29, v30) =>
    cond (decide (v30 < r1.n))
      (bd (α := (List Span)) (bd (ix before6 v30) fun (x34 : Int) =>
        bd (slices_Index_uint16_uint16 N r23 x34) fun (r35 : Int) =>
        bd (α := Int) (iter (spans_Make_L79 N r23 v30) N (0, 0)) <|
        fun (To37 : Int) => 
          ck (limB 16 ((out29).length + (([(Span.mk r35 To37)] : List Span)).length)) <|
          some (out29 ++ ([(Span.mk r35 To37)] : List Span))) <|
      fun (out33 : (List Span)) => 
        ck (ok64 (v30 + 1)) <|
        some (.inl (out33, (v30 + 1))))
      (some (.inr out29))

def spans_Make (N : Nat) (r1 : Rel) : Option ((List Span) × Int) :=
  bd (order_Check N r1) fun (r3 : Int) =>
  cond (!(decide (r3 = 0)))
    (some ([], r3))
    (ck (mkB 2 r1.n) <|
    bd (α := (List Int)) (iter (spans_Make_L51 N r1) N ((List.replicate r1.n.toNat (0 : Int)), 0)) <|
    fun (before6 : (List Int)) => 
      ck (limB 2 (before6).length) <|
      bd (slices_SortFunc_uint16_uint16 N before6) fun (r21 : (List Int)) =>
      bd (slices_Compact_uint16_uint16 N r21) fun (r23 : (List Int)) =>
      bd (α := (List Span)) (iter (spans_Make_L75 N r1 before6 r23) N ([], 0)) <|
      fun (out26 : (List Span)) => 
        bd (spans_of N out26) fun (r48 : (List Int)) =>
        cond (!(decide (((out26).length : Int) = r1.n) && eqA 12 r48 r1.after))
          (some ([], 4))
          (some (out26, 0)))

theorem spans_Make_ok {N : Nat} {r1 : Rel} {res : ((List Span) × Int)} (hF : spans_Make N r1 = some res) (w : World) :
    Made Try.prog 28 [.agg (encRel r1).toArray] w (fun g : (Option Addr × Nat) => .tuple #[.slice g.1 (res.1).length g.2, .int .i64 res.2]) (fun g => [cR encSpan 2 g.1 g.2 43 res.1]) (fun _ => True) := by
  refine W.enter (n := 96) Try.func28 rfl rfl Sub.refl (by simp) (St.start w) fun R hR => ?_
  unfold spans_Make at hF
  -- region 0: spans.go:46
  refine W.seqR fun Q1 hQ1 => ?_
  refine WL.step (WO.boxA (.pl rfl) rfl fun b2 => ?_)
  refine WL.q (Y.assign (.pl rfl)) rfl ?_
  refine WL.q (Y.assign (.pl rfl)) rfl ?_
  refine WL.next hQ1 (.cons (i := 1) rfl (.nil)) ?_
  refine W.seq fun K2 hK2 => ?_
  -- region 1: spans.go:47
  refine W.seqR fun Q3 hQ3 => ?_
  refine WL.q (Y.loadBA (ds := (encRel r1)) Try.underlying25 rfl cells25 (.pl rfl) (i := 0) rfl rfl subW) rfl ?_
  obtain ⟨r3, hr3, hF⟩ := bnd hF
  refine WL.step (WO.callP isGo29 (.cons (.pl rfl) (.nil)) rfl (fun w hw => order_Check_ok (hr3) w ) ?_)
  refine WL.q (Y.assign (.pl rfl)) rfl ?_
  refine WL.next hQ3 (.cons (i := 1) rfl (.cons (i := 4) rfl (.nil))) ?_
  -- region 2: spans.go:47
  refine W.seqR fun Q4 hQ4 => ?_
  refine WL.q (Y.move (.pl rfl)) rfl ?_
  refine WL.q (Y.neq (.pl rfl) (.pl rfl)) rfl ?_
  refine WL.next hQ4 (.cons (i := 1) rfl (.cons (i := 4) rfl (.cons (i := 17) rfl (.nil)))) ?_
  refine W.cond (.pl rfl) (fun hC5 => ?_) (fun hC5 => ?_)
  · replace hF := cpos hC5 hF
    -- region 3: spans.go:48
    refine W.seqR fun Q6 hQ6 => ?_
    refine WL.q (Y.move (.pl rfl)) rfl ?_
    refine WL.q (Y.assign (.pl rfl)) rfl ?_
    refine WL.q (Y.assign (.pl rfl)) rfl ?_
    refine WL.next hQ6 (.cons (i := 2) rfl (.cons (i := 3) rfl (.nil))) ?_
    obtain rfl := Option.some.inj hF
    refine W.retV (fn := Try.f28) (vs := [.slice none 0 0, .int .i64 r3]) Try.results28 ⟨.tmp rfl, ⟨.tmp rfl, trivial⟩⟩ (fun _ _ h => h) (fun w hw => ?_)
    exact hR _ _ ⟨(none, 0), trivial, rfl, ((St.nilR (hw.pick [] rfl) encSpan 2 43).pick [0] rfl)⟩
  · replace hF := cneg hC5 hF
    refine W.skip ?_
    refine W.go hK2 (.cons (i := 1) rfl (.nil)) ?_
    -- region 4: spans.go:50
    refine W.seqR fun Q7 hQ7 => ?_
    refine WL.q (Y.fieldAddr0 (off := 0) (ft := 3) Try.underlying25 rfl cells3 (.pl rfl)) rfl ?_
    refine WL.q (Y.loadB (v := .int .i64 r1.n) Try.underlying3 rfl (.pl rfl) (i := 0) rfl (rfl)) rfl ?_
    obtain ⟨hk5, hF⟩ := ckh hF
    refine WL.step (WO.makeC (enc := (eI .u16)) (z := 0) Try.underlying71 mka22 rfl (.pl rfl) (hk5) rfl fun b4 => ?_)
    refine WL.q (Y.assign (.pl rfl)) rfl ?_
    refine WL.next hQ7 (.cons (i := 1) rfl (.cons (i := 5) rfl (.nil))) ?_
    obtain ⟨o8, hF8, hF⟩ := bnd hF
    refine W.join1 (Em := fun (before6 : (List Int)) => [(5, .slice (some ⟨b4, 0, none⟩) (before6).length r1.n.toNat)]) (M := fun before6 => [cBx b2 25 (encRel r1), cR (eI .u16) 1 (some ⟨b4, 0, none⟩) r1.n.toNat 22 before6]) (I := fun before6 => before6 = o8) (.cons (i := 1) rfl (.nil)) (fun K9 hK9 => ?_) ?_
    · -- up to
      -- region 5: spans.go:51
      refine W.seqR fun Q10 hQ10 => ?_
      refine WL.q (Y.fieldAddr0 (off := 0) (ft := 3) Try.underlying25 rfl cells3 (.pl rfl)) rfl ?_
      refine WL.q (Y.loadB (v := .int .i64 r1.n) Try.underlying3 rfl (.pl rfl) (i := 1) rfl (rfl)) rfl ?_
      refine WL.q (Y.move (.pl rfl)) rfl ?_
      refine WL.next hQ10 (.cons (i := 1) rfl (.cons (i := 5) rfl (.cons (i := 23) rfl (.cons (i := 24) rfl (.nil))))) ?_
      refine W.block ?_
      refine W.loop2 (Em := fun (before7 : (List Int)) (v8 : Int) => [(5, .slice (some ⟨b4, 0, none⟩) (before7).length r1.n.toNat), (24, .int .i64 v8)]) (M := fun before7 v8 => [cBx b2 25 (encRel r1), cR (eI .u16) 1 (some ⟨b4, 0, none⟩) r1.n.toNat 22 before7]) (I := fun before7 v8 k11 => iter (spans_Make_L51 N r1) k11 (before7, v8) = some o8) (List.replicate r1.n.toNat (0 : Int)) 0 N (hF8) (.cons rfl (.cons rfl (.nil))) (.cons (i := 1) rfl (.cons (i := 23) rfl (.nil))) (fun w hw => hw.pick [1, 0] rfl) (fun before7 v8 k11 hI K12 hK12 => ?_)
      obtain ⟨k11, t11, rfl, hF11, hN11⟩ := iter_step hI
      -- region 6: spans.go:51
      refine W.seqR fun Q13 hQ13 => ?_
      refine WL.q (Y.lss (.pl rfl) (.pl rfl)) rfl ?_
      refine WL.next hQ13 (.cons (i := 1) rfl (.cons (i := 5) rfl (.cons (i := 23) rfl (.cons (i := 24) rfl (.cons (i := 25) rfl (.nil)))))) ?_
      refine W.seq fun K14 hK14 => ?_
      refine W.cond (.pl rfl) (fun hC15 => ?_) (fun hC15 => ?_)
      · replace hF11 := cpos hC15 hF11
        refine W.skip ?_
        refine W.go hK14 (.cons (i := 1) rfl (.cons (i := 5) rfl (.cons (i := 23) rfl (.cons (i := 24) rfl (.nil))))) ?_
        obtain ⟨o16, hF16, hF11⟩ := bnd hF11
        refine W.join1 (Em := fun (before9 : (List Int)) => [(5, .slice (some ⟨b4, 0, none⟩) (before9).length r1.n.toNat)]) (M := fun before9 => [cBx b2 25 (encRel r1), cR (eI .u16) 1 (some ⟨b4, 0, none⟩) r1.n.toNat 22 before9]) (I := fun before9 => before9 = o16) (.cons (i := 1) rfl (.cons (i := 23) rfl (.cons (i := 24) rfl (.nil)))) (fun K17 hK17 => ?_) ?_
        · -- up to
          refine W.block ?_
          -- region 7: spans.go:51
          refine W.seqR fun Q18 hQ18 => ?_
          refine WL.q (Y.move (.pl rfl)) rfl ?_
          refine WL.q (Y.assign (.pl rfl)) rfl ?_
          refine WL.next hQ18 (.cons (i := 1) rfl (.cons (i := 5) rfl (.cons (i := 6) rfl (.cons (i := 23) rfl (.cons (i := 24) rfl (.nil)))))) ?_
          -- region 8: spans.go:52
          refine W.seqR fun Q19 hQ19 => ?_
          refine WL.q (Y.fieldAddr0 (off := 0) (ft := 3) Try.underlying25 rfl cells3 (.pl rfl)) rfl ?_
          refine WL.q (Y.loadB (v := .int .i64 r1.n) Try.underlying3 rfl (.pl rfl) (i := 0) rfl (rfl)) rfl ?_
          refine WL.q (Y.move (.pl rfl)) rfl ?_
          refine WL.next hQ19 (.cons (i := 1) rfl (.cons (i := 5) rfl (.cons (i := 6) rfl (.cons (i := 23) rfl (.cons (i := 24) rfl (.cons (i := 28) rfl (.cons (i := 29) rfl (.nil)))))))) ?_
          refine W.block ?_
          refine W.loop2 (Em := fun (before10 : (List Int)) (v11 : Int) => [(5, .slice (some ⟨b4, 0, none⟩) (before10).length r1.n.toNat), (29, .int .i64 v11)]) (M := fun before10 v11 => [cBx b2 25 (encRel r1), cR (eI .u16) 1 (some ⟨b4, 0, none⟩) r1.n.toNat 22 before10]) (I := fun before10 v11 k20 => iter (spans_Make_L53 N r1 v8) k20 (before10, v11) = some o16) before7 0 N (hF16) (.cons rfl (.cons rfl (.nil))) (.cons (i := 1) rfl (.cons (i := 6) rfl (.cons (i := 23) rfl (.cons (i := 24) rfl (.cons (i := 28) rfl (.nil)))))) (fun w hw => hw.pick [0, 1] rfl) (fun before10 v11 k20 hI K21 hK21 => ?_)
          obtain ⟨k20, t20, rfl, hF20, hN20⟩ := iter_step hI
          -- region 9: spans.go:52
          refine W.seqR fun Q22 hQ22 => ?_
          refine WL.q (Y.lss (.pl rfl) (.pl rfl)) rfl ?_
          refine WL.next hQ22 (.cons (i := 1) rfl (.cons (i := 5) rfl (.cons (i := 6) rfl (.cons (i := 23) rfl (.cons (i := 24) rfl (.cons (i := 28) rfl (.cons (i := 29) rfl (.cons (i := 30) rfl (.nil))))))))) ?_
          refine W.seq fun K23 hK23 => ?_
          refine W.cond (.pl rfl) (fun hC24 => ?_) (fun hC24 => ?_)
          · replace hF20 := cpos hC24 hF20
            refine W.skip ?_
            refine W.go hK23 (.cons (i := 1) rfl (.cons (i := 5) rfl (.cons (i := 6) rfl (.cons (i := 23) rfl (.cons (i := 24) rfl (.cons (i := 28) rfl (.cons (i := 29) rfl (.nil)))))))) ?_
            refine W.seq fun K25 hK25 => ?_
            refine W.block ?_
            -- region 10: spans.go:52
            refine W.seqR fun Q26 hQ26 => ?_
            refine WL.q (Y.move (.pl rfl)) rfl ?_
            refine WL.q (Y.assign (.pl rfl)) rfl ?_
            refine WL.next hQ26 (.cons (i := 1) rfl (.cons (i := 5) rfl (.cons (i := 6) rfl (.cons (i := 7) rfl (.cons (i := 23) rfl (.cons (i := 24) rfl (.cons (i := 28) rfl (.cons (i := 29) rfl (.nil))))))))) ?_
            -- region 11: spans.go:53
            refine W.seqR fun Q27 hQ27 => ?_
            refine WL.q (Y.move (.pl rfl)) rfl ?_
            refine WL.q (Y.fieldAddr0 (off := 1) (ft := 23) Try.underlying25 rfl cells23 (.pl rfl)) rfl ?_
            obtain ⟨x12, hx12, hF20⟩ := bnd hF20
            refine WL.q (Y.arrZ Try.underlying23 cells22 (.pl rfl) (.pl rfl) (ax_lt (hx12))) rfl ?_
            refine WL.q (Y.loadB (v := .int .u16 x12) Try.underlying22 rfl (.pl rfl) (i := 0) rfl (cellsA (pre := (Value.int .i64 r1.n :: [])) (off := 1) (post := []) (a := r1.after) (enc := (eI .u16)) (d := 0) (n := 12) (sz := 1) (j := 0) (fun _ => rfl) rfl (ax_nat (hx12)) (ax_get (hx12)) rfl)) rfl ?_
            refine WL.q (Y.move (.pl rfl)) rfl ?_
            refine WL.q (Y.conv Try.underlying3 Try.underlying63 (.pl rfl)) rfl ?_
            refine WL.q (Y.shr (.pl rfl) (.pl rfl) (wrapU_nn rfl _)) rfl ?_
            refine WL.q (Y.band (.pl rfl) (.pl rfl)) rfl ?_
            refine WL.q (Y.eql (.pl rfl) (.pl rfl)) rfl ?_
            refine WL.next hQ27 (.cons (i := 1) rfl (.cons (i := 5) rfl (.cons (i := 6) rfl (.cons (i := 7) rfl (.cons (i := 23) rfl (.cons (i := 24) rfl (.cons (i := 28) rfl (.cons (i := 29) rfl (.cons (i := 40) rfl (.nil)))))))))) ?_
            refine W.cond (.pl rfl) (fun hC28 => ?_) (fun hC28 => ?_)
            · replace hF20 := cpos hC28 hF20
              -- region 12: spans.go:54
              refine W.reg ?_
              refine WL.q (Y.move (.pl rfl)) rfl ?_
              refine WL.q (Y.move (.pl rfl)) rfl ?_
              obtain ⟨x13, hx13, hF20⟩ := bnd hF20
              refine WL.q (Y.litEl (xs := before10) Try.underlying71 cells22 (.pl rfl) rfl (.pl rfl) (ix_lt (hx13))) rfl ?_
              refine WL.q (Y.loadR (enc := (eI .u16)) (v := .int .u16 x13) (a := x13) (idx := v11) (j := 0) Try.underlying22 rfl (fun _ => rfl) (i := 1) rfl (.pl rfl) (ix_get (hx13)) rfl rfl) rfl ?_
              refine WL.q (Y.move (.pl rfl)) rfl ?_
              refine WL.q (Y.conv Try.underlying3 Try.underlying63 (.pl rfl)) rfl ?_
              refine WL.q (Y.shl (.pl rfl) (.pl rfl) (wrapU_nn rfl _)) rfl ?_
              refine WL.q (Y.bor (.pl rfl) (.pl rfl)) rfl ?_
              obtain ⟨x14, hx14, hF20⟩ := bnd hF20
              refine WL.q (Y.litEl (xs := before10) Try.underlying71 cells22 (.pl rfl) rfl (.pl rfl) (ix_lt (hx14))) rfl ?_
              refine WL.step (WO.storeS (enc := (eI .u16)) (a := x14) (a' := (borI .u16 x13 (shlI .u16 1 (IntKind.u64.wrap v8)))) (idx := v11) (j := 0) cells22 (.pl rfl) (.pl rfl) rfl (fun _ => rfl) (i := 1) rfl (ix_get (hx14)) rfl (by decide) rfl ?_)
              refine WL.nil ?_
              refine W.go hK25 (.cons (i := 1) rfl (.cons (i := 5) rfl (.cons (i := 6) rfl (.cons (i := 23) rfl (.cons (i := 24) rfl (.cons (i := 28) rfl (.cons (i := 29) rfl (.nil)))))))) ?_
              -- region 13: spans.go:52
              refine W.reg ?_
              obtain ⟨hk15, hF20⟩ := ckh hF20
              refine WL.q (Y.add (.pl rfl) (.pl rfl) (ok64_lt (hk15))) rfl ?_
              refine WL.q (Y.move (.pl rfl)) rfl ?_
              refine WL.nil ?_
              obtain rfl := Option.some.inj hF20
              exact W.again2 hK21 (before10.set v11.toNat (borI .u16 x13 (shlI .u16 1 (IntKind.u64.wrap v8)))) (v11 + 1) k20 hN20 (Nat.lt_succ_self _) (.cons (eqSl (by simp)) (.cons rfl (.nil))) (.cons (i := 1) rfl (.cons (i := 6) rfl (.cons (i := 23) rfl (.cons (i := 24) rfl (.cons (i := 28) rfl (.nil)))))) (fun w hw => hw.pick [0, 1] rfl)
            · replace hF20 := cneg hC28 hF20
              refine W.skip ?_
              refine W.go hK25 (.cons (i := 1) rfl (.cons (i := 5) rfl (.cons (i := 6) rfl (.cons (i := 23) rfl (.cons (i := 24) rfl (.cons (i := 28) rfl (.cons (i := 29) rfl (.nil)))))))) ?_
              -- region 13: spans.go:52
              refine W.reg ?_
              obtain ⟨hk16, hF20⟩ := ckh hF20
              refine WL.q (Y.add (.pl rfl) (.pl rfl) (ok64_lt (hk16))) rfl ?_
              refine WL.q (Y.move (.pl rfl)) rfl ?_
              refine WL.nil ?_
              obtain rfl := Option.some.inj hF20
              exact W.again2 hK21 before10 (v11 + 1) k20 hN20 (Nat.lt_succ_self _) (.cons rfl (.cons rfl (.nil))) (.cons (i := 1) rfl (.cons (i := 6) rfl (.cons (i := 23) rfl (.cons (i := 24) rfl (.cons (i := 28) rfl (.nil)))))) (fun w hw => hw.pick [0, 1] rfl)
          · replace hF20 := cneg hC24 hF20
            refine W.exit ?_
            obtain rfl := Option.some.inj hF20
            exact W.joinAt1 hK17 before10 (einr hN20) (.cons rfl (.nil)) (.cons (i := 1) rfl (.cons (i := 23) rfl (.cons (i := 24) rfl (.nil)))) (fun w hw => hw.pick [0, 1] rfl)
        · -- behind
          rintro before9 rfl
          -- region 14: spans.go:51
          refine W.reg ?_
          obtain ⟨hk17, hF11⟩ := ckh hF11
          refine WL.q (Y.add (.pl rfl) (.pl rfl) (ok64_lt (hk17))) rfl ?_
          refine WL.q (Y.move (.pl rfl)) rfl ?_
          refine WL.nil ?_
          obtain rfl := Option.some.inj hF11
          exact W.again2 hK12 before9 (v8 + 1) k11 hN11 (Nat.lt_succ_self _) (.cons rfl (.cons rfl (.nil))) (.cons (i := 1) rfl (.cons (i := 23) rfl (.nil))) (fun w hw => hw.pick [0, 1] rfl)
      · replace hF11 := cneg hC15 hF11
        refine W.exit ?_
        obtain rfl := Option.some.inj hF11
        exact W.joinAt1 hK9 before7 (einr hN11) (.cons rfl (.nil)) (.cons (i := 1) rfl (.nil)) (fun w hw => hw.pick [0, 1] rfl)
    · -- behind
      rintro before6 rfl
      -- region 15: spans.go:58
      refine W.seqR fun Q33 hQ33 => ?_
      refine WL.q (Y.move (.pl rfl)) rfl ?_
      obtain ⟨hk18, hF⟩ := ckh hF
      refine WL.step (WO.callM isGo48 (.cons (.pl rfl) (.nil)) rfl (fun w hw => slices_Clone_uint16_uint16_ok (hk18) w (SlIn.ofRow (fun _ => rfl) hw (i := 1) rfl)) ?_)
      rintro ⟨A19, c20⟩ -
      refine WL.q (Y.assign (.pl rfl)) rfl ?_
      refine WL.next hQ33 (.cons (i := 1) rfl (.cons (i := 5) rfl (.cons (i := 8) rfl (.nil)))) ?_
      -- region 16: spans.go:59
      refine W.seqR fun Q34 hQ34 => ?_
      refine WL.q (Y.move (.pl rfl)) rfl ?_
      obtain ⟨r21, hr21, hF⟩ := bnd hF
      refine WL.step (WO.call (γ := Unit) (fun g => .tuple #[]) (fun g => [cR (eI .u16) 1 A19 c20 22 r21, cBx b2 25 (encRel r1), cR (eI .u16) 1 (some ⟨b4, 0, none⟩) r1.n.toNat 22 before6]) (fun _ => (r21).length = (before6).length) isGo49 (.cons (.pl rfl) (.cons (.pl rfl) (.nil))) rfl (fun w hw => slices_SortFunc_uint16_uint16_ok (T := [cBx b2 25 (encRel r1), cR (eI .u16) 1 (some ⟨b4, 0, none⟩) r1.n.toNat 22 before6]) (hr21) (hw.pick [0, 1, 2] rfl) ) ?_)
      rintro _ hl22
      refine WL.next hQ34 (.cons (i := 1) rfl (.cons (i := 5) rfl (.cons (i := 8) rfl (.nil)))) ?_
      -- region 17: spans.go:65
      refine W.seqR fun Q35 hQ35 => ?_
      refine WL.q (Y.move (.pl rfl)) rfl ?_
      obtain ⟨r23, hr23, hF⟩ := bnd hF
      refine WL.step (WO.call (γ := Unit) (fun g => .slice A19 (r23).length c20) (fun g => [cR (eI .u16) 1 A19 c20 22 r23, cBx b2 25 (encRel r1), cR (eI .u16) 1 (some ⟨b4, 0, none⟩) r1.n.toNat 22 before6]) (fun _ => True) isGo52 (.cons (Evs.len (.pl rfl) (by simp [hl22])) (.nil)) rfl (fun w hw => slices_Compact_uint16_uint16_ok (T := [cBx b2 25 (encRel r1), cR (eI .u16) 1 (some ⟨b4, 0, none⟩) r1.n.toNat 22 before6]) (hr23) (hw.pick [0, 1, 2] rfl) ) ?_)
      rintro _ -
      refine WL.q (Y.assign (.pl rfl)) rfl ?_
      refine WL.next hQ35 (.cons (i := 1) rfl (.cons (i := 5) rfl (.cons (i := 8) rfl (.nil)))) ?_
      -- region 18: spans.go:66
      refine W.seqR fun Q36 hQ36 => ?_
      refine WL.q (Y.assign (.pl rfl)) rfl ?_
      refine WL.next hQ36 (.cons (i := 1) rfl (.cons (i := 5) rfl (.cons (i := 8) rfl (.cons (i := 9) rfl (.nil))))) ?_
      obtain ⟨o37, hF37, hF⟩ := bnd hF
      refine W.join3 (Em := fun (out26 : (List Span)) (A24 : Option Addr) (c25 : Nat) => [(9, .slice A24 (out26).length c25)]) (M := fun out26 A24 c25 => [cBx b2 25 (encRel r1), cR encSpan 2 A24 c25 43 out26]) (I := fun out26 A24 c25 => out26 = o37) (.cons (i := 1) rfl (.nil)) (fun K38 hK38 => ?_) ?_
      · -- up to
        -- region 19: spans.go:67
        refine W.seqR fun Q39 hQ39 => ?_
        refine WL.q (Y.fieldAddr0 (off := 0) (ft := 3) Try.underlying25 rfl cells3 (.pl rfl)) rfl ?_
        refine WL.q (Y.loadB (v := .int .i64 r1.n) Try.underlying3 rfl (.pl rfl) (i := 1) rfl (rfl)) rfl ?_
        refine WL.q (Y.move (.pl rfl)) rfl ?_
        refine WL.next hQ39 (.cons (i := 1) rfl (.cons (i := 5) rfl (.cons (i := 8) rfl (.cons (i := 9) rfl (.cons (i := 59) rfl (.cons (i := 60) rfl (.nil))))))) ?_
        refine W.block ?_
        refine W.loop4 (Em := fun (out29 : (List Span)) (v30 : Int) (A27 : Option Addr) (c28 : Nat) => [(9, .slice A27 (out29).length c28), (60, .int .i64 v30)]) (M := fun out29 v30 A27 c28 => [cBx b2 25 (encRel r1), cR (eI .u16) 1 (some ⟨b4, 0, none⟩) r1.n.toNat 22 before6, cR (eI .u16) 1 A19 c20 22 r23, cR encSpan 2 A27 c28 43 out29]) (I := fun out29 v30 A27 c28 k40 => iter (spans_Make_L75 N r1 before6 r23) k40 (out29, v30) = some o37) [] 0 none 0 N (hF37) (.cons rfl (.cons rfl (.nil))) (.cons (i := 1) rfl (.cons (i := 5) rfl (.cons (i := 8) rfl (.cons (i := 59) rfl (.nil))))) (fun w hw => (St.nilR (hw.pick [1, 2, 0] rfl) encSpan 2 43).pick [1, 2, 3, 0] rfl) (fun out29 v30 A27 c28 k40 hI K41 hK41 => ?_)
        obtain ⟨k40, t40, rfl, hF40, hN40⟩ := iter_step hI
        -- region 20: spans.go:67
        refine W.seqR fun Q42 hQ42 => ?_
        refine WL.q (Y.lss (.pl rfl) (.pl rfl)) rfl ?_
        refine WL.next hQ42 (.cons (i := 1) rfl (.cons (i := 5) rfl (.cons (i := 8) rfl (.cons (i := 9) rfl (.cons (i := 59) rfl (.cons (i := 60) rfl (.cons (i := 61) rfl (.nil)))))))) ?_
        refine W.seq fun K43 hK43 => ?_
        refine W.cond (.pl rfl) (fun hC44 => ?_) (fun hC44 => ?_)
        · replace hF40 := cpos hC44 hF40
          refine W.skip ?_
          refine W.go hK43 (.cons (i := 1) rfl (.cons (i := 5) rfl (.cons (i := 8) rfl (.cons (i := 9) rfl (.cons (i := 59) rfl (.cons (i := 60) rfl (.nil))))))) ?_
          obtain ⟨o45, hF45, hF40⟩ := bnd hF40
          refine W.join3 (Em := fun (out33 : (List Span)) (A31 : Option Addr) (c32 : Nat) => [(9, .slice A31 (out33).length c32)]) (M := fun out33 A31 c32 => [cBx b2 25 (encRel r1), cR (eI .u16) 1 (some ⟨b4, 0, none⟩) r1.n.toNat 22 before6, cR (eI .u16) 1 A19 c20 22 r23, cR encSpan 2 A31 c32 43 out33]) (I := fun out33 A31 c32 => out33 = o45) (.cons (i := 1) rfl (.cons (i := 5) rfl (.cons (i := 8) rfl (.cons (i := 59) rfl (.cons (i := 60) rfl (.nil)))))) (fun K46 hK46 => ?_) ?_
          · -- up to
            refine W.block ?_
            -- region 21: spans.go:67
            refine W.seqR fun Q47 hQ47 => ?_
            refine WL.q (Y.move (.pl rfl)) rfl ?_
            refine WL.q (Y.assign (.pl rfl)) rfl ?_
            refine WL.next hQ47 (.cons (i := 1) rfl (.cons (i := 5) rfl (.cons (i := 8) rfl (.cons (i := 9) rfl (.cons (i := 10) rfl (.cons (i := 59) rfl (.cons (i := 60) rfl (.nil)))))))) ?_
            -- region 22: spans.go:68
            refine W.seqR fun Q48 hQ48 => ?_
            refine WL.q (Y.move (.pl rfl)) rfl ?_
            refine WL.q (Y.move (.pl rfl)) rfl ?_
            refine WL.q (Y.move (.pl rfl)) rfl ?_
            obtain ⟨x34, hx34, hF45⟩ := bnd hF45
            refine WL.q (Y.litEl (xs := before6) Try.underlying71 cells22 (.pl rfl) rfl (.pl rfl) (ix_lt (hx34))) rfl ?_
            refine WL.q (Y.loadR (enc := (eI .u16)) (v := .int .u16 x34) (a := x34) (idx := v30) (j := 0) Try.underlying22 rfl (fun _ => rfl) (i := 1) rfl (.pl rfl) (ix_get (hx34)) rfl rfl) rfl ?_
            obtain ⟨r35, hr35, hF45⟩ := bnd hF45
            refine WL.step (WO.callP isGo53 (.cons (.pl rfl) (.cons (.pl rfl) (.nil))) rfl (fun w hw => slices_Index_uint16_uint16_ok (hr35) w (SlIn.ofRow (fun _ => rfl) hw (i := 2) rfl)) ?_)
            refine WL.q (Y.build (cs := (encSpan (Span.mk r35 0)).toArray) shape43 (.cons (.pl rfl) (.nil)) (one_parts ⟨rfl, trivial⟩) rfl) rfl ?_
            refine WL.step (WO.alloc (cs := (encSpan (Span.mk 0 0)).toArray) zero43 rfl rfl fun b36 => ?_)
            refine WL.step (WO.storeBA (ds := (encSpan (Span.mk r35 0))) (cs' := (encSpan (Span.mk r35 0))) cells43 (.pl rfl) (.pl rfl) rfl (oneSpan _) (i := 0) rfl (lel (o := 0) (l := 2) (m := 2) (by decide) rfl rfl) (putW rfl) ?_)
            refine WL.next hQ48 (.cons (i := 1) rfl (.cons (i := 5) rfl (.cons (i := 8) rfl (.cons (i := 9) rfl (.cons (i := 10) rfl (.cons (i := 11) rfl (.cons (i := 59) rfl (.cons (i := 60) rfl (.nil))))))))) ?_
            obtain ⟨o49, hF49, hF45⟩ := bnd hF45
            refine W.join1 (Em := fun (To37 : Int) => []) (M := fun To37 => [cBx b2 25 (encRel r1), cR (eI .u16) 1 (some ⟨b4, 0, none⟩) r1.n.toNat 22 before6, cR (eI .u16) 1 A19 c20 22 r23, cR encSpan 2 A27 c28 43 out29, cBx b36 43 (encSpan (Span.mk r35 To37))]) (I := fun To37 => To37 = o49) (.cons (i := 1) rfl (.cons (i := 5) rfl (.cons (i := 8) rfl (.cons (i := 9) rfl (.cons (i := 11) rfl (.cons (i := 59) rfl (.cons (i := 60) rfl (.nil)))))))) (fun K50 hK50 => ?_) ?_
            · -- up to
              -- region 23: spans.go:69
              refine W.seqR fun Q51 hQ51 => ?_
              refine WL.q (Y.move (.pl rfl)) rfl ?_
              refine WL.q (Y.len Try.underlying71 (.pl rfl)) rfl ?_
              refine WL.q (Y.move (.pl rfl)) rfl ?_
              refine WL.next hQ51 (.cons (i := 1) rfl (.cons (i := 5) rfl (.cons (i := 8) rfl (.cons (i := 9) rfl (.cons (i := 10) rfl (.cons (i := 11) rfl (.cons (i := 59) rfl (.cons (i := 60) rfl (.cons (i := 70) rfl (.cons (i := 71) rfl (.cons (i := 72) rfl (.nil)))))))))))) ?_
              refine W.block ?_
              refine W.loop2 (Em := fun (To38 : Int) (v39 : Int) => [(72, .int .i64 v39)]) (M := fun To38 v39 => [cBx b2 25 (encRel r1), cR (eI .u16) 1 (some ⟨b4, 0, none⟩) r1.n.toNat 22 before6, cR (eI .u16) 1 A19 c20 22 r23, cR encSpan 2 A27 c28 43 out29, cBx b36 43 (encSpan (Span.mk r35 To38))]) (I := fun To38 v39 k52 => iter (spans_Make_L79 N r23 v30) k52 (To38, v39) = some o49) 0 0 N (hF49) (.cons rfl (.nil)) (.cons (i := 1) rfl (.cons (i := 5) rfl (.cons (i := 8) rfl (.cons (i := 9) rfl (.cons (i := 10) rfl (.cons (i := 11) rfl (.cons (i := 59) rfl (.cons (i := 60) rfl (.cons (i := 70) rfl (.cons (i := 71) rfl (.nil))))))))))) (fun w hw => hw.pick [1, 2, 3, 4, 0] rfl) (fun To38 v39 k52 hI K53 hK53 => ?_)
              obtain ⟨k52, t52, rfl, hF52, hN52⟩ := iter_step hI
              -- region 24: spans.go:69
              refine W.seqR fun Q54 hQ54 => ?_
              refine WL.q (Y.lss (.pl rfl) (.pl rfl)) rfl ?_
              refine WL.next hQ54 (.cons (i := 1) rfl (.cons (i := 5) rfl (.cons (i := 8) rfl (.cons (i := 9) rfl (.cons (i := 10) rfl (.cons (i := 11) rfl (.cons (i := 59) rfl (.cons (i := 60) rfl (.cons (i := 70) rfl (.cons (i := 71) rfl (.cons (i := 72) rfl (.cons (i := 73) rfl (.nil))))))))))))) ?_
              refine W.seq fun K55 hK55 => ?_
              refine W.cond (.pl rfl) (fun hC56 => ?_) (fun hC56 => ?_)
              · replace hF52 := cpos hC56 hF52
                refine W.skip ?_
                refine W.go hK55 (.cons (i := 1) rfl (.cons (i := 5) rfl (.cons (i := 8) rfl (.cons (i := 9) rfl (.cons (i := 10) rfl (.cons (i := 11) rfl (.cons (i := 59) rfl (.cons (i := 60) rfl (.cons (i := 70) rfl (.cons (i := 71) rfl (.cons (i := 72) rfl (.nil)))))))))))) ?_
                refine W.seq fun K57 hK57 => ?_
                refine W.block ?_
                -- region 25: spans.go:69
                refine W.seqR fun Q58 hQ58 => ?_
                refine WL.q (Y.move (.pl rfl)) rfl ?_
                obtain ⟨x40, hx40, hF52⟩ := bnd hF52
                refine WL.q (Y.rowEl Try.underlying71 cells22 (i := 2) rfl (.pl rfl) rfl (.pl rfl) (ix_lt (hx40))) rfl ?_
                refine WL.q (Y.loadR (enc := (eI .u16)) (v := .int .u16 x40) (a := x40) (idx := v39) (j := 0) Try.underlying22 rfl (fun _ => rfl) (i := 2) rfl (.pl rfl) (ix_get (hx40)) rfl rfl) rfl ?_
                refine WL.q (Y.assign (.pl rfl)) rfl ?_
                refine WL.q (Y.assign (.pl rfl)) rfl ?_
                refine WL.next hQ58 (.cons (i := 1) rfl (.cons (i := 5) rfl (.cons (i := 8) rfl (.cons (i := 9) rfl (.cons (i := 10) rfl (.cons (i := 11) rfl (.cons (i := 12) rfl (.cons (i := 13) rfl (.cons (i := 59) rfl (.cons (i := 60) rfl (.cons (i := 70) rfl (.cons (i := 71) rfl (.cons (i := 72) rfl (.nil)))))))))))))) ?_
                -- region 26: spans.go:70
                refine W.seqR fun Q59 hQ59 => ?_
                refine WL.q (Y.move (.pl rfl)) rfl ?_
                refine WL.q (Y.move (.pl rfl)) rfl ?_
                refine WL.q (Y.conv Try.underlying3 Try.underlying63 (.pl rfl)) rfl ?_
                refine WL.q (Y.shr (.pl rfl) (.pl rfl) (wrapU_nn rfl _)) rfl ?_
                refine WL.q (Y.band (.pl rfl) (.pl rfl)) rfl ?_
                refine WL.q (Y.eql (.pl rfl) (.pl rfl)) rfl ?_
                refine WL.next hQ59 (.cons (i := 1) rfl (.cons (i := 5) rfl (.cons (i := 8) rfl (.cons (i := 9) rfl (.cons (i := 10) rfl (.cons (i := 11) rfl (.cons (i := 12) rfl (.cons (i := 59) rfl (.cons (i := 60) rfl (.cons (i := 70) rfl (.cons (i := 71) rfl (.cons (i := 72) rfl (.cons (i := 82) rfl (.nil)))))))))))))) ?_
                refine W.cond (.pl rfl) (fun hC60 => ?_) (fun hC60 => ?_)
                · replace hF52 := cpos hC60 hF52
                  -- region 27: spans.go:71
                  refine W.reg ?_
                  refine WL.q (Y.move (.pl rfl)) rfl ?_
                  refine WL.q (Y.fieldAddr0 (off := 1) (ft := 3) Try.underlying43 rfl cells3 (.pl rfl)) rfl ?_
                  refine WL.step (WO.storeB (cs' := (encSpan (Span.mk r35 v39))) cells3 (.pl rfl) (.pl rfl) rfl (i := 4) rfl (ltl (m := 2) (by decide) rfl) (rfl) ?_)
                  refine WL.nil ?_
                  refine W.go hK57 (.cons (i := 1) rfl (.cons (i := 5) rfl (.cons (i := 8) rfl (.cons (i := 9) rfl (.cons (i := 10) rfl (.cons (i := 11) rfl (.cons (i := 59) rfl (.cons (i := 60) rfl (.cons (i := 70) rfl (.cons (i := 71) rfl (.cons (i := 72) rfl (.nil)))))))))))) ?_
                  -- region 28: spans.go:69
                  refine W.reg ?_
                  obtain ⟨hk41, hF52⟩ := ckh hF52
                  refine WL.q (Y.add (.pl rfl) (.pl rfl) (ok64_lt (hk41))) rfl ?_
                  refine WL.q (Y.move (.pl rfl)) rfl ?_
                  refine WL.nil ?_
                  obtain rfl := Option.some.inj hF52
                  exact W.again2 hK53 v39 (v39 + 1) k52 hN52 (Nat.lt_succ_self _) (.cons rfl (.nil)) (.cons (i := 1) rfl (.cons (i := 5) rfl (.cons (i := 8) rfl (.cons (i := 9) rfl (.cons (i := 10) rfl (.cons (i := 11) rfl (.cons (i := 59) rfl (.cons (i := 60) rfl (.cons (i := 70) rfl (.cons (i := 71) rfl (.nil))))))))))) (fun w hw => hw.pick [0, 1, 2, 3, 4] rfl)
                · replace hF52 := cneg hC60 hF52
                  refine W.skip ?_
                  refine W.go hK57 (.cons (i := 1) rfl (.cons (i := 5) rfl (.cons (i := 8) rfl (.cons (i := 9) rfl (.cons (i := 10) rfl (.cons (i := 11) rfl (.cons (i := 59) rfl (.cons (i := 60) rfl (.cons (i := 70) rfl (.cons (i := 71) rfl (.cons (i := 72) rfl (.nil)))))))))))) ?_
                  -- region 28: spans.go:69
                  refine W.reg ?_
                  obtain ⟨hk42, hF52⟩ := ckh hF52
                  refine WL.q (Y.add (.pl rfl) (.pl rfl) (ok64_lt (hk42))) rfl ?_
                  refine WL.q (Y.move (.pl rfl)) rfl ?_
                  refine WL.nil ?_
                  obtain rfl := Option.some.inj hF52
                  exact W.again2 hK53 To38 (v39 + 1) k52 hN52 (Nat.lt_succ_self _) (.cons rfl (.nil)) (.cons (i := 1) rfl (.cons (i := 5) rfl (.cons (i := 8) rfl (.cons (i := 9) rfl (.cons (i := 10) rfl (.cons (i := 11) rfl (.cons (i := 59) rfl (.cons (i := 60) rfl (.cons (i := 70) rfl (.cons (i := 71) rfl (.nil))))))))))) (fun w hw => hw.pick [0, 1, 2, 3, 4] rfl)
              · replace hF52 := cneg hC56 hF52
                refine W.exit ?_
                obtain rfl := Option.some.inj hF52
                exact W.joinAt1 hK50 To38 (einr hN52) (.nil) (.cons (i := 1) rfl (.cons (i := 5) rfl (.cons (i := 8) rfl (.cons (i := 9) rfl (.cons (i := 11) rfl (.cons (i := 59) rfl (.cons (i := 60) rfl (.nil)))))))) (fun w hw => hw.pick [0, 1, 2, 3, 4] rfl)
            · -- behind
              rintro To37 rfl
              -- region 29: spans.go:74
              refine W.reg ?_
              refine WL.q (Y.move (.pl rfl)) rfl ?_
              refine WL.q (Y.loadBA (ds := (encSpan (Span.mk r35 To37))) Try.underlying43 rfl cells43 (.pl rfl) (i := 4) rfl rfl subW) rfl ?_
              refine WL.step (WO.bsliceC (enc := encSpan) (ys := ([(Span.mk r35 To37)] : List Span)) Try.underlying39 bz43 (.cons (.pl rfl) (.nil)) rfl lenSpan rfl rfl (by decide) (by decide) rfl fun b43 => ?_)
              obtain ⟨hk46, hF45⟩ := ckh hF45
              refine WL.step (WO.appendC (enc := encSpan) Try.underlying39 ap43 lenSpan oneSpan (.pl rfl) rfl (.pl rfl) (i := 4) rfl (m2 := 0) rfl (hk46) rfl fun A44 c45 => ?_)
              refine WL.q (Y.assign (.pl rfl)) rfl ?_
              refine WL.nil ?_
              exact W.joinAt3 hK46 (out29 ++ ([(Span.mk r35 To37)] : List Span)) A44 c45 (Option.some.inj hF45) (.cons rfl (.nil)) (.cons (i := 1) rfl (.cons (i := 5) rfl (.cons (i := 8) rfl (.cons (i := 59) rfl (.cons (i := 60) rfl (.nil)))))) (fun w hw => hw.pick [1, 2, 3, 4] rfl)
          · -- behind
            rintro out33 A31 c32 rfl
            -- region 30: spans.go:67
            refine W.reg ?_
            obtain ⟨hk47, hF40⟩ := ckh hF40
            refine WL.q (Y.add (.pl rfl) (.pl rfl) (ok64_lt (hk47))) rfl ?_
            refine WL.q (Y.move (.pl rfl)) rfl ?_
            refine WL.nil ?_
            obtain rfl := Option.some.inj hF40
            exact W.again4 hK41 out33 (v30 + 1) A31 c32 k40 hN40 (Nat.lt_succ_self _) (.cons rfl (.cons rfl (.nil))) (.cons (i := 1) rfl (.cons (i := 5) rfl (.cons (i := 8) rfl (.cons (i := 59) rfl (.nil))))) (fun w hw => hw.pick [0, 1, 2, 3] rfl)
        · replace hF40 := cneg hC44 hF40
          refine W.exit ?_
          obtain rfl := Option.some.inj hF40
          exact W.joinAt3 hK38 out29 A27 c28 (einr hN40) (.cons rfl (.nil)) (.cons (i := 1) rfl (.nil)) (fun w hw => hw.pick [0, 3] rfl)
      · -- behind
        rintro out26 A24 c25 rfl
        refine W.seq fun K66 hK66 => ?_
        -- region 31: spans.go:76
        refine W.seqD (by kernel_rfl) (by kernel_rfl) fun R67 hR67 => ?_
        refine WD.q (Y.move (.pl rfl)) rfl ?_
        obtain ⟨r48, hr48, hF⟩ := bnd hF
        refine WD.callP isGo47 (.cons (.pl rfl) (.nil)) rfl (fun w hw => spans_of_ok (hr48) w (SlIn.ofRow lenSpan hw (i := 1) rfl)) ?_
        refine WD.q (Y.loadBA (ds := (encRel r1)) Try.underlying25 rfl cells25 (.pl rfl) (i := 0) rfl rfl subW) rfl ?_
        refine WD.q (Y.neqG eqg25 (.pl rfl) (.pl rfl)) rfl ?_
        refine WD.next hR67 (.cons (i := 9) rfl (.cons (i := 94) rfl (.nil))) ?_
        refine W.cond (.pl rfl) (fun hC68 => ?_) (fun hC68 => ?_)
        · replace hF := cpos hC68 hF
          -- region 32: spans.go:77
          refine W.seqR fun Q69 hQ69 => ?_
          refine WL.q (Y.assign (.pl rfl)) rfl ?_
          refine WL.q (Y.assign (.pl rfl)) rfl ?_
          refine WL.next hQ69 (.cons (i := 2) rfl (.cons (i := 3) rfl (.nil))) ?_
          obtain rfl := Option.some.inj hF
          refine W.retV (fn := Try.f28) (vs := [.slice none 0 0, .int .i64 4]) Try.results28 ⟨.tmp rfl, ⟨.tmp rfl, trivial⟩⟩ (fun _ _ h => h) (fun w hw => ?_)
          exact hR _ _ ⟨(none, 0), trivial, rfl, ((St.nilR (hw.pick [] rfl) encSpan 2 43).pick [0] rfl)⟩
        · replace hF := cneg hC68 hF
          refine W.skip ?_
          refine W.go hK66 (.cons (i := 9) rfl (.nil)) ?_
          -- region 33: spans.go:79
          refine W.seqR fun Q70 hQ70 => ?_
          refine WL.q (Y.move (.pl rfl)) rfl ?_
          refine WL.q (Y.assign (.pl rfl)) rfl ?_
          refine WL.q (Y.assign (.pl rfl)) rfl ?_
          refine WL.next hQ70 (.cons (i := 2) rfl (.cons (i := 3) rfl (.nil))) ?_
          obtain rfl := Option.some.inj hF
          refine W.retV (fn := Try.f28) (vs := [.slice A24 (out26).length c25, .int .i64 0]) Try.results28 ⟨.tmp rfl, ⟨.tmp rfl, trivial⟩⟩ (fun _ _ h => h) (fun w hw => ?_)
          exact hR _ _ ⟨(A24, c25), trivial, rfl, (hw.pick [1] rfl)⟩

def spans_Meets_L51 (N : Nat) (l1 : (List Span)) (x14 : Span) : (Int × Int) → Option ((Int × Int) ⊕ Int)
  | (n17, v18) =>
    cond (decide (v18 < ((l1).length : Int)))
      (bd (ix l1 v18) fun (x19 : Span) =>
      cond ((decide (x19.from_ ≤ x14.from_)) && (decide (x14.from_ ≤ x19.to_)))
        (ck (ok64 (n17 + 1)) <|
        ck (ok64 (v18 + 1)) <|
        some (.inl ((n17 + 1), (v18 + 1))))
        (ck (ok64 (v18 + 1)) <|
        some (.inl (n17, (v18 + 1)))))
      (some (.inr n17))

def spans_Meets_L47 (N : Nat) (l1 : (List Span)) : (Int × Int × Int) → Option ((Int × Int × Int) ⊕ (Int × Int))
  | (at9, most10, v11) =>
    cond (decide (v11 < ((l1).length : Int)))
      (bd (α := (Int × Int)) (bd (ix l1 v11) fun (x14 : Span) =>
        bd (α := Int) (iter (spans_Meets_L51 N l1 x14) N (0, 0)) <|
        fun (n16 : Int) => 
          cond ((decide (most10 < n16)) || ((decide (n16 = most10)) && (decide (x14.from_ < at9))))
            (some (x14.from_, n16))
            (some (at9, most10))) <|
      fun (at12, most13) => 
        ck (ok64 (v11 + 1)) <|
        some (.inl (at12, most13, (v11 + 1))))
      (some (.inr (at9, most10)))

def spans_Meets (N : Nat) (l1 : (List Span)) : Option (Int × Int × Int) :=
  bd (spans_Check N l1) fun (r6 : Int) =>
  cond (!(decide (r6 = 0)))
    (some (0, 0, r6))
    (bd (α := (Int × Int)) (iter (spans_Meets_L47 N l1) N (0, 0, 0)) <|
    fun (at7, most8) => 
      some (at7, most8, 0))

theorem spans_Meets_ok {N : Nat} {l1 : (List Span)} {res : (Int × Int × Int)} (hF : spans_Meets N l1 = some res) (w : World) {v5 : Value} (hs4 : SlIn encSpan 2 w v5 l1) :
    Pure Try.prog 31 [v5] w (.tuple #[.int .i64 res.1, .int .i64 res.2.1, .int .i64 res.2.2]) := by
  obtain ⟨A2, c3, rfl, hcc3, hs4⟩ := hs4.form
  refine W.enter (n := 65) Try.func31 rfl rfl Sub.refl (by simp) (St.start w) fun R hR => ?_
  unfold spans_Meets at hF
  -- region 0: spans.go:83
  refine W.seqR fun Q1 hQ1 => ?_
  refine WL.q (Y.assign (.pl rfl)) rfl ?_
  refine WL.q (Y.assign (.pl rfl)) rfl ?_
  refine WL.q (Y.assign (.pl rfl)) rfl ?_
  refine WL.next hQ1 (.cons (i := 0) rfl (.nil)) ?_
  refine W.seq fun K2 hK2 => ?_
  -- region 1: spans.go:84
  refine W.seqR fun Q3 hQ3 => ?_
  refine WL.q (Y.move (.pl rfl)) rfl ?_
  obtain ⟨r6, hr6, hF⟩ := bnd hF
  refine WL.step (WO.callP isGo46 (.cons (.pl rfl) (.nil)) rfl (fun w hw => spans_Check_ok (hr6) w (hs4.mono hw)) ?_)
  refine WL.q (Y.assign (.pl rfl)) rfl ?_
  refine WL.next hQ3 (.cons (i := 0) rfl (.cons (i := 5) rfl (.nil))) ?_
  -- region 2: spans.go:84
  refine W.seqR fun Q4 hQ4 => ?_
  refine WL.q (Y.move (.pl rfl)) rfl ?_
  refine WL.q (Y.neq (.pl rfl) (.pl rfl)) rfl ?_
  refine WL.next hQ4 (.cons (i := 0) rfl (.cons (i := 5) rfl (.cons (i := 16) rfl (.nil)))) ?_
  refine W.cond (.pl rfl) (fun hC5 => ?_) (fun hC5 => ?_)
  · replace hF := cpos hC5 hF
    -- region 3: spans.go:85
    refine W.seqR fun Q6 hQ6 => ?_
    refine WL.q (Y.move (.pl rfl)) rfl ?_
    refine WL.q (Y.assign (.pl rfl)) rfl ?_
    refine WL.q (Y.assign (.pl rfl)) rfl ?_
    refine WL.q (Y.assign (.pl rfl)) rfl ?_
    refine WL.next hQ6 (.cons (i := 2) rfl (.cons (i := 3) rfl (.cons (i := 4) rfl (.nil)))) ?_
    obtain rfl := Option.some.inj hF
    refine W.retV (fn := Try.f31) (vs := [.int .i64 0, .int .i64 0, .int .i64 r6]) Try.results31 ⟨.tmp rfl, ⟨.tmp rfl, ⟨.tmp rfl, trivial⟩⟩⟩ (fun _ _ h => h) (fun w hw => ?_)
    exact hR _ _ ⟨rfl, (hw.pick [] rfl)⟩
  · replace hF := cneg hC5 hF
    refine W.skip ?_
    refine W.go hK2 (.cons (i := 0) rfl (.nil)) ?_
    -- region 4: spans.go:87
    refine W.seqR fun Q7 hQ7 => ?_
    refine WL.q (Y.assign (.pl rfl)) rfl ?_
    refine WL.q (Y.assign (.pl rfl)) rfl ?_
    refine WL.next hQ7 (.cons (i := 0) rfl (.cons (i := 6) rfl (.cons (i := 7) rfl (.nil)))) ?_
    obtain ⟨o8, hF8, hF⟩ := bnd hF
    refine W.join2 (Em := fun (at7 : Int) (most8 : Int) => [(6, .int .i64 at7), (7, .int .i64 most8)]) (M := fun at7 most8 => []) (I := fun at7 most8 => (at7, most8) = o8) (.nil) (fun K9 hK9 => ?_) ?_
    · -- up to
      -- region 5: spans.go:88
      refine W.seqR fun Q10 hQ10 => ?_
      refine WL.q (Y.move (.pl rfl)) rfl ?_
      refine WL.q (Y.len Try.underlying39 (.pl rfl)) rfl ?_
      refine WL.q (Y.move (.pl rfl)) rfl ?_
      refine WL.next hQ10 (.cons (i := 0) rfl (.cons (i := 6) rfl (.cons (i := 7) rfl (.cons (i := 18) rfl (.cons (i := 19) rfl (.cons (i := 20) rfl (.nil))))))) ?_
      refine W.block ?_
      refine W.loop3 (Em := fun (at9 : Int) (most10 : Int) (v11 : Int) => [(6, .int .i64 at9), (7, .int .i64 most10), (20, .int .i64 v11)]) (M := fun at9 most10 v11 => []) (I := fun at9 most10 v11 k11 => iter (spans_Meets_L47 N l1) k11 (at9, most10, v11) = some o8) 0 0 0 N (hF8) (.cons rfl (.cons rfl (.cons rfl (.nil)))) (.cons (i := 0) rfl (.cons (i := 18) rfl (.cons (i := 19) rfl (.nil)))) (fun w hw => hw.pick [] rfl) (fun at9 most10 v11 k11 hI K12 hK12 => ?_)
      obtain ⟨k11, t11, rfl, hF11, hN11⟩ := iter_step hI
      -- region 6: spans.go:88
      refine W.seqR fun Q13 hQ13 => ?_
      refine WL.q (Y.lss (.pl rfl) (.pl rfl)) rfl ?_
      refine WL.next hQ13 (.cons (i := 0) rfl (.cons (i := 6) rfl (.cons (i := 7) rfl (.cons (i := 18) rfl (.cons (i := 19) rfl (.cons (i := 20) rfl (.cons (i := 21) rfl (.nil)))))))) ?_
      refine W.seq fun K14 hK14 => ?_
      refine W.cond (.pl rfl) (fun hC15 => ?_) (fun hC15 => ?_)
      · replace hF11 := cpos hC15 hF11
        refine W.skip ?_
        refine W.go hK14 (.cons (i := 0) rfl (.cons (i := 6) rfl (.cons (i := 7) rfl (.cons (i := 18) rfl (.cons (i := 19) rfl (.cons (i := 20) rfl (.nil))))))) ?_
        obtain ⟨o16, hF16, hF11⟩ := bnd hF11
        refine W.join2 (Em := fun (at12 : Int) (most13 : Int) => [(6, .int .i64 at12), (7, .int .i64 most13)]) (M := fun at12 most13 => []) (I := fun at12 most13 => (at12, most13) = o16) (.cons (i := 0) rfl (.cons (i := 18) rfl (.cons (i := 19) rfl (.cons (i := 20) rfl (.nil))))) (fun K17 hK17 => ?_) ?_
        · -- up to
          refine W.block ?_
          -- region 7: spans.go:88
          refine W.seqR fun Q18 hQ18 => ?_
          obtain ⟨x14, hx14, hF16⟩ := bnd hF16
          refine WL.q (Y.slEl Try.underlying39 cells43 hs4 (.pl rfl) (.pl rfl) (ix_lt (hx14))) rfl ?_
          refine WL.q (Y.loadSA (enc := encSpan) (ds := (encSpan x14)) (j := 0) Try.underlying43 rfl cells43 hs4 (.pl rfl) (hx14) rfl rfl subW) rfl ?_
          refine WL.step (WO.alloc (cs := (encSpan (Span.mk 0 0)).toArray) zero43 rfl rfl fun b15 => ?_)
          refine WL.step (WO.storeBA (ds := (encSpan x14)) (cs' := (encSpan x14)) cells43 (.pl rfl) (.pl rfl) rfl (oneSpan _) (i := 0) rfl (lel (o := 0) (l := 2) (m := 2) (by decide) rfl rfl) (putW rfl) ?_)
          refine WL.next hQ18 (.cons (i := 0) rfl (.cons (i := 6) rfl (.cons (i := 7) rfl (.cons (i := 9) rfl (.cons (i := 18) rfl (.cons (i := 19) rfl (.cons (i := 20) rfl (.nil)))))))) ?_
          -- region 8: spans.go:89
          refine W.seqR fun Q19 hQ19 => ?_
          refine WL.q (Y.assign (.pl rfl)) rfl ?_
          refine WL.next hQ19 (.cons (i := 0) rfl (.cons (i := 6) rfl (.cons (i := 7) rfl (.cons (i := 9) rfl (.cons (i := 10) rfl (.cons (i := 18) rfl (.cons (i := 19) rfl (.cons (i := 20) rfl (.nil))))))))) ?_
          obtain ⟨o20, hF20, hF16⟩ := bnd hF16
          refine W.join1 (Em := fun (n16 : Int) => [(10, .int .i64 n16)]) (M := fun n16 => [cBx b15 43 (encSpan x14)]) (I := fun n16 => n16 = o20) (.cons (i := 0) rfl (.cons (i := 6) rfl (.cons (i := 7) rfl (.cons (i := 9) rfl (.cons (i := 18) rfl (.cons (i := 19) rfl (.cons (i := 20) rfl (.nil)))))))) (fun K21 hK21 => ?_) ?_
          · -- up to
            -- region 9: spans.go:90
            refine W.seqR fun Q22 hQ22 => ?_
            refine WL.q (Y.move (.pl rfl)) rfl ?_
            refine WL.q (Y.len Try.underlying39 (.pl rfl)) rfl ?_
            refine WL.q (Y.move (.pl rfl)) rfl ?_
            refine WL.next hQ22 (.cons (i := 0) rfl (.cons (i := 6) rfl (.cons (i := 7) rfl (.cons (i := 9) rfl (.cons (i := 10) rfl (.cons (i := 18) rfl (.cons (i := 19) rfl (.cons (i := 20) rfl (.cons (i := 24) rfl (.cons (i := 25) rfl (.cons (i := 26) rfl (.nil)))))))))))) ?_
            refine W.block ?_
            refine W.loop2 (Em := fun (n17 : Int) (v18 : Int) => [(10, .int .i64 n17), (26, .int .i64 v18)]) (M := fun n17 v18 => [cBx b15 43 (encSpan x14)]) (I := fun n17 v18 k23 => iter (spans_Meets_L51 N l1 x14) k23 (n17, v18) = some o20) 0 0 N (hF20) (.cons rfl (.cons rfl (.nil))) (.cons (i := 0) rfl (.cons (i := 6) rfl (.cons (i := 7) rfl (.cons (i := 9) rfl (.cons (i := 18) rfl (.cons (i := 19) rfl (.cons (i := 20) rfl (.cons (i := 24) rfl (.cons (i := 25) rfl (.nil)))))))))) (fun w hw => hw.pick [0] rfl) (fun n17 v18 k23 hI K24 hK24 => ?_)
            obtain ⟨k23, t23, rfl, hF23, hN23⟩ := iter_step hI
            -- region 10: spans.go:90
            refine W.seqR fun Q25 hQ25 => ?_
            refine WL.q (Y.lss (.pl rfl) (.pl rfl)) rfl ?_
            refine WL.next hQ25 (.cons (i := 0) rfl (.cons (i := 6) rfl (.cons (i := 7) rfl (.cons (i := 9) rfl (.cons (i := 10) rfl (.cons (i := 18) rfl (.cons (i := 19) rfl (.cons (i := 20) rfl (.cons (i := 24) rfl (.cons (i := 25) rfl (.cons (i := 26) rfl (.cons (i := 27) rfl (.nil))))))))))))) ?_
            refine W.seq fun K26 hK26 => ?_
            refine W.cond (.pl rfl) (fun hC27 => ?_) (fun hC27 => ?_)
            · replace hF23 := cpos hC27 hF23
              refine W.skip ?_
              refine W.go hK26 (.cons (i := 0) rfl (.cons (i := 6) rfl (.cons (i := 7) rfl (.cons (i := 9) rfl (.cons (i := 10) rfl (.cons (i := 18) rfl (.cons (i := 19) rfl (.cons (i := 20) rfl (.cons (i := 24) rfl (.cons (i := 25) rfl (.cons (i := 26) rfl (.nil)))))))))))) ?_
              refine W.seq fun K28 hK28 => ?_
              refine W.block ?_
              -- region 11: spans.go:90
              refine W.seqR fun Q29 hQ29 => ?_
              obtain ⟨x19, hx19, hF23⟩ := bnd hF23
              refine WL.q (Y.slEl Try.underlying39 cells43 hs4 (.pl rfl) (.pl rfl) (ix_lt (hx19))) rfl ?_
              refine WL.q (Y.loadSA (enc := encSpan) (ds := (encSpan x19)) (j := 0) Try.underlying43 rfl cells43 hs4 (.pl rfl) (hx19) rfl rfl subW) rfl ?_
              refine WL.step (WO.alloc (cs := (encSpan (Span.mk 0 0)).toArray) zero43 rfl rfl fun b20 => ?_)
              refine WL.step (WO.storeBA (ds := (encSpan x19)) (cs' := (encSpan x19)) cells43 (.pl rfl) (.pl rfl) rfl (oneSpan _) (i := 0) rfl (lel (o := 0) (l := 2) (m := 2) (by decide) rfl rfl) (putW rfl) ?_)
              refine WL.next hQ29 (.cons (i := 0) rfl (.cons (i := 6) rfl (.cons (i := 7) rfl (.cons (i := 9) rfl (.cons (i := 10) rfl (.cons (i := 12) rfl (.cons (i := 18) rfl (.cons (i := 19) rfl (.cons (i := 20) rfl (.cons (i := 24) rfl (.cons (i := 25) rfl (.cons (i := 26) rfl (.nil))))))))))))) ?_
              -- region 12: spans.go:91
              refine W.seqR fun Q30 hQ30 => ?_
              refine WL.q (Y.fieldAddr0 (off := 0) (ft := 3) Try.underlying43 rfl cells3 (.pl rfl)) rfl ?_
              refine WL.q (Y.loadB (v := .int .i64 x19.from_) Try.underlying3 rfl (.pl rfl) (i := 0) rfl (rfl)) rfl ?_
              refine WL.q (Y.fieldAddr0 (off := 0) (ft := 3) Try.underlying43 rfl cells3 (.pl rfl)) rfl ?_
              refine WL.q (Y.loadB (v := .int .i64 x14.from_) Try.underlying3 rfl (.pl rfl) (i := 1) rfl (rfl)) rfl ?_
              refine WL.q (Y.leq (.pl rfl) (.pl rfl)) rfl ?_
              refine WL.q (Y.move (.pl rfl)) rfl ?_
              refine WL.g (.pl rfl rfl rfl) (fun hg => Y.fieldAddr0 (off := 0) (ft := 3) Try.underlying43 rfl cells3 (.pl rfl)) rfl ?_
              refine WL.g (.pl rfl rfl rfl) (fun hg => Y.loadB (v := .int .i64 x14.from_) Try.underlying3 rfl (.gd (hg) rfl) (i := 1) rfl (rfl)) rfl ?_
              refine WL.g (.pl rfl rfl rfl) (fun hg => Y.fieldAddr0 (off := 1) (ft := 3) Try.underlying43 rfl cells3 (.pl rfl)) rfl ?_
              refine WL.g (.pl rfl rfl rfl) (fun hg => Y.loadB (v := .int .i64 x19.to_) Try.underlying3 rfl (.gd (hg) rfl) (i := 0) rfl (rfl)) rfl ?_
              refine WL.g (.pl rfl rfl rfl) (fun hg => Y.leq (.gd (hg) rfl) (.gd (hg) rfl)) rfl ?_
              refine WL.q (Y.and (.pl rfl) (fun h2 => .gd (eqt h2) rfl)) rfl ?_
              refine WL.next hQ30 (.cons (i := 0) rfl (.cons (i := 6) rfl (.cons (i := 7) rfl (.cons (i := 9) rfl (.cons (i := 10) rfl (.cons (i := 18) rfl (.cons (i := 19) rfl (.cons (i := 20) rfl (.cons (i := 24) rfl (.cons (i := 25) rfl (.cons (i := 26) rfl (.cons (i := 41) rfl (.nil))))))))))))) ?_
              refine W.cond (.pl rfl) (fun hC31 => ?_) (fun hC31 => ?_)
              · replace hF23 := cpos hC31 hF23
                -- region 13: spans.go:92
                refine W.reg ?_
                refine WL.q (Y.move (.pl rfl)) rfl ?_
                obtain ⟨hk21, hF23⟩ := ckh hF23
                refine WL.q (Y.add (.pl rfl) (.pl rfl) (ok64_lt (hk21))) rfl ?_
                refine WL.q (Y.assign (.pl rfl)) rfl ?_
                refine WL.nil ?_
                refine W.go hK28 (.cons (i := 0) rfl (.cons (i := 6) rfl (.cons (i := 7) rfl (.cons (i := 9) rfl (.cons (i := 10) rfl (.cons (i := 18) rfl (.cons (i := 19) rfl (.cons (i := 20) rfl (.cons (i := 24) rfl (.cons (i := 25) rfl (.cons (i := 26) rfl (.nil)))))))))))) ?_
                -- region 14: spans.go:90
                refine W.reg ?_
                obtain ⟨hk22, hF23⟩ := ckh hF23
                refine WL.q (Y.add (.pl rfl) (.pl rfl) (ok64_lt (hk22))) rfl ?_
                refine WL.q (Y.move (.pl rfl)) rfl ?_
                refine WL.nil ?_
                obtain rfl := Option.some.inj hF23
                exact W.again2 hK24 (n17 + 1) (v18 + 1) k23 hN23 (Nat.lt_succ_self _) (.cons rfl (.cons rfl (.nil))) (.cons (i := 0) rfl (.cons (i := 6) rfl (.cons (i := 7) rfl (.cons (i := 9) rfl (.cons (i := 18) rfl (.cons (i := 19) rfl (.cons (i := 20) rfl (.cons (i := 24) rfl (.cons (i := 25) rfl (.nil)))))))))) (fun w hw => hw.pick [1] rfl)
              · replace hF23 := cneg hC31 hF23
                refine W.skip ?_
                refine W.go hK28 (.cons (i := 0) rfl (.cons (i := 6) rfl (.cons (i := 7) rfl (.cons (i := 9) rfl (.cons (i := 10) rfl (.cons (i := 18) rfl (.cons (i := 19) rfl (.cons (i := 20) rfl (.cons (i := 24) rfl (.cons (i := 25) rfl (.cons (i := 26) rfl (.nil)))))))))))) ?_
                -- region 14: spans.go:90
                refine W.reg ?_
                obtain ⟨hk23, hF23⟩ := ckh hF23
                refine WL.q (Y.add (.pl rfl) (.pl rfl) (ok64_lt (hk23))) rfl ?_
                refine WL.q (Y.move (.pl rfl)) rfl ?_
                refine WL.nil ?_
                obtain rfl := Option.some.inj hF23
                exact W.again2 hK24 n17 (v18 + 1) k23 hN23 (Nat.lt_succ_self _) (.cons rfl (.cons rfl (.nil))) (.cons (i := 0) rfl (.cons (i := 6) rfl (.cons (i := 7) rfl (.cons (i := 9) rfl (.cons (i := 18) rfl (.cons (i := 19) rfl (.cons (i := 20) rfl (.cons (i := 24) rfl (.cons (i := 25) rfl (.nil)))))))))) (fun w hw => hw.pick [1] rfl)
            · replace hF23 := cneg hC27 hF23
              refine W.exit ?_
              obtain rfl := Option.some.inj hF23
              exact W.joinAt1 hK21 n17 (einr hN23) (.cons rfl (.nil)) (.cons (i := 0) rfl (.cons (i := 6) rfl (.cons (i := 7) rfl (.cons (i := 9) rfl (.cons (i := 18) rfl (.cons (i := 19) rfl (.cons (i := 20) rfl (.nil)))))))) (fun w hw => hw.pick [0] rfl)
          · -- behind
            rintro n16 rfl
            -- region 15: spans.go:95
            refine W.seqR fun Q35 hQ35 => ?_
            refine WL.q (Y.move (.pl rfl)) rfl ?_
            refine WL.q (Y.move (.pl rfl)) rfl ?_
            refine WL.q (Y.gtr (.pl rfl) (.pl rfl)) rfl ?_
            refine WL.q (Y.move (.pl rfl)) rfl ?_
            refine WL.g (.pl rfl rfl rfl) (fun hg => Y.move (.pl rfl)) rfl ?_
            refine WL.g (.pl rfl rfl rfl) (fun hg => Y.move (.pl rfl)) rfl ?_
            refine WL.g (.pl rfl rfl rfl) (fun hg => Y.eql (.gd (hg) rfl) (.gd (hg) rfl)) rfl ?_
            refine WL.g (.pl rfl rfl rfl) (fun hg => Y.move (.gd (hg) rfl)) rfl ?_
            refine WL.g (.gd rfl rfl rfl) (fun hg => Y.fieldAddr0 (off := 0) (ft := 3) Try.underlying43 rfl cells3 (.pl rfl)) rfl ?_
            refine WL.g (.gd rfl rfl rfl) (fun hg => Y.loadB (v := .int .i64 x14.from_) Try.underlying3 rfl (.gd (hg) rfl) (i := 0) rfl (rfl)) rfl ?_
            refine WL.g (.gd rfl rfl rfl) (fun hg => Y.move (.pl rfl)) rfl ?_
            refine WL.g (.gd rfl rfl rfl) (fun hg => Y.lss (.gd (hg) rfl) (.gd (hg) rfl)) rfl ?_
            refine WL.g (.pl rfl rfl rfl) (fun hg => Y.and (.gd (hg) rfl) (fun h2 => .gd (band hg (eqt h2)) rfl)) rfl ?_
            refine WL.q (Y.or (.pl rfl) (fun h2 => .gd (eqf h2) rfl)) rfl ?_
            refine WL.next hQ35 (.cons (i := 0) rfl (.cons (i := 6) rfl (.cons (i := 7) rfl (.cons (i := 9) rfl (.cons (i := 10) rfl (.cons (i := 18) rfl (.cons (i := 19) rfl (.cons (i := 20) rfl (.cons (i := 58) rfl (.nil)))))))))) ?_
            refine W.cond (.pl rfl) (fun hC36 => ?_) (fun hC36 => ?_)
            · replace hF16 := cpos hC36 hF16
              -- region 16: spans.go:96
              refine W.reg ?_
              refine WL.q (Y.fieldAddr0 (off := 0) (ft := 3) Try.underlying43 rfl cells3 (.pl rfl)) rfl ?_
              refine WL.q (Y.loadB (v := .int .i64 x14.from_) Try.underlying3 rfl (.pl rfl) (i := 0) rfl (rfl)) rfl ?_
              refine WL.q (Y.move (.pl rfl)) rfl ?_
              refine WL.q (Y.assign (.pl rfl)) rfl ?_
              refine WL.q (Y.assign (.pl rfl)) rfl ?_
              refine WL.nil ?_
              exact W.joinAt2 hK17 x14.from_ n16 (Option.some.inj hF16) (.cons rfl (.cons rfl (.nil))) (.cons (i := 0) rfl (.cons (i := 18) rfl (.cons (i := 19) rfl (.cons (i := 20) rfl (.nil))))) (fun w hw => hw.pick [] rfl)
            · replace hF16 := cneg hC36 hF16
              refine W.skip ?_
              exact W.joinAt2 hK17 at9 most10 (Option.some.inj hF16) (.cons rfl (.cons rfl (.nil))) (.cons (i := 0) rfl (.cons (i := 18) rfl (.cons (i := 19) rfl (.cons (i := 20) rfl (.nil))))) (fun w hw => hw.pick [] rfl)
        · -- behind
          rintro at12 most13 rfl
          -- region 17: spans.go:88
          refine W.reg ?_
          obtain ⟨hk24, hF11⟩ := ckh hF11
          refine WL.q (Y.add (.pl rfl) (.pl rfl) (ok64_lt (hk24))) rfl ?_
          refine WL.q (Y.move (.pl rfl)) rfl ?_
          refine WL.nil ?_
          obtain rfl := Option.some.inj hF11
          exact W.again3 hK12 at12 most13 (v11 + 1) k11 hN11 (Nat.lt_succ_self _) (.cons rfl (.cons rfl (.cons rfl (.nil)))) (.cons (i := 0) rfl (.cons (i := 18) rfl (.cons (i := 19) rfl (.nil)))) (fun w hw => hw.pick [] rfl)
      · replace hF11 := cneg hC15 hF11
        refine W.exit ?_
        obtain rfl := Option.some.inj hF11
        exact W.joinAt2 hK9 at9 most10 (einr hN11) (.cons rfl (.cons rfl (.nil))) (.nil) (fun w hw => hw.pick [] rfl)
    · -- behind
      rintro at7 most8 rfl
      -- region 18: spans.go:99
      refine W.seqR fun Q39 hQ39 => ?_
      refine WL.q (Y.move (.pl rfl)) rfl ?_
      refine WL.q (Y.move (.pl rfl)) rfl ?_
      refine WL.q (Y.assign (.pl rfl)) rfl ?_
      refine WL.q (Y.assign (.pl rfl)) rfl ?_
      refine WL.q (Y.assign (.pl rfl)) rfl ?_
      refine WL.next hQ39 (.cons (i := 2) rfl (.cons (i := 3) rfl (.cons (i := 4) rfl (.nil)))) ?_
      obtain rfl := Option.some.inj hF
      refine W.retV (fn := Try.f31) (vs := [.int .i64 at7, .int .i64 most8, .int .i64 0]) Try.results31 ⟨.tmp rfl, ⟨.tmp rfl, ⟨.tmp rfl, trivial⟩⟩⟩ (fun _ _ h => h) (fun w hw => ?_)
      exact hR _ _ ⟨rfl, (hw.pick [] rfl)⟩

def alibkeep_spansLives (N : Nat) : Option Bool :=
  bd (spans_Of N ([(Span.mk 0 2), (Span.mk 1 3), (Span.mk 3 4)] : List Span)) fun (r2 : (Int × (List Int) × Int)) =>
  bd (spans_Make N (Rel.mk r2.1 r2.2.1)) fun (r4 : ((List Span) × Int)) =>
  bd (spans_Meets N ([(Span.mk 0 2), (Span.mk 1 3), (Span.mk 3 4)] : List Span)) fun (r7 : (Int × Int × Int)) =>
  bd (alibkeep_rel N 4 ([[0, 1], [2, 3]] : List (List Int))) fun (r9 : (List Int)) =>
  bd (spans_Make N (Rel.mk 4 r9)) fun (r10 : ((List Span) × Int)) =>
  bd (α := Bool) (bd (alibkeep_ok N ([r2.2.2, r4.2, r7.2.2] : List Int)) fun (r15 : Bool) =>
    cond (r15 == true)
      (bd (alibkeep_rel N 3 ([[0, 2]] : List (List Int))) fun (r17 : (List Int)) =>
      bd ((cond (((r15 && (decide (r2.1 = 3) && eqA 12 r2.2.1 r17)) && (decide (((r4.1).length : Int) = 3))) == true) (ix r4.1 1) (some Span.z))) fun (x18 : Span) =>
      some ((((((r15 && (decide (r2.1 = 3) && eqA 12 r2.2.1 r17)) && (decide (((r4.1).length : Int) = 3))) && (decide (x18 = (Span.mk 0 1)))) && (decide (r7.1 = 1))) && (decide (r7.2.1 = 2))) && (decide (r10.2 = 4))))
      (bd ((cond (((r15 && false) && (decide (((r4.1).length : Int) = 3))) == true) (ix r4.1 1) (some Span.z))) fun (x19 : Span) =>
      some ((((((r15 && false) && (decide (((r4.1).length : Int) = 3))) && (decide (x19 = (Span.mk 0 1)))) && (decide (r7.1 = 1))) && (decide (r7.2.1 = 2))) && (decide (r10.2 = 4))))) <|
  fun (v13 : Bool) => 
    some v13

theorem alibkeep_spansLives_ok {N : Nat} {res : Bool} (hF : alibkeep_spansLives N = some res) (w : World) :
    Pure Try.prog 27 [] w (.bool res) := by
  refine W.enter (n := 75) Try.func27 rfl rfl Sub.refl (by simp) (St.start w) fun R hR => ?_
  unfold alibkeep_spansLives at hF
  -- region 0: spans.go:11
  refine W.seqR fun Q1 hQ1 => ?_
  refine WL.q (Y.assign (.pl rfl)) rfl ?_
  refine WL.next hQ1 (.nil) ?_
  -- region 1: spans.go:12
  refine W.seqR fun Q2 hQ2 => ?_
  refine WL.q (Y.build (cs := (encSpan (Span.mk 0 2)).toArray) shape43 (.cons (.pl rfl) (.cons (.pl rfl) (.nil))) (one_parts ⟨rfl, ⟨rfl, trivial⟩⟩) rfl) rfl ?_
  refine WL.q (Y.build (cs := (encSpan (Span.mk 1 3)).toArray) shape43 (.cons (.pl rfl) (.cons (.pl rfl) (.nil))) (one_parts ⟨rfl, ⟨rfl, trivial⟩⟩) rfl) rfl ?_
  refine WL.q (Y.build (cs := (encSpan (Span.mk 3 4)).toArray) shape43 (.cons (.pl rfl) (.cons (.pl rfl) (.nil))) (one_parts ⟨rfl, ⟨rfl, trivial⟩⟩) rfl) rfl ?_
  refine WL.step (WO.bsliceC (enc := encSpan) (ys := ([(Span.mk 0 2), (Span.mk 1 3), (Span.mk 3 4)] : List Span)) Try.underlying39 bz43 (.cons (.pl rfl) (.cons (.pl rfl) (.cons (.pl rfl) (.nil)))) rfl lenSpan rfl rfl (by decide) (by decide) rfl fun b1 => ?_)
  refine WL.q (Y.assign (.pl rfl)) rfl ?_
  refine WL.next hQ2 (.cons (i := 1) rfl (.nil)) ?_
  -- region 2: spans.go:13
  refine W.seqR fun Q3 hQ3 => ?_
  refine WL.q (Y.move (.pl rfl)) rfl ?_
  obtain ⟨r2, hr2, hF⟩ := bnd hF
  refine WL.step (WO.callP isGo26 (.cons (.pl rfl) (.nil)) rfl (fun w hw => spans_Of_ok (hr2) w (SlIn.ofRow lenSpan hw (i := 0) rfl)) ?_)
  refine WL.q (Y.move (.pl rfl)) rfl ?_
  refine WL.q (Y.extract (.pl rfl) rfl) rfl ?_
  refine WL.q (Y.extract (.pl rfl) rfl) rfl ?_
  refine WL.step (WO.alloc (cs := (encRel (Rel.mk 0 [])).toArray) zero25 rfl rfl fun b3 => ?_)
  refine WL.step (WO.storeBA (ds := (encRel (Rel.mk r2.1 r2.2.1))) (cs' := (encRel (Rel.mk r2.1 r2.2.1))) cells25 (.pl rfl) (.pl rfl) rfl (oneRel _) (i := 0) rfl (lel (o := 0) (l := 13) (m := 13) (by decide) rfl rfl) (putW rfl) ?_)
  refine WL.q (Y.assign (.pl rfl)) rfl ?_
  refine WL.next hQ3 (.cons (i := 1) rfl (.cons (i := 2) rfl (.cons (i := 3) rfl (.nil)))) ?_
  -- region 3: spans.go:14
  refine W.seqR fun Q4 hQ4 => ?_
  refine WL.q (Y.loadBA (ds := (encRel (Rel.mk r2.1 r2.2.1))) Try.underlying25 rfl cells25 (.pl rfl) (i := 0) rfl rfl subW) rfl ?_
  obtain ⟨r4, hr4, hF⟩ := bnd hF
  refine WL.step (WO.callM isGo28 (.cons (.pl rfl) (.nil)) rfl (fun w hw => spans_Make_ok (hr4) w ) ?_)
  rintro ⟨A5, c6⟩ -
  refine WL.q (Y.move (.pl rfl)) rfl ?_
  refine WL.q (Y.extract (.pl rfl) rfl) rfl ?_
  refine WL.q (Y.extract (.pl rfl) rfl) rfl ?_
  refine WL.q (Y.assign (.pl rfl)) rfl ?_
  refine WL.q (Y.assign (.pl rfl)) rfl ?_
  refine WL.next hQ4 (.cons (i := 1) rfl (.cons (i := 2) rfl (.cons (i := 3) rfl (.cons (i := 4) rfl (.cons (i := 5) rfl (.nil)))))) ?_
  -- region 4: spans.go:15
  refine W.seqR fun Q5 hQ5 => ?_
  refine WL.q (Y.move (.pl rfl)) rfl ?_
  obtain ⟨r7, hr7, hF⟩ := bnd hF
  refine WL.step (WO.callP isGo31 (.cons (.pl rfl) (.nil)) rfl (fun w hw => spans_Meets_ok (hr7) w (SlIn.ofRow lenSpan hw (i := 2) rfl)) ?_)
  refine WL.q (Y.move (.pl rfl)) rfl ?_
  refine WL.q (Y.extract (.pl rfl) rfl) rfl ?_
  refine WL.q (Y.extract (.pl rfl) rfl) rfl ?_
  refine WL.q (Y.extract (.pl rfl) rfl) rfl ?_
  refine WL.q (Y.assign (.pl rfl)) rfl ?_
  refine WL.q (Y.assign (.pl rfl)) rfl ?_
  refine WL.q (Y.assign (.pl rfl)) rfl ?_
  refine WL.next hQ5 (.cons (i := 2) rfl (.cons (i := 3) rfl (.cons (i := 4) rfl (.cons (i := 5) rfl (.cons (i := 6) rfl (.cons (i := 7) rfl (.cons (i := 8) rfl (.nil)))))))) ?_
  -- region 5: spans.go:16
  refine W.seqR fun Q6 hQ6 => ?_
  refine WL.q (Y.buildA (cs := ((encA 2 (eI .i64) 0) [0, 1]).toArray) Try.underlying65 cells3 azero65 (.cons (.pl rfl) (.cons (.pl rfl) (.nil))) rfl) rfl ?_
  refine WL.q (Y.buildA (cs := ((encA 2 (eI .i64) 0) [2, 3]).toArray) Try.underlying65 cells3 azero65 (.cons (.pl rfl) (.cons (.pl rfl) (.nil))) rfl) rfl ?_
  refine WL.step (WO.bsliceC (enc := (encA 2 (eI .i64) 0)) (ys := ([[0, 1], [2, 3]] : List (List Int))) Try.underlying92 bz65 (.cons (.pl rfl) (.cons (.pl rfl) (.nil))) rfl (fun _ => lenA (sz := 1) (fun _ => rfl)) rfl rfl (by decide) (by decide) rfl fun b8 => ?_)
  obtain ⟨r9, hr9, hF⟩ := bnd hF
  refine WL.step (WO.callP isGo38 (.cons (.pl rfl) (.cons (.pl rfl) (.nil))) rfl (fun w hw => alibkeep_rel_ok (hr9) w (SlIn.ofRow (fun _ => lenA (sz := 1) (fun _ => rfl)) hw (i := 0) rfl)) ?_)
  obtain ⟨r10, hr10, hF⟩ := bnd hF
  refine WL.step (WO.callM isGo28 (.cons (.pl rfl) (.nil)) rfl (fun w hw => spans_Make_ok (hr10) w ) ?_)
  rintro ⟨A11, c12⟩ -
  refine WL.q (Y.move (.pl rfl)) rfl ?_
  refine WL.q (Y.extract (.pl rfl) rfl) rfl ?_
  refine WL.q (Y.extract (.pl rfl) rfl) rfl ?_
  refine WL.q (Y.assign (.pl rfl)) rfl ?_
  refine WL.q (Y.assign (.pl rfl)) rfl ?_
  refine WL.next hQ6 (.cons (i := 2) rfl (.cons (i := 3) rfl (.cons (i := 4) rfl (.cons (i := 5) rfl (.cons (i := 6) rfl (.cons (i := 7) rfl (.cons (i := 8) rfl (.cons (i := 10) rfl (.nil))))))))) ?_
  obtain ⟨o7, hF7, hF⟩ := bnd hF
  refine W.join1 (Em := fun (v13 : Bool) => [(0, .bool v13)]) (M := fun v13 => []) (I := fun v13 => v13 = o7) (.nil) (fun K8 hK8 => ?_) ?_
  · -- up to
    -- region 6: spans.go:17
    refine W.regX 36 (by kernel_rfl) ?_
    refine WX.pure 0 #[true, false, false, false, false, false, false, false, false, false, false, false, false, false, false, false, false, false, false, false, false, false, false, false, false, false, false, false, false, false, false, false, false, false, false, false, false] rfl (by kernel_rfl) (fun _ _ => Y.move (.pl rfl)) rfl ?_
    refine WX.pure 1 #[true, true, false, false, false, false, false, false, false, false, false, false, false, false, false, false, false, false, false, false, false, false, false, false, false, false, false, false, false, false, false, false, false, false, false, false, false] rfl (by kernel_rfl) (fun _ _ => Y.move (.pl rfl)) rfl ?_
    refine WX.pure 2 #[true, true, true, false, false, false, false, false, false, false, false, false, false, false, false, false, false, false, false, false, false, false, false, false, false, false, false, false, false, false, false, false, false, false, false, false, false] rfl (by kernel_rfl) (fun _ _ => Y.move (.pl rfl)) rfl ?_
    refine WX.one 3 #[true, true, true, true, false, false, false, false, false, false, false, false, false, false, false, false, false, false, false, false, false, false, false, false, false, false, false, false, false, false, false, false, false, false, false, false, false] (fun w hw => St.tail [] hw) rfl (by kernel_rfl) (WO.bsliceC (enc := (eI .i64)) (ys := ([r2.2.2, r4.2, r7.2.2] : List Int)) Try.underlying75 bz26 (.cons (.pl rfl) (.cons (.pl rfl) (.cons (.pl rfl) (.nil)))) rfl (fun _ => rfl) rfl rfl (by decide) (by decide) rfl fun b14 => ?_)
    obtain ⟨r15, hr15, hF7⟩ := bnd hF7
    refine WX.one 4 #[true, true, true, true, true, false, false, false, false, false, false, false, false, false, false, false, false, false, false, false, false, false, false, false, false, false, false, false, false, false, false, false, false, false, false, false, false] (fun w hw => St.tail [_] hw) rfl (by kernel_rfl) (WO.callP isGo20 (.cons (.pl rfl) (.nil)) rfl (fun w hw => alibkeep_ok_ok (hr15) w (SlIn.ofRow (fun _ => rfl) hw (i := 0) rfl)) ?_)
    refine WX.pure 5 #[true, true, true, true, true, true, false, false, false, false, false, false, false, false, false, false, false, false, false, false, false, false, false, false, false, false, false, false, false, false, false, false, false, false, false, false, false] rfl (by kernel_rfl) (fun _ _ => Y.move (.pl rfl)) rfl ?_
    refine WX.takeY 6 #[true, true, true, true, true, true, true, false, false, false, false, false, false, false, false, false, false, false, false, false, false, false, false, false, false, false, false, false, false, false, false, false, false, false, false, false, false] (fun w hw => St.tail [_] hw) rfl (by kernel_rfl) (Yg.g (.pl rfl rfl rfl) (fun hg => Y.loadBA (ds := (encRel (Rel.mk r2.1 r2.2.1))) Try.underlying25 rfl cells25 (.pl rfl) (i := 3) rfl rfl subW)) rfl ?_
    refine WX.pureY 7 #[true, true, true, true, true, true, true, true, false, false, false, false, false, false, false, false, false, false, false, false, false, false, false, false, false, false, false, false, false, false, false, false, false, false, false, false, false] rfl (by kernel_rfl) (fun _ _ => Yg.g (.pl rfl rfl rfl) (fun hg => Y.buildA (cs := ((encA 2 (eI .i64) 0) [0, 2]).toArray) Try.underlying65 cells3 azero65 (.cons (.pl rfl) (.cons (.pl rfl) (.nil))) rfl)) rfl ?_
    refine bsplit (r15 == true) (fun hg10 => ?_) (fun hg10 => ?_)
    · replace hF7 := cpos hg10 hF7
      refine WX.one 8 #[true, true, true, true, true, true, true, true, true, false, false, false, false, false, false, false, false, false, false, false, false, false, false, false, false, false, false, false, false, false, false, false, false, false, false, false, false] (fun w hw => St.tail [_] hw) rfl (by kernel_rfl) (WO.gT (.pl rfl rfl rfl) (hg10) (WO.bsliceC (enc := (encA 2 (eI .i64) 0)) (ys := ([[0, 2]] : List (List Int))) Try.underlying92 bz65 (.cons (.gd (hg10) rfl) (.nil)) rfl (fun _ => lenA (sz := 1) (fun _ => rfl)) rfl rfl (by decide) (by decide) rfl fun b16 => ?_))
      obtain ⟨r17, hr17, hF7⟩ := bnd hF7
      refine WX.one 9 #[true, true, true, true, true, true, true, true, true, true, false, false, false, false, false, false, false, false, false, false, false, false, false, false, false, false, false, false, false, false, false, false, false, false, false, false, false] (fun w hw => St.tail [_, _] hw) rfl (by kernel_rfl) (WO.gT (.pl rfl rfl rfl) (hg10) (WO.callP isGo38 (.cons (.pl rfl) (.cons (.pl rfl) (.nil))) rfl (fun w hw => alibkeep_rel_ok (hr17) w (SlIn.ofRow (fun _ => lenA (sz := 1) (fun _ => rfl)) hw (i := 0) rfl)) ?_))
      refine WX.pureY 10 #[true, true, true, true, true, true, true, true, true, true, true, false, false, false, false, false, false, false, false, false, false, false, false, false, false, false, false, false, false, false, false, false, false, false, false, false, false] rfl (by kernel_rfl) (fun _ _ => Yg.yes (.pl rfl rfl rfl) (hg10) (Y.eqlG eqg25 (.gd (hg10) rfl) (.pl rfl))) rfl ?_
      refine WX.take 11 #[true, true, true, true, true, true, true, true, true, true, true, true, false, false, false, false, false, false, false, false, false, false, false, false, false, false, false, false, false, false, false, false, false, false, false, false, false] (fun w hw => St.tail [_, _] hw) rfl (by kernel_rfl) (Y.and (.pl rfl) (fun _ => .pl rfl)) rfl ?_
      refine WX.pure 12 #[true, true, true, true, true, true, true, true, true, true, true, true, true, false, false, false, false, false, false, false, false, false, false, false, false, false, false, false, false, false, false, false, false, false, false, false, false] rfl (by kernel_rfl) (fun _ _ => Y.move (.pl rfl)) rfl ?_
      refine WX.pureY 13 #[true, true, true, true, true, true, true, true, true, true, true, true, true, true, false, false, false, false, false, false, false, false, false, false, false, false, false, false, false, false, false, false, false, false, false, false, false] rfl (by kernel_rfl) (fun _ _ => Yg.g (.pl rfl rfl rfl) (fun hg => Y.move (.pl rfl))) rfl ?_
      refine WX.takeY 14 #[true, true, true, true, true, true, true, true, true, true, true, true, true, true, true, false, false, false, false, false, false, false, false, false, false, false, false, false, false, false, false, false, false, false, false, false, false] (fun w hw => St.tail [_, _] hw) rfl (by kernel_rfl) (Yg.g (.pl rfl rfl rfl) (fun hg => Y.len Try.underlying39 (.gd (hg) rfl))) rfl ?_
      refine WX.pureY 15 #[true, true, true, true, true, true, true, true, true, true, true, true, true, true, true, true, false, false, false, false, false, false, false, false, false, false, false, false, false, false, false, false, false, false, false, false, false] rfl (by kernel_rfl) (fun _ _ => Yg.g (.pl rfl rfl rfl) (fun hg => Y.eql (.gd (hg) rfl) (.pl rfl))) rfl ?_
      refine WX.take 16 #[true, true, true, true, true, true, true, true, true, true, true, true, true, true, true, true, true, false, false, false, false, false, false, false, false, false, false, false, false, false, false, false, false, false, false, false, false] (fun w hw => St.tail [_, _] hw) rfl (by kernel_rfl) (Y.and (.pl rfl) (fun h2 => .gd (eqt h2) rfl)) rfl ?_
      refine WX.pure 17 #[true, true, true, true, true, true, true, true, true, true, true, true, true, true, true, true, true, true, false, false, false, false, false, false, false, false, false, false, false, false, false, false, false, false, false, false, false] rfl (by kernel_rfl) (fun _ _ => Y.move (.pl rfl)) rfl ?_
      refine WX.pureY 18 #[true, true, true, true, true, true, true, true, true, true, true, true, true, true, true, true, true, true, true, false, false, false, false, false, false, false, false, false, false, false, false, false, false, false, false, false, false] rfl (by kernel_rfl) (fun _ _ => Yg.g (.pl rfl rfl rfl) (fun hg => Y.move (.pl rfl))) rfl ?_
      obtain ⟨x18, hx18, hF7⟩ := bnd hF7
      refine WX.takeY 19 #[true, true, true, true, true, true, true, true, true, true, true, true, true, true, true, true, true, true, true, true, false, false, false, false, false, false, false, false, false, false, false, false, false, false, false, false, false] (fun w hw => St.tail [_, _] hw) rfl (by kernel_rfl) (Yg.g (.pl rfl rfl rfl) (fun hg => Y.rowEl Try.underlying39 cells43 (i := 2) rfl (.gd (hg) rfl) rfl (.pl rfl) (ix_lt (gpos hg hx18)))) rfl ?_
      refine WX.takeY 20 #[true, true, true, true, true, true, true, true, true, true, true, true, true, true, true, true, true, true, true, true, true, false, false, false, false, false, false, false, false, false, false, false, false, false, false, false, false] (fun w hw => St.tail [_, _] hw) rfl (by kernel_rfl) (Yg.g (.pl rfl rfl rfl) (fun hg => Y.loadRA (enc := encSpan) (ds := (encSpan x18)) (a := x18) (idx := 1) (j := 0) Try.underlying43 rfl cells43 lenSpan (i := 2) rfl (.gd (hg) rfl) (ix_get (gpos hg hx18)) rfl rfl subW)) rfl ?_
      refine WX.pureY 21 #[true, true, true, true, true, true, true, true, true, true, true, true, true, true, true, true, true, true, true, true, true, true, false, false, false, false, false, false, false, false, false, false, false, false, false, false, false] rfl (by kernel_rfl) (fun _ _ => Yg.g (.pl rfl rfl rfl) (fun hg => Y.build (cs := (encSpan (Span.mk 0 1)).toArray) shape43 (.cons (.pl rfl) (.nil)) (one_parts ⟨rfl, trivial⟩) rfl)) rfl ?_
      refine WX.pureY 22 #[true, true, true, true, true, true, true, true, true, true, true, true, true, true, true, true, true, true, true, true, true, true, true, false, false, false, false, false, false, false, false, false, false, false, false, false, false] rfl (by kernel_rfl) (fun _ _ => Yg.g (.pl rfl rfl rfl) (fun hg => Y.eqlS eqs43 (.gd (hg) rfl) (.gd (hg) rfl) (eqSpan x18 (Span.mk 0 1)))) rfl ?_
      refine WX.take 23 #[true, true, true, true, true, true, true, true, true, true, true, true, true, true, true, true, true, true, true, true, true, true, true, true, false, false, false, false, false, false, false, false, false, false, false, false, false] (fun w hw => St.tail [_, _] hw) rfl (by kernel_rfl) (Y.and (.pl rfl) (fun h2 => .gd (eqt h2) rfl)) rfl ?_
      refine WX.pure 24 #[true, true, true, true, true, true, true, true, true, true, true, true, true, true, true, true, true, true, true, true, true, true, true, true, true, false, false, false, false, false, false, false, false, false, false, false, false] rfl (by kernel_rfl) (fun _ _ => Y.move (.pl rfl)) rfl ?_
      refine WX.pureY 25 #[true, true, true, true, true, true, true, true, true, true, true, true, true, true, true, true, true, true, true, true, true, true, true, true, true, true, false, false, false, false, false, false, false, false, false, false, false] rfl (by kernel_rfl) (fun _ _ => Yg.g (.pl rfl rfl rfl) (fun hg => Y.move (.pl rfl))) rfl ?_
      refine WX.pureY 26 #[true, true, true, true, true, true, true, true, true, true, true, true, true, true, true, true, true, true, true, true, true, true, true, true, true, true, true, false, false, false, false, false, false, false, false, false, false] rfl (by kernel_rfl) (fun _ _ => Yg.g (.pl rfl rfl rfl) (fun hg => Y.eql (.gd (hg) rfl) (.pl rfl))) rfl ?_
      refine WX.take 27 #[true, true, true, true, true, true, true, true, true, true, true, true, true, true, true, true, true, true, true, true, true, true, true, true, true, true, true, true, false, false, false, false, false, false, false, false, false] (fun w hw => St.tail [_, _] hw) rfl (by kernel_rfl) (Y.and (.pl rfl) (fun h2 => .gd (eqt h2) rfl)) rfl ?_
      refine WX.pure 28 #[true, true, true, true, true, true, true, true, true, true, true, true, true, true, true, true, true, true, true, true, true, true, true, true, true, true, true, true, true, false, false, false, false, false, false, false, false] rfl (by kernel_rfl) (fun _ _ => Y.move (.pl rfl)) rfl ?_
      refine WX.pureY 29 #[true, true, true, true, true, true, true, true, true, true, true, true, true, true, true, true, true, true, true, true, true, true, true, true, true, true, true, true, true, true, false, false, false, false, false, false, false] rfl (by kernel_rfl) (fun _ _ => Yg.g (.pl rfl rfl rfl) (fun hg => Y.move (.pl rfl))) rfl ?_
      refine WX.pureY 30 #[true, true, true, true, true, true, true, true, true, true, true, true, true, true, true, true, true, true, true, true, true, true, true, true, true, true, true, true, true, true, true, false, false, false, false, false, false] rfl (by kernel_rfl) (fun _ _ => Yg.g (.pl rfl rfl rfl) (fun hg => Y.eql (.gd (hg) rfl) (.pl rfl))) rfl ?_
      refine WX.take 31 #[true, true, true, true, true, true, true, true, true, true, true, true, true, true, true, true, true, true, true, true, true, true, true, true, true, true, true, true, true, true, true, true, false, false, false, false, false] (fun w hw => St.tail [_, _] hw) rfl (by kernel_rfl) (Y.and (.pl rfl) (fun h2 => .gd (eqt h2) rfl)) rfl ?_
      refine WX.pure 32 #[true, true, true, true, true, true, true, true, true, true, true, true, true, true, true, true, true, true, true, true, true, true, true, true, true, true, true, true, true, true, true, true, true, false, false, false, false] rfl (by kernel_rfl) (fun _ _ => Y.move (.pl rfl)) rfl ?_
      refine WX.pureY 33 #[true, true, true, true, true, true, true, true, true, true, true, true, true, true, true, true, true, true, true, true, true, true, true, true, true, true, true, true, true, true, true, true, true, true, false, false, false] rfl (by kernel_rfl) (fun _ _ => Yg.g (.pl rfl rfl rfl) (fun hg => Y.move (.pl rfl))) rfl ?_
      refine WX.pureY 34 #[true, true, true, true, true, true, true, true, true, true, true, true, true, true, true, true, true, true, true, true, true, true, true, true, true, true, true, true, true, true, true, true, true, true, true, false, false] rfl (by kernel_rfl) (fun _ _ => Yg.g (.pl rfl rfl rfl) (fun hg => Y.eql (.gd (hg) rfl) (.pl rfl))) rfl ?_
      refine WX.take 35 #[true, true, true, true, true, true, true, true, true, true, true, true, true, true, true, true, true, true, true, true, true, true, true, true, true, true, true, true, true, true, true, true, true, true, true, true, false] (fun w hw => St.tail [_, _] hw) rfl (by kernel_rfl) (Y.and (.pl rfl) (fun h2 => .gd (eqt h2) rfl)) rfl ?_
      refine WX.stop #[true, true, true, true, true, true, true, true, true, true, true, true, true, true, true, true, true, true, true, true, true, true, true, true, true, true, true, true, true, true, true, true, true, true, true, true, true] (fun w hw => St.tail [_, _] hw) rfl (by kernel_rfl) (WO.q (Y.assign (.pl rfl)) rfl ?_)
      refine WA.done (by kernel_rfl) ?_
      exact W.joinAt1 hK8 ((((((r15 && (decide (r2.1 = 3) && eqA 12 r2.2.1 r17)) && (decide (((r4.1).length : Int) = 3))) && (decide (x18 = (Span.mk 0 1)))) && (decide (r7.1 = 1))) && (decide (r7.2.1 = 2))) && (decide (r10.2 = 4))) (Option.some.inj hF7) (.cons rfl (.nil)) (.nil) (fun w hw => hw.pick [] rfl)
    · replace hF7 := cneg hg10 hF7
      refine WX.one 8 #[true, true, true, true, true, true, true, true, true, false, false, false, false, false, false, false, false, false, false, false, false, false, false, false, false, false, false, false, false, false, false, false, false, false, false, false, false] (fun w hw => St.tail [_] hw) rfl (by kernel_rfl) (WO.gN (.pl rfl rfl rfl) hg10 rfl ?_)
      refine WX.one 9 #[true, true, true, true, true, true, true, true, true, true, false, false, false, false, false, false, false, false, false, false, false, false, false, false, false, false, false, false, false, false, false, false, false, false, false, false, false] (fun w hw => St.tail [_] hw) rfl (by kernel_rfl) (WO.gN (.pl rfl rfl rfl) hg10 rfl ?_)
      refine WX.pureY 10 #[true, true, true, true, true, true, true, true, true, true, true, false, false, false, false, false, false, false, false, false, false, false, false, false, false, false, false, false, false, false, false, false, false, false, false, false, false] rfl (by kernel_rfl) (fun _ _ => Yg.no (.pl rfl rfl rfl) hg10) rfl ?_
      refine WX.take 11 #[true, true, true, true, true, true, true, true, true, true, true, true, false, false, false, false, false, false, false, false, false, false, false, false, false, false, false, false, false, false, false, false, false, false, false, false, false] (fun w hw => St.tail [_] hw) rfl (by kernel_rfl) (Y.and (b := false) (.pl rfl) (fun h2 => (gabsA hg10 h2).elim)) rfl ?_
      refine WX.pure 12 #[true, true, true, true, true, true, true, true, true, true, true, true, true, false, false, false, false, false, false, false, false, false, false, false, false, false, false, false, false, false, false, false, false, false, false, false, false] rfl (by kernel_rfl) (fun _ _ => Y.move (.pl rfl)) rfl ?_
      refine WX.pureY 13 #[true, true, true, true, true, true, true, true, true, true, true, true, true, true, false, false, false, false, false, false, false, false, false, false, false, false, false, false, false, false, false, false, false, false, false, false, false] rfl (by kernel_rfl) (fun _ _ => Yg.g (.pl rfl rfl rfl) (fun hg => Y.move (.pl rfl))) rfl ?_
      refine WX.takeY 14 #[true, true, true, true, true, true, true, true, true, true, true, true, true, true, true, false, false, false, false, false, false, false, false, false, false, false, false, false, false, false, false, false, false, false, false, false, false] (fun w hw => St.tail [_] hw) rfl (by kernel_rfl) (Yg.g (.pl rfl rfl rfl) (fun hg => Y.len Try.underlying39 (.gd (hg) rfl))) rfl ?_
      refine WX.pureY 15 #[true, true, true, true, true, true, true, true, true, true, true, true, true, true, true, true, false, false, false, false, false, false, false, false, false, false, false, false, false, false, false, false, false, false, false, false, false] rfl (by kernel_rfl) (fun _ _ => Yg.g (.pl rfl rfl rfl) (fun hg => Y.eql (.gd (hg) rfl) (.pl rfl))) rfl ?_
      refine WX.take 16 #[true, true, true, true, true, true, true, true, true, true, true, true, true, true, true, true, true, false, false, false, false, false, false, false, false, false, false, false, false, false, false, false, false, false, false, false, false] (fun w hw => St.tail [_] hw) rfl (by kernel_rfl) (Y.and (.pl rfl) (fun h2 => .gd (eqt h2) rfl)) rfl ?_
      refine WX.pure 17 #[true, true, true, true, true, true, true, true, true, true, true, true, true, true, true, true, true, true, false, false, false, false, false, false, false, false, false, false, false, false, false, false, false, false, false, false, false] rfl (by kernel_rfl) (fun _ _ => Y.move (.pl rfl)) rfl ?_
      refine WX.pureY 18 #[true, true, true, true, true, true, true, true, true, true, true, true, true, true, true, true, true, true, true, false, false, false, false, false, false, false, false, false, false, false, false, false, false, false, false, false, false] rfl (by kernel_rfl) (fun _ _ => Yg.g (.pl rfl rfl rfl) (fun hg => Y.move (.pl rfl))) rfl ?_
      obtain ⟨x19, hx19, hF7⟩ := bnd hF7
      refine WX.takeY 19 #[true, true, true, true, true, true, true, true, true, true, true, true, true, true, true, true, true, true, true, true, false, false, false, false, false, false, false, false, false, false, false, false, false, false, false, false, false] (fun w hw => St.tail [_] hw) rfl (by kernel_rfl) (Yg.g (.pl rfl rfl rfl) (fun hg => Y.rowEl Try.underlying39 cells43 (i := 2) rfl (.gd (hg) rfl) rfl (.pl rfl) (ix_lt (gpos hg hx19)))) rfl ?_
      refine WX.takeY 20 #[true, true, true, true, true, true, true, true, true, true, true, true, true, true, true, true, true, true, true, true, true, false, false, false, false, false, false, false, false, false, false, false, false, false, false, false, false] (fun w hw => St.tail [_] hw) rfl (by kernel_rfl) (Yg.g (.pl rfl rfl rfl) (fun hg => Y.loadRA (enc := encSpan) (ds := (encSpan x19)) (a := x19) (idx := 1) (j := 0) Try.underlying43 rfl cells43 lenSpan (i := 2) rfl (.gd (hg) rfl) (ix_get (gpos hg hx19)) rfl rfl subW)) rfl ?_
      refine WX.pureY 21 #[true, true, true, true, true, true, true, true, true, true, true, true, true, true, true, true, true, true, true, true, true, true, false, false, false, false, false, false, false, false, false, false, false, false, false, false, false] rfl (by kernel_rfl) (fun _ _ => Yg.g (.pl rfl rfl rfl) (fun hg => Y.build (cs := (encSpan (Span.mk 0 1)).toArray) shape43 (.cons (.pl rfl) (.nil)) (one_parts ⟨rfl, trivial⟩) rfl)) rfl ?_
      refine WX.pureY 22 #[true, true, true, true, true, true, true, true, true, true, true, true, true, true, true, true, true, true, true, true, true, true, true, false, false, false, false, false, false, false, false, false, false, false, false, false, false] rfl (by kernel_rfl) (fun _ _ => Yg.g (.pl rfl rfl rfl) (fun hg => Y.eqlS eqs43 (.gd (hg) rfl) (.gd (hg) rfl) (eqSpan x19 (Span.mk 0 1)))) rfl ?_
      refine WX.take 23 #[true, true, true, true, true, true, true, true, true, true, true, true, true, true, true, true, true, true, true, true, true, true, true, true, false, false, false, false, false, false, false, false, false, false, false, false, false] (fun w hw => St.tail [_] hw) rfl (by kernel_rfl) (Y.and (.pl rfl) (fun h2 => .gd (eqt h2) rfl)) rfl ?_
      refine WX.pure 24 #[true, true, true, true, true, true, true, true, true, true, true, true, true, true, true, true, true, true, true, true, true, true, true, true, true, false, false, false, false, false, false, false, false, false, false, false, false] rfl (by kernel_rfl) (fun _ _ => Y.move (.pl rfl)) rfl ?_
      refine WX.pureY 25 #[true, true, true, true, true, true, true, true, true, true, true, true, true, true, true, true, true, true, true, true, true, true, true, true, true, true, false, false, false, false, false, false, false, false, false, false, false] rfl (by kernel_rfl) (fun _ _ => Yg.g (.pl rfl rfl rfl) (fun hg => Y.move (.pl rfl))) rfl ?_
      refine WX.pureY 26 #[true, true, true, true, true, true, true, true, true, true, true, true, true, true, true, true, true, true, true, true, true, true, true, true, true, true, true, false, false, false, false, false, false, false, false, false, false] rfl (by kernel_rfl) (fun _ _ => Yg.g (.pl rfl rfl rfl) (fun hg => Y.eql (.gd (hg) rfl) (.pl rfl))) rfl ?_
      refine WX.take 27 #[true, true, true, true, true, true, true, true, true, true, true, true, true, true, true, true, true, true, true, true, true, true, true, true, true, true, true, true, false, false, false, false, false, false, false, false, false] (fun w hw => St.tail [_] hw) rfl (by kernel_rfl) (Y.and (.pl rfl) (fun h2 => .gd (eqt h2) rfl)) rfl ?_
      refine WX.pure 28 #[true, true, true, true, true, true, true, true, true, true, true, true, true, true, true, true, true, true, true, true, true, true, true, true, true, true, true, true, true, false, false, false, false, false, false, false, false] rfl (by kernel_rfl) (fun _ _ => Y.move (.pl rfl)) rfl ?_
      refine WX.pureY 29 #[true, true, true, true, true, true, true, true, true, true, true, true, true, true, true, true, true, true, true, true, true, true, true, true, true, true, true, true, true, true, false, false, false, false, false, false, false] rfl (by kernel_rfl) (fun _ _ => Yg.g (.pl rfl rfl rfl) (fun hg => Y.move (.pl rfl))) rfl ?_
      refine WX.pureY 30 #[true, true, true, true, true, true, true, true, true, true, true, true, true, true, true, true, true, true, true, true, true, true, true, true, true, true, true, true, true, true, true, false, false, false, false, false, false] rfl (by kernel_rfl) (fun _ _ => Yg.g (.pl rfl rfl rfl) (fun hg => Y.eql (.gd (hg) rfl) (.pl rfl))) rfl ?_
      refine WX.take 31 #[true, true, true, true, true, true, true, true, true, true, true, true, true, true, true, true, true, true, true, true, true, true, true, true, true, true, true, true, true, true, true, true, false, false, false, false, false] (fun w hw => St.tail [_] hw) rfl (by kernel_rfl) (Y.and (.pl rfl) (fun h2 => .gd (eqt h2) rfl)) rfl ?_
      refine WX.pure 32 #[true, true, true, true, true, true, true, true, true, true, true, true, true, true, true, true, true, true, true, true, true, true, true, true, true, true, true, true, true, true, true, true, true, false, false, false, false] rfl (by kernel_rfl) (fun _ _ => Y.move (.pl rfl)) rfl ?_
      refine WX.pureY 33 #[true, true, true, true, true, true, true, true, true, true, true, true, true, true, true, true, true, true, true, true, true, true, true, true, true, true, true, true, true, true, true, true, true, true, false, false, false] rfl (by kernel_rfl) (fun _ _ => Yg.g (.pl rfl rfl rfl) (fun hg => Y.move (.pl rfl))) rfl ?_
      refine WX.pureY 34 #[true, true, true, true, true, true, true, true, true, true, true, true, true, true, true, true, true, true, true, true, true, true, true, true, true, true, true, true, true, true, true, true, true, true, true, false, false] rfl (by kernel_rfl) (fun _ _ => Yg.g (.pl rfl rfl rfl) (fun hg => Y.eql (.gd (hg) rfl) (.pl rfl))) rfl ?_
      refine WX.take 35 #[true, true, true, true, true, true, true, true, true, true, true, true, true, true, true, true, true, true, true, true, true, true, true, true, true, true, true, true, true, true, true, true, true, true, true, true, false] (fun w hw => St.tail [_] hw) rfl (by kernel_rfl) (Y.and (.pl rfl) (fun h2 => .gd (eqt h2) rfl)) rfl ?_
      refine WX.stop #[true, true, true, true, true, true, true, true, true, true, true, true, true, true, true, true, true, true, true, true, true, true, true, true, true, true, true, true, true, true, true, true, true, true, true, true, true] (fun w hw => St.tail [_] hw) rfl (by kernel_rfl) (WO.q (Y.assign (.pl rfl)) rfl ?_)
      refine WA.done (by kernel_rfl) ?_
      exact W.joinAt1 hK8 ((((((r15 && false) && (decide (((r4.1).length : Int) = 3))) && (decide (x19 = (Span.mk 0 1)))) && (decide (r7.1 = 1))) && (decide (r7.2.1 = 2))) && (decide (r10.2 = 4))) (Option.some.inj hF7) (.cons rfl (.nil)) (.nil) (fun w hw => hw.pick [] rfl)
  · -- behind
    rintro v13 rfl
    obtain rfl := Option.some.inj hF
    refine W.retV (fn := Try.f27) (vs := [.bool v13]) Try.results27 ⟨.tmp rfl, trivial⟩ (fun _ _ h => h) (fun w hw => ?_)
    exact hR _ _ ⟨rfl, (hw.pick [] rfl)⟩

end Go.Proofs.Ytemckhkicfpgeaa
