/- HistorySpans: what its code computes, and the walks. -/
import Derived.Test.YtooaoekfnmakhaaS1
set_option linter.unusedVariables false
set_option linter.unusedSimpArgs false
set_option linter.unusedSectionVars false
set_option maxRecDepth 100000
namespace Go.Proofs.Ytooaoekfnmakhaa
open Go.RowKit
structure Rel where
  n : Int
  after : List Int
deriving DecidableEq
def Rel.z : Rel := ⟨0, []⟩
def encRel (x : Rel) : List Value := (Value.int .i64 x.n :: ((encA 12 (eI .u16) 0) x.after ++ []))
theorem lenRel (x : Rel) : (encRel x).length = 13 := rfl
theorem oneRel : ∀ x, ∀ v ∈ encRel x, v.oneCell' = true := fun x => (one_cons rfl (one_app ((oneA oneI) _) one_nil))
structure Span where
  from_ : Int
  to_ : Int
deriving DecidableEq
def Span.z : Span := ⟨0, 0⟩
def encSpan (x : Span) : List Value := (Value.int .i64 x.from_ :: (Value.int .i64 x.to_ :: []))
theorem lenSpan (x : Span) : (encSpan x).length = 2 := rfl
theorem eqSpan (x y : Span) : eqCells [true, true] (encSpan x) (encSpan y) = some (decide (x = y)) := by
  cases x; cases y; simp [encSpan, eqCells, Span.mk.injEq, Bool.beq_eq_decide_eq]
theorem oneSpan : ∀ x, ∀ v ∈ encSpan x, v.oneCell' = true := fun x => (one_cons rfl (one_cons rfl one_nil))
theorem cells25 : Try.prog.cellsOf 25 = 0 + 1 := by kernel_rfl
theorem cells44 : Try.prog.cellsOf 44 = 0 + 1 := by kernel_rfl
theorem cells45 : Try.prog.cellsOf 45 = 11 + 1 := by kernel_rfl
theorem cells47 : Try.prog.cellsOf 47 = 12 + 1 := by kernel_rfl
theorem cells53 : Try.prog.cellsOf 53 = 1 + 1 := by kernel_rfl
theorem isGo16 : IsGo Try.prog 16 := ⟨_, Try.func16, by kernel_rfl, rfl⟩
theorem isGo24 : IsGo Try.prog 24 := ⟨_, Try.func24, by kernel_rfl, rfl⟩
theorem isGo25 : IsGo Try.prog 25 := ⟨_, Try.func25, by kernel_rfl, rfl⟩
theorem isGo26 : IsGo Try.prog 26 := ⟨_, Try.func26, by kernel_rfl, rfl⟩
theorem isGo27 : IsGo Try.prog 27 := ⟨_, Try.func27, by kernel_rfl, rfl⟩
theorem isGo43 : IsGo Try.prog 43 := ⟨_, Try.func43, by kernel_rfl, rfl⟩
theorem isGo44 : IsGo Try.prog 44 := ⟨_, Try.func44, by kernel_rfl, rfl⟩
theorem isGo45 : IsGo Try.prog 45 := ⟨_, Try.func45, by kernel_rfl, rfl⟩
theorem isGo46 : IsGo Try.prog 46 := ⟨_, Try.func46, by kernel_rfl, rfl⟩
theorem zero30 : ∃ i, Try.prog.info? 30 = some i ∧ i.zero = some (Value.agg #[(Value.int .i64 0), (Value.int .i64 0), (Value.int .i64 0), (Value.int .i64 0), (Value.int .i64 0), (Value.int .i64 0), (Value.int .i64 0)]) := ⟨_, rfl, by kernel_rfl⟩
theorem zero47 : ∃ i, Try.prog.info? 47 = some i ∧ i.zero = some (Value.agg #[(Value.int .i64 0), (Value.int .u16 0), (Value.int .u16 0), (Value.int .u16 0), (Value.int .u16 0), (Value.int .u16 0), (Value.int .u16 0), (Value.int .u16 0), (Value.int .u16 0), (Value.int .u16 0), (Value.int .u16 0), (Value.int .u16 0), (Value.int .u16 0)]) := ⟨_, rfl, by kernel_rfl⟩
theorem zero53 : ∃ i, Try.prog.info? 53 = some i ∧ i.zero = some (Value.agg #[(Value.int .i64 0), (Value.int .i64 0)]) := ⟨_, rfl, by kernel_rfl⟩
theorem bz25 : ∃ i, Try.prog.info? 25 = some i ∧ i.zero = some (Value.int .i64 0) ∧ i.size = 1 := ⟨_, rfl, by kernel_rfl, by kernel_rfl⟩
theorem bz53 : ∃ i, Try.prog.info? 53 = some i ∧ i.zero = some (Value.agg #[(Value.int .i64 0), (Value.int .i64 0)]) ∧ i.size = 2 := ⟨_, rfl, by kernel_rfl, by kernel_rfl⟩
theorem ap53 : ∃ i z, Try.prog.info? 53 = some i ∧ i.zero = some z ∧ i.size = 2 ∧ i.bytes = 16 ∧ z.cells.size = 2 ∧ 0 < 2 := ⟨_, (Value.agg #[(Value.int .i64 0), (Value.int .i64 0)]), rfl, by kernel_rfl, by kernel_rfl, by kernel_rfl, by kernel_rfl, by decide⟩
theorem shape47 : Shape Try.prog 47 [(0, 1), (1, 12)] #[(Value.int .i64 0), (Value.int .u16 0), (Value.int .u16 0), (Value.int .u16 0), (Value.int .u16 0), (Value.int .u16 0), (Value.int .u16 0), (Value.int .u16 0), (Value.int .u16 0), (Value.int .u16 0), (Value.int .u16 0), (Value.int .u16 0), (Value.int .u16 0)] := ⟨_, _, Value.agg #[(Value.int .i64 0), (Value.int .u16 0), (Value.int .u16 0), (Value.int .u16 0), (Value.int .u16 0), (Value.int .u16 0), (Value.int .u16 0), (Value.int .u16 0), (Value.int .u16 0), (Value.int .u16 0), (Value.int .u16 0), (Value.int .u16 0), (Value.int .u16 0)], Try.underlying47, rfl, by kernel_rfl, rfl, by kernel_rfl, by decide⟩
theorem shape53 : Shape Try.prog 53 [(0, 1), (1, 1)] #[(Value.int .i64 0), (Value.int .i64 0)] := ⟨_, _, Value.agg #[(Value.int .i64 0), (Value.int .i64 0)], Try.underlying53, rfl, by kernel_rfl, rfl, by kernel_rfl, by decide⟩
theorem eqg47 : EqIA Try.prog 47 12 .i64 .u16 := ⟨3, 45, 44, .u16, by kernel_rfl, by kernel_rfl, by kernel_rfl, by kernel_rfl, by kernel_rfl, by kernel_rfl, by kernel_rfl, by kernel_rfl, by kernel_rfl, by decide⟩
def history_Ahead_L27 (N : Nat) (l1 : (List Call)) (x12 : Call) (v10 : Int) : ((List Int) × Int) → Option (((List Int) × Int) ⊕ (List Int))
  | (After14, v15) =>
    cond (decide (v15 < ((l1).length : Int)))
      (bd (ix l1 v15) fun (x16 : Call) =>
      cond ((!(decide (x12.to_ = (-1)))) && (decide (x12.to_ < x16.from_)))
        (bd (ax 12 0 After14 v10) fun (x18 : Int) =>
        bd (ax 12 0 After14 v10) fun (x19 : Int) =>
        ck (ok64 (v15 + 1)) <|
        some (.inl ((setA 12 0 After14 v10 (borI .u16 x18 (shlI .u16 1 (IntKind.u64.wrap v15)))), (v15 + 1))))
        (ck (ok64 (v15 + 1)) <|
        some (.inl (After14, (v15 + 1)))))
      (some (.inr After14))

def history_Ahead_L25 (N : Nat) (l1 : (List Call)) : ((List Int) × Int) → Option (((List Int) × Int) ⊕ (List Int))
  | (After9, v10) =>
    cond (decide (v10 < ((l1).length : Int)))
      (bd (α := (List Int)) (bd (ix l1 v10) fun (x12 : Call) =>
        iter (history_Ahead_L27 N l1 x12 v10) N (After9, 0)) <|
      fun (After11 : (List Int)) => 
        ck (ok64 (v10 + 1)) <|
        some (.inl (After11, (v10 + 1))))
      (some (.inr After9))

def history_Ahead (N : Nat) (l1 : (List Call)) : Option (Int × (List Int) × Int) :=
  cond (decide (12 < ((l1).length : Int)))
    (some (0, [], 2))
    (bd (α := (List Int)) (iter (history_Ahead_L25 N l1) N ([], 0)) <|
    fun (After8 : (List Int)) => 
      some (((l1).length : Int), After8, 0))

theorem history_Ahead_ok {N : Nat} {l1 : (List Call)} {res : (Int × (List Int) × Int)} (hF : history_Ahead N l1 = some res) (w : World) {v5 : Value} (hs4 : SlIn encCall 7 w v5 l1) :
    Pure Try.prog 24 [v5] w (.tuple #[.agg (encRel (Rel.mk res.1 res.2.1)).toArray, .int .i64 res.2.2]) := by
  obtain ⟨A2, c3, rfl, hcc3, hs4⟩ := hs4.form
  refine W.enter (n := 53) Try.func24 rfl rfl Sub.refl (by simp) (St.start w) fun R hR => ?_
  unfold history_Ahead at hF
  -- region 0: history.go:175
  refine W.seqR fun Q1 hQ1 => ?_
  refine WL.step (WO.alloc (cs := (encRel (Rel.mk 0 [])).toArray) zero47 rfl rfl fun b6 => ?_)
  refine WL.q (Y.assign (.pl rfl)) rfl ?_
  refine WL.next hQ1 (.cons (i := 0) rfl (.cons (i := 2) rfl (.nil))) ?_
  refine W.seq fun K2 hK2 => ?_
  -- region 1: history.go:176
  refine W.seqR fun Q3 hQ3 => ?_
  refine WL.q (Y.move (.pl rfl)) rfl ?_
  refine WL.q (Y.len Try.underlying24 (.pl rfl)) rfl ?_
  refine WL.q (Y.gtr (.pl rfl) (.pl rfl)) rfl ?_
  refine WL.next hQ3 (.cons (i := 0) rfl (.cons (i := 2) rfl (.cons (i := 11) rfl (.nil)))) ?_
  refine W.cond (.pl rfl) (fun hC4 => ?_) (fun hC4 => ?_)
  · replace hF := cpos hC4 hF
    -- region 2: history.go:177
    refine W.seqR fun Q5 hQ5 => ?_
    refine WL.q (Y.build (cs := (encRel (Rel.mk 0 [])).toArray) shape47 (.nil) (one_parts trivial) rfl) rfl ?_
    refine WL.step (WO.storeBA (ds := (encRel (Rel.mk 0 []))) (cs' := (encRel (Rel.mk 0 []))) cells47 (.pl rfl) (.pl rfl) rfl (oneRel _) (i := 0) rfl (lel (o := 0) (l := 13) (m := 13) (by decide) rfl rfl) (putW rfl) ?_)
    refine WL.q (Y.assign (.pl rfl)) rfl ?_
    refine WL.next hQ5 (.cons (i := 2) rfl (.cons (i := 3) rfl (.nil))) ?_
    obtain rfl := Option.some.inj hF
    refine W.retV (fn := Try.f24) (vs := [.agg (encRel (Rel.mk 0 [])).toArray, .int .i64 2]) Try.results24 ⟨.cellA Try.underlying47 rfl cells47 rfl (i := 0) rfl rfl, ⟨.tmp rfl, trivial⟩⟩ (fun _ _ h => h) (fun w hw => ?_)
    exact hR _ _ ⟨rfl, (hw.pick [] rfl)⟩
  · replace hF := cneg hC4 hF
    refine W.skip ?_
    refine W.go hK2 (.cons (i := 0) rfl (.cons (i := 2) rfl (.nil))) ?_
    -- region 3: history.go:179
    refine W.seqR fun Q6 hQ6 => ?_
    refine WL.q (Y.move (.pl rfl)) rfl ?_
    refine WL.q (Y.len Try.underlying24 (.pl rfl)) rfl ?_
    refine WL.q (Y.build (cs := (encRel (Rel.mk ((l1).length : Int) [])).toArray) shape47 (.cons (.pl rfl) (.nil)) (one_parts ⟨rfl, trivial⟩) rfl) rfl ?_
    refine WL.step (WO.alloc (cs := (encRel (Rel.mk 0 [])).toArray) zero47 rfl rfl fun b7 => ?_)
    refine WL.step (WO.storeBA (ds := (encRel (Rel.mk ((l1).length : Int) []))) (cs' := (encRel (Rel.mk ((l1).length : Int) []))) cells47 (.pl rfl) (.pl rfl) rfl (oneRel _) (i := 0) rfl (lel (o := 0) (l := 13) (m := 13) (by decide) rfl rfl) (putW rfl) ?_)
    refine WL.next hQ6 (.cons (i := 0) rfl (.cons (i := 2) rfl (.cons (i := 4) rfl (.nil)))) ?_
    obtain ⟨o7, hF7, hF⟩ := bnd hF
    refine W.join1 (Em := fun (After8 : (List Int)) => []) (M := fun After8 => [cBx b6 47 (encRel (Rel.mk 0 [])), cBx b7 47 (encRel (Rel.mk ((l1).length : Int) After8))]) (I := fun After8 => After8 = o7) (.cons (i := 2) rfl (.cons (i := 4) rfl (.nil))) (fun K8 hK8 => ?_) ?_
    · -- up to
      -- region 4: history.go:180
      refine W.seqR fun Q9 hQ9 => ?_
      refine WL.q (Y.move (.pl rfl)) rfl ?_
      refine WL.q (Y.len Try.underlying24 (.pl rfl)) rfl ?_
      refine WL.q (Y.move (.pl rfl)) rfl ?_
      refine WL.next hQ9 (.cons (i := 0) rfl (.cons (i := 2) rfl (.cons (i := 4) rfl (.cons (i := 16) rfl (.cons (i := 17) rfl (.cons (i := 18) rfl (.nil))))))) ?_
      refine W.block ?_
      refine W.loop2 (Em := fun (After9 : (List Int)) (v10 : Int) => [(18, .int .i64 v10)]) (M := fun After9 v10 => [cBx b6 47 (encRel (Rel.mk 0 [])), cBx b7 47 (encRel (Rel.mk ((l1).length : Int) After9))]) (I := fun After9 v10 k10 => iter (history_Ahead_L25 N l1) k10 (After9, v10) = some o7) [] 0 N (hF7) (.cons rfl (.nil)) (.cons (i := 0) rfl (.cons (i := 2) rfl (.cons (i := 4) rfl (.cons (i := 16) rfl (.cons (i := 17) rfl (.nil)))))) (fun w hw => hw.pick [1, 0] rfl) (fun After9 v10 k10 hI K11 hK11 => ?_)
      obtain ⟨k10, t10, rfl, hF10, hN10⟩ := iter_step hI
      -- region 5: history.go:180
      refine W.seqR fun Q12 hQ12 => ?_
      refine WL.q (Y.lss (.pl rfl) (.pl rfl)) rfl ?_
      refine WL.next hQ12 (.cons (i := 0) rfl (.cons (i := 2) rfl (.cons (i := 4) rfl (.cons (i := 16) rfl (.cons (i := 17) rfl (.cons (i := 18) rfl (.cons (i := 19) rfl (.nil)))))))) ?_
      refine W.seq fun K13 hK13 => ?_
      refine W.cond (.pl rfl) (fun hC14 => ?_) (fun hC14 => ?_)
      · replace hF10 := cpos hC14 hF10
        refine W.skip ?_
        refine W.go hK13 (.cons (i := 0) rfl (.cons (i := 2) rfl (.cons (i := 4) rfl (.cons (i := 16) rfl (.cons (i := 17) rfl (.cons (i := 18) rfl (.nil))))))) ?_
        obtain ⟨o15, hF15, hF10⟩ := bnd hF10
        refine W.join1 (Em := fun (After11 : (List Int)) => []) (M := fun After11 => [cBx b6 47 (encRel (Rel.mk 0 [])), cBx b7 47 (encRel (Rel.mk ((l1).length : Int) After11))]) (I := fun After11 => After11 = o15) (.cons (i := 0) rfl (.cons (i := 2) rfl (.cons (i := 4) rfl (.cons (i := 16) rfl (.cons (i := 17) rfl (.cons (i := 18) rfl (.nil))))))) (fun K16 hK16 => ?_) ?_
        · -- up to
          refine W.block ?_
          -- region 6: history.go:180
          refine W.seqR fun Q17 hQ17 => ?_
          refine WL.q (Y.move (.pl rfl)) rfl ?_
          obtain ⟨x12, hx12, hF15⟩ := bnd hF15
          refine WL.q (Y.slEl Try.underlying24 cells30 hs4 (.pl rfl) (.pl rfl) (ix_lt (hx12))) rfl ?_
          refine WL.q (Y.loadSA (enc := encCall) (ds := (encCall x12)) (j := 0) Try.underlying30 rfl cells30 hs4 (.pl rfl) (hx12) rfl rfl subW) rfl ?_
          refine WL.step (WO.alloc (cs := (encCall (Call.mk 0 0 0 0 0 0 0)).toArray) zero30 rfl rfl fun b13 => ?_)
          refine WL.q (Y.assign (.pl rfl)) rfl ?_
          refine WL.step (WO.storeBA (ds := (encCall x12)) (cs' := (encCall x12)) cells30 (.pl rfl) (.pl rfl) rfl (oneCall _) (i := 0) rfl (lel (o := 0) (l := 7) (m := 7) (by decide) rfl rfl) (putW rfl) ?_)
          refine WL.next hQ17 (.cons (i := 0) rfl (.cons (i := 2) rfl (.cons (i := 4) rfl (.cons (i := 5) rfl (.cons (i := 6) rfl (.cons (i := 16) rfl (.cons (i := 17) rfl (.cons (i := 18) rfl (.nil))))))))) ?_
          -- region 7: history.go:181
          refine W.seqR fun Q18 hQ18 => ?_
          refine WL.q (Y.move (.pl rfl)) rfl ?_
          refine WL.q (Y.len Try.underlying24 (.pl rfl)) rfl ?_
          refine WL.q (Y.move (.pl rfl)) rfl ?_
          refine WL.next hQ18 (.cons (i := 0) rfl (.cons (i := 2) rfl (.cons (i := 4) rfl (.cons (i := 5) rfl (.cons (i := 6) rfl (.cons (i := 16) rfl (.cons (i := 17) rfl (.cons (i := 18) rfl (.cons (i := 23) rfl (.cons (i := 24) rfl (.cons (i := 25) rfl (.nil)))))))))))) ?_
          refine W.block ?_
          refine W.loop2 (Em := fun (After14 : (List Int)) (v15 : Int) => [(25, .int .i64 v15)]) (M := fun After14 v15 => [cBx b6 47 (encRel (Rel.mk 0 [])), cBx b7 47 (encRel (Rel.mk ((l1).length : Int) After14)), cBx b13 30 (encCall x12)]) (I := fun After14 v15 k19 => iter (history_Ahead_L27 N l1 x12 v10) k19 (After14, v15) = some o15) After9 0 N (hF15) (.cons rfl (.nil)) (.cons (i := 0) rfl (.cons (i := 2) rfl (.cons (i := 4) rfl (.cons (i := 5) rfl (.cons (i := 6) rfl (.cons (i := 16) rfl (.cons (i := 17) rfl (.cons (i := 18) rfl (.cons (i := 23) rfl (.cons (i := 24) rfl (.nil))))))))))) (fun w hw => hw.pick [1, 2, 0] rfl) (fun After14 v15 k19 hI K20 hK20 => ?_)
          obtain ⟨k19, t19, rfl, hF19, hN19⟩ := iter_step hI
          -- region 8: history.go:181
          refine W.seqR fun Q21 hQ21 => ?_
          refine WL.q (Y.lss (.pl rfl) (.pl rfl)) rfl ?_
          refine WL.next hQ21 (.cons (i := 0) rfl (.cons (i := 2) rfl (.cons (i := 4) rfl (.cons (i := 5) rfl (.cons (i := 6) rfl (.cons (i := 16) rfl (.cons (i := 17) rfl (.cons (i := 18) rfl (.cons (i := 23) rfl (.cons (i := 24) rfl (.cons (i := 25) rfl (.cons (i := 26) rfl (.nil))))))))))))) ?_
          refine W.seq fun K22 hK22 => ?_
          refine W.cond (.pl rfl) (fun hC23 => ?_) (fun hC23 => ?_)
          · replace hF19 := cpos hC23 hF19
            refine W.skip ?_
            refine W.go hK22 (.cons (i := 0) rfl (.cons (i := 2) rfl (.cons (i := 4) rfl (.cons (i := 5) rfl (.cons (i := 6) rfl (.cons (i := 16) rfl (.cons (i := 17) rfl (.cons (i := 18) rfl (.cons (i := 23) rfl (.cons (i := 24) rfl (.cons (i := 25) rfl (.nil)))))))))))) ?_
            refine W.seq fun K24 hK24 => ?_
            refine W.block ?_
            -- region 9: history.go:181
            refine W.seqR fun Q25 hQ25 => ?_
            refine WL.q (Y.move (.pl rfl)) rfl ?_
            obtain ⟨x16, hx16, hF19⟩ := bnd hF19
            refine WL.q (Y.slEl Try.underlying24 cells30 hs4 (.pl rfl) (.pl rfl) (ix_lt (hx16))) rfl ?_
            refine WL.q (Y.loadSA (enc := encCall) (ds := (encCall x16)) (j := 0) Try.underlying30 rfl cells30 hs4 (.pl rfl) (hx16) rfl rfl subW) rfl ?_
            refine WL.step (WO.alloc (cs := (encCall (Call.mk 0 0 0 0 0 0 0)).toArray) zero30 rfl rfl fun b17 => ?_)
            refine WL.q (Y.assign (.pl rfl)) rfl ?_
            refine WL.step (WO.storeBA (ds := (encCall x16)) (cs' := (encCall x16)) cells30 (.pl rfl) (.pl rfl) rfl (oneCall _) (i := 0) rfl (lel (o := 0) (l := 7) (m := 7) (by decide) rfl rfl) (putW rfl) ?_)
            refine WL.next hQ25 (.cons (i := 0) rfl (.cons (i := 2) rfl (.cons (i := 4) rfl (.cons (i := 5) rfl (.cons (i := 6) rfl (.cons (i := 7) rfl (.cons (i := 8) rfl (.cons (i := 16) rfl (.cons (i := 17) rfl (.cons (i := 18) rfl (.cons (i := 23) rfl (.cons (i := 24) rfl (.cons (i := 25) rfl (.nil)))))))))))))) ?_
            -- region 10: history.go:182
            refine W.seqR fun Q26 hQ26 => ?_
            refine WL.q (Y.fieldAddr0 (off := 6) (ft := 3) Try.underlying30 rfl cells3 (.pl rfl)) rfl ?_
            refine WL.q (Y.loadB (v := .int .i64 x12.to_) Try.underlying3 rfl (.pl rfl) (i := 3) rfl (rfl)) rfl ?_
            refine WL.q (Y.neq (.pl rfl) (.pl rfl)) rfl ?_
            refine WL.q (Y.move (.pl rfl)) rfl ?_
            refine WL.g (.pl rfl rfl rfl) (fun hg => Y.fieldAddr0 (off := 5) (ft := 3) Try.underlying30 rfl cells3 (.pl rfl)) rfl ?_
            refine WL.g (.pl rfl rfl rfl) (fun hg => Y.loadB (v := .int .i64 x16.from_) Try.underlying3 rfl (.gd (hg) rfl) (i := 0) rfl (rfl)) rfl ?_
            refine WL.g (.pl rfl rfl rfl) (fun hg => Y.fieldAddr0 (off := 6) (ft := 3) Try.underlying30 rfl cells3 (.pl rfl)) rfl ?_
            refine WL.g (.pl rfl rfl rfl) (fun hg => Y.loadB (v := .int .i64 x12.to_) Try.underlying3 rfl (.gd (hg) rfl) (i := 3) rfl (rfl)) rfl ?_
            refine WL.g (.pl rfl rfl rfl) (fun hg => Y.gtr (.gd (hg) rfl) (.gd (hg) rfl)) rfl ?_
            refine WL.q (Y.and (.pl rfl) (fun h2 => .gd (eqt h2) rfl)) rfl ?_
            refine WL.next hQ26 (.cons (i := 0) rfl (.cons (i := 2) rfl (.cons (i := 4) rfl (.cons (i := 5) rfl (.cons (i := 6) rfl (.cons (i := 7) rfl (.cons (i := 16) rfl (.cons (i := 17) rfl (.cons (i := 18) rfl (.cons (i := 23) rfl (.cons (i := 24) rfl (.cons (i := 25) rfl (.cons (i := 39) rfl (.nil)))))))))))))) ?_
            refine W.cond (.pl rfl) (fun hC27 => ?_) (fun hC27 => ?_)
            · replace hF19 := cpos hC27 hF19
              -- region 11: history.go:183
              refine W.reg ?_
              refine WL.q (Y.move (.pl rfl)) rfl ?_
              refine WL.q (Y.fieldAddr0 (off := 1) (ft := 45) Try.underlying47 rfl cells45 (.pl rfl)) rfl ?_
              obtain ⟨x18, hx18, hF19⟩ := bnd hF19
              refine WL.q (Y.arrZ Try.underlying45 cells44 (.pl rfl) (.pl rfl) (ax_lt (hx18))) rfl ?_
              refine WL.q (Y.loadB (v := .int .u16 x18) Try.underlying44 rfl (.pl rfl) (i := 2) rfl (cellsA (pre := (.int .i64 ((l1).length : Int) :: [])) (off := 1) (post := []) (a := After14) (enc := (eI .u16)) (d := 0) (n := 12) (sz := 1) (j := 0) (fun _ => rfl) rfl (ax_nat (hx18)) (ax_get (hx18)) rfl)) rfl ?_
              refine WL.q (Y.move (.pl rfl)) rfl ?_
              refine WL.q (Y.conv Try.underlying3 Try.underlying91 (.pl rfl)) rfl ?_
              refine WL.q (Y.shl (.pl rfl) (.pl rfl) (wrapU_nn rfl _)) rfl ?_
              refine WL.q (Y.bor (.pl rfl) (.pl rfl)) rfl ?_
              refine WL.q (Y.fieldAddr0 (off := 1) (ft := 45) Try.underlying47 rfl cells45 (.pl rfl)) rfl ?_
              obtain ⟨x19, hx19, hF19⟩ := bnd hF19
              refine WL.q (Y.arrZ Try.underlying45 cells44 (.pl rfl) (.pl rfl) (ax_lt (hx19))) rfl ?_
              refine WL.step (WO.storeB (cs' := (encRel (Rel.mk ((l1).length : Int) (setA 12 0 After14 v10 (borI .u16 x18 (shlI .u16 1 (IntKind.u64.wrap v15))))))) cells44 (.pl rfl) (.pl rfl) rfl (i := 2) rfl (ltl (m := 13) (offlt (off := 1) (sz := 1) (j := 0) (ax_nat (hx19)) (by decide)) rfl) (cellsSet (pre := (.int .i64 ((l1).length : Int) :: [])) (off := 1) (post := []) (a := After14) (enc := (eI .u16)) (d := 0) (n := 12) (sz := 1) (j := 0) (x := x19) (x' := (borI .u16 x18 (shlI .u16 1 (IntKind.u64.wrap v15)))) (fun _ => rfl) rfl (ax_lt (hx19)) (ax_get (hx19)) (by decide) rfl rfl) ?_)
              refine WL.nil ?_
              refine W.go hK24 (.cons (i := 0) rfl (.cons (i := 2) rfl (.cons (i := 4) rfl (.cons (i := 5) rfl (.cons (i := 6) rfl (.cons (i := 16) rfl (.cons (i := 17) rfl (.cons (i := 18) rfl (.cons (i := 23) rfl (.cons (i := 24) rfl (.cons (i := 25) rfl (.nil)))))))))))) ?_
              -- region 12: history.go:181
              refine W.reg ?_
              obtain ⟨hk20, hF19⟩ := ckh hF19
              refine WL.q (Y.add (.pl rfl) (.pl rfl) (ok64_lt (hk20))) rfl ?_
              refine WL.q (Y.move (.pl rfl)) rfl ?_
              refine WL.nil ?_
              obtain rfl := Option.some.inj hF19
              exact W.again2 hK20 (setA 12 0 After14 v10 (borI .u16 x18 (shlI .u16 1 (IntKind.u64.wrap v15)))) (v15 + 1) k19 hN19 (Nat.lt_succ_self _) (.cons rfl (.nil)) (.cons (i := 0) rfl (.cons (i := 2) rfl (.cons (i := 4) rfl (.cons (i := 5) rfl (.cons (i := 6) rfl (.cons (i := 16) rfl (.cons (i := 17) rfl (.cons (i := 18) rfl (.cons (i := 23) rfl (.cons (i := 24) rfl (.nil))))))))))) (fun w hw => hw.pick [1, 2, 3] rfl)
            · replace hF19 := cneg hC27 hF19
              refine W.skip ?_
              refine W.go hK24 (.cons (i := 0) rfl (.cons (i := 2) rfl (.cons (i := 4) rfl (.cons (i := 5) rfl (.cons (i := 6) rfl (.cons (i := 16) rfl (.cons (i := 17) rfl (.cons (i := 18) rfl (.cons (i := 23) rfl (.cons (i := 24) rfl (.cons (i := 25) rfl (.nil)))))))))))) ?_
              -- region 12: history.go:181
              refine W.reg ?_
              obtain ⟨hk21, hF19⟩ := ckh hF19
              refine WL.q (Y.add (.pl rfl) (.pl rfl) (ok64_lt (hk21))) rfl ?_
              refine WL.q (Y.move (.pl rfl)) rfl ?_
              refine WL.nil ?_
              obtain rfl := Option.some.inj hF19
              exact W.again2 hK20 After14 (v15 + 1) k19 hN19 (Nat.lt_succ_self _) (.cons rfl (.nil)) (.cons (i := 0) rfl (.cons (i := 2) rfl (.cons (i := 4) rfl (.cons (i := 5) rfl (.cons (i := 6) rfl (.cons (i := 16) rfl (.cons (i := 17) rfl (.cons (i := 18) rfl (.cons (i := 23) rfl (.cons (i := 24) rfl (.nil))))))))))) (fun w hw => hw.pick [1, 2, 3] rfl)
          · replace hF19 := cneg hC23 hF19
            refine W.exit ?_
            obtain rfl := Option.some.inj hF19
            exact W.joinAt1 hK16 After14 (einr hN19) (.nil) (.cons (i := 0) rfl (.cons (i := 2) rfl (.cons (i := 4) rfl (.cons (i := 16) rfl (.cons (i := 17) rfl (.cons (i := 18) rfl (.nil))))))) (fun w hw => hw.pick [0, 1] rfl)
        · -- behind
          rintro After11 rfl
          -- region 13: history.go:180
          refine W.reg ?_
          obtain ⟨hk22, hF10⟩ := ckh hF10
          refine WL.q (Y.add (.pl rfl) (.pl rfl) (ok64_lt (hk22))) rfl ?_
          refine WL.q (Y.move (.pl rfl)) rfl ?_
          refine WL.nil ?_
          obtain rfl := Option.some.inj hF10
          exact W.again2 hK11 After11 (v10 + 1) k10 hN10 (Nat.lt_succ_self _) (.cons rfl (.nil)) (.cons (i := 0) rfl (.cons (i := 2) rfl (.cons (i := 4) rfl (.cons (i := 16) rfl (.cons (i := 17) rfl (.nil)))))) (fun w hw => hw.pick [0, 1] rfl)
      · replace hF10 := cneg hC14 hF10
        refine W.exit ?_
        obtain rfl := Option.some.inj hF10
        exact W.joinAt1 hK8 After9 (einr hN10) (.nil) (.cons (i := 2) rfl (.cons (i := 4) rfl (.nil))) (fun w hw => hw.pick [0, 1] rfl)
    · -- behind
      rintro After8 rfl
      -- region 14: history.go:187
      refine W.seqR fun Q32 hQ32 => ?_
      refine WL.q (Y.loadBA (ds := (encRel (Rel.mk ((l1).length : Int) After8))) Try.underlying47 rfl cells47 (.pl rfl) (i := 1) rfl rfl subW) rfl ?_
      refine WL.step (WO.storeBA (ds := (encRel (Rel.mk ((l1).length : Int) After8))) (cs' := (encRel (Rel.mk ((l1).length : Int) After8))) cells47 (.pl rfl) (.pl rfl) rfl (oneRel _) (i := 0) rfl (lel (o := 0) (l := 13) (m := 13) (by decide) rfl rfl) (putW rfl) ?_)
      refine WL.q (Y.assign (.pl rfl)) rfl ?_
      refine WL.next hQ32 (.cons (i := 2) rfl (.cons (i := 3) rfl (.nil))) ?_
      obtain rfl := Option.some.inj hF
      refine W.retV (fn := Try.f24) (vs := [.agg (encRel (Rel.mk ((l1).length : Int) After8)).toArray, .int .i64 0]) Try.results24 ⟨.cellA Try.underlying47 rfl cells47 rfl (i := 0) rfl rfl, ⟨.tmp rfl, trivial⟩⟩ (fun _ _ h => h) (fun w hw => ?_)
      exact hR _ _ ⟨rfl, (hw.pick [] rfl)⟩

def alibkeep_ok_L3 (N : Nat) (l1 : (List Int)) : Int → Option (Int ⊕ (Unit ⊕ Bool))
  | v6 =>
    cond (decide (v6 < ((l1).length : Int)))
      (bd (ix l1 v6) fun (x7 : Int) =>
      cond (!(decide (x7 = 0)))
        (some (.inr (.inr false)))
        (ck (ok64 (v6 + 1)) <|
        some (.inl (v6 + 1))))
      (some (.inr (.inl ())))

def alibkeep_ok (N : Nat) (l1 : (List Int)) : Option Bool :=
  bd (α := (Unit ⊕ Bool)) (iter (alibkeep_ok_L3 N l1) N 0) <|
  Sum.elim (fun _ => 
    some true) (fun p => some p)

theorem alibkeep_ok_ok {N : Nat} {l1 : (List Int)} {res : Bool} (hF : alibkeep_ok N l1 = some res) (w : World) {v5 : Value} (hs4 : SlIn (eI .i64) 1 w v5 l1) :
    Pure Try.prog 25 [v5] w (.bool res) := by
  obtain ⟨A2, c3, rfl, hcc3, hs4⟩ := hs4.form
  refine W.enter (n := 14) Try.func25 rfl rfl Sub.refl (by simp) (St.start w) fun R hR => ?_
  unfold alibkeep_ok at hF
  -- region 0: order.go:22
  refine W.seqR fun Q1 hQ1 => ?_
  refine WL.q (Y.assign (.pl rfl)) rfl ?_
  refine WL.next hQ1 (.cons (i := 0) rfl (.nil)) ?_
  obtain ⟨o2, hF2, hF⟩ := bnd hF
  refine W.join0 (Em := []) (M := []) (I := (.inl ()) = o2) (.nil) (fun K3 hK3 => ?_) ?_
  · -- up to
    -- region 1: order.go:23
    refine W.seqR fun Q4 hQ4 => ?_
    refine WL.q (Y.move (.pl rfl)) rfl ?_
    refine WL.q (Y.len Try.underlying92 (.pl rfl)) rfl ?_
    refine WL.q (Y.move (.pl rfl)) rfl ?_
    refine WL.next hQ4 (.cons (i := 5) rfl (.cons (i := 6) rfl (.cons (i := 7) rfl (.nil)))) ?_
    refine W.block ?_
    refine W.loop1 (Em := fun (v6 : Int) => [(7, .int .i64 v6)]) (M := fun v6 => []) (I := fun v6 k5 => iter (alibkeep_ok_L3 N l1) k5 v6 = some o2) 0 N (hF2) (.cons rfl (.nil)) (.cons (i := 5) rfl (.cons (i := 6) rfl (.nil))) (fun w hw => hw.pick [] rfl) (fun v6 k5 hI K6 hK6 => ?_)
    obtain ⟨k5, t5, rfl, hF5, hN5⟩ := iter_step hI
    -- region 2: order.go:23
    refine W.seqR fun Q7 hQ7 => ?_
    refine WL.q (Y.lss (.pl rfl) (.pl rfl)) rfl ?_
    refine WL.next hQ7 (.cons (i := 5) rfl (.cons (i := 6) rfl (.cons (i := 7) rfl (.cons (i := 8) rfl (.nil))))) ?_
    refine W.seq fun K8 hK8 => ?_
    refine W.cond (.pl rfl) (fun hC9 => ?_) (fun hC9 => ?_)
    · replace hF5 := cpos hC9 hF5
      refine W.skip ?_
      refine W.go hK8 (.cons (i := 5) rfl (.cons (i := 6) rfl (.cons (i := 7) rfl (.nil)))) ?_
      refine W.seq fun K10 hK10 => ?_
      refine W.block ?_
      -- region 3: order.go:23
      refine W.seqR fun Q11 hQ11 => ?_
      obtain ⟨x7, hx7, hF5⟩ := bnd hF5
      refine WL.q (Y.slEl Try.underlying92 cells25 hs4 (.pl rfl) (.pl rfl) (ix_lt (hx7))) rfl ?_
      refine WL.q (Y.loadS (enc := (eI .i64)) (v := .int .i64 x7) (j := 0) Try.underlying25 rfl hs4 (.pl rfl) (hx7) rfl rfl) rfl ?_
      refine WL.q (Y.assign (.pl rfl)) rfl ?_
      refine WL.next hQ11 (.cons (i := 4) rfl (.cons (i := 5) rfl (.cons (i := 6) rfl (.cons (i := 7) rfl (.nil))))) ?_
      -- region 4: order.go:24
      refine W.seqR fun Q12 hQ12 => ?_
      refine WL.q (Y.move (.pl rfl)) rfl ?_
      refine WL.q (Y.neq (.pl rfl) (.pl rfl)) rfl ?_
      refine WL.next hQ12 (.cons (i := 5) rfl (.cons (i := 6) rfl (.cons (i := 7) rfl (.cons (i := 12) rfl (.nil))))) ?_
      refine W.cond (.pl rfl) (fun hC13 => ?_) (fun hC13 => ?_)
      · replace hF5 := cpos hC13 hF5
        -- region 5: order.go:25
        refine W.seqR fun Q14 hQ14 => ?_
        refine WL.q (Y.assign (.pl rfl)) rfl ?_
        refine WL.next hQ14 (.cons (i := 2) rfl (.nil)) ?_
        obtain rfl := Option.some.inj hF5
        obtain rfl := einr hN5
        obtain rfl := Option.some.inj hF
        refine W.retV (fn := Try.f25) (vs := [.bool false]) Try.results25 ⟨.tmp rfl, trivial⟩ (fun _ _ h => h) (fun w hw => ?_)
        exact hR _ _ ⟨rfl, (hw.pick [] rfl)⟩
      · replace hF5 := cneg hC13 hF5
        refine W.skip ?_
        refine W.go hK10 (.cons (i := 5) rfl (.cons (i := 6) rfl (.cons (i := 7) rfl (.nil)))) ?_
        -- region 6: order.go:23
        refine W.reg ?_
        obtain ⟨hk8, hF5⟩ := ckh hF5
        refine WL.q (Y.add (.pl rfl) (.pl rfl) (ok64_lt (hk8))) rfl ?_
        refine WL.q (Y.move (.pl rfl)) rfl ?_
        refine WL.nil ?_
        obtain rfl := Option.some.inj hF5
        exact W.again1 hK6 (v6 + 1) k5 hN5 (Nat.lt_succ_self _) (.cons rfl (.nil)) (.cons (i := 5) rfl (.cons (i := 6) rfl (.nil))) (fun w hw => hw.pick [] rfl)
    · replace hF5 := cneg hC9 hF5
      refine W.exit ?_
      obtain rfl := Option.some.inj hF5
      exact W.joinAt0 hK3  (einr hN5) (.nil) (.nil) (fun w hw => hw.pick [] rfl)
  · -- behind
    rintro  rfl
    -- region 7: order.go:28
    refine W.seqR fun Q16 hQ16 => ?_
    refine WL.q (Y.assign (.pl rfl)) rfl ?_
    refine WL.next hQ16 (.cons (i := 2) rfl (.nil)) ?_
    obtain rfl := Option.some.inj hF
    refine W.retV (fn := Try.f25) (vs := [.bool true]) Try.results25 ⟨.tmp rfl, trivial⟩ (fun _ _ h => h) (fun w hw => ?_)
    exact hR _ _ ⟨rfl, (hw.pick [] rfl)⟩

def spans_Check_L3 (N : Nat) (l1 : (List Span)) : Int → Option (Int ⊕ (Unit ⊕ Int))
  | v6 =>
    cond (decide (v6 < ((l1).length : Int)))
      (bd (ix l1 v6) fun (x7 : Span) =>
      cond (((decide (x7.from_ < 0)) || (decide (x7.to_ < x7.from_))) || (decide (1000000 < x7.to_)))
        (some (.inr (.inr 3)))
        (ck (ok64 (v6 + 1)) <|
        some (.inl (v6 + 1))))
      (some (.inr (.inl ())))

def spans_Check (N : Nat) (l1 : (List Span)) : Option Int :=
  cond (decide (12 < ((l1).length : Int)))
    (some 2)
    (bd (α := (Unit ⊕ Int)) (iter (spans_Check_L3 N l1) N 0) <|
    Sum.elim (fun _ => 
      some 0) (fun p => some p))

theorem spans_Check_ok {N : Nat} {l1 : (List Span)} {res : Int} (hF : spans_Check N l1 = some res) (w : World) {v5 : Value} (hs4 : SlIn encSpan 2 w v5 l1) :
    Pure Try.prog 43 [v5] w (.int .i64 res) := by
  obtain ⟨A2, c3, rfl, hcc3, hs4⟩ := hs4.form
  refine W.enter (n := 30) Try.func43 rfl rfl Sub.refl (by simp) (St.start w) fun R hR => ?_
  unfold spans_Check at hF
  -- region 0: spans.go:13
  refine W.seqR fun Q1 hQ1 => ?_
  refine WL.q (Y.assign (.pl rfl)) rfl ?_
  refine WL.next hQ1 (.cons (i := 0) rfl (.nil)) ?_
  refine W.seq fun K2 hK2 => ?_
  -- region 1: spans.go:14
  refine W.seqR fun Q3 hQ3 => ?_
  refine WL.q (Y.move (.pl rfl)) rfl ?_
  refine WL.q (Y.len Try.underlying51 (.pl rfl)) rfl ?_
  refine WL.q (Y.gtr (.pl rfl) (.pl rfl)) rfl ?_
  refine WL.next hQ3 (.cons (i := 0) rfl (.cons (i := 7) rfl (.nil))) ?_
  refine W.cond (.pl rfl) (fun hC4 => ?_) (fun hC4 => ?_)
  · replace hF := cpos hC4 hF
    -- region 2: spans.go:15
    refine W.seqR fun Q5 hQ5 => ?_
    refine WL.q (Y.assign (.pl rfl)) rfl ?_
    refine WL.next hQ5 (.cons (i := 2) rfl (.nil)) ?_
    obtain rfl := Option.some.inj hF
    refine W.retV (fn := Try.f43) (vs := [.int .i64 2]) Try.results43 ⟨.tmp rfl, trivial⟩ (fun _ _ h => h) (fun w hw => ?_)
    exact hR _ _ ⟨rfl, (hw.pick [] rfl)⟩
  · replace hF := cneg hC4 hF
    refine W.skip ?_
    refine W.go hK2 (.cons (i := 0) rfl (.nil)) ?_
    obtain ⟨o6, hF6, hF⟩ := bnd hF
    refine W.join0 (Em := []) (M := []) (I := (.inl ()) = o6) (.nil) (fun K7 hK7 => ?_) ?_
    · -- up to
      -- region 3: spans.go:17
      refine W.seqR fun Q8 hQ8 => ?_
      refine WL.q (Y.move (.pl rfl)) rfl ?_
      refine WL.q (Y.len Try.underlying51 (.pl rfl)) rfl ?_
      refine WL.q (Y.move (.pl rfl)) rfl ?_
      refine WL.next hQ8 (.cons (i := 8) rfl (.cons (i := 9) rfl (.cons (i := 10) rfl (.nil)))) ?_
      refine W.block ?_
      refine W.loop1 (Em := fun (v6 : Int) => [(10, .int .i64 v6)]) (M := fun v6 => []) (I := fun v6 k9 => iter (spans_Check_L3 N l1) k9 v6 = some o6) 0 N (hF6) (.cons rfl (.nil)) (.cons (i := 8) rfl (.cons (i := 9) rfl (.nil))) (fun w hw => hw.pick [] rfl) (fun v6 k9 hI K10 hK10 => ?_)
      obtain ⟨k9, t9, rfl, hF9, hN9⟩ := iter_step hI
      -- region 4: spans.go:17
      refine W.seqR fun Q11 hQ11 => ?_
      refine WL.q (Y.lss (.pl rfl) (.pl rfl)) rfl ?_
      refine WL.next hQ11 (.cons (i := 8) rfl (.cons (i := 9) rfl (.cons (i := 10) rfl (.cons (i := 11) rfl (.nil))))) ?_
      refine W.seq fun K12 hK12 => ?_
      refine W.cond (.pl rfl) (fun hC13 => ?_) (fun hC13 => ?_)
      · replace hF9 := cpos hC13 hF9
        refine W.skip ?_
        refine W.go hK12 (.cons (i := 8) rfl (.cons (i := 9) rfl (.cons (i := 10) rfl (.nil)))) ?_
        refine W.seq fun K14 hK14 => ?_
        refine W.block ?_
        -- region 5: spans.go:17
        refine W.seqR fun Q15 hQ15 => ?_
        obtain ⟨x7, hx7, hF9⟩ := bnd hF9
        refine WL.q (Y.slEl Try.underlying51 cells53 hs4 (.pl rfl) (.pl rfl) (ix_lt (hx7))) rfl ?_
        refine WL.q (Y.loadSA (enc := encSpan) (ds := (encSpan x7)) (j := 0) Try.underlying53 rfl cells53 hs4 (.pl rfl) (hx7) rfl rfl subW) rfl ?_
        refine WL.step (WO.alloc (cs := (encSpan (Span.mk 0 0)).toArray) zero53 rfl rfl fun b8 => ?_)
        refine WL.step (WO.storeBA (ds := (encSpan x7)) (cs' := (encSpan x7)) cells53 (.pl rfl) (.pl rfl) rfl (oneSpan _) (i := 0) rfl (lel (o := 0) (l := 2) (m := 2) (by decide) rfl rfl) (putW rfl) ?_)
        refine WL.next hQ15 (.cons (i := 4) rfl (.cons (i := 8) rfl (.cons (i := 9) rfl (.cons (i := 10) rfl (.nil))))) ?_
        -- region 6: spans.go:18
        refine W.seqR fun Q16 hQ16 => ?_
        refine WL.q (Y.fieldAddr0 (off := 0) (ft := 3) Try.underlying53 rfl cells3 (.pl rfl)) rfl ?_
        refine WL.q (Y.loadB (v := .int .i64 x7.from_) Try.underlying3 rfl (.pl rfl) (i := 0) rfl (rfl)) rfl ?_
        refine WL.q (Y.lss (.pl rfl) (.pl rfl)) rfl ?_
        refine WL.q (Y.move (.pl rfl)) rfl ?_
        refine WL.g (.pl rfl rfl rfl) (fun hg => Y.fieldAddr0 (off := 0) (ft := 3) Try.underlying53 rfl cells3 (.pl rfl)) rfl ?_
        refine WL.g (.pl rfl rfl rfl) (fun hg => Y.loadB (v := .int .i64 x7.from_) Try.underlying3 rfl (.gd (hg) rfl) (i := 0) rfl (rfl)) rfl ?_
        refine WL.g (.pl rfl rfl rfl) (fun hg => Y.fieldAddr0 (off := 1) (ft := 3) Try.underlying53 rfl cells3 (.pl rfl)) rfl ?_
        refine WL.g (.pl rfl rfl rfl) (fun hg => Y.loadB (v := .int .i64 x7.to_) Try.underlying3 rfl (.gd (hg) rfl) (i := 0) rfl (rfl)) rfl ?_
        refine WL.g (.pl rfl rfl rfl) (fun hg => Y.gtr (.gd (hg) rfl) (.gd (hg) rfl)) rfl ?_
        refine WL.q (Y.or (.pl rfl) (fun h2 => .gd (eqf h2) rfl)) rfl ?_
        refine WL.q (Y.move (.pl rfl)) rfl ?_
        refine WL.g (.pl rfl rfl rfl) (fun hg => Y.fieldAddr0 (off := 1) (ft := 3) Try.underlying53 rfl cells3 (.pl rfl)) rfl ?_
        refine WL.g (.pl rfl rfl rfl) (fun hg => Y.loadB (v := .int .i64 x7.to_) Try.underlying3 rfl (.gd (hg) rfl) (i := 0) rfl (rfl)) rfl ?_
        refine WL.g (.pl rfl rfl rfl) (fun hg => Y.gtr (.gd (hg) rfl) (.pl rfl)) rfl ?_
        refine WL.q (Y.or (.pl rfl) (fun h2 => .gd (eqf h2) rfl)) rfl ?_
        refine WL.next hQ16 (.cons (i := 8) rfl (.cons (i := 9) rfl (.cons (i := 10) rfl (.cons (i := 28) rfl (.nil))))) ?_
        refine W.cond (.pl rfl) (fun hC17 => ?_) (fun hC17 => ?_)
        · replace hF9 := cpos hC17 hF9
          -- region 7: spans.go:19
          refine W.seqR fun Q18 hQ18 => ?_
          refine WL.q (Y.assign (.pl rfl)) rfl ?_
          refine WL.next hQ18 (.cons (i := 2) rfl (.nil)) ?_
          obtain rfl := Option.some.inj hF9
          obtain rfl := einr hN9
          obtain rfl := Option.some.inj hF
          refine W.retV (fn := Try.f43) (vs := [.int .i64 3]) Try.results43 ⟨.tmp rfl, trivial⟩ (fun _ _ h => h) (fun w hw => ?_)
          exact hR _ _ ⟨rfl, (hw.pick [] rfl)⟩
        · replace hF9 := cneg hC17 hF9
          refine W.skip ?_
          refine W.go hK14 (.cons (i := 8) rfl (.cons (i := 9) rfl (.cons (i := 10) rfl (.nil)))) ?_
          -- region 8: spans.go:17
          refine W.reg ?_
          obtain ⟨hk9, hF9⟩ := ckh hF9
          refine WL.q (Y.add (.pl rfl) (.pl rfl) (ok64_lt (hk9))) rfl ?_
          refine WL.q (Y.move (.pl rfl)) rfl ?_
          refine WL.nil ?_
          obtain rfl := Option.some.inj hF9
          exact W.again1 hK10 (v6 + 1) k9 hN9 (Nat.lt_succ_self _) (.cons rfl (.nil)) (.cons (i := 8) rfl (.cons (i := 9) rfl (.nil))) (fun w hw => hw.pick [] rfl)
      · replace hF9 := cneg hC13 hF9
        refine W.exit ?_
        obtain rfl := Option.some.inj hF9
        exact W.joinAt0 hK7  (einr hN9) (.nil) (.nil) (fun w hw => hw.pick [] rfl)
    · -- behind
      rintro  rfl
      -- region 9: spans.go:22
      refine W.seqR fun Q20 hQ20 => ?_
      refine WL.q (Y.assign (.pl rfl)) rfl ?_
      refine WL.next hQ20 (.cons (i := 2) rfl (.nil)) ?_
      obtain rfl := Option.some.inj hF
      refine W.retV (fn := Try.f43) (vs := [.int .i64 0]) Try.results43 ⟨.tmp rfl, trivial⟩ (fun _ _ h => h) (fun w hw => ?_)
      exact hR _ _ ⟨rfl, (hw.pick [] rfl)⟩

def spans_of_L27 (N : Nat) (l1 : (List Span)) (x12 : Span) (v10 : Int) : ((List Int) × Int) → Option (((List Int) × Int) ⊕ (List Int))
  | (After14, v15) =>
    cond (decide (v15 < ((l1).length : Int)))
      (bd (ix l1 v15) fun (x16 : Span) =>
      cond (decide (x12.to_ < x16.from_))
        (bd (ax 12 0 After14 v10) fun (x18 : Int) =>
        bd (ax 12 0 After14 v10) fun (x19 : Int) =>
        ck (ok64 (v15 + 1)) <|
        some (.inl ((setA 12 0 After14 v10 (borI .u16 x18 (shlI .u16 1 (IntKind.u64.wrap v15)))), (v15 + 1))))
        (ck (ok64 (v15 + 1)) <|
        some (.inl (After14, (v15 + 1)))))
      (some (.inr After14))

def spans_of_L25 (N : Nat) (l1 : (List Span)) : ((List Int) × Int) → Option (((List Int) × Int) ⊕ (List Int))
  | (After9, v10) =>
    cond (decide (v10 < ((l1).length : Int)))
      (bd (α := (List Int)) (bd (ix l1 v10) fun (x12 : Span) =>
        iter (spans_of_L27 N l1 x12 v10) N (After9, 0)) <|
      fun (After11 : (List Int)) => 
        ck (ok64 (v10 + 1)) <|
        some (.inl (After11, (v10 + 1))))
      (some (.inr After9))

def spans_of (N : Nat) (l1 : (List Span)) : Option (List Int) :=
  bd (α := (List Int)) (iter (spans_of_L25 N l1) N ([], 0)) <|
  fun (After8 : (List Int)) => 
    some After8

theorem spans_of_ok {N : Nat} {l1 : (List Span)} {res : (List Int)} (hF : spans_of N l1 = some res) (w : World) {v5 : Value} (hs4 : SlIn encSpan 2 w v5 l1) :
    Pure Try.prog 44 [v5] w (.agg (encRel (Rel.mk ((l1).length : Int) res)).toArray) := by
  obtain ⟨A2, c3, rfl, hcc3, hs4⟩ := hs4.form
  refine W.enter (n := 43) Try.func44 rfl rfl Sub.refl (by simp) (St.start w) fun R hR => ?_
  unfold spans_of at hF
  -- region 0: spans.go:25
  refine W.seqR fun Q1 hQ1 => ?_
  refine WL.step (WO.alloc (cs := (encRel (Rel.mk 0 [])).toArray) zero47 rfl rfl fun b6 => ?_)
  refine WL.next hQ1 (.cons (i := 0) rfl (.cons (i := 2) rfl (.nil))) ?_
  -- region 1: spans.go:26
  refine W.seqR fun Q2 hQ2 => ?_
  refine WL.q (Y.move (.pl rfl)) rfl ?_
  refine WL.q (Y.len Try.underlying51 (.pl rfl)) rfl ?_
  refine WL.q (Y.build (cs := (encRel (Rel.mk ((l1).length : Int) [])).toArray) shape47 (.cons (.pl rfl) (.nil)) (one_parts ⟨rfl, trivial⟩) rfl) rfl ?_
  refine WL.step (WO.alloc (cs := (encRel (Rel.mk 0 [])).toArray) zero47 rfl rfl fun b7 => ?_)
  refine WL.step (WO.storeBA (ds := (encRel (Rel.mk ((l1).length : Int) []))) (cs' := (encRel (Rel.mk ((l1).length : Int) []))) cells47 (.pl rfl) (.pl rfl) rfl (oneRel _) (i := 0) rfl (lel (o := 0) (l := 13) (m := 13) (by decide) rfl rfl) (putW rfl) ?_)
  refine WL.next hQ2 (.cons (i := 0) rfl (.cons (i := 2) rfl (.cons (i := 3) rfl (.nil)))) ?_
  obtain ⟨o3, hF3, hF⟩ := bnd hF
  refine W.join1 (Em := fun (After8 : (List Int)) => []) (M := fun After8 => [cBx b6 47 (encRel (Rel.mk 0 [])), cBx b7 47 (encRel (Rel.mk ((l1).length : Int) After8))]) (I := fun After8 => After8 = o3) (.cons (i := 2) rfl (.cons (i := 3) rfl (.nil))) (fun K4 hK4 => ?_) ?_
  · -- up to
    -- region 2: spans.go:27
    refine W.seqR fun Q5 hQ5 => ?_
    refine WL.q (Y.move (.pl rfl)) rfl ?_
    refine WL.q (Y.len Try.underlying51 (.pl rfl)) rfl ?_
    refine WL.q (Y.move (.pl rfl)) rfl ?_
    refine WL.next hQ5 (.cons (i := 0) rfl (.cons (i := 2) rfl (.cons (i := 3) rfl (.cons (i := 11) rfl (.cons (i := 12) rfl (.cons (i := 13) rfl (.nil))))))) ?_
    refine W.block ?_
    refine W.loop2 (Em := fun (After9 : (List Int)) (v10 : Int) => [(13, .int .i64 v10)]) (M := fun After9 v10 => [cBx b6 47 (encRel (Rel.mk 0 [])), cBx b7 47 (encRel (Rel.mk ((l1).length : Int) After9))]) (I := fun After9 v10 k6 => iter (spans_of_L25 N l1) k6 (After9, v10) = some o3) [] 0 N (hF3) (.cons rfl (.nil)) (.cons (i := 0) rfl (.cons (i := 2) rfl (.cons (i := 3) rfl (.cons (i := 11) rfl (.cons (i := 12) rfl (.nil)))))) (fun w hw => hw.pick [1, 0] rfl) (fun After9 v10 k6 hI K7 hK7 => ?_)
    obtain ⟨k6, t6, rfl, hF6, hN6⟩ := iter_step hI
    -- region 3: spans.go:27
    refine W.seqR fun Q8 hQ8 => ?_
    refine WL.q (Y.lss (.pl rfl) (.pl rfl)) rfl ?_
    refine WL.next hQ8 (.cons (i := 0) rfl (.cons (i := 2) rfl (.cons (i := 3) rfl (.cons (i := 11) rfl (.cons (i := 12) rfl (.cons (i := 13) rfl (.cons (i := 14) rfl (.nil)))))))) ?_
    refine W.seq fun K9 hK9 => ?_
    refine W.cond (.pl rfl) (fun hC10 => ?_) (fun hC10 => ?_)
    · replace hF6 := cpos hC10 hF6
      refine W.skip ?_
      refine W.go hK9 (.cons (i := 0) rfl (.cons (i := 2) rfl (.cons (i := 3) rfl (.cons (i := 11) rfl (.cons (i := 12) rfl (.cons (i := 13) rfl (.nil))))))) ?_
      obtain ⟨o11, hF11, hF6⟩ := bnd hF6
      refine W.join1 (Em := fun (After11 : (List Int)) => []) (M := fun After11 => [cBx b6 47 (encRel (Rel.mk 0 [])), cBx b7 47 (encRel (Rel.mk ((l1).length : Int) After11))]) (I := fun After11 => After11 = o11) (.cons (i := 0) rfl (.cons (i := 2) rfl (.cons (i := 3) rfl (.cons (i := 11) rfl (.cons (i := 12) rfl (.cons (i := 13) rfl (.nil))))))) (fun K12 hK12 => ?_) ?_
      · -- up to
        refine W.block ?_
        -- region 4: spans.go:27
        refine W.seqR fun Q13 hQ13 => ?_
        refine WL.q (Y.move (.pl rfl)) rfl ?_
        obtain ⟨x12, hx12, hF11⟩ := bnd hF11
        refine WL.q (Y.slEl Try.underlying51 cells53 hs4 (.pl rfl) (.pl rfl) (ix_lt (hx12))) rfl ?_
        refine WL.q (Y.loadSA (enc := encSpan) (ds := (encSpan x12)) (j := 0) Try.underlying53 rfl cells53 hs4 (.pl rfl) (hx12) rfl rfl subW) rfl ?_
        refine WL.step (WO.alloc (cs := (encSpan (Span.mk 0 0)).toArray) zero53 rfl rfl fun b13 => ?_)
        refine WL.q (Y.assign (.pl rfl)) rfl ?_
        refine WL.step (WO.storeBA (ds := (encSpan x12)) (cs' := (encSpan x12)) cells53 (.pl rfl) (.pl rfl) rfl (oneSpan _) (i := 0) rfl (lel (o := 0) (l := 2) (m := 2) (by decide) rfl rfl) (putW rfl) ?_)
        refine WL.next hQ13 (.cons (i := 0) rfl (.cons (i := 2) rfl (.cons (i := 3) rfl (.cons (i := 4) rfl (.cons (i := 5) rfl (.cons (i := 11) rfl (.cons (i := 12) rfl (.cons (i := 13) rfl (.nil))))))))) ?_
        -- region 5: spans.go:28
        refine W.seqR fun Q14 hQ14 => ?_
        refine WL.q (Y.move (.pl rfl)) rfl ?_
        refine WL.q (Y.len Try.underlying51 (.pl rfl)) rfl ?_
        refine WL.q (Y.move (.pl rfl)) rfl ?_
        refine WL.next hQ14 (.cons (i := 0) rfl (.cons (i := 2) rfl (.cons (i := 3) rfl (.cons (i := 4) rfl (.cons (i := 5) rfl (.cons (i := 11) rfl (.cons (i := 12) rfl (.cons (i := 13) rfl (.cons (i := 18) rfl (.cons (i := 19) rfl (.cons (i := 20) rfl (.nil)))))))))))) ?_
        refine W.block ?_
        refine W.loop2 (Em := fun (After14 : (List Int)) (v15 : Int) => [(20, .int .i64 v15)]) (M := fun After14 v15 => [cBx b6 47 (encRel (Rel.mk 0 [])), cBx b7 47 (encRel (Rel.mk ((l1).length : Int) After14)), cBx b13 53 (encSpan x12)]) (I := fun After14 v15 k15 => iter (spans_of_L27 N l1 x12 v10) k15 (After14, v15) = some o11) After9 0 N (hF11) (.cons rfl (.nil)) (.cons (i := 0) rfl (.cons (i := 2) rfl (.cons (i := 3) rfl (.cons (i := 4) rfl (.cons (i := 5) rfl (.cons (i := 11) rfl (.cons (i := 12) rfl (.cons (i := 13) rfl (.cons (i := 18) rfl (.cons (i := 19) rfl (.nil))))))))))) (fun w hw => hw.pick [1, 2, 0] rfl) (fun After14 v15 k15 hI K16 hK16 => ?_)
        obtain ⟨k15, t15, rfl, hF15, hN15⟩ := iter_step hI
        -- region 6: spans.go:28
        refine W.seqR fun Q17 hQ17 => ?_
        refine WL.q (Y.lss (.pl rfl) (.pl rfl)) rfl ?_
        refine WL.next hQ17 (.cons (i := 0) rfl (.cons (i := 2) rfl (.cons (i := 3) rfl (.cons (i := 4) rfl (.cons (i := 5) rfl (.cons (i := 11) rfl (.cons (i := 12) rfl (.cons (i := 13) rfl (.cons (i := 18) rfl (.cons (i := 19) rfl (.cons (i := 20) rfl (.cons (i := 21) rfl (.nil))))))))))))) ?_
        refine W.seq fun K18 hK18 => ?_
        refine W.cond (.pl rfl) (fun hC19 => ?_) (fun hC19 => ?_)
        · replace hF15 := cpos hC19 hF15
          refine W.skip ?_
          refine W.go hK18 (.cons (i := 0) rfl (.cons (i := 2) rfl (.cons (i := 3) rfl (.cons (i := 4) rfl (.cons (i := 5) rfl (.cons (i := 11) rfl (.cons (i := 12) rfl (.cons (i := 13) rfl (.cons (i := 18) rfl (.cons (i := 19) rfl (.cons (i := 20) rfl (.nil)))))))))))) ?_
          refine W.seq fun K20 hK20 => ?_
          refine W.block ?_
          -- region 7: spans.go:28
          refine W.seqR fun Q21 hQ21 => ?_
          refine WL.q (Y.move (.pl rfl)) rfl ?_
          obtain ⟨x16, hx16, hF15⟩ := bnd hF15
          refine WL.q (Y.slEl Try.underlying51 cells53 hs4 (.pl rfl) (.pl rfl) (ix_lt (hx16))) rfl ?_
          refine WL.q (Y.loadSA (enc := encSpan) (ds := (encSpan x16)) (j := 0) Try.underlying53 rfl cells53 hs4 (.pl rfl) (hx16) rfl rfl subW) rfl ?_
          refine WL.step (WO.alloc (cs := (encSpan (Span.mk 0 0)).toArray) zero53 rfl rfl fun b17 => ?_)
          refine WL.q (Y.assign (.pl rfl)) rfl ?_
          refine WL.step (WO.storeBA (ds := (encSpan x16)) (cs' := (encSpan x16)) cells53 (.pl rfl) (.pl rfl) rfl (oneSpan _) (i := 0) rfl (lel (o := 0) (l := 2) (m := 2) (by decide) rfl rfl) (putW rfl) ?_)
          refine WL.next hQ21 (.cons (i := 0) rfl (.cons (i := 2) rfl (.cons (i := 3) rfl (.cons (i := 4) rfl (.cons (i := 5) rfl (.cons (i := 6) rfl (.cons (i := 7) rfl (.cons (i := 11) rfl (.cons (i := 12) rfl (.cons (i := 13) rfl (.cons (i := 18) rfl (.cons (i := 19) rfl (.cons (i := 20) rfl (.nil)))))))))))))) ?_
          -- region 8: spans.go:29
          refine W.seqR fun Q22 hQ22 => ?_
          refine WL.q (Y.fieldAddr0 (off := 1) (ft := 3) Try.underlying53 rfl cells3 (.pl rfl)) rfl ?_
          refine WL.q (Y.loadB (v := .int .i64 x12.to_) Try.underlying3 rfl (.pl rfl) (i := 3) rfl (rfl)) rfl ?_
          refine WL.q (Y.fieldAddr0 (off := 0) (ft := 3) Try.underlying53 rfl cells3 (.pl rfl)) rfl ?_
          refine WL.q (Y.loadB (v := .int .i64 x16.from_) Try.underlying3 rfl (.pl rfl) (i := 0) rfl (rfl)) rfl ?_
          refine WL.q (Y.lss (.pl rfl) (.pl rfl)) rfl ?_
          refine WL.next hQ22 (.cons (i := 0) rfl (.cons (i := 2) rfl (.cons (i := 3) rfl (.cons (i := 4) rfl (.cons (i := 5) rfl (.cons (i := 6) rfl (.cons (i := 11) rfl (.cons (i := 12) rfl (.cons (i := 13) rfl (.cons (i := 18) rfl (.cons (i := 19) rfl (.cons (i := 20) rfl (.cons (i := 29) rfl (.nil)))))))))))))) ?_
          refine W.cond (.pl rfl) (fun hC23 => ?_) (fun hC23 => ?_)
          · replace hF15 := cpos hC23 hF15
            -- region 9: spans.go:30
            refine W.reg ?_
            refine WL.q (Y.move (.pl rfl)) rfl ?_
            refine WL.q (Y.fieldAddr0 (off := 1) (ft := 45) Try.underlying47 rfl cells45 (.pl rfl)) rfl ?_
            obtain ⟨x18, hx18, hF15⟩ := bnd hF15
            refine WL.q (Y.arrZ Try.underlying45 cells44 (.pl rfl) (.pl rfl) (ax_lt (hx18))) rfl ?_
            refine WL.q (Y.loadB (v := .int .u16 x18) Try.underlying44 rfl (.pl rfl) (i := 2) rfl (cellsA (pre := (.int .i64 ((l1).length : Int) :: [])) (off := 1) (post := []) (a := After14) (enc := (eI .u16)) (d := 0) (n := 12) (sz := 1) (j := 0) (fun _ => rfl) rfl (ax_nat (hx18)) (ax_get (hx18)) rfl)) rfl ?_
            refine WL.q (Y.move (.pl rfl)) rfl ?_
            refine WL.q (Y.conv Try.underlying3 Try.underlying91 (.pl rfl)) rfl ?_
            refine WL.q (Y.shl (.pl rfl) (.pl rfl) (wrapU_nn rfl _)) rfl ?_
            refine WL.q (Y.bor (.pl rfl) (.pl rfl)) rfl ?_
            refine WL.q (Y.fieldAddr0 (off := 1) (ft := 45) Try.underlying47 rfl cells45 (.pl rfl)) rfl ?_
            obtain ⟨x19, hx19, hF15⟩ := bnd hF15
            refine WL.q (Y.arrZ Try.underlying45 cells44 (.pl rfl) (.pl rfl) (ax_lt (hx19))) rfl ?_
            refine WL.step (WO.storeB (cs' := (encRel (Rel.mk ((l1).length : Int) (setA 12 0 After14 v10 (borI .u16 x18 (shlI .u16 1 (IntKind.u64.wrap v15))))))) cells44 (.pl rfl) (.pl rfl) rfl (i := 2) rfl (ltl (m := 13) (offlt (off := 1) (sz := 1) (j := 0) (ax_nat (hx19)) (by decide)) rfl) (cellsSet (pre := (.int .i64 ((l1).length : Int) :: [])) (off := 1) (post := []) (a := After14) (enc := (eI .u16)) (d := 0) (n := 12) (sz := 1) (j := 0) (x := x19) (x' := (borI .u16 x18 (shlI .u16 1 (IntKind.u64.wrap v15)))) (fun _ => rfl) rfl (ax_lt (hx19)) (ax_get (hx19)) (by decide) rfl rfl) ?_)
            refine WL.nil ?_
            refine W.go hK20 (.cons (i := 0) rfl (.cons (i := 2) rfl (.cons (i := 3) rfl (.cons (i := 4) rfl (.cons (i := 5) rfl (.cons (i := 11) rfl (.cons (i := 12) rfl (.cons (i := 13) rfl (.cons (i := 18) rfl (.cons (i := 19) rfl (.cons (i := 20) rfl (.nil)))))))))))) ?_
            -- region 10: spans.go:28
            refine W.reg ?_
            obtain ⟨hk20, hF15⟩ := ckh hF15
            refine WL.q (Y.add (.pl rfl) (.pl rfl) (ok64_lt (hk20))) rfl ?_
            refine WL.q (Y.move (.pl rfl)) rfl ?_
            refine WL.nil ?_
            obtain rfl := Option.some.inj hF15
            exact W.again2 hK16 (setA 12 0 After14 v10 (borI .u16 x18 (shlI .u16 1 (IntKind.u64.wrap v15)))) (v15 + 1) k15 hN15 (Nat.lt_succ_self _) (.cons rfl (.nil)) (.cons (i := 0) rfl (.cons (i := 2) rfl (.cons (i := 3) rfl (.cons (i := 4) rfl (.cons (i := 5) rfl (.cons (i := 11) rfl (.cons (i := 12) rfl (.cons (i := 13) rfl (.cons (i := 18) rfl (.cons (i := 19) rfl (.nil))))))))))) (fun w hw => hw.pick [1, 2, 3] rfl)
          · replace hF15 := cneg hC23 hF15
            refine W.skip ?_
            refine W.go hK20 (.cons (i := 0) rfl (.cons (i := 2) rfl (.cons (i := 3) rfl (.cons (i := 4) rfl (.cons (i := 5) rfl (.cons (i := 11) rfl (.cons (i := 12) rfl (.cons (i := 13) rfl (.cons (i := 18) rfl (.cons (i := 19) rfl (.cons (i := 20) rfl (.nil)))))))))))) ?_
            -- region 10: spans.go:28
            refine W.reg ?_
            obtain ⟨hk21, hF15⟩ := ckh hF15
            refine WL.q (Y.add (.pl rfl) (.pl rfl) (ok64_lt (hk21))) rfl ?_
            refine WL.q (Y.move (.pl rfl)) rfl ?_
            refine WL.nil ?_
            obtain rfl := Option.some.inj hF15
            exact W.again2 hK16 After14 (v15 + 1) k15 hN15 (Nat.lt_succ_self _) (.cons rfl (.nil)) (.cons (i := 0) rfl (.cons (i := 2) rfl (.cons (i := 3) rfl (.cons (i := 4) rfl (.cons (i := 5) rfl (.cons (i := 11) rfl (.cons (i := 12) rfl (.cons (i := 13) rfl (.cons (i := 18) rfl (.cons (i := 19) rfl (.nil))))))))))) (fun w hw => hw.pick [1, 2, 3] rfl)
        · replace hF15 := cneg hC19 hF15
          refine W.exit ?_
          obtain rfl := Option.some.inj hF15
          exact W.joinAt1 hK12 After14 (einr hN15) (.nil) (.cons (i := 0) rfl (.cons (i := 2) rfl (.cons (i := 3) rfl (.cons (i := 11) rfl (.cons (i := 12) rfl (.cons (i := 13) rfl (.nil))))))) (fun w hw => hw.pick [0, 1] rfl)
      · -- behind
        rintro After11 rfl
        -- region 11: spans.go:27
        refine W.reg ?_
        obtain ⟨hk22, hF6⟩ := ckh hF6
        refine WL.q (Y.add (.pl rfl) (.pl rfl) (ok64_lt (hk22))) rfl ?_
        refine WL.q (Y.move (.pl rfl)) rfl ?_
        refine WL.nil ?_
        obtain rfl := Option.some.inj hF6
        exact W.again2 hK7 After11 (v10 + 1) k6 hN6 (Nat.lt_succ_self _) (.cons rfl (.nil)) (.cons (i := 0) rfl (.cons (i := 2) rfl (.cons (i := 3) rfl (.cons (i := 11) rfl (.cons (i := 12) rfl (.nil)))))) (fun w hw => hw.pick [0, 1] rfl)
    · replace hF6 := cneg hC10 hF6
      refine W.exit ?_
      obtain rfl := Option.some.inj hF6
      exact W.joinAt1 hK4 After9 (einr hN6) (.nil) (.cons (i := 2) rfl (.cons (i := 3) rfl (.nil))) (fun w hw => hw.pick [0, 1] rfl)
  · -- behind
    rintro After8 rfl
    -- region 12: spans.go:34
    refine W.seqR fun Q28 hQ28 => ?_
    refine WL.q (Y.loadBA (ds := (encRel (Rel.mk ((l1).length : Int) After8))) Try.underlying47 rfl cells47 (.pl rfl) (i := 1) rfl rfl subW) rfl ?_
    refine WL.step (WO.storeBA (ds := (encRel (Rel.mk ((l1).length : Int) After8))) (cs' := (encRel (Rel.mk ((l1).length : Int) After8))) cells47 (.pl rfl) (.pl rfl) rfl (oneRel _) (i := 0) rfl (lel (o := 0) (l := 13) (m := 13) (by decide) rfl rfl) (putW rfl) ?_)
    refine WL.next hQ28 (.cons (i := 2) rfl (.nil)) ?_
    obtain rfl := Option.some.inj hF
    refine W.retV (fn := Try.f44) (vs := [.agg (encRel (Rel.mk ((l1).length : Int) After8)).toArray]) Try.results44 ⟨.cellA Try.underlying47 rfl cells47 rfl (i := 0) rfl rfl, trivial⟩ (fun _ _ h => h) (fun w hw => ?_)
    exact hR _ _ ⟨rfl, (hw.pick [] rfl)⟩

def spans_Of (N : Nat) (l1 : (List Span)) : Option (Int × (List Int) × Int) :=
  bd (spans_Check N l1) fun (r7 : Int) =>
  cond (!(decide (r7 = 0)))
    (some (0, [], r7))
    (bd (spans_of N l1) fun (r8 : (List Int)) =>
    some (((l1).length : Int), r8, 0))

theorem spans_Of_ok {N : Nat} {l1 : (List Span)} {res : (Int × (List Int) × Int)} (hF : spans_Of N l1 = some res) (w : World) {v5 : Value} (hs4 : SlIn encSpan 2 w v5 l1) :
    Pure Try.prog 26 [v5] w (.tuple #[.agg (encRel (Rel.mk res.1 res.2.1)).toArray, .int .i64 res.2.2]) := by
  obtain ⟨A2, c3, rfl, hcc3, hs4⟩ := hs4.form
  refine W.enter (n := 13) Try.func26 rfl rfl Sub.refl (by simp) (St.start w) fun R hR => ?_
  unfold spans_Of at hF
  -- region 0: spans.go:38
  refine W.seqR fun Q1 hQ1 => ?_
  refine WL.step (WO.alloc (cs := (encRel (Rel.mk 0 [])).toArray) zero47 rfl rfl fun b6 => ?_)
  refine WL.q (Y.assign (.pl rfl)) rfl ?_
  refine WL.next hQ1 (.cons (i := 0) rfl (.cons (i := 2) rfl (.nil))) ?_
  refine W.seq fun K2 hK2 => ?_
  -- region 1: spans.go:39
  refine W.seqR fun Q3 hQ3 => ?_
  refine WL.q (Y.move (.pl rfl)) rfl ?_
  obtain ⟨r7, hr7, hF⟩ := bnd hF
  refine WL.step (WO.callP isGo43 (.cons (.pl rfl) (.nil)) rfl (fun w hw => spans_Check_ok (hr7) w (hs4.mono hw)) ?_)
  refine WL.q (Y.assign (.pl rfl)) rfl ?_
  refine WL.next hQ3 (.cons (i := 0) rfl (.cons (i := 2) rfl (.cons (i := 4) rfl (.nil)))) ?_
  -- region 2: spans.go:39
  refine W.seqR fun Q4 hQ4 => ?_
  refine WL.q (Y.move (.pl rfl)) rfl ?_
  refine WL.q (Y.neq (.pl rfl) (.pl rfl)) rfl ?_
  refine WL.next hQ4 (.cons (i := 0) rfl (.cons (i := 2) rfl (.cons (i := 4) rfl (.cons (i := 8) rfl (.nil))))) ?_
  refine W.cond (.pl rfl) (fun hC5 => ?_) (fun hC5 => ?_)
  · replace hF := cpos hC5 hF
    -- region 3: spans.go:40
    refine W.seqR fun Q6 hQ6 => ?_
    refine WL.q (Y.build (cs := (encRel (Rel.mk 0 [])).toArray) shape47 (.nil) (one_parts trivial) rfl) rfl ?_
    refine WL.q (Y.move (.pl rfl)) rfl ?_
    refine WL.step (WO.storeBA (ds := (encRel (Rel.mk 0 []))) (cs' := (encRel (Rel.mk 0 []))) cells47 (.pl rfl) (.pl rfl) rfl (oneRel _) (i := 0) rfl (lel (o := 0) (l := 13) (m := 13) (by decide) rfl rfl) (putW rfl) ?_)
    refine WL.q (Y.assign (.pl rfl)) rfl ?_
    refine WL.next hQ6 (.cons (i := 2) rfl (.cons (i := 3) rfl (.nil))) ?_
    obtain rfl := Option.some.inj hF
    refine W.retV (fn := Try.f26) (vs := [.agg (encRel (Rel.mk 0 [])).toArray, .int .i64 r7]) Try.results26 ⟨.cellA Try.underlying47 rfl cells47 rfl (i := 0) rfl rfl, ⟨.tmp rfl, trivial⟩⟩ (fun _ _ h => h) (fun w hw => ?_)
    exact hR _ _ ⟨rfl, (hw.pick [] rfl)⟩
  · replace hF := cneg hC5 hF
    refine W.skip ?_
    refine W.go hK2 (.cons (i := 0) rfl (.cons (i := 2) rfl (.nil))) ?_
    -- region 4: spans.go:42
    refine W.seqR fun Q7 hQ7 => ?_
    refine WL.q (Y.move (.pl rfl)) rfl ?_
    obtain ⟨r8, hr8, hF⟩ := bnd hF
    refine WL.step (WO.callP isGo44 (.cons (.pl rfl) (.nil)) rfl (fun w hw => spans_of_ok (hr8) w (hs4.mono hw)) ?_)
    refine WL.step (WO.storeBA (ds := (encRel (Rel.mk ((l1).length : Int) r8))) (cs' := (encRel (Rel.mk ((l1).length : Int) r8))) cells47 (.pl rfl) (.pl rfl) rfl (oneRel _) (i := 0) rfl (lel (o := 0) (l := 13) (m := 13) (by decide) rfl rfl) (putW rfl) ?_)
    refine WL.q (Y.assign (.pl rfl)) rfl ?_
    refine WL.next hQ7 (.cons (i := 2) rfl (.cons (i := 3) rfl (.nil))) ?_
    obtain rfl := Option.some.inj hF
    refine W.retV (fn := Try.f26) (vs := [.agg (encRel (Rel.mk ((l1).length : Int) r8)).toArray, .int .i64 0]) Try.results26 ⟨.cellA Try.underlying47 rfl cells47 rfl (i := 0) rfl rfl, ⟨.tmp rfl, trivial⟩⟩ (fun _ _ h => h) (fun w hw => ?_)
    exact hR _ _ ⟨rfl, (hw.pick [] rfl)⟩

def order_Check_L3 (N : Nat) (r1 : Rel) : Int → Option (Int ⊕ (Unit ⊕ Int))
  | v3 =>
    cond (decide (v3 < 12))
      (bd (ax 12 0 r1.after v3) fun (x4 : Int) =>
      cond (((decide (r1.n ≤ v3)) && (!(decide (x4 = 0)))) || (!(decide ((shrI .u16 x4 (IntKind.u64.wrap r1.n)) = 0))))
        (some (.inr (.inr 3)))
        (ck (ok64 (v3 + 1)) <|
        some (.inl (v3 + 1))))
      (some (.inr (.inl ())))

def order_Check (N : Nat) (r1 : Rel) : Option Int :=
  cond ((decide (r1.n < 0)) || (decide (12 < r1.n)))
    (some 1)
    (bd (α := (Unit ⊕ Int)) (iter (order_Check_L3 N r1) N 0) <|
    Sum.elim (fun _ => 
      some 0) (fun p => some p))

theorem order_Check_ok {N : Nat} {r1 : Rel} {res : Int} (hF : order_Check N r1 = some res) (w : World) :
    Pure Try.prog 45 [.agg (encRel r1).toArray] w (.int .i64 res) := by
  refine W.enter (n := 36) Try.func45 rfl rfl Sub.refl (by simp) (St.start w) fun R hR => ?_
  unfold order_Check at hF
  -- region 0: order.go:12
  refine W.seqR fun Q1 hQ1 => ?_
  refine WL.step (WO.boxA (.pl rfl) rfl fun b2 => ?_)
  refine WL.q (Y.assign (.pl rfl)) rfl ?_
  refine WL.next hQ1 (.cons (i := 1) rfl (.nil)) ?_
  refine W.seq fun K2 hK2 => ?_
  -- region 1: order.go:13
  refine W.seqR fun Q3 hQ3 => ?_
  refine WL.q (Y.fieldAddr0 (off := 0) (ft := 3) Try.underlying47 rfl cells3 (.pl rfl)) rfl ?_
  refine WL.q (Y.loadB (v := .int .i64 r1.n) Try.underlying3 rfl (.pl rfl) (i := 0) rfl (rfl)) rfl ?_
  refine WL.q (Y.lss (.pl rfl) (.pl rfl)) rfl ?_
  refine WL.q (Y.move (.pl rfl)) rfl ?_
  refine WL.g (.pl rfl rfl rfl) (fun hg => Y.fieldAddr0 (off := 0) (ft := 3) Try.underlying47 rfl cells3 (.pl rfl)) rfl ?_
  refine WL.g (.pl rfl rfl rfl) (fun hg => Y.loadB (v := .int .i64 r1.n) Try.underlying3 rfl (.gd (hg) rfl) (i := 0) rfl (rfl)) rfl ?_
  refine WL.g (.pl rfl rfl rfl) (fun hg => Y.gtr (.gd (hg) rfl) (.pl rfl)) rfl ?_
  refine WL.q (Y.or (.pl rfl) (fun h2 => .gd (eqf h2) rfl)) rfl ?_
  refine WL.next hQ3 (.cons (i := 1) rfl (.cons (i := 12) rfl (.nil))) ?_
  refine W.cond (.pl rfl) (fun hC4 => ?_) (fun hC4 => ?_)
  · replace hF := cpos hC4 hF
    -- region 2: order.go:14
    refine W.seqR fun Q5 hQ5 => ?_
    refine WL.q (Y.assign (.pl rfl)) rfl ?_
    refine WL.next hQ5 (.cons (i := 2) rfl (.nil)) ?_
    obtain rfl := Option.some.inj hF
    refine W.retV (fn := Try.f45) (vs := [.int .i64 1]) Try.results45 ⟨.tmp rfl, trivial⟩ (fun _ _ h => h) (fun w hw => ?_)
    exact hR _ _ ⟨rfl, (hw.pick [] rfl)⟩
  · replace hF := cneg hC4 hF
    refine W.skip ?_
    refine W.go hK2 (.cons (i := 1) rfl (.nil)) ?_
    obtain ⟨o6, hF6, hF⟩ := bnd hF
    refine W.join0 (Em := []) (M := []) (I := (.inl ()) = o6) (.nil) (fun K7 hK7 => ?_) ?_
    · -- up to
      -- region 3: order.go:16
      refine W.seqR fun Q8 hQ8 => ?_
      refine WL.q (Y.fieldAddr0 (off := 1) (ft := 45) Try.underlying47 rfl cells45 (.pl rfl)) rfl ?_
      refine WL.q (Y.loadBA (ds := ((encA 12 (eI .u16) 0) r1.after)) Try.underlying45 rfl cells45 (.pl rfl) (i := 0) rfl rfl (subM (pre := (.int .i64 r1.n :: [])) (o := 1) rfl)) rfl ?_
      refine WL.q (Y.move (.pl rfl)) rfl ?_
      refine WL.next hQ8 (.cons (i := 1) rfl (.cons (i := 14) rfl (.cons (i := 15) rfl (.nil)))) ?_
      refine W.block ?_
      refine W.loop1 (Em := fun (v3 : Int) => [(15, .int .i64 v3)]) (M := fun v3 => [cBx b2 47 (encRel r1)]) (I := fun v3 k9 => iter (order_Check_L3 N r1) k9 v3 = some o6) 0 N (hF6) (.cons rfl (.nil)) (.cons (i := 1) rfl (.cons (i := 14) rfl (.nil))) (fun w hw => hw.pick [0] rfl) (fun v3 k9 hI K10 hK10 => ?_)
      obtain ⟨k9, t9, rfl, hF9, hN9⟩ := iter_step hI
      -- region 4: order.go:16
      refine W.seqR fun Q11 hQ11 => ?_
      refine WL.q (Y.lss (.pl rfl) (.pl rfl)) rfl ?_
      refine WL.next hQ11 (.cons (i := 1) rfl (.cons (i := 14) rfl (.cons (i := 15) rfl (.cons (i := 16) rfl (.nil))))) ?_
      refine W.seq fun K12 hK12 => ?_
      refine W.cond (.pl rfl) (fun hC13 => ?_) (fun hC13 => ?_)
      · replace hF9 := cpos hC13 hF9
        refine W.skip ?_
        refine W.go hK12 (.cons (i := 1) rfl (.cons (i := 14) rfl (.cons (i := 15) rfl (.nil)))) ?_
        refine W.seq fun K14 hK14 => ?_
        refine W.block ?_
        -- region 5: order.go:16
        refine W.seqR fun Q15 hQ15 => ?_
        refine WL.q (Y.move (.pl rfl)) rfl ?_
        obtain ⟨x4, hx4, hF9⟩ := bnd hF9
        refine WL.q (Y.indexA (enc := (eI .u16)) Try.underlying45 Try.underlying44 rfl cells44 (.pl rfl) (.pl rfl) (hx4) rfl (fun _ => rfl)) rfl ?_
        refine WL.q (Y.assign (.pl rfl)) rfl ?_
        refine WL.q (Y.assign (.pl rfl)) rfl ?_
        refine WL.next hQ15 (.cons (i := 1) rfl (.cons (i := 3) rfl (.cons (i := 4) rfl (.cons (i := 14) rfl (.cons (i := 15) rfl (.nil)))))) ?_
        -- region 6: order.go:17
        refine W.seqR fun Q16 hQ16 => ?_
        refine WL.q (Y.move (.pl rfl)) rfl ?_
        refine WL.q (Y.fieldAddr0 (off := 0) (ft := 3) Try.underlying47 rfl cells3 (.pl rfl)) rfl ?_
        refine WL.q (Y.loadB (v := .int .i64 r1.n) Try.underlying3 rfl (.pl rfl) (i := 0) rfl (rfl)) rfl ?_
        refine WL.q (Y.geq (.pl rfl) (.pl rfl)) rfl ?_
        refine WL.q (Y.move (.pl rfl)) rfl ?_
        refine WL.g (.pl rfl rfl rfl) (fun hg => Y.move (.pl rfl)) rfl ?_
        refine WL.g (.pl rfl rfl rfl) (fun hg => Y.neq (.gd (hg) rfl) (.pl rfl)) rfl ?_
        refine WL.q (Y.and (.pl rfl) (fun h2 => .gd (eqt h2) rfl)) rfl ?_
        refine WL.q (Y.move (.pl rfl)) rfl ?_
        refine WL.g (.pl rfl rfl rfl) (fun hg => Y.move (.pl rfl)) rfl ?_
        refine WL.g (.pl rfl rfl rfl) (fun hg => Y.fieldAddr0 (off := 0) (ft := 3) Try.underlying47 rfl cells3 (.pl rfl)) rfl ?_
        refine WL.g (.pl rfl rfl rfl) (fun hg => Y.loadB (v := .int .i64 r1.n) Try.underlying3 rfl (.gd (hg) rfl) (i := 0) rfl (rfl)) rfl ?_
        refine WL.g (.pl rfl rfl rfl) (fun hg => Y.conv Try.underlying3 Try.underlying91 (.gd (hg) rfl)) rfl ?_
        refine WL.g (.pl rfl rfl rfl) (fun hg => Y.shr (.gd (hg) rfl) (.gd (hg) rfl) (wrapU_nn rfl _)) rfl ?_
        refine WL.g (.pl rfl rfl rfl) (fun hg => Y.neq (.gd (hg) rfl) (.pl rfl)) rfl ?_
        refine WL.q (Y.or (.pl rfl) (fun h2 => .gd (eqf h2) rfl)) rfl ?_
        refine WL.next hQ16 (.cons (i := 1) rfl (.cons (i := 14) rfl (.cons (i := 15) rfl (.cons (i := 34) rfl (.nil))))) ?_
        refine W.cond (.pl rfl) (fun hC17 => ?_) (fun hC17 => ?_)
        · replace hF9 := cpos hC17 hF9
          -- region 7: order.go:18
          refine W.seqR fun Q18 hQ18 => ?_
          refine WL.q (Y.assign (.pl rfl)) rfl ?_
          refine WL.next hQ18 (.cons (i := 2) rfl (.nil)) ?_
          obtain rfl := Option.some.inj hF9
          obtain rfl := einr hN9
          obtain rfl := Option.some.inj hF
          refine W.retV (fn := Try.f45) (vs := [.int .i64 3]) Try.results45 ⟨.tmp rfl, trivial⟩ (fun _ _ h => h) (fun w hw => ?_)
          exact hR _ _ ⟨rfl, (hw.pick [] rfl)⟩
        · replace hF9 := cneg hC17 hF9
          refine W.skip ?_
          refine W.go hK14 (.cons (i := 1) rfl (.cons (i := 14) rfl (.cons (i := 15) rfl (.nil)))) ?_
          -- region 8: order.go:16
          refine W.reg ?_
          obtain ⟨hk5, hF9⟩ := ckh hF9
          refine WL.q (Y.add (.pl rfl) (.pl rfl) (ok64_lt (hk5))) rfl ?_
          refine WL.q (Y.move (.pl rfl)) rfl ?_
          refine WL.nil ?_
          obtain rfl := Option.some.inj hF9
          exact W.again1 hK10 (v3 + 1) k9 hN9 (Nat.lt_succ_self _) (.cons rfl (.nil)) (.cons (i := 1) rfl (.cons (i := 14) rfl (.nil))) (fun w hw => hw.pick [0] rfl)
      · replace hF9 := cneg hC13 hF9
        refine W.exit ?_
        obtain rfl := Option.some.inj hF9
        exact W.joinAt0 hK7  (einr hN9) (.nil) (.nil) (fun w hw => hw.pick [] rfl)
    · -- behind
      rintro  rfl
      -- region 9: order.go:21
      refine W.seqR fun Q20 hQ20 => ?_
      refine WL.q (Y.assign (.pl rfl)) rfl ?_
      refine WL.next hQ20 (.cons (i := 2) rfl (.nil)) ?_
      obtain rfl := Option.some.inj hF
      refine W.retV (fn := Try.f45) (vs := [.int .i64 0]) Try.results45 ⟨.tmp rfl, trivial⟩ (fun _ _ h => h) (fun w hw => ?_)
      exact hR _ _ ⟨rfl, (hw.pick [] rfl)⟩

def order_closed_L27 (N : Nat) (r1 : Rel) (v6 : Int) : ((List Int) × Int) → Option (((List Int) × Int) ⊕ (List Int))
  | (After8, v9) =>
    cond (decide (v9 < r1.n))
      (bd (ax 12 0 After8 v9) fun (x10 : Int) =>
      cond (decide ((bandI .u16 (shrI .u16 x10 (IntKind.u64.wrap v6)) 1) = 1))
        (bd (ax 12 0 After8 v9) fun (x11 : Int) =>
        bd (ax 12 0 After8 v6) fun (x12 : Int) =>
        bd (ax 12 0 After8 v9) fun (x13 : Int) =>
        ck (ok64 (v9 + 1)) <|
        some (.inl ((setA 12 0 After8 v9 (borI .u16 x11 x12)), (v9 + 1))))
        (ck (ok64 (v9 + 1)) <|
        some (.inl (After8, (v9 + 1)))))
      (some (.inr After8))

def order_closed_L25 (N : Nat) (r1 : Rel) : ((List Int) × Int) → Option (((List Int) × Int) ⊕ (List Int))
  | (After5, v6) =>
    cond (decide (v6 < r1.n))
      (bd (α := (List Int)) (iter (order_closed_L27 N r1 v6) N (After5, 0)) <|
      fun (After7 : (List Int)) => 
        ck (ok64 (v6 + 1)) <|
        some (.inl (After7, (v6 + 1))))
      (some (.inr After5))

def order_closed (N : Nat) (r1 : Rel) : Option (List Int) :=
  bd (α := (List Int)) (iter (order_closed_L25 N r1) N (r1.after, 0)) <|
  fun (After4 : (List Int)) => 
    some After4

theorem order_closed_ok {N : Nat} {r1 : Rel} {res : (List Int)} (hF : order_closed N r1 = some res) (w : World) :
    Pure Try.prog 46 [.agg (encRel r1).toArray] w (.agg (encRel (Rel.mk r1.n res)).toArray) := by
  refine W.enter (n := 38) Try.func46 rfl rfl Sub.refl (by simp) (St.start w) fun R hR => ?_
  unfold order_closed at hF
  -- region 0: order.go:25
  refine W.seqR fun Q1 hQ1 => ?_
  refine WL.step (WO.boxA (.pl rfl) rfl fun b2 => ?_)
  refine WL.step (WO.alloc (cs := (encRel (Rel.mk 0 [])).toArray) zero47 rfl rfl fun b3 => ?_)
  refine WL.next hQ1 (.cons (i := 1) rfl (.cons (i := 2) rfl (.nil))) ?_
  obtain ⟨o2, hF2, hF⟩ := bnd hF
  refine W.join1 (Em := fun (After4 : (List Int)) => []) (M := fun After4 => [cBx b2 47 (encRel (Rel.mk r1.n After4)), cBx b3 47 (encRel (Rel.mk 0 []))]) (I := fun After4 => After4 = o2) (.cons (i := 1) rfl (.cons (i := 2) rfl (.nil))) (fun K3 hK3 => ?_) ?_
  · -- up to
    -- region 1: order.go:26
    refine W.seqR fun Q4 hQ4 => ?_
    refine WL.q (Y.fieldAddr0 (off := 0) (ft := 3) Try.underlying47 rfl cells3 (.pl rfl)) rfl ?_
    refine WL.q (Y.loadB (v := .int .i64 r1.n) Try.underlying3 rfl (.pl rfl) (i := 1) rfl (rfl)) rfl ?_
    refine WL.q (Y.move (.pl rfl)) rfl ?_
    refine WL.next hQ4 (.cons (i := 1) rfl (.cons (i := 2) rfl (.cons (i := 6) rfl (.cons (i := 7) rfl (.nil))))) ?_
    refine W.block ?_
    refine W.loop2 (Em := fun (After5 : (List Int)) (v6 : Int) => [(7, .int .i64 v6)]) (M := fun After5 v6 => [cBx b2 47 (encRel (Rel.mk r1.n After5)), cBx b3 47 (encRel (Rel.mk 0 []))]) (I := fun After5 v6 k5 => iter (order_closed_L25 N r1) k5 (After5, v6) = some o2) r1.after 0 N (hF2) (.cons rfl (.nil)) (.cons (i := 1) rfl (.cons (i := 2) rfl (.cons (i := 6) rfl (.nil)))) (fun w hw => hw.pick [1, 0] rfl) (fun After5 v6 k5 hI K6 hK6 => ?_)
    obtain ⟨k5, t5, rfl, hF5, hN5⟩ := iter_step hI
    -- region 2: order.go:26
    refine W.seqR fun Q7 hQ7 => ?_
    refine WL.q (Y.lss (.pl rfl) (.pl rfl)) rfl ?_
    refine WL.next hQ7 (.cons (i := 1) rfl (.cons (i := 2) rfl (.cons (i := 6) rfl (.cons (i := 7) rfl (.cons (i := 8) rfl (.nil)))))) ?_
    refine W.seq fun K8 hK8 => ?_
    refine W.cond (.pl rfl) (fun hC9 => ?_) (fun hC9 => ?_)
    · replace hF5 := cpos hC9 hF5
      refine W.skip ?_
      refine W.go hK8 (.cons (i := 1) rfl (.cons (i := 2) rfl (.cons (i := 6) rfl (.cons (i := 7) rfl (.nil))))) ?_
      obtain ⟨o10, hF10, hF5⟩ := bnd hF5
      refine W.join1 (Em := fun (After7 : (List Int)) => []) (M := fun After7 => [cBx b2 47 (encRel (Rel.mk r1.n After7)), cBx b3 47 (encRel (Rel.mk 0 []))]) (I := fun After7 => After7 = o10) (.cons (i := 1) rfl (.cons (i := 2) rfl (.cons (i := 6) rfl (.cons (i := 7) rfl (.nil))))) (fun K11 hK11 => ?_) ?_
      · -- up to
        refine W.block ?_
        -- region 3: order.go:26
        refine W.seqR fun Q12 hQ12 => ?_
        refine WL.q (Y.move (.pl rfl)) rfl ?_
        refine WL.q (Y.assign (.pl rfl)) rfl ?_
        refine WL.next hQ12 (.cons (i := 1) rfl (.cons (i := 2) rfl (.cons (i := 3) rfl (.cons (i := 6) rfl (.cons (i := 7) rfl (.nil)))))) ?_
        -- region 4: order.go:27
        refine W.seqR fun Q13 hQ13 => ?_
        refine WL.q (Y.fieldAddr0 (off := 0) (ft := 3) Try.underlying47 rfl cells3 (.pl rfl)) rfl ?_
        refine WL.q (Y.loadB (v := .int .i64 r1.n) Try.underlying3 rfl (.pl rfl) (i := 0) rfl (rfl)) rfl ?_
        refine WL.q (Y.move (.pl rfl)) rfl ?_
        refine WL.next hQ13 (.cons (i := 1) rfl (.cons (i := 2) rfl (.cons (i := 3) rfl (.cons (i := 6) rfl (.cons (i := 7) rfl (.cons (i := 11) rfl (.cons (i := 12) rfl (.nil)))))))) ?_
        refine W.block ?_
        refine W.loop2 (Em := fun (After8 : (List Int)) (v9 : Int) => [(12, .int .i64 v9)]) (M := fun After8 v9 => [cBx b2 47 (encRel (Rel.mk r1.n After8)), cBx b3 47 (encRel (Rel.mk 0 []))]) (I := fun After8 v9 k14 => iter (order_closed_L27 N r1 v6) k14 (After8, v9) = some o10) After5 0 N (hF10) (.cons rfl (.nil)) (.cons (i := 1) rfl (.cons (i := 2) rfl (.cons (i := 3) rfl (.cons (i := 6) rfl (.cons (i := 7) rfl (.cons (i := 11) rfl (.nil))))))) (fun w hw => hw.pick [0, 1] rfl) (fun After8 v9 k14 hI K15 hK15 => ?_)
        obtain ⟨k14, t14, rfl, hF14, hN14⟩ := iter_step hI
        -- region 5: order.go:27
        refine W.seqR fun Q16 hQ16 => ?_
        refine WL.q (Y.lss (.pl rfl) (.pl rfl)) rfl ?_
        refine WL.next hQ16 (.cons (i := 1) rfl (.cons (i := 2) rfl (.cons (i := 3) rfl (.cons (i := 6) rfl (.cons (i := 7) rfl (.cons (i := 11) rfl (.cons (i := 12) rfl (.cons (i := 13) rfl (.nil))))))))) ?_
        refine W.seq fun K17 hK17 => ?_
        refine W.cond (.pl rfl) (fun hC18 => ?_) (fun hC18 => ?_)
        · replace hF14 := cpos hC18 hF14
          refine W.skip ?_
          refine W.go hK17 (.cons (i := 1) rfl (.cons (i := 2) rfl (.cons (i := 3) rfl (.cons (i := 6) rfl (.cons (i := 7) rfl (.cons (i := 11) rfl (.cons (i := 12) rfl (.nil)))))))) ?_
          refine W.seq fun K19 hK19 => ?_
          refine W.block ?_
          -- region 6: order.go:27
          refine W.seqR fun Q20 hQ20 => ?_
          refine WL.q (Y.move (.pl rfl)) rfl ?_
          refine WL.q (Y.assign (.pl rfl)) rfl ?_
          refine WL.next hQ20 (.cons (i := 1) rfl (.cons (i := 2) rfl (.cons (i := 3) rfl (.cons (i := 4) rfl (.cons (i := 6) rfl (.cons (i := 7) rfl (.cons (i := 11) rfl (.cons (i := 12) rfl (.nil))))))))) ?_
          -- region 7: order.go:28
          refine W.seqR fun Q21 hQ21 => ?_
          refine WL.q (Y.move (.pl rfl)) rfl ?_
          refine WL.q (Y.fieldAddr0 (off := 1) (ft := 45) Try.underlying47 rfl cells45 (.pl rfl)) rfl ?_
          obtain ⟨x10, hx10, hF14⟩ := bnd hF14
          refine WL.q (Y.arrZ Try.underlying45 cells44 (.pl rfl) (.pl rfl) (ax_lt (hx10))) rfl ?_
          refine WL.q (Y.loadB (v := .int .u16 x10) Try.underlying44 rfl (.pl rfl) (i := 0) rfl (cellsA (pre := (.int .i64 r1.n :: [])) (off := 1) (post := []) (a := After8) (enc := (eI .u16)) (d := 0) (n := 12) (sz := 1) (j := 0) (fun _ => rfl) rfl (ax_nat (hx10)) (ax_get (hx10)) rfl)) rfl ?_
          refine WL.q (Y.move (.pl rfl)) rfl ?_
          refine WL.q (Y.conv Try.underlying3 Try.underlying91 (.pl rfl)) rfl ?_
          refine WL.q (Y.shr (.pl rfl) (.pl rfl) (wrapU_nn rfl _)) rfl ?_
          refine WL.q (Y.band (.pl rfl) (.pl rfl)) rfl ?_
          refine WL.q (Y.eql (.pl rfl) (.pl rfl)) rfl ?_
          refine WL.next hQ21 (.cons (i := 1) rfl (.cons (i := 2) rfl (.cons (i := 3) rfl (.cons (i := 4) rfl (.cons (i := 6) rfl (.cons (i := 7) rfl (.cons (i := 11) rfl (.cons (i := 12) rfl (.cons (i := 23) rfl (.nil)))))))))) ?_
          refine W.cond (.pl rfl) (fun hC22 => ?_) (fun hC22 => ?_)
          · replace hF14 := cpos hC22 hF14
            -- region 8: order.go:29
            refine W.regT 11 (by kernel_rfl) (by kernel_rfl) ?_
            refine WS.q (Y.move (.pl rfl)) rfl ?_
            refine WS.q (Y.fieldAddr0 (off := 1) (ft := 45) Try.underlying47 rfl cells45 (.pl rfl)) rfl ?_
            obtain ⟨x11, hx11, hF14⟩ := bnd hF14
            refine WS.q (Y.arrZ Try.underlying45 cells44 (.pl rfl) (.pl rfl) (ax_lt (hx11))) rfl ?_
            refine WS.q (Y.loadB (v := .int .u16 x11) Try.underlying44 rfl (.pl rfl) (i := 0) rfl (cellsA (pre := (.int .i64 r1.n :: [])) (off := 1) (post := []) (a := After8) (enc := (eI .u16)) (d := 0) (n := 12) (sz := 1) (j := 0) (fun _ => rfl) rfl (ax_nat (hx11)) (ax_get (hx11)) rfl)) rfl ?_
            refine WS.q (Y.move (.pl rfl)) rfl ?_
            refine WS.q (Y.fieldAddr0 (off := 1) (ft := 45) Try.underlying47 rfl cells45 (.pl rfl)) rfl ?_
            obtain ⟨x12, hx12, hF14⟩ := bnd hF14
            refine WS.q (Y.arrZ Try.underlying45 cells44 (.pl rfl) (.pl rfl) (ax_lt (hx12))) rfl ?_
            refine WS.q (Y.loadB (v := .int .u16 x12) Try.underlying44 rfl (.pl rfl) (i := 0) rfl (cellsA (pre := (.int .i64 r1.n :: [])) (off := 1) (post := []) (a := After8) (enc := (eI .u16)) (d := 0) (n := 12) (sz := 1) (j := 0) (fun _ => rfl) rfl (ax_nat (hx12)) (ax_get (hx12)) rfl)) rfl ?_
            refine WS.q (Y.bor (.pl rfl) (.pl rfl)) rfl ?_
            refine WS.q (Y.fieldAddr0 (off := 1) (ft := 45) Try.underlying47 rfl cells45 (.pl rfl)) rfl ?_
            obtain ⟨x13, hx13, hF14⟩ := bnd hF14
            refine WS.q (Y.arrZ Try.underlying45 cells44 (.pl rfl) (.pl rfl) (ax_lt (hx13))) rfl ?_
            refine WS.tail ?_
            refine WL.step (WO.storeB (cs' := (encRel (Rel.mk r1.n (setA 12 0 After8 v9 (borI .u16 x11 x12))))) cells44 (.pl rfl) (.pl rfl) rfl (i := 0) rfl (ltl (m := 13) (offlt (off := 1) (sz := 1) (j := 0) (ax_nat (hx13)) (by decide)) rfl) (cellsSet (pre := (.int .i64 r1.n :: [])) (off := 1) (post := []) (a := After8) (enc := (eI .u16)) (d := 0) (n := 12) (sz := 1) (j := 0) (x := x13) (x' := (borI .u16 x11 x12)) (fun _ => rfl) rfl (ax_lt (hx13)) (ax_get (hx13)) (by decide) rfl rfl) ?_)
            refine WL.nil ?_
            refine W.go hK19 (.cons (i := 1) rfl (.cons (i := 2) rfl (.cons (i := 3) rfl (.cons (i := 6) rfl (.cons (i := 7) rfl (.cons (i := 11) rfl (.cons (i := 12) rfl (.nil)))))))) ?_
            -- region 9: order.go:27
            refine W.reg ?_
            obtain ⟨hk14, hF14⟩ := ckh hF14
            refine WL.q (Y.add (.pl rfl) (.pl rfl) (ok64_lt (hk14))) rfl ?_
            refine WL.q (Y.move (.pl rfl)) rfl ?_
            refine WL.nil ?_
            obtain rfl := Option.some.inj hF14
            exact W.again2 hK15 (setA 12 0 After8 v9 (borI .u16 x11 x12)) (v9 + 1) k14 hN14 (Nat.lt_succ_self _) (.cons rfl (.nil)) (.cons (i := 1) rfl (.cons (i := 2) rfl (.cons (i := 3) rfl (.cons (i := 6) rfl (.cons (i := 7) rfl (.cons (i := 11) rfl (.nil))))))) (fun w hw => hw.pick [0, 1] rfl)
          · replace hF14 := cneg hC22 hF14
            refine W.skip ?_
            refine W.go hK19 (.cons (i := 1) rfl (.cons (i := 2) rfl (.cons (i := 3) rfl (.cons (i := 6) rfl (.cons (i := 7) rfl (.cons (i := 11) rfl (.cons (i := 12) rfl (.nil)))))))) ?_
            -- region 9: order.go:27
            refine W.reg ?_
            obtain ⟨hk15, hF14⟩ := ckh hF14
            refine WL.q (Y.add (.pl rfl) (.pl rfl) (ok64_lt (hk15))) rfl ?_
            refine WL.q (Y.move (.pl rfl)) rfl ?_
            refine WL.nil ?_
            obtain rfl := Option.some.inj hF14
            exact W.again2 hK15 After8 (v9 + 1) k14 hN14 (Nat.lt_succ_self _) (.cons rfl (.nil)) (.cons (i := 1) rfl (.cons (i := 2) rfl (.cons (i := 3) rfl (.cons (i := 6) rfl (.cons (i := 7) rfl (.cons (i := 11) rfl (.nil))))))) (fun w hw => hw.pick [0, 1] rfl)
        · replace hF14 := cneg hC18 hF14
          refine W.exit ?_
          obtain rfl := Option.some.inj hF14
          exact W.joinAt1 hK11 After8 (einr hN14) (.nil) (.cons (i := 1) rfl (.cons (i := 2) rfl (.cons (i := 6) rfl (.cons (i := 7) rfl (.nil))))) (fun w hw => hw.pick [0, 1] rfl)
      · -- behind
        rintro After7 rfl
        -- region 10: order.go:26
        refine W.reg ?_
        obtain ⟨hk16, hF5⟩ := ckh hF5
        refine WL.q (Y.add (.pl rfl) (.pl rfl) (ok64_lt (hk16))) rfl ?_
        refine WL.q (Y.move (.pl rfl)) rfl ?_
        refine WL.nil ?_
        obtain rfl := Option.some.inj hF5
        exact W.again2 hK6 After7 (v6 + 1) k5 hN5 (Nat.lt_succ_self _) (.cons rfl (.nil)) (.cons (i := 1) rfl (.cons (i := 2) rfl (.cons (i := 6) rfl (.nil)))) (fun w hw => hw.pick [0, 1] rfl)
    · replace hF5 := cneg hC9 hF5
      refine W.exit ?_
      obtain rfl := Option.some.inj hF5
      exact W.joinAt1 hK3 After5 (einr hN5) (.nil) (.cons (i := 1) rfl (.cons (i := 2) rfl (.nil))) (fun w hw => hw.pick [0, 1] rfl)
  · -- behind
    rintro After4 rfl
    -- region 11: order.go:33
    refine W.seqR fun Q27 hQ27 => ?_
    refine WL.q (Y.loadBA (ds := (encRel (Rel.mk r1.n After4))) Try.underlying47 rfl cells47 (.pl rfl) (i := 0) rfl rfl subW) rfl ?_
    refine WL.step (WO.storeBA (ds := (encRel (Rel.mk r1.n After4))) (cs' := (encRel (Rel.mk r1.n After4))) cells47 (.pl rfl) (.pl rfl) rfl (oneRel _) (i := 1) rfl (lel (o := 0) (l := 13) (m := 13) (by decide) rfl rfl) (putW rfl) ?_)
    refine WL.next hQ27 (.cons (i := 2) rfl (.nil)) ?_
    obtain rfl := Option.some.inj hF
    refine W.retV (fn := Try.f46) (vs := [.agg (encRel (Rel.mk r1.n After4)).toArray]) Try.results46 ⟨.cellA Try.underlying47 rfl cells47 rfl (i := 1) rfl rfl, trivial⟩ (fun _ _ h => h) (fun w hw => ?_)
    exact hR _ _ ⟨rfl, (hw.pick [] rfl)⟩

def order_Close_L3 (N : Nat) (r1 : Rel) (r5 : (List Int)) : Int → Option (Int ⊕ (Unit ⊕ (Int × (List Int) × Bool × Int)))
  | v7 =>
    cond (decide (v7 < r1.n))
      (bd (ax 12 0 r5 v7) fun (x8 : Int) =>
      cond (decide ((bandI .u16 (shrI .u16 x8 (IntKind.u64.wrap v7)) 1) = 1))
        (some (.inr (.inr (r1.n, r5, true, 0))))
        (ck (ok64 (v7 + 1)) <|
        some (.inl (v7 + 1))))
      (some (.inr (.inl ())))

def order_Close (N : Nat) (r1 : Rel) : Option (Int × (List Int) × Bool × Int) :=
  bd (order_Check N r1) fun (r4 : Int) =>
  cond (!(decide (r4 = 0)))
    (some (0, [], false, r4))
    (bd (order_closed N r1) fun (r5 : (List Int)) =>
    bd (α := (Unit ⊕ (Int × (List Int) × Bool × Int))) (iter (order_Close_L3 N r1 r5) N 0) <|
    Sum.elim (fun _ => 
      some (r1.n, r5, false, 0)) (fun p => some p))

theorem order_Close_ok {N : Nat} {r1 : Rel} {res : (Int × (List Int) × Bool × Int)} (hF : order_Close N r1 = some res) (w : World) :
    Pure Try.prog 27 [.agg (encRel r1).toArray] w (.tuple #[.agg (encRel (Rel.mk res.1 res.2.1)).toArray, .bool res.2.2.1, .int .i64 res.2.2.2]) := by
  refine W.enter (n := 33) Try.func27 rfl rfl Sub.refl (by simp) (St.start w) fun R hR => ?_
  unfold order_Close at hF
  -- region 0: order.go:37
  refine W.seqR fun Q1 hQ1 => ?_
  refine WL.step (WO.boxA (.pl rfl) rfl fun b2 => ?_)
  refine WL.step (WO.alloc (cs := (encRel (Rel.mk 0 [])).toArray) zero47 rfl rfl fun b3 => ?_)
  refine WL.q (Y.assign (.pl rfl)) rfl ?_
  refine WL.q (Y.assign (.pl rfl)) rfl ?_
  refine WL.next hQ1 (.cons (i := 1) rfl (.cons (i := 2) rfl (.nil))) ?_
  refine W.seq fun K2 hK2 => ?_
  -- region 1: order.go:38
  refine W.seqR fun Q3 hQ3 => ?_
  refine WL.q (Y.loadBA (ds := (encRel r1)) Try.underlying47 rfl cells47 (.pl rfl) (i := 1) rfl rfl subW) rfl ?_
  obtain ⟨r4, hr4, hF⟩ := bnd hF
  refine WL.step (WO.callP isGo45 (.cons (.pl rfl) (.nil)) rfl (fun w hw => order_Check_ok (hr4) w ) ?_)
  refine WL.q (Y.assign (.pl rfl)) rfl ?_
  refine WL.next hQ3 (.cons (i := 1) rfl (.cons (i := 2) rfl (.cons (i := 5) rfl (.nil)))) ?_
  -- region 2: order.go:38
  refine W.seqR fun Q4 hQ4 => ?_
  refine WL.q (Y.move (.pl rfl)) rfl ?_
  refine WL.q (Y.neq (.pl rfl) (.pl rfl)) rfl ?_
  refine WL.next hQ4 (.cons (i := 1) rfl (.cons (i := 2) rfl (.cons (i := 5) rfl (.cons (i := 11) rfl (.nil))))) ?_
  refine W.cond (.pl rfl) (fun hC5 => ?_) (fun hC5 => ?_)
  · replace hF := cpos hC5 hF
    -- region 3: order.go:39
    refine W.seqR fun Q6 hQ6 => ?_
    refine WL.q (Y.build (cs := (encRel (Rel.mk 0 [])).toArray) shape47 (.nil) (one_parts trivial) rfl) rfl ?_
    refine WL.q (Y.move (.pl rfl)) rfl ?_
    refine WL.step (WO.storeBA (ds := (encRel (Rel.mk 0 []))) (cs' := (encRel (Rel.mk 0 []))) cells47 (.pl rfl) (.pl rfl) rfl (oneRel _) (i := 0) rfl (lel (o := 0) (l := 13) (m := 13) (by decide) rfl rfl) (putW rfl) ?_)
    refine WL.q (Y.assign (.pl rfl)) rfl ?_
    refine WL.q (Y.assign (.pl rfl)) rfl ?_
    refine WL.next hQ6 (.cons (i := 2) rfl (.cons (i := 3) rfl (.cons (i := 4) rfl (.nil)))) ?_
    obtain rfl := Option.some.inj hF
    refine W.retV (fn := Try.f27) (vs := [.agg (encRel (Rel.mk 0 [])).toArray, .bool false, .int .i64 r4]) Try.results27 ⟨.cellA Try.underlying47 rfl cells47 rfl (i := 0) rfl rfl, ⟨.tmp rfl, ⟨.tmp rfl, trivial⟩⟩⟩ (fun _ _ h => h) (fun w hw => ?_)
    exact hR _ _ ⟨rfl, (hw.pick [] rfl)⟩
  · replace hF := cneg hC5 hF
    refine W.skip ?_
    refine W.go hK2 (.cons (i := 1) rfl (.cons (i := 2) rfl (.nil))) ?_
    -- region 4: order.go:41
    refine W.seqR fun Q7 hQ7 => ?_
    refine WL.q (Y.loadBA (ds := (encRel r1)) Try.underlying47 rfl cells47 (.pl rfl) (i := 1) rfl rfl subW) rfl ?_
    obtain ⟨r5, hr5, hF⟩ := bnd hF
    refine WL.step (WO.callP isGo46 (.cons (.pl rfl) (.nil)) rfl (fun w hw => order_closed_ok (hr5) w ) ?_)
    refine WL.step (WO.alloc (cs := (encRel (Rel.mk 0 [])).toArray) zero47 rfl rfl fun b6 => ?_)
    refine WL.step (WO.storeBA (ds := (encRel (Rel.mk r1.n r5))) (cs' := (encRel (Rel.mk r1.n r5))) cells47 (.pl rfl) (.pl rfl) rfl (oneRel _) (i := 0) rfl (lel (o := 0) (l := 13) (m := 13) (by decide) rfl rfl) (putW rfl) ?_)
    refine WL.next hQ7 (.cons (i := 2) rfl (.cons (i := 6) rfl (.nil))) ?_
    obtain ⟨o8, hF8, hF⟩ := bnd hF
    refine W.join0 (Em := []) (M := [cBx b3 47 (encRel (Rel.mk 0 [])), cBx b6 47 (encRel (Rel.mk r1.n r5))]) (I := (.inl ()) = o8) (.cons (i := 2) rfl (.cons (i := 6) rfl (.nil))) (fun K9 hK9 => ?_) ?_
    · -- up to
      -- region 5: order.go:42
      refine W.seqR fun Q10 hQ10 => ?_
      refine WL.q (Y.fieldAddr0 (off := 0) (ft := 3) Try.underlying47 rfl cells3 (.pl rfl)) rfl ?_
      refine WL.q (Y.loadB (v := .int .i64 r1.n) Try.underlying3 rfl (.pl rfl) (i := 0) rfl (rfl)) rfl ?_
      refine WL.q (Y.move (.pl rfl)) rfl ?_
      refine WL.next hQ10 (.cons (i := 2) rfl (.cons (i := 6) rfl (.cons (i := 17) rfl (.cons (i := 18) rfl (.nil))))) ?_
      refine W.block ?_
      refine W.loop1 (Em := fun (v7 : Int) => [(18, .int .i64 v7)]) (M := fun v7 => [cBx b3 47 (encRel (Rel.mk 0 [])), cBx b6 47 (encRel (Rel.mk r1.n r5))]) (I := fun v7 k11 => iter (order_Close_L3 N r1 r5) k11 v7 = some o8) 0 N (hF8) (.cons rfl (.nil)) (.cons (i := 2) rfl (.cons (i := 6) rfl (.cons (i := 17) rfl (.nil)))) (fun w hw => hw.pick [1, 0] rfl) (fun v7 k11 hI K12 hK12 => ?_)
      obtain ⟨k11, t11, rfl, hF11, hN11⟩ := iter_step hI
      -- region 6: order.go:42
      refine W.seqR fun Q13 hQ13 => ?_
      refine WL.q (Y.lss (.pl rfl) (.pl rfl)) rfl ?_
      refine WL.next hQ13 (.cons (i := 2) rfl (.cons (i := 6) rfl (.cons (i := 17) rfl (.cons (i := 18) rfl (.cons (i := 19) rfl (.nil)))))) ?_
      refine W.seq fun K14 hK14 => ?_
      refine W.cond (.pl rfl) (fun hC15 => ?_) (fun hC15 => ?_)
      · replace hF11 := cpos hC15 hF11
        refine W.skip ?_
        refine W.go hK14 (.cons (i := 2) rfl (.cons (i := 6) rfl (.cons (i := 17) rfl (.cons (i := 18) rfl (.nil))))) ?_
        refine W.seq fun K16 hK16 => ?_
        refine W.block ?_
        -- region 7: order.go:42
        refine W.seqR fun Q17 hQ17 => ?_
        refine WL.q (Y.move (.pl rfl)) rfl ?_
        refine WL.q (Y.assign (.pl rfl)) rfl ?_
        refine WL.next hQ17 (.cons (i := 2) rfl (.cons (i := 6) rfl (.cons (i := 7) rfl (.cons (i := 17) rfl (.cons (i := 18) rfl (.nil)))))) ?_
        -- region 8: order.go:43
        refine W.seqR fun Q18 hQ18 => ?_
        refine WL.q (Y.move (.pl rfl)) rfl ?_
        refine WL.q (Y.fieldAddr0 (off := 1) (ft := 45) Try.underlying47 rfl cells45 (.pl rfl)) rfl ?_
        obtain ⟨x8, hx8, hF11⟩ := bnd hF11
        refine WL.q (Y.arrZ Try.underlying45 cells44 (.pl rfl) (.pl rfl) (ax_lt (hx8))) rfl ?_
        refine WL.q (Y.loadB (v := .int .u16 x8) Try.underlying44 rfl (.pl rfl) (i := 1) rfl (cellsA (pre := (.int .i64 r1.n :: [])) (off := 1) (post := []) (a := r5) (enc := (eI .u16)) (d := 0) (n := 12) (sz := 1) (j := 0) (fun _ => rfl) rfl (ax_nat (hx8)) (ax_get (hx8)) rfl)) rfl ?_
        refine WL.q (Y.move (.pl rfl)) rfl ?_
        refine WL.q (Y.conv Try.underlying3 Try.underlying91 (.pl rfl)) rfl ?_
        refine WL.q (Y.shr (.pl rfl) (.pl rfl) (wrapU_nn rfl _)) rfl ?_
        refine WL.q (Y.band (.pl rfl) (.pl rfl)) rfl ?_
        refine WL.q (Y.eql (.pl rfl) (.pl rfl)) rfl ?_
        refine WL.next hQ18 (.cons (i := 2) rfl (.cons (i := 6) rfl (.cons (i := 17) rfl (.cons (i := 18) rfl (.cons (i := 29) rfl (.nil)))))) ?_
        refine W.cond (.pl rfl) (fun hC19 => ?_) (fun hC19 => ?_)
        · replace hF11 := cpos hC19 hF11
          -- region 9: order.go:44
          refine W.seqR fun Q20 hQ20 => ?_
          refine WL.q (Y.loadBA (ds := (encRel (Rel.mk r1.n r5))) Try.underlying47 rfl cells47 (.pl rfl) (i := 1) rfl rfl subW) rfl ?_
          refine WL.step (WO.storeBA (ds := (encRel (Rel.mk r1.n r5))) (cs' := (encRel (Rel.mk r1.n r5))) cells47 (.pl rfl) (.pl rfl) rfl (oneRel _) (i := 0) rfl (lel (o := 0) (l := 13) (m := 13) (by decide) rfl rfl) (putW rfl) ?_)
          refine WL.q (Y.assign (.pl rfl)) rfl ?_
          refine WL.q (Y.assign (.pl rfl)) rfl ?_
          refine WL.next hQ20 (.cons (i := 2) rfl (.cons (i := 3) rfl (.cons (i := 4) rfl (.nil)))) ?_
          obtain rfl := Option.some.inj hF11
          obtain rfl := einr hN11
          obtain rfl := Option.some.inj hF
          refine W.retV (fn := Try.f27) (vs := [.agg (encRel (Rel.mk r1.n r5)).toArray, .bool true, .int .i64 0]) Try.results27 ⟨.cellA Try.underlying47 rfl cells47 rfl (i := 0) rfl rfl, ⟨.tmp rfl, ⟨.tmp rfl, trivial⟩⟩⟩ (fun _ _ h => h) (fun w hw => ?_)
          exact hR _ _ ⟨rfl, (hw.pick [] rfl)⟩
        · replace hF11 := cneg hC19 hF11
          refine W.skip ?_
          refine W.go hK16 (.cons (i := 2) rfl (.cons (i := 6) rfl (.cons (i := 17) rfl (.cons (i := 18) rfl (.nil))))) ?_
          -- region 10: order.go:42
          refine W.reg ?_
          obtain ⟨hk9, hF11⟩ := ckh hF11
          refine WL.q (Y.add (.pl rfl) (.pl rfl) (ok64_lt (hk9))) rfl ?_
          refine WL.q (Y.move (.pl rfl)) rfl ?_
          refine WL.nil ?_
          obtain rfl := Option.some.inj hF11
          exact W.again1 hK12 (v7 + 1) k11 hN11 (Nat.lt_succ_self _) (.cons rfl (.nil)) (.cons (i := 2) rfl (.cons (i := 6) rfl (.cons (i := 17) rfl (.nil)))) (fun w hw => hw.pick [0, 1] rfl)
      · replace hF11 := cneg hC15 hF11
        refine W.exit ?_
        obtain rfl := Option.some.inj hF11
        exact W.joinAt0 hK9  (einr hN11) (.nil) (.cons (i := 2) rfl (.cons (i := 6) rfl (.nil))) (fun w hw => hw.pick [0, 1] rfl)
    · -- behind
      rintro  rfl
      -- region 11: order.go:47
      refine W.seqR fun Q22 hQ22 => ?_
      refine WL.q (Y.loadBA (ds := (encRel (Rel.mk r1.n r5))) Try.underlying47 rfl cells47 (.pl rfl) (i := 1) rfl rfl subW) rfl ?_
      refine WL.step (WO.storeBA (ds := (encRel (Rel.mk r1.n r5))) (cs' := (encRel (Rel.mk r1.n r5))) cells47 (.pl rfl) (.pl rfl) rfl (oneRel _) (i := 0) rfl (lel (o := 0) (l := 13) (m := 13) (by decide) rfl rfl) (putW rfl) ?_)
      refine WL.q (Y.assign (.pl rfl)) rfl ?_
      refine WL.q (Y.assign (.pl rfl)) rfl ?_
      refine WL.next hQ22 (.cons (i := 2) rfl (.cons (i := 3) rfl (.cons (i := 4) rfl (.nil)))) ?_
      obtain rfl := Option.some.inj hF
      refine W.retV (fn := Try.f27) (vs := [.agg (encRel (Rel.mk r1.n r5)).toArray, .bool false, .int .i64 0]) Try.results27 ⟨.cellA Try.underlying47 rfl cells47 rfl (i := 0) rfl rfl, ⟨.tmp rfl, ⟨.tmp rfl, trivial⟩⟩⟩ (fun _ _ h => h) (fun w hw => ?_)
      exact hR _ _ ⟨rfl, (hw.pick [] rfl)⟩

def alibkeep_HistorySpans_L27 (N : Nat) (r11 : ((List Call) × Int × Int)) (v27 : Int) (x31 : Call) (r14 : (Int × (List Int) × Int)) (s26 : (List Span)) (to33 : Int) : Int → Option (Int ⊕ ((List Span) ⊕ Bool))
  | v39 =>
    cond (decide (v39 < (((r11.1.take v27.toNat)).length : Int)))
      (bd (ix (r11.1.take v27.toNat) v39) fun (x40 : Call) =>
      bd ((cond ((decide (x31.who = x40.who)) == true) (ax 12 0 r14.2.1 v39) (some 0))) fun (x42 : Int) =>
      ck (!((decide (x31.who = x40.who)) == true) || (decide (0 ≤ v27))) <|
      cond ((decide (x31.who = x40.who)) && (decide ((bandI .u16 (shrI .u16 x42 v27) 1) = 0)))
        (some (.inr (.inr false)))
        (ck (ok64 (v39 + 1)) <|
        some (.inl (v39 + 1))))
      (some (.inr (.inl (s26 ++ ([(Span.mk x31.from_ to33)] : List Span)))))

def alibkeep_HistorySpans_L25 (N : Nat) (r11 : ((List Call) × Int × Int)) (l6 : (List Event)) (r14 : (Int × (List Int) × Int)) : ((List Span) × Int) → Option (((List Span) × Int) ⊕ ((List Span) ⊕ Bool))
  | (s26, v27) =>
    cond (decide (v27 < ((r11.1).length : Int)))
      (bd (α := ((List Span) ⊕ Bool)) (bd (ix r11.1 v27) fun (x31 : Call) =>
        bd (α := Int) (cond (decide (x31.to_ = (-1)))
            (some ((l6).length : Int))
            (some x31.to_)) <|
        fun (to33 : Int) => 
          ck (limB 16 ((s26).length + (([(Span.mk x31.from_ to33)] : List Span)).length)) <|
          ck (slB (r11.1).length 0 v27) <|
          iter (alibkeep_HistorySpans_L27 N r11 v27 x31 r14 s26 to33) N 0) <|
      Sum.elim (fun (s30 : (List Span)) => 
        ck (ok64 (v27 + 1)) <|
        some (.inl (s30, (v27 + 1)))) (fun p => some (.inr (.inr p))))
      (some (.inr (.inl s26)))

def alibkeep_HistorySpans (N : Nat) (types1 : (List Int)) (l6 : (List Event)) : Option Bool :=
  bd (history_Calls N types1 l6) fun (r11 : ((List Call) × Int × Int)) =>
  bd (history_Ahead N r11.1) fun (r14 : (Int × (List Int) × Int)) =>
  bd (α := Bool) (bd (alibkeep_historyLives N) fun (r17 : Bool) =>
    cond ((!r17) == false)
      (bd (alibkeep_ok N ([r11.2.2, r14.2.2] : List Int)) fun (r19 : Bool) =>
      some ((!r17) || (!r19)))
      (some ((!r17) || false))) <|
  fun (v16 : Bool) => 
    cond v16
      (bd (alibkeep_historyLives N) fun (r20 : Bool) =>
      some r20)
      (bd (α := ((List Span) ⊕ Bool)) (iter (alibkeep_HistorySpans_L25 N r11 l6 r14) N ([], 0)) <|
      Sum.elim (fun (s23 : (List Span)) => 
        bd (spans_Of N s23) fun (r46 : (Int × (List Int) × Int)) =>
        bd (order_Close N (Rel.mk r14.1 r14.2.1)) fun (r48 : (Int × (List Int) × Bool × Int)) =>
        bd (alibkeep_ok N ([r46.2.2, r48.2.2.2] : List Int)) fun (r51 : Bool) =>
        some ((r51 && (decide (r46.1 = r14.1) && eqA 12 r46.2.1 r14.2.1)) && (!r48.2.2.1))) (fun p => some p))

theorem alibkeep_HistorySpans_ok {N : Nat} {types1 : (List Int)} {l6 : (List Event)} {res : Bool} (hF : alibkeep_HistorySpans N types1 l6 = some res) (w : World) {v5 : Value} (hs4 : SlIn (eI .i64) 1 w v5 types1) {v10 : Value} (hs9 : SlIn encEvent 4 w v10 l6) :
    Pure Try.prog 6 [v5, v10] w (.bool res) := by
  obtain ⟨A2, c3, rfl, hcc3, hs4⟩ := hs4.form
  obtain ⟨A7, c8, rfl, hcc8, hs9⟩ := hs9.form
  refine W.enter (n := 113) Try.func6 rfl rfl Sub.refl (by simp) (St.start w) fun R hR => ?_
  unfold alibkeep_HistorySpans at hF
  -- region 0: history.go:96
  refine W.seqR fun Q1 hQ1 => ?_
  refine WL.q (Y.assign (.pl rfl)) rfl ?_
  refine WL.next hQ1 (.cons (i := 0) rfl (.cons (i := 1) rfl (.nil))) ?_
  -- region 1: history.go:97
  refine W.seqR fun Q2 hQ2 => ?_
  refine WL.q (Y.move (.pl rfl)) rfl ?_
  refine WL.q (Y.move (.pl rfl)) rfl ?_
  obtain ⟨r11, hr11, hF⟩ := bnd hF
  refine WL.step (WO.callM isGo15 (.cons (.pl rfl) (.cons (.pl rfl) (.nil))) rfl (fun w hw => history_Calls_ok (hr11) w (hs4.mono hw) (hs9.mono hw)) ?_)
  rintro ⟨A12, c13⟩ -
  refine WL.q (Y.move (.pl rfl)) rfl ?_
  refine WL.q (Y.extract (.pl rfl) rfl) rfl ?_
  refine WL.q (Y.extract (.pl rfl) rfl) rfl ?_
  refine WL.q (Y.extract (.pl rfl) rfl) rfl ?_
  refine WL.q (Y.assign (.pl rfl)) rfl ?_
  refine WL.q (Y.assign (.pl rfl)) rfl ?_
  refine WL.q (Y.assign (.pl rfl)) rfl ?_
  refine WL.next hQ2 (.cons (i := 1) rfl (.cons (i := 5) rfl (.cons (i := 7) rfl (.nil)))) ?_
  -- region 2: history.go:98
  refine W.seqR fun Q3 hQ3 => ?_
  refine WL.q (Y.move (.pl rfl)) rfl ?_
  obtain ⟨r14, hr14, hF⟩ := bnd hF
  refine WL.step (WO.callP isGo24 (.cons (.pl rfl) (.nil)) rfl (fun w hw => history_Ahead_ok (hr14) w (SlIn.ofRow lenCall hw (i := 0) rfl)) ?_)
  refine WL.q (Y.move (.pl rfl)) rfl ?_
  refine WL.q (Y.extract (.pl rfl) rfl) rfl ?_
  refine WL.q (Y.extract (.pl rfl) rfl) rfl ?_
  refine WL.step (WO.alloc (cs := (encRel (Rel.mk 0 [])).toArray) zero47 rfl rfl fun b15 => ?_)
  refine WL.step (WO.storeBA (ds := (encRel (Rel.mk r14.1 r14.2.1))) (cs' := (encRel (Rel.mk r14.1 r14.2.1))) cells47 (.pl rfl) (.pl rfl) rfl (oneRel _) (i := 0) rfl (lel (o := 0) (l := 13) (m := 13) (by decide) rfl rfl) (putW rfl) ?_)
  refine WL.q (Y.assign (.pl rfl)) rfl ?_
  refine WL.next hQ3 (.cons (i := 1) rfl (.cons (i := 5) rfl (.cons (i := 7) rfl (.cons (i := 8) rfl (.cons (i := 9) rfl (.nil)))))) ?_
  refine W.seq fun K4 hK4 => ?_
  obtain ⟨o5, hF5, hF⟩ := bnd hF
  refine W.join1 (Em := fun (v16 : Bool) => [(41, .bool v16)]) (M := fun v16 => [cR encCall 7 A12 c13 30 r11.1, cBx b15 47 (encRel (Rel.mk r14.1 r14.2.1))]) (I := fun v16 => v16 = o5) (.cons (i := 1) rfl (.cons (i := 5) rfl (.cons (i := 8) rfl (.nil)))) (fun K6 hK6 => ?_) ?_
  · -- up to
    -- region 3: history.go:99
    refine W.reg ?_
    obtain ⟨r17, hr17, hF5⟩ := bnd hF5
    refine WL.step (WO.callP isGo16 (.nil) rfl (fun w hw => alibkeep_historyLives_ok (hr17) w ) ?_)
    refine WL.q (Y.not (.pl rfl)) rfl ?_
    refine WL.q (Y.move (.pl rfl)) rfl ?_
    refine WL.g (.pl rfl rfl rfl) (fun hg => Y.move (.pl rfl)) rfl ?_
    refine WL.g (.pl rfl rfl rfl) (fun hg => Y.move (.pl rfl)) rfl ?_
    refine bsplit ((!r17) == false) (fun hg7 => ?_) (fun hg7 => ?_)
    · replace hF5 := cpos hg7 hF5
      refine WL.gd (.pl rfl rfl rfl) (hg7) ?_
      refine WL.step (WO.bsliceC (enc := (eI .i64)) (ys := ([r11.2.2, r14.2.2] : List Int)) Try.underlying92 bz25 (.cons (.gd (hg7) rfl) (.cons (.gd (hg7) rfl) (.nil))) rfl (fun _ => rfl) rfl rfl (by decide) (by decide) rfl fun b18 => ?_)
      refine WL.gd (.pl rfl rfl rfl) (hg7) ?_
      obtain ⟨r19, hr19, hF5⟩ := bnd hF5
      refine WL.step (WO.callP isGo25 (.cons (.pl rfl) (.nil)) rfl (fun w hw => alibkeep_ok_ok (hr19) w (SlIn.ofRow (fun _ => rfl) hw (i := 0) rfl)) ?_)
      refine WL.gd (.pl rfl rfl rfl) (hg7) ?_
      refine WL.q (Y.not (.pl rfl)) rfl ?_
      refine WL.q (Y.or (.pl rfl) (fun _ => .pl rfl)) rfl ?_
      refine WL.nil ?_
      exact W.joinAt1 hK6 ((!r17) || (!r19)) (Option.some.inj hF5) (.cons rfl (.nil)) (.cons (i := 1) rfl (.cons (i := 5) rfl (.cons (i := 8) rfl (.nil)))) (fun w hw => hw.pick [2, 1] rfl)
    · replace hF5 := cneg hg7 hF5
      refine WL.gn (.pl rfl rfl rfl) hg7 rfl ?_
      refine WL.gn (.pl rfl rfl rfl) hg7 rfl ?_
      refine WL.gn (.pl rfl rfl rfl) hg7 rfl ?_
      refine WL.q (Y.or (b := false) (.pl rfl) (fun h2 => (gabsO hg7 h2).elim)) rfl ?_
      refine WL.nil ?_
      exact W.joinAt1 hK6 ((!r17) || false) (Option.some.inj hF5) (.cons rfl (.nil)) (.cons (i := 1) rfl (.cons (i := 5) rfl (.cons (i := 8) rfl (.nil)))) (fun w hw => hw.pick [1, 0] rfl)
  · -- behind
    rintro v16 rfl
    refine W.cond (.pl rfl) (fun hC8 => ?_) (fun hC8 => ?_)
    · replace hF := cpos hC8 hF
      -- region 4: history.go:100
      refine W.seqR fun Q9 hQ9 => ?_
      obtain ⟨r20, hr20, hF⟩ := bnd hF
      refine WL.step (WO.callP isGo16 (.nil) rfl (fun w hw => alibkeep_historyLives_ok (hr20) w ) ?_)
      refine WL.q (Y.assign (.pl rfl)) rfl ?_
      refine WL.next hQ9 (.cons (i := 4) rfl (.nil)) ?_
      obtain rfl := Option.some.inj hF
      refine W.retV (fn := Try.f6) (vs := [.bool r20]) Try.results6 ⟨.tmp rfl, trivial⟩ (fun _ _ h => h) (fun w hw => ?_)
      exact hR _ _ ⟨rfl, (hw.pick [] rfl)⟩
    · replace hF := cneg hC8 hF
      refine W.skip ?_
      refine W.go hK4 (.cons (i := 1) rfl (.cons (i := 5) rfl (.cons (i := 8) rfl (.nil)))) ?_
      -- region 5: history.go:102
      refine W.seqR fun Q10 hQ10 => ?_
      refine WL.q (Y.assign (.pl rfl)) rfl ?_
      refine WL.next hQ10 (.cons (i := 1) rfl (.cons (i := 5) rfl (.cons (i := 8) rfl (.cons (i := 10) rfl (.nil))))) ?_
      obtain ⟨o11, hF11, hF⟩ := bnd hF
      refine W.join3 (Em := fun (s23 : (List Span)) (A21 : Option Addr) (c22 : Nat) => [(10, .slice A21 (s23).length c22)]) (M := fun s23 A21 c22 => [cBx b15 47 (encRel (Rel.mk r14.1 r14.2.1)), cR encSpan 2 A21 c22 53 s23]) (I := fun s23 A21 c22 => (.inl s23) = o11) (.cons (i := 8) rfl (.nil)) (fun K12 hK12 => ?_) ?_
      · -- up to
        -- region 6: history.go:103
        refine W.seqR fun Q13 hQ13 => ?_
        refine WL.q (Y.move (.pl rfl)) rfl ?_
        refine WL.q (Y.len Try.underlying24 (.pl rfl)) rfl ?_
        refine WL.q (Y.move (.pl rfl)) rfl ?_
        refine WL.next hQ13 (.cons (i := 1) rfl (.cons (i := 5) rfl (.cons (i := 8) rfl (.cons (i := 10) rfl (.cons (i := 43) rfl (.cons (i := 44) rfl (.cons (i := 45) rfl (.nil)))))))) ?_
        refine W.block ?_
        refine W.loop4 (Em := fun (s26 : (List Span)) (v27 : Int) (A24 : Option Addr) (c25 : Nat) => [(10, .slice A24 (s26).length c25), (45, .int .i64 v27)]) (M := fun s26 v27 A24 c25 => [cR encCall 7 A12 c13 30 r11.1, cBx b15 47 (encRel (Rel.mk r14.1 r14.2.1)), cR encSpan 2 A24 c25 53 s26]) (I := fun s26 v27 A24 c25 k14 => iter (alibkeep_HistorySpans_L25 N r11 l6 r14) k14 (s26, v27) = some o11) [] 0 none 0 N (hF11) (.cons rfl (.cons rfl (.nil))) (.cons (i := 1) rfl (.cons (i := 5) rfl (.cons (i := 8) rfl (.cons (i := 43) rfl (.cons (i := 44) rfl (.nil)))))) (fun w hw => (St.nilR (hw.pick [0, 1] rfl) encSpan 2 53).pick [1, 2, 0] rfl) (fun s26 v27 A24 c25 k14 hI K15 hK15 => ?_)
        obtain ⟨k14, t14, rfl, hF14, hN14⟩ := iter_step hI
        -- region 7: history.go:103
        refine W.seqR fun Q16 hQ16 => ?_
        refine WL.q (Y.lss (.pl rfl) (.pl rfl)) rfl ?_
        refine WL.next hQ16 (.cons (i := 1) rfl (.cons (i := 5) rfl (.cons (i := 8) rfl (.cons (i := 10) rfl (.cons (i := 43) rfl (.cons (i := 44) rfl (.cons (i := 45) rfl (.cons (i := 46) rfl (.nil))))))))) ?_
        refine W.seq fun K17 hK17 => ?_
        refine W.cond (.pl rfl) (fun hC18 => ?_) (fun hC18 => ?_)
        · replace hF14 := cpos hC18 hF14
          refine W.skip ?_
          refine W.go hK17 (.cons (i := 1) rfl (.cons (i := 5) rfl (.cons (i := 8) rfl (.cons (i := 10) rfl (.cons (i := 43) rfl (.cons (i := 44) rfl (.cons (i := 45) rfl (.nil)))))))) ?_
          obtain ⟨o19, hF19, hF14⟩ := bnd hF14
          refine W.join3 (Em := fun (s30 : (List Span)) (A28 : Option Addr) (c29 : Nat) => [(10, .slice A28 (s30).length c29)]) (M := fun s30 A28 c29 => [cR encCall 7 A12 c13 30 r11.1, cBx b15 47 (encRel (Rel.mk r14.1 r14.2.1)), cR encSpan 2 A28 c29 53 s30]) (I := fun s30 A28 c29 => (.inl s30) = o19) (.cons (i := 1) rfl (.cons (i := 5) rfl (.cons (i := 8) rfl (.cons (i := 43) rfl (.cons (i := 44) rfl (.cons (i := 45) rfl (.nil))))))) (fun K20 hK20 => ?_) ?_
          · -- up to
            refine W.block ?_
            -- region 8: history.go:103
            refine W.seqR fun Q21 hQ21 => ?_
            refine WL.q (Y.move (.pl rfl)) rfl ?_
            obtain ⟨x31, hx31, hF19⟩ := bnd hF19
            refine WL.q (Y.rowEl Try.underlying24 cells30 (i := 0) rfl (.pl rfl) rfl (.pl rfl) (ix_lt (hx31))) rfl ?_
            refine WL.q (Y.loadRA (enc := encCall) (ds := (encCall x31)) (a := x31) (idx := v27) (j := 0) Try.underlying30 rfl cells30 lenCall (i := 0) rfl (.pl rfl) (ix_get (hx31)) rfl rfl subW) rfl ?_
            refine WL.step (WO.alloc (cs := (encCall (Call.mk 0 0 0 0 0 0 0)).toArray) zero30 rfl rfl fun b32 => ?_)
            refine WL.q (Y.assign (.pl rfl)) rfl ?_
            refine WL.step (WO.storeBA (ds := (encCall x31)) (cs' := (encCall x31)) cells30 (.pl rfl) (.pl rfl) rfl (oneCall _) (i := 0) rfl (lel (o := 0) (l := 7) (m := 7) (by decide) rfl rfl) (putW rfl) ?_)
            refine WL.next hQ21 (.cons (i := 1) rfl (.cons (i := 5) rfl (.cons (i := 8) rfl (.cons (i := 10) rfl (.cons (i := 11) rfl (.cons (i := 12) rfl (.cons (i := 43) rfl (.cons (i := 44) rfl (.cons (i := 45) rfl (.nil)))))))))) ?_
            -- region 9: history.go:104
            refine W.seqR fun Q22 hQ22 => ?_
            refine WL.q (Y.fieldAddr0 (off := 6) (ft := 3) Try.underlying30 rfl cells3 (.pl rfl)) rfl ?_
            refine WL.q (Y.loadB (v := .int .i64 x31.to_) Try.underlying3 rfl (.pl rfl) (i := 0) rfl (rfl)) rfl ?_
            refine WL.q (Y.assign (.pl rfl)) rfl ?_
            refine WL.next hQ22 (.cons (i := 1) rfl (.cons (i := 5) rfl (.cons (i := 8) rfl (.cons (i := 10) rfl (.cons (i := 11) rfl (.cons (i := 12) rfl (.cons (i := 13) rfl (.cons (i := 43) rfl (.cons (i := 44) rfl (.cons (i := 45) rfl (.nil))))))))))) ?_
            obtain ⟨o23, hF23, hF19⟩ := bnd hF19
            refine W.join1 (Em := fun (to33 : Int) => [(13, .int .i64 to33)]) (M := fun to33 => [cR encCall 7 A12 c13 30 r11.1, cBx b15 47 (encRel (Rel.mk r14.1 r14.2.1)), cR encSpan 2 A24 c25 53 s26, cBx b32 30 (encCall x31)]) (I := fun to33 => to33 = o23) (.cons (i := 1) rfl (.cons (i := 5) rfl (.cons (i := 8) rfl (.cons (i := 10) rfl (.cons (i := 11) rfl (.cons (i := 12) rfl (.cons (i := 43) rfl (.cons (i := 44) rfl (.cons (i := 45) rfl (.nil)))))))))) (fun K24 hK24 => ?_) ?_
            · -- up to
              -- region 10: history.go:105
              refine W.seqR fun Q25 hQ25 => ?_
              refine WL.q (Y.move (.pl rfl)) rfl ?_
              refine WL.q (Y.eql (.pl rfl) (.pl rfl)) rfl ?_
              refine WL.next hQ25 (.cons (i := 1) rfl (.cons (i := 5) rfl (.cons (i := 8) rfl (.cons (i := 10) rfl (.cons (i := 11) rfl (.cons (i := 12) rfl (.cons (i := 13) rfl (.cons (i := 43) rfl (.cons (i := 44) rfl (.cons (i := 45) rfl (.cons (i := 53) rfl (.nil)))))))))))) ?_
              refine W.cond (.pl rfl) (fun hC26 => ?_) (fun hC26 => ?_)
              · replace hF23 := cpos hC26 hF23
                -- region 11: history.go:106
                refine W.reg ?_
                refine WL.q (Y.move (.pl rfl)) rfl ?_
                refine WL.q (Y.len Try.underlying23 (.pl rfl)) rfl ?_
                refine WL.q (Y.assign (.pl rfl)) rfl ?_
                refine WL.nil ?_
                exact W.joinAt1 hK24 ((l6).length : Int) (Option.some.inj hF23) (.cons rfl (.nil)) (.cons (i := 1) rfl (.cons (i := 5) rfl (.cons (i := 8) rfl (.cons (i := 10) rfl (.cons (i := 11) rfl (.cons (i := 12) rfl (.cons (i := 43) rfl (.cons (i := 44) rfl (.cons (i := 45) rfl (.nil)))))))))) (fun w hw => hw.pick [1, 2, 3, 0] rfl)
              · replace hF23 := cneg hC26 hF23
                refine W.skip ?_
                exact W.joinAt1 hK24 x31.to_ (Option.some.inj hF23) (.cons rfl (.nil)) (.cons (i := 1) rfl (.cons (i := 5) rfl (.cons (i := 8) rfl (.cons (i := 10) rfl (.cons (i := 11) rfl (.cons (i := 12) rfl (.cons (i := 43) rfl (.cons (i := 44) rfl (.cons (i := 45) rfl (.nil)))))))))) (fun w hw => hw.pick [1, 2, 3, 0] rfl)
            · -- behind
              rintro to33 rfl
              -- region 12: history.go:108
              refine W.seqR fun Q28 hQ28 => ?_
              refine WL.q (Y.move (.pl rfl)) rfl ?_
              refine WL.q (Y.fieldAddr0 (off := 5) (ft := 3) Try.underlying30 rfl cells3 (.pl rfl)) rfl ?_
              refine WL.q (Y.loadB (v := .int .i64 x31.from_) Try.underlying3 rfl (.pl rfl) (i := 3) rfl (rfl)) rfl ?_
              refine WL.q (Y.move (.pl rfl)) rfl ?_
              refine WL.q (Y.build (cs := (encSpan (Span.mk x31.from_ to33)).toArray) shape53 (.cons (.pl rfl) (.cons (.pl rfl) (.nil))) (one_parts ⟨rfl, ⟨rfl, trivial⟩⟩) rfl) rfl ?_
              refine WL.step (WO.bsliceC (enc := encSpan) (ys := ([(Span.mk x31.from_ to33)] : List Span)) Try.underlying51 bz53 (.cons (.pl rfl) (.nil)) rfl lenSpan rfl rfl (by decide) (by decide) rfl fun b34 => ?_)
              obtain ⟨hk37, hF19⟩ := ckh hF19
              refine WL.step (WO.appendC (enc := encSpan) Try.underlying51 ap53 lenSpan oneSpan (.pl rfl) rfl (.pl rfl) (i := 3) rfl (m2 := 0) rfl (hk37) rfl fun A35 c36 => ?_)
              refine WL.q (Y.assign (.pl rfl)) rfl ?_
              refine WL.next hQ28 (.cons (i := 1) rfl (.cons (i := 5) rfl (.cons (i := 8) rfl (.cons (i := 10) rfl (.cons (i := 11) rfl (.cons (i := 12) rfl (.cons (i := 43) rfl (.cons (i := 44) rfl (.cons (i := 45) rfl (.nil)))))))))) ?_
              -- region 13: history.go:109
              refine W.seqR fun Q29 hQ29 => ?_
              refine WL.q (Y.move (.pl rfl)) rfl ?_
              refine WL.q (Y.move (.pl rfl)) rfl ?_
              obtain ⟨hk38, hF19⟩ := ckh hF19
              refine WL.q (Y.sliceR0 Try.underlying24 cells30 (i := 1) rfl (.pl rfl) rfl (.pl rfl) (hk38)) rfl ?_
              refine WL.q (Y.len Try.underlying24 (.pl rfl)) rfl ?_
              refine WL.q (Y.move (.pl rfl)) rfl ?_
              refine WL.next hQ29 (.cons (i := 1) rfl (.cons (i := 5) rfl (.cons (i := 8) rfl (.cons (i := 10) rfl (.cons (i := 11) rfl (.cons (i := 12) rfl (.cons (i := 43) rfl (.cons (i := 44) rfl (.cons (i := 45) rfl (.cons (i := 65) rfl (.cons (i := 66) rfl (.cons (i := 67) rfl (.nil))))))))))))) ?_
              refine W.block ?_
              refine W.loop1 (Em := fun (v39 : Int) => [(67, .int .i64 v39)]) (M := fun v39 => [cR encCall 7 A12 c13 30 r11.1, cBx b15 47 (encRel (Rel.mk r14.1 r14.2.1)), cR encSpan 2 A35 c36 53 (s26 ++ ([(Span.mk x31.from_ to33)] : List Span)), cBx b32 30 (encCall x31)]) (I := fun v39 k30 => iter (alibkeep_HistorySpans_L27 N r11 v27 x31 r14 s26 to33) k30 v39 = some o19) 0 N (hF19) (.cons rfl (.nil)) (.cons (i := 1) rfl (.cons (i := 5) rfl (.cons (i := 8) rfl (.cons (i := 10) rfl (.cons (i := 11) rfl (.cons (i := 12) rfl (.cons (i := 43) rfl (.cons (i := 44) rfl (.cons (i := 45) rfl (.cons (i := 65) rfl (.cons (i := 66) rfl (.nil)))))))))))) (fun w hw => hw.pick [1, 2, 3, 4] rfl) (fun v39 k30 hI K31 hK31 => ?_)
              obtain ⟨k30, t30, rfl, hF30, hN30⟩ := iter_step hI
              -- region 14: history.go:109
              refine W.seqR fun Q32 hQ32 => ?_
              refine WL.q (Y.lss (.pl rfl) (.pl rfl)) rfl ?_
              refine WL.next hQ32 (.cons (i := 1) rfl (.cons (i := 5) rfl (.cons (i := 8) rfl (.cons (i := 10) rfl (.cons (i := 11) rfl (.cons (i := 12) rfl (.cons (i := 43) rfl (.cons (i := 44) rfl (.cons (i := 45) rfl (.cons (i := 65) rfl (.cons (i := 66) rfl (.cons (i := 67) rfl (.cons (i := 68) rfl (.nil)))))))))))))) ?_
              refine W.seq fun K33 hK33 => ?_
              refine W.cond (.pl rfl) (fun hC34 => ?_) (fun hC34 => ?_)
              · replace hF30 := cpos hC34 hF30
                refine W.skip ?_
                refine W.go hK33 (.cons (i := 1) rfl (.cons (i := 5) rfl (.cons (i := 8) rfl (.cons (i := 10) rfl (.cons (i := 11) rfl (.cons (i := 12) rfl (.cons (i := 43) rfl (.cons (i := 44) rfl (.cons (i := 45) rfl (.cons (i := 65) rfl (.cons (i := 66) rfl (.cons (i := 67) rfl (.nil))))))))))))) ?_
                refine W.seq fun K35 hK35 => ?_
                refine W.block ?_
                -- region 15: history.go:109
                refine W.seqR fun Q36 hQ36 => ?_
                refine WL.q (Y.move (.pl rfl)) rfl ?_
                obtain ⟨x40, hx40, hF30⟩ := bnd hF30
                refine WL.q (Y.wEl (enc := encCall) (sz := 7) Try.underlying24 cells30 (fun w hw => (SlIn.sub0 (SlIn.ofRow lenCall hw (i := 0) rfl) (slB_nat0 (hk38)))) (.pl rfl) (.pl rfl) (ix_lt (hx40))) rfl ?_
                refine WL.q (Y.loadWA (enc := encCall) (ds := (encCall x40)) (j := 0) Try.underlying30 rfl cells30 (fun w hw => (SlIn.sub0 (SlIn.ofRow lenCall hw (i := 0) rfl) (slB_nat0 (hk38)))) (.pl rfl) (hx40) rfl rfl subW) rfl ?_
                refine WL.step (WO.alloc (cs := (encCall (Call.mk 0 0 0 0 0 0 0)).toArray) zero30 rfl rfl fun b41 => ?_)
                refine WL.q (Y.assign (.pl rfl)) rfl ?_
                refine WL.step (WO.storeBA (ds := (encCall x40)) (cs' := (encCall x40)) cells30 (.pl rfl) (.pl rfl) rfl (oneCall _) (i := 0) rfl (lel (o := 0) (l := 7) (m := 7) (by decide) rfl rfl) (putW rfl) ?_)
                refine WL.next hQ36 (.cons (i := 1) rfl (.cons (i := 5) rfl (.cons (i := 8) rfl (.cons (i := 10) rfl (.cons (i := 11) rfl (.cons (i := 12) rfl (.cons (i := 14) rfl (.cons (i := 15) rfl (.cons (i := 43) rfl (.cons (i := 44) rfl (.cons (i := 45) rfl (.cons (i := 65) rfl (.cons (i := 66) rfl (.cons (i := 67) rfl (.nil))))))))))))))) ?_
                -- region 16: history.go:110
                refine W.seqR fun Q37 hQ37 => ?_
                refine WL.q (Y.fieldAddr0 (off := 0) (ft := 3) Try.underlying30 rfl cells3 (.pl rfl)) rfl ?_
                refine WL.q (Y.loadB (v := .int .i64 x31.who) Try.underlying3 rfl (.pl rfl) (i := 4) rfl (rfl)) rfl ?_
                refine WL.q (Y.fieldAddr0 (off := 0) (ft := 3) Try.underlying30 rfl cells3 (.pl rfl)) rfl ?_
                refine WL.q (Y.loadB (v := .int .i64 x40.who) Try.underlying3 rfl (.pl rfl) (i := 0) rfl (rfl)) rfl ?_
                refine WL.q (Y.eql (.pl rfl) (.pl rfl)) rfl ?_
                refine WL.q (Y.move (.pl rfl)) rfl ?_
                refine WL.g (.pl rfl rfl rfl) (fun hg => Y.move (.pl rfl)) rfl ?_
                refine WL.g (.pl rfl rfl rfl) (fun hg => Y.fieldAddr0 (off := 1) (ft := 45) Try.underlying47 rfl cells45 (.pl rfl)) rfl ?_
                obtain ⟨x42, hx42, hF30⟩ := bnd hF30
                refine WL.g (.pl rfl rfl rfl) (fun hg => Y.arrZ Try.underlying45 cells44 (.gd (hg) rfl) (.gd (hg) rfl) (ax_lt (gpos hg hx42))) rfl ?_
                refine WL.g (.pl rfl rfl rfl) (fun hg => Y.loadB (v := .int .u16 x42) Try.underlying44 rfl (.gd (hg) rfl) (i := 2) rfl (cellsA (pre := (.int .i64 r14.1 :: [])) (off := 1) (post := []) (a := r14.2.1) (enc := (eI .u16)) (d := 0) (n := 12) (sz := 1) (j := 0) (fun _ => rfl) rfl (ax_nat (gpos hg hx42)) (ax_get (gpos hg hx42)) rfl)) rfl ?_
                refine WL.g (.pl rfl rfl rfl) (fun hg => Y.move (.pl rfl)) rfl ?_
                obtain ⟨hk43, hF30⟩ := ckh hF30
                refine WL.g (.pl rfl rfl rfl) (fun hg => Y.shr (.gd (hg) rfl) (.gd (hg) rfl) (of_decide_eq_true (gor hg hk43))) rfl ?_
                refine WL.g (.pl rfl rfl rfl) (fun hg => Y.band (.gd (hg) rfl) (.pl rfl)) rfl ?_
                refine WL.g (.pl rfl rfl rfl) (fun hg => Y.eql (.gd (hg) rfl) (.pl rfl)) rfl ?_
                refine WL.q (Y.and (.pl rfl) (fun h2 => .gd (eqt h2) rfl)) rfl ?_
                refine WL.next hQ37 (.cons (i := 1) rfl (.cons (i := 5) rfl (.cons (i := 8) rfl (.cons (i := 10) rfl (.cons (i := 11) rfl (.cons (i := 12) rfl (.cons (i := 43) rfl (.cons (i := 44) rfl (.cons (i := 45) rfl (.cons (i := 65) rfl (.cons (i := 66) rfl (.cons (i := 67) rfl (.cons (i := 86) rfl (.nil)))))))))))))) ?_
                refine W.cond (.pl rfl) (fun hC38 => ?_) (fun hC38 => ?_)
                · replace hF30 := cpos hC38 hF30
                  -- region 17: history.go:111
                  refine W.seqR fun Q39 hQ39 => ?_
                  refine WL.q (Y.assign (.pl rfl)) rfl ?_
                  refine WL.next hQ39 (.cons (i := 4) rfl (.nil)) ?_
                  obtain rfl := Option.some.inj hF30
                  obtain rfl := einr hN30
                  obtain rfl := Option.some.inj hF14
                  obtain rfl := einr hN14
                  obtain rfl := Option.some.inj hF
                  refine W.retV (fn := Try.f6) (vs := [.bool false]) Try.results6 ⟨.tmp rfl, trivial⟩ (fun _ _ h => h) (fun w hw => ?_)
                  exact hR _ _ ⟨rfl, (hw.pick [] rfl)⟩
                · replace hF30 := cneg hC38 hF30
                  refine W.skip ?_
                  refine W.go hK35 (.cons (i := 1) rfl (.cons (i := 5) rfl (.cons (i := 8) rfl (.cons (i := 10) rfl (.cons (i := 11) rfl (.cons (i := 12) rfl (.cons (i := 43) rfl (.cons (i := 44) rfl (.cons (i := 45) rfl (.cons (i := 65) rfl (.cons (i := 66) rfl (.cons (i := 67) rfl (.nil))))))))))))) ?_
                  -- region 18: history.go:109
                  refine W.reg ?_
                  obtain ⟨hk44, hF30⟩ := ckh hF30
                  refine WL.q (Y.add (.pl rfl) (.pl rfl) (ok64_lt (hk44))) rfl ?_
                  refine WL.q (Y.move (.pl rfl)) rfl ?_
                  refine WL.nil ?_
                  obtain rfl := Option.some.inj hF30
                  exact W.again1 hK31 (v39 + 1) k30 hN30 (Nat.lt_succ_self _) (.cons rfl (.nil)) (.cons (i := 1) rfl (.cons (i := 5) rfl (.cons (i := 8) rfl (.cons (i := 10) rfl (.cons (i := 11) rfl (.cons (i := 12) rfl (.cons (i := 43) rfl (.cons (i := 44) rfl (.cons (i := 45) rfl (.cons (i := 65) rfl (.cons (i := 66) rfl (.nil)))))))))))) (fun w hw => hw.pick [1, 2, 3, 4] rfl)
              · replace hF30 := cneg hC34 hF30
                refine W.exit ?_
                obtain rfl := Option.some.inj hF30
                exact W.joinAt3 hK20 (s26 ++ ([(Span.mk x31.from_ to33)] : List Span)) A35 c36 (einr hN30) (.cons rfl (.nil)) (.cons (i := 1) rfl (.cons (i := 5) rfl (.cons (i := 8) rfl (.cons (i := 43) rfl (.cons (i := 44) rfl (.cons (i := 45) rfl (.nil))))))) (fun w hw => hw.pick [0, 1, 2] rfl)
          · -- behind
            rintro s30 A28 c29 rfl
            -- region 19: history.go:103
            refine W.reg ?_
            obtain ⟨hk45, hF14⟩ := ckh hF14
            refine WL.q (Y.add (.pl rfl) (.pl rfl) (ok64_lt (hk45))) rfl ?_
            refine WL.q (Y.move (.pl rfl)) rfl ?_
            refine WL.nil ?_
            obtain rfl := Option.some.inj hF14
            exact W.again4 hK15 s30 (v27 + 1) A28 c29 k14 hN14 (Nat.lt_succ_self _) (.cons rfl (.cons rfl (.nil))) (.cons (i := 1) rfl (.cons (i := 5) rfl (.cons (i := 8) rfl (.cons (i := 43) rfl (.cons (i := 44) rfl (.nil)))))) (fun w hw => hw.pick [0, 1, 2] rfl)
        · replace hF14 := cneg hC18 hF14
          refine W.exit ?_
          obtain rfl := Option.some.inj hF14
          exact W.joinAt3 hK12 s26 A24 c25 (einr hN14) (.cons rfl (.nil)) (.cons (i := 8) rfl (.nil)) (fun w hw => hw.pick [1, 2] rfl)
      · -- behind
        rintro s23 A21 c22 rfl
        -- region 20: history.go:115
        refine W.seqR fun Q42 hQ42 => ?_
        refine WL.q (Y.move (.pl rfl)) rfl ?_
        obtain ⟨r46, hr46, hF⟩ := bnd hF
        refine WL.step (WO.callP isGo26 (.cons (.pl rfl) (.nil)) rfl (fun w hw => spans_Of_ok (hr46) w (SlIn.ofRow lenSpan hw (i := 1) rfl)) ?_)
        refine WL.q (Y.move (.pl rfl)) rfl ?_
        refine WL.q (Y.extract (.pl rfl) rfl) rfl ?_
        refine WL.q (Y.extract (.pl rfl) rfl) rfl ?_
        refine WL.step (WO.alloc (cs := (encRel (Rel.mk 0 [])).toArray) zero47 rfl rfl fun b47 => ?_)
        refine WL.step (WO.storeBA (ds := (encRel (Rel.mk r46.1 r46.2.1))) (cs' := (encRel (Rel.mk r46.1 r46.2.1))) cells47 (.pl rfl) (.pl rfl) rfl (oneRel _) (i := 0) rfl (lel (o := 0) (l := 13) (m := 13) (by decide) rfl rfl) (putW rfl) ?_)
        refine WL.q (Y.assign (.pl rfl)) rfl ?_
        refine WL.next hQ42 (.cons (i := 8) rfl (.cons (i := 16) rfl (.cons (i := 17) rfl (.nil)))) ?_
        -- region 21: history.go:116
        refine W.seqR fun Q43 hQ43 => ?_
        refine WL.q (Y.loadBA (ds := (encRel (Rel.mk r14.1 r14.2.1))) Try.underlying47 rfl cells47 (.pl rfl) (i := 1) rfl rfl subW) rfl ?_
        obtain ⟨r48, hr48, hF⟩ := bnd hF
        refine WL.step (WO.callP isGo27 (.cons (.pl rfl) (.nil)) rfl (fun w hw => order_Close_ok (hr48) w ) ?_)
        refine WL.q (Y.move (.pl rfl)) rfl ?_
        refine WL.q (Y.extract (.pl rfl) rfl) rfl ?_
        refine WL.q (Y.extract (.pl rfl) rfl) rfl ?_
        refine WL.q (Y.extract (.pl rfl) rfl) rfl ?_
        refine WL.step (WO.alloc (cs := (encRel (Rel.mk 0 [])).toArray) zero47 rfl rfl fun b49 => ?_)
        refine WL.step (WO.storeBA (ds := (encRel (Rel.mk r48.1 r48.2.1))) (cs' := (encRel (Rel.mk r48.1 r48.2.1))) cells47 (.pl rfl) (.pl rfl) rfl (oneRel _) (i := 0) rfl (lel (o := 0) (l := 13) (m := 13) (by decide) rfl rfl) (putW rfl) ?_)
        refine WL.q (Y.assign (.pl rfl)) rfl ?_
        refine WL.q (Y.assign (.pl rfl)) rfl ?_
        refine WL.next hQ43 (.cons (i := 8) rfl (.cons (i := 16) rfl (.cons (i := 17) rfl (.cons (i := 19) rfl (.cons (i := 20) rfl (.nil)))))) ?_
        -- region 22: history.go:117
        refine W.seqR fun Q44 hQ44 => ?_
        refine WL.q (Y.move (.pl rfl)) rfl ?_
        refine WL.q (Y.move (.pl rfl)) rfl ?_
        refine WL.step (WO.bsliceC (enc := (eI .i64)) (ys := ([r46.2.2, r48.2.2.2] : List Int)) Try.underlying92 bz25 (.cons (.pl rfl) (.cons (.pl rfl) (.nil))) rfl (fun _ => rfl) rfl rfl (by decide) (by decide) rfl fun b50 => ?_)
        obtain ⟨r51, hr51, hF⟩ := bnd hF
        refine WL.step (WO.callP isGo25 (.cons (.pl rfl) (.nil)) rfl (fun w hw => alibkeep_ok_ok (hr51) w (SlIn.ofRow (fun _ => rfl) hw (i := 0) rfl)) ?_)
        refine WL.q (Y.move (.pl rfl)) rfl ?_
        refine WL.g (.pl rfl rfl rfl) (fun hg => Y.loadBA (ds := (encRel (Rel.mk r46.1 r46.2.1))) Try.underlying47 rfl cells47 (.pl rfl) (i := 2) rfl rfl subW) rfl ?_
        refine WL.g (.pl rfl rfl rfl) (fun hg => Y.loadBA (ds := (encRel (Rel.mk r14.1 r14.2.1))) Try.underlying47 rfl cells47 (.pl rfl) (i := 3) rfl rfl subW) rfl ?_
        refine WL.g (.pl rfl rfl rfl) (fun hg => Y.eqlG eqg47 (.gd (hg) rfl) (.gd (hg) rfl)) rfl ?_
        refine WL.q (Y.and (.pl rfl) (fun h2 => .gd (eqt h2) rfl)) rfl ?_
        refine WL.q (Y.move (.pl rfl)) rfl ?_
        refine WL.g (.pl rfl rfl rfl) (fun hg => Y.move (.pl rfl)) rfl ?_
        refine WL.g (.pl rfl rfl rfl) (fun hg => Y.not (.gd (hg) rfl)) rfl ?_
        refine WL.q (Y.and (.pl rfl) (fun h2 => .gd (eqt h2) rfl)) rfl ?_
        refine WL.q (Y.assign (.pl rfl)) rfl ?_
        refine WL.next hQ44 (.cons (i := 4) rfl (.nil)) ?_
        obtain rfl := Option.some.inj hF
        refine W.retV (fn := Try.f6) (vs := [.bool ((r51 && (decide (r46.1 = r14.1) && eqA 12 r46.2.1 r14.2.1)) && (!r48.2.2.1))]) Try.results6 ⟨.tmp rfl, trivial⟩ (fun _ _ h => h) (fun w hw => ?_)
        exact hR _ _ ⟨rfl, (hw.pick [] rfl)⟩

end Go.Proofs.Ytooaoekfnmakhaa
