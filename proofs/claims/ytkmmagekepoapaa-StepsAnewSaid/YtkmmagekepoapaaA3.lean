/- StepsAlone, StepsAnew: what the code computes, and the walks. -/
import Derived.Test.YtkmmagekepoapaaA2
set_option linter.unusedVariables false
set_option linter.unusedSimpArgs false
set_option linter.unusedSectionVars false
set_option maxRecDepth 100000
namespace Go.Proofs.Ytkmmagekepoapaa
open Go.RowKit
structure Call where
  who : Int
  thing : Int
  kind : Int
  arg : Int
  res : Int
  from_ : Int
  to_ : Int
deriving DecidableEq
def Call.z : Call := ⟨0, 0, 0, 0, 0, 0, 0⟩
def encCall (x : Call) : List Value := (Value.int .i64 x.who :: (Value.int .i64 x.thing :: (Value.int .i64 x.kind :: (Value.int .i64 x.arg :: (Value.int .i64 x.res :: (Value.int .i64 x.from_ :: (Value.int .i64 x.to_ :: [])))))))
theorem lenCall (x : Call) : (encCall x).length = 7 := rfl
theorem eqCall (x y : Call) : eqCells [true, true, true, true, true, true, true] (encCall x) (encCall y) = some (decide (x = y)) := by
  cases x; cases y; simp [encCall, eqCells, Call.mk.injEq, Bool.beq_eq_decide_eq]
theorem oneCall : ∀ x, ∀ v ∈ encCall x, v.oneCell' = true := fun x => (one_cons rfl (one_cons rfl (one_cons rfl (one_cons rfl (one_cons rfl (one_cons rfl (one_cons rfl one_nil)))))))
theorem cells23 : Try.prog.cellsOf 23 = 0 + 1 := by kernel_rfl
theorem cells35 : Try.prog.cellsOf 35 = 0 + 1 := by kernel_rfl
theorem cells86 : Try.prog.cellsOf 86 = 7 + 1 := by kernel_rfl
theorem cells129 : Try.prog.cellsOf 129 = 6 + 1 := by kernel_rfl
theorem isGo11 : IsGo Try.prog 11 := ⟨_, Try.func11, by kernel_rfl, rfl⟩
theorem isGo12 : IsGo Try.prog 12 := ⟨_, Try.func12, by kernel_rfl, rfl⟩
theorem isGo13 : IsGo Try.prog 13 := ⟨_, Try.func13, by kernel_rfl, rfl⟩
theorem isGo14 : IsGo Try.prog 14 := ⟨_, Try.func14, by kernel_rfl, rfl⟩
theorem isGo34 : IsGo Try.prog 34 := ⟨_, Try.func34, by kernel_rfl, rfl⟩
theorem isGo62 : IsGo Try.prog 62 := ⟨_, Try.func62, by kernel_rfl, rfl⟩
theorem zero31 : ∃ i, Try.prog.info? 31 = some i ∧ i.zero = some (Value.agg #[(Value.int .i64 0), (Value.int .i64 0), (Value.int .i64 0), (Value.int .i64 0)]) := ⟨_, rfl, by kernel_rfl⟩
theorem bz129 : ∃ i, Try.prog.info? 129 = some i ∧ i.zero = some (Value.agg #[(Value.int .i64 0), (Value.int .i64 0), (Value.int .i64 0), (Value.int .i64 0), (Value.int .i64 0), (Value.int .i64 0), (Value.int .i64 0)]) ∧ i.size = 7 := ⟨_, rfl, by kernel_rfl, by kernel_rfl⟩
theorem ap3 : ∃ i z, Try.prog.info? 3 = some i ∧ i.zero = some z ∧ i.size = 1 ∧ i.bytes = 8 ∧ z.cells.size = 1 ∧ 0 < 1 := ⟨_, (Value.int .i64 0), rfl, by kernel_rfl, by kernel_rfl, by kernel_rfl, by kernel_rfl, by decide⟩
theorem ap129 : ∃ i z, Try.prog.info? 129 = some i ∧ i.zero = some z ∧ i.size = 7 ∧ i.bytes = 56 ∧ z.cells.size = 7 ∧ 0 < 7 := ⟨_, (Value.agg #[(Value.int .i64 0), (Value.int .i64 0), (Value.int .i64 0), (Value.int .i64 0), (Value.int .i64 0), (Value.int .i64 0), (Value.int .i64 0)]), rfl, by kernel_rfl, by kernel_rfl, by kernel_rfl, by kernel_rfl, by decide⟩
theorem shape88 : Shape Try.prog 88 [(0, 1), (1, 1), (2, 8)] #[(Value.slice none 0 0), (Value.slice none 0 0), (Value.int .i64 0), (Value.int .i64 0), (Value.int .i64 0), (Value.int .i64 0), (Value.int .i64 0), (Value.int .i64 0), (Value.int .i64 0), (Value.int .i64 0)] := ⟨_, _, Value.agg #[(Value.slice none 0 0), (Value.slice none 0 0), (Value.int .i64 0), (Value.int .i64 0), (Value.int .i64 0), (Value.int .i64 0), (Value.int .i64 0), (Value.int .i64 0), (Value.int .i64 0), (Value.int .i64 0)], Try.underlying88, rfl, by kernel_rfl, rfl, by kernel_rfl, by decide⟩
theorem shape129 : Shape Try.prog 129 [(0, 1), (1, 1), (2, 1), (3, 1), (4, 1), (5, 1), (6, 1)] #[(Value.int .i64 0), (Value.int .i64 0), (Value.int .i64 0), (Value.int .i64 0), (Value.int .i64 0), (Value.int .i64 0), (Value.int .i64 0)] := ⟨_, _, Value.agg #[(Value.int .i64 0), (Value.int .i64 0), (Value.int .i64 0), (Value.int .i64 0), (Value.int .i64 0), (Value.int .i64 0), (Value.int .i64 0)], Try.underlying129, rfl, by kernel_rfl, rfl, by kernel_rfl, by decide⟩
def history_result (N : Nat) (kind1 : Int) (n2 : Int) : Option Bool :=
  bd (α := Bool) (cond (decide (kind1 = 2))
      (some (decide (kind1 = 2)))
      (some (decide (kind1 = 10)))) <|
  fun (v3 : Bool) => 
    cond v3
      (some ((decide (0 ≤ n2)) && (decide (n2 ≤ 1000))))
      (bd (α := Bool) (cond (decide (kind1 = 4))
          (some (decide (kind1 = 4)))
          (some (decide (kind1 = 6)))) <|
      fun (v4 : Bool) => 
        cond v4
          (some ((decide (n2 = (-1))) || ((decide (1 ≤ n2)) && (decide (n2 ≤ 1000)))))
          (bd (α := Bool) (cond (decide (kind1 = 7))
              (some (decide (kind1 = 7)))
              (cond (decide (kind1 = 8))
                (some (decide (kind1 = 8)))
                (some (decide (kind1 = 9))))) <|
          fun (v5 : Bool) => 
            cond v5
              (some ((decide (n2 = 0)) || (decide (n2 = 1))))
              (some (decide (n2 = 0)))))

theorem history_result_ok {N : Nat} {kind1 : Int} {n2 : Int} {res : Bool} (hF : history_result N kind1 n2 = some res) (w : World) :
    Pure Try.prog 62 [.int .i64 kind1, .int .i64 n2] w (.bool res) := by
  refine W.enter (n := 40) Try.func62 rfl rfl Sub.refl (by simp) (St.start w) fun R hR => ?_
  unfold history_result at hF
  refine W.seqR fun Q1 hQ1 => ?_
  refine WL.q (Y.assign (.pl rfl)) rfl ?_
  refine WL.next hQ1 (.cons (i := 0) rfl (.cons (i := 1) rfl (.nil))) ?_
  refine W.seq fun K2 hK2 => ?_
  refine W.seqR fun Q3 hQ3 => ?_
  refine WL.q (Y.move (.pl rfl)) rfl ?_
  refine WL.next hQ3 (.cons (i := 1) rfl (.cons (i := 5) rfl (.nil))) ?_
  refine W.block ?_
  obtain ⟨o4, hF4, hF⟩ := bnd hF
  refine W.join1 (Em := fun (v3 : Bool) => [(6, .bool v3)]) (M := fun v3 => []) (I := fun v3 => v3 = o4) (.cons (i := 1) rfl (.cons (i := 5) rfl (.nil))) (fun K5 hK5 => ?_) ?_
  · -- up to
    refine W.seqR fun Q6 hQ6 => ?_
    refine WL.q (Y.eql (.pl rfl) (.pl rfl)) rfl ?_
    refine WL.q (Y.assign (.pl rfl)) rfl ?_
    refine WL.next hQ6 (.cons (i := 1) rfl (.cons (i := 5) rfl (.cons (i := 6) rfl (.nil)))) ?_
    refine W.cond (.pl rfl) (fun hC7 => ?_) (fun hC7 => ?_)
    · replace hF4 := cpos hC7 hF4
      refine W.skip ?_
      exact W.joinAt1 hK5 (decide (kind1 = 2)) (Option.some.inj hF4) (.cons rfl (.nil)) (.cons (i := 1) rfl (.cons (i := 5) rfl (.nil))) (fun wz hw => hw.pick [] rfl)
    · replace hF4 := cneg hC7 hF4
      refine W.reg ?_
      refine WL.q (Y.eql (.pl rfl) (.pl rfl)) rfl ?_
      refine WL.q (Y.assign (.pl rfl)) rfl ?_
      refine WL.nil ?_
      exact W.joinAt1 hK5 (decide (kind1 = 10)) (Option.some.inj hF4) (.cons rfl (.nil)) (.cons (i := 1) rfl (.cons (i := 5) rfl (.nil))) (fun wz hw => hw.pick [] rfl)
  · -- behind
    rintro v3 rfl
    refine W.cond (.pl rfl) (fun hC9 => ?_) (fun hC9 => ?_)
    · replace hF := cpos hC9 hF
      refine W.seqR fun Q10 hQ10 => ?_
      refine WL.q (Y.move (.pl rfl)) rfl ?_
      refine WL.q (Y.geq (.pl rfl) (.pl rfl)) rfl ?_
      refine WL.q (Y.move (.pl rfl)) rfl ?_
      refine WL.g (.pl rfl rfl rfl) (fun hg => Y.move (.pl rfl)) rfl ?_
      refine WL.g (.pl rfl rfl rfl) (fun hg => Y.leq (.gd (hg) rfl) (.pl rfl)) rfl ?_
      refine WL.q (Y.and (.pl rfl) (fun h2 => .gd (eqt h2) rfl)) rfl ?_
      refine WL.q (Y.assign (.pl rfl)) rfl ?_
      refine WL.next hQ10 (.cons (i := 4) rfl (.nil)) ?_
      obtain rfl := Option.some.inj hF
      refine W.retV (fn := Try.f62) (vs := [.bool ((decide (0 ≤ n2)) && (decide (n2 ≤ 1000)))]) Try.results62 ⟨.tmp rfl, trivial⟩ (fun _ _ h => h) (fun wz hw => ?_)
      exact hR _ _ ⟨rfl, (hw.pick [] rfl)⟩
    · replace hF := cneg hC9 hF
      obtain ⟨o11, hF11, hF⟩ := bnd hF
      refine W.join1 (Em := fun (v4 : Bool) => [(15, .bool v4)]) (M := fun v4 => []) (I := fun v4 => v4 = o11) (.cons (i := 1) rfl (.cons (i := 5) rfl (.nil))) (fun K12 hK12 => ?_) ?_
      · -- up to
        refine W.seqR fun Q13 hQ13 => ?_
        refine WL.q (Y.eql (.pl rfl) (.pl rfl)) rfl ?_
        refine WL.q (Y.assign (.pl rfl)) rfl ?_
        refine WL.next hQ13 (.cons (i := 1) rfl (.cons (i := 5) rfl (.cons (i := 15) rfl (.nil)))) ?_
        refine W.cond (.pl rfl) (fun hC14 => ?_) (fun hC14 => ?_)
        · replace hF11 := cpos hC14 hF11
          refine W.skip ?_
          exact W.joinAt1 hK12 (decide (kind1 = 4)) (Option.some.inj hF11) (.cons rfl (.nil)) (.cons (i := 1) rfl (.cons (i := 5) rfl (.nil))) (fun wz hw => hw.pick [] rfl)
        · replace hF11 := cneg hC14 hF11
          refine W.reg ?_
          refine WL.q (Y.eql (.pl rfl) (.pl rfl)) rfl ?_
          refine WL.q (Y.assign (.pl rfl)) rfl ?_
          refine WL.nil ?_
          exact W.joinAt1 hK12 (decide (kind1 = 6)) (Option.some.inj hF11) (.cons rfl (.nil)) (.cons (i := 1) rfl (.cons (i := 5) rfl (.nil))) (fun wz hw => hw.pick [] rfl)
      · -- behind
        rintro v4 rfl
        refine W.cond (.pl rfl) (fun hC16 => ?_) (fun hC16 => ?_)
        · replace hF := cpos hC16 hF
          refine W.seqR fun Q17 hQ17 => ?_
          refine WL.q (Y.move (.pl rfl)) rfl ?_
          refine WL.q (Y.eql (.pl rfl) (.pl rfl)) rfl ?_
          refine WL.q (Y.move (.pl rfl)) rfl ?_
          refine WL.g (.pl rfl rfl rfl) (fun hg => Y.move (.pl rfl)) rfl ?_
          refine WL.g (.pl rfl rfl rfl) (fun hg => Y.geq (.gd (hg) rfl) (.pl rfl)) rfl ?_
          refine WL.g (.pl rfl rfl rfl) (fun hg => Y.move (.gd (hg) rfl)) rfl ?_
          refine WL.g (.gd rfl rfl rfl) (fun hg => Y.move (.pl rfl)) rfl ?_
          refine WL.g (.gd rfl rfl rfl) (fun hg => Y.leq (.gd (hg) rfl) (.pl rfl)) rfl ?_
          refine WL.g (.pl rfl rfl rfl) (fun hg => Y.and (.gd (hg) rfl) (fun h2 => .gd (band hg (eqt h2)) rfl)) rfl ?_
          refine WL.q (Y.or (.pl rfl) (fun h2 => .gd (eqf h2) rfl)) rfl ?_
          refine WL.q (Y.assign (.pl rfl)) rfl ?_
          refine WL.next hQ17 (.cons (i := 4) rfl (.nil)) ?_
          obtain rfl := Option.some.inj hF
          refine W.retV (fn := Try.f62) (vs := [.bool ((decide (n2 = (-1))) || ((decide (1 ≤ n2)) && (decide (n2 ≤ 1000))))]) Try.results62 ⟨.tmp rfl, trivial⟩ (fun _ _ h => h) (fun wz hw => ?_)
          exact hR _ _ ⟨rfl, (hw.pick [] rfl)⟩
        · replace hF := cneg hC16 hF
          obtain ⟨o18, hF18, hF⟩ := bnd hF
          refine W.join1 (Em := fun (v5 : Bool) => [(28, .bool v5)]) (M := fun v5 => []) (I := fun v5 => v5 = o18) (.cons (i := 1) rfl (.nil)) (fun K19 hK19 => ?_) ?_
          · -- up to
            refine W.seqR fun Q20 hQ20 => ?_
            refine WL.q (Y.eql (.pl rfl) (.pl rfl)) rfl ?_
            refine WL.q (Y.assign (.pl rfl)) rfl ?_
            refine WL.next hQ20 (.cons (i := 1) rfl (.cons (i := 5) rfl (.cons (i := 28) rfl (.nil)))) ?_
            refine W.cond (.pl rfl) (fun hC21 => ?_) (fun hC21 => ?_)
            · replace hF18 := cpos hC21 hF18
              refine W.skip ?_
              exact W.joinAt1 hK19 (decide (kind1 = 7)) (Option.some.inj hF18) (.cons rfl (.nil)) (.cons (i := 1) rfl (.nil)) (fun wz hw => hw.pick [] rfl)
            · replace hF18 := cneg hC21 hF18
              refine W.seqR fun Q22 hQ22 => ?_
              refine WL.q (Y.eql (.pl rfl) (.pl rfl)) rfl ?_
              refine WL.q (Y.assign (.pl rfl)) rfl ?_
              refine WL.next hQ22 (.cons (i := 1) rfl (.cons (i := 5) rfl (.cons (i := 28) rfl (.nil)))) ?_
              refine W.cond (.pl rfl) (fun hC23 => ?_) (fun hC23 => ?_)
              · replace hF18 := cpos hC23 hF18
                refine W.skip ?_
                exact W.joinAt1 hK19 (decide (kind1 = 8)) (Option.some.inj hF18) (.cons rfl (.nil)) (.cons (i := 1) rfl (.nil)) (fun wz hw => hw.pick [] rfl)
              · replace hF18 := cneg hC23 hF18
                refine W.reg ?_
                refine WL.q (Y.eql (.pl rfl) (.pl rfl)) rfl ?_
                refine WL.q (Y.assign (.pl rfl)) rfl ?_
                refine WL.nil ?_
                exact W.joinAt1 hK19 (decide (kind1 = 9)) (Option.some.inj hF18) (.cons rfl (.nil)) (.cons (i := 1) rfl (.nil)) (fun wz hw => hw.pick [] rfl)
          · -- behind
            rintro v5 rfl
            refine W.cond (.pl rfl) (fun hC25 => ?_) (fun hC25 => ?_)
            · replace hF := cpos hC25 hF
              refine W.seqR fun Q26 hQ26 => ?_
              refine WL.q (Y.move (.pl rfl)) rfl ?_
              refine WL.q (Y.eql (.pl rfl) (.pl rfl)) rfl ?_
              refine WL.q (Y.move (.pl rfl)) rfl ?_
              refine WL.g (.pl rfl rfl rfl) (fun hg => Y.move (.pl rfl)) rfl ?_
              refine WL.g (.pl rfl rfl rfl) (fun hg => Y.eql (.gd (hg) rfl) (.pl rfl)) rfl ?_
              refine WL.q (Y.or (.pl rfl) (fun h2 => .gd (eqf h2) rfl)) rfl ?_
              refine WL.q (Y.assign (.pl rfl)) rfl ?_
              refine WL.next hQ26 (.cons (i := 4) rfl (.nil)) ?_
              obtain rfl := Option.some.inj hF
              refine W.retV (fn := Try.f62) (vs := [.bool ((decide (n2 = 0)) || (decide (n2 = 1)))]) Try.results62 ⟨.tmp rfl, trivial⟩ (fun _ _ h => h) (fun wz hw => ?_)
              exact hR _ _ ⟨rfl, (hw.pick [] rfl)⟩
            · replace hF := cneg hC25 hF
              refine W.skip ?_
              refine W.go hK2 (.cons (i := 1) rfl (.nil)) ?_
              refine W.seqR fun Q27 hQ27 => ?_
              refine WL.q (Y.move (.pl rfl)) rfl ?_
              refine WL.q (Y.eql (.pl rfl) (.pl rfl)) rfl ?_
              refine WL.q (Y.assign (.pl rfl)) rfl ?_
              refine WL.next hQ27 (.cons (i := 4) rfl (.nil)) ?_
              obtain rfl := Option.some.inj hF
              refine W.retV (fn := Try.f62) (vs := [.bool (decide (n2 = 0))]) Try.results62 ⟨.tmp rfl, trivial⟩ (fun _ _ h => h) (fun wz hw => ?_)
              exact hR _ _ ⟨rfl, (hw.pick [] rfl)⟩

def history_reader_event (N : Nat) (types2 : (List Int)) (out8 : (List Call)) (open9 : (List Int)) (i10 : Int) (v11 : Event) : Option ((List Call) × (List Int) × Int) :=
  cond ((((decide (v11.who < 0)) || (decide (8 ≤ v11.who))) || (decide (v11.thing < 0))) || (decide (((types2).length : Int) ≤ v11.thing)))
    (some (out8, open9, 3))
    (bd (ax 8 0 open9 v11.who) fun (x13 : Int) =>
    cond (!(decide (v11.kind = 0)))
      (bd (ix types2 v11.thing) fun (x14 : Int) =>
      bd (history_Fits N x14 v11.kind) fun (r15 : Bool) =>
      bd ((cond ((!r15) == false) (history_Argument N v11.kind v11.value) (some false))) fun (r16 : Bool) =>
      cond ((!r15) || (!r16))
        (some (out8, open9, 3))
        (cond (decide (0 < x13))
          (some (out8, open9, 5))
          (ck (limB 56 ((out8).length + (([(Call.mk v11.who v11.thing v11.kind v11.value 0 i10 (-1))] : List Call)).length)) <|
          bd (ax 8 0 open9 v11.who) fun (x21 : Int) =>
          some ((out8 ++ ([(Call.mk v11.who v11.thing v11.kind v11.value 0 i10 (-1))] : List Call)), (setA 8 0 open9 v11.who (((out8 ++ ([(Call.mk v11.who v11.thing v11.kind v11.value 0 i10 (-1))] : List Call))).length : Int)), 0))))
      (cond (decide (x13 = 0))
        (some (out8, open9, 4))
        (ck (ok64 (x13 - 1)) <|
        bd (ix out8 (x13 - 1)) fun (x23 : Call) =>
        bd ((cond ((!(decide (x23.thing = v11.thing))) == false) (history_result N x23.kind v11.value) (some false))) fun (r24 : Bool) =>
        cond ((!(decide (x23.thing = v11.thing))) || (!r24))
          (some (out8, open9, 3))
          (bd (ax 8 0 open9 v11.who) fun (x25 : Int) =>
          some ((out8.set (x13 - 1).toNat (Call.mk x23.who x23.thing x23.kind x23.arg v11.value x23.from_ i10)), (setA 8 0 open9 v11.who 0), 0)))))

theorem history_reader_event_ok {N : Nat} {types2 : (List Int)} {out8 : (List Call)} {open9 : (List Int)} {i10 : Int} {v11 : Event} {b1 : Nat} {A3 : Option Addr} {c4 : Nat} {A6 : Option Addr} {c7 : Nat} {res : ((List Call) × (List Int) × Int)} (hF : history_reader_event N types2 out8 open9 i10 v11 = some res) {w0 w : World} {T : List Chunk} (hw : St w0.heap.size w0 ([cBx b1 88 (Value.slice A3 (types2).length c4 :: (Value.slice A6 (out8).length c7 :: (((encA 8 (eI .i64) 0) open9) ++ []))), cR encCall 7 A6 c7 129 out8] ++ T) w) (hs5 : SlIn (eI .i64) 1 w0 (.slice A3 (types2).length c4) types2) :
    Calls Try.prog 34 (List.toArray [.pointer (some ⟨b1, 0, none⟩), .int .i64 i10, .agg (encEvent v11).toArray]) w (fun e w' => ∃ g : (Option Addr × Nat), (True) ∧ e = .returned (.int .i64 res.2.2) ∧ St w0.heap.size w0 ([cBx b1 88 (Value.slice A3 (types2).length c4 :: (Value.slice g.1 (res.1).length g.2 :: (((encA 8 (eI .i64) 0) res.2.1) ++ []))), cR encCall 7 g.1 g.2 129 res.1] ++ T) w') := by
  refine W.enter (n := 137) Try.func34 rfl rfl Sub.refl (by simp) hw fun R hR => ?_
  unfold history_reader_event at hF
  refine W.seqR fun Q1 hQ1 => ?_
  refine WL.step (WO.boxA (.pl rfl) rfl fun b12 => ?_)
  refine WL.q (Y.assign (.pl rfl)) rfl ?_
  refine WL.next hQ1 (.cons (i := 0) rfl (.cons (i := 1) rfl (.cons (i := 5) rfl (.nil)))) ?_
  refine W.seq fun K2 hK2 => ?_
  refine W.seqD (by kernel_rfl) (by kernel_rfl) fun R3 hR3 => ?_
  refine WD.q (Y.fieldAddr0 (off := 0) (ft := 3) Try.underlying31 rfl cells3 (.pl rfl)) rfl ?_
  refine WD.q (Y.loadB (v := .int .i64 v11.who) Try.underlying3 rfl (.pl rfl) (i := 0) rfl (rfl)) rfl ?_
  refine WD.q (Y.lss (.pl rfl) (.pl rfl)) rfl ?_
  refine WD.q (Y.move (.pl rfl)) rfl ?_
  refine WD.g (.pl rfl rfl rfl) (fun hg => Y.fieldAddr0 (off := 0) (ft := 3) Try.underlying31 rfl cells3 (.pl rfl)) rfl ?_
  refine WD.g (.pl rfl rfl rfl) (fun hg => Y.loadB (v := .int .i64 v11.who) Try.underlying3 rfl (.gd (hg) rfl) (i := 0) rfl (rfl)) rfl ?_
  refine WD.g (.pl rfl rfl rfl) (fun hg => Y.geq (.gd (hg) rfl) (.pl rfl)) rfl ?_
  refine WD.q (Y.or (.pl rfl) (fun h2 => .gd (eqf h2) rfl)) rfl ?_
  refine WD.q (Y.move (.pl rfl)) rfl ?_
  refine WD.g (.pl rfl rfl rfl) (fun hg => Y.fieldAddr0 (off := 1) (ft := 3) Try.underlying31 rfl cells3 (.pl rfl)) rfl ?_
  refine WD.g (.pl rfl rfl rfl) (fun hg => Y.loadB (v := .int .i64 v11.thing) Try.underlying3 rfl (.gd (hg) rfl) (i := 0) rfl (rfl)) rfl ?_
  refine WD.g (.pl rfl rfl rfl) (fun hg => Y.lss (.gd (hg) rfl) (.pl rfl)) rfl ?_
  refine WD.q (Y.or (.pl rfl) (fun h2 => .gd (eqf h2) rfl)) rfl ?_
  refine WD.q (Y.move (.pl rfl)) rfl ?_
  refine WD.g (.pl rfl rfl rfl) (fun hg => Y.fieldAddr0 (off := 1) (ft := 3) Try.underlying31 rfl cells3 (.pl rfl)) rfl ?_
  refine WD.g (.pl rfl rfl rfl) (fun hg => Y.loadB (v := .int .i64 v11.thing) Try.underlying3 rfl (.gd (hg) rfl) (i := 0) rfl (rfl)) rfl ?_
  refine WD.g (.pl rfl rfl rfl) (fun hg => Y.move (.pl rfl)) rfl ?_
  refine WD.g (.pl rfl rfl rfl) (fun hg => Y.nilCheck (.gd (hg) rfl)) rfl ?_
  refine WD.g (.pl rfl rfl rfl) (fun hg => Y.fieldAddr0 (off := 0) (ft := 23) Try.underlying88 rfl cells23 (.gd (hg) rfl)) rfl ?_
  refine WD.g (.pl rfl rfl rfl) (fun hg => Y.loadB (v := .slice A3 (types2).length c4) Try.underlying23 rfl (.gd (hg) rfl) (i := 1) rfl (rfl)) rfl ?_
  refine WD.g (.pl rfl rfl rfl) (fun hg => Y.len Try.underlying23 (.gd (hg) rfl)) rfl ?_
  refine WD.g (.pl rfl rfl rfl) (fun hg => Y.geq (.gd (hg) rfl) (.gd (hg) rfl)) rfl ?_
  refine WD.q (Y.or (.pl rfl) (fun h2 => .gd (eqf h2) rfl)) rfl ?_
  refine WD.next hR3 (.cons (i := 0) rfl (.cons (i := 1) rfl (.cons (i := 5) rfl (.cons (i := 31) rfl (.nil))))) ?_
  refine W.cond (.pl rfl) (fun hC4 => ?_) (fun hC4 => ?_)
  · replace hF := cpos hC4 hF
    refine W.seqR fun Q5 hQ5 => ?_
    refine WL.q (Y.assign (.pl rfl)) rfl ?_
    refine WL.next hQ5 (.cons (i := 6) rfl (.nil)) ?_
    obtain rfl := Option.some.inj hF
    refine W.retV (fn := Try.f34) (vs := [.int .i64 3]) Try.results34 ⟨.tmp rfl, trivial⟩ (fun _ _ h => h) (fun wz hw => ?_)
    exact hR _ _ ⟨(A6, c7), trivial, rfl, (hw.pickK 3 [1, 2] rfl)⟩
  · replace hF := cneg hC4 hF
    refine W.skip ?_
    refine W.go hK2 (.cons (i := 0) rfl (.cons (i := 1) rfl (.cons (i := 5) rfl (.nil)))) ?_
    refine W.seqD (by kernel_rfl) (by kernel_rfl) fun R6 hR6 => ?_
    refine WD.q (Y.move (.pl rfl)) rfl ?_
    refine WD.q (Y.fieldAddr0 (off := 0) (ft := 3) Try.underlying31 rfl cells3 (.pl rfl)) rfl ?_
    refine WD.q (Y.loadB (v := .int .i64 v11.who) Try.underlying3 rfl (.pl rfl) (i := 0) rfl (rfl)) rfl ?_
    refine WD.q (Y.nilCheck (.pl rfl)) rfl ?_
    refine WD.q (Y.fieldAddr0 (off := 2) (ft := 86) Try.underlying88 rfl cells86 (.pl rfl)) rfl ?_
    obtain ⟨x13, hx13, hF⟩ := bnd hF
    refine WD.q (Y.arrZ Try.underlying86 cells3 (.pl rfl) (.pl rfl) (ax_lt (hx13))) rfl ?_
    refine WD.q (Y.loadB (v := .int .i64 x13) Try.underlying3 rfl (.pl rfl) (i := 1) rfl (cellsA (pre := (Value.slice A3 (types2).length c4 :: (Value.slice A6 (out8).length c7 :: []))) (off := 2) (post := []) (a := open9) (enc := (eI .i64)) (d := 0) (n := 8) (sz := 1) (j := 0) (fun _ => rfl) rfl (ax_nat (hx13)) (ax_get (hx13)) rfl)) rfl ?_
    refine WD.q (Y.assign (.pl rfl)) rfl ?_
    refine WD.next hR6 (.cons (i := 0) rfl (.cons (i := 1) rfl (.cons (i := 5) rfl (.cons (i := 7) rfl (.nil))))) ?_
    refine W.seq fun K7 hK7 => ?_
    refine W.seqR fun Q8 hQ8 => ?_
    refine WL.q (Y.fieldAddr0 (off := 2) (ft := 3) Try.underlying31 rfl cells3 (.pl rfl)) rfl ?_
    refine WL.q (Y.loadB (v := .int .i64 v11.kind) Try.underlying3 rfl (.pl rfl) (i := 0) rfl (rfl)) rfl ?_
    refine WL.q (Y.neq (.pl rfl) (.pl rfl)) rfl ?_
    refine WL.next hQ8 (.cons (i := 0) rfl (.cons (i := 1) rfl (.cons (i := 5) rfl (.cons (i := 7) rfl (.cons (i := 41) rfl (.nil)))))) ?_
    refine W.cond (.pl rfl) (fun hC9 => ?_) (fun hC9 => ?_)
    · replace hF := cpos hC9 hF
      refine W.seq fun K10 hK10 => ?_
      refine W.block ?_
      refine W.seqD (by kernel_rfl) (by kernel_rfl) fun R11 hR11 => ?_
      refine WD.q (Y.move (.pl rfl)) rfl ?_
      refine WD.q (Y.nilCheck (.pl rfl)) rfl ?_
      refine WD.q (Y.fieldAddr0 (off := 0) (ft := 23) Try.underlying88 rfl cells23 (.pl rfl)) rfl ?_
      refine WD.q (Y.loadB (v := .slice A3 (types2).length c4) Try.underlying23 rfl (.pl rfl) (i := 1) rfl (rfl)) rfl ?_
      refine WD.q (Y.fieldAddr0 (off := 1) (ft := 3) Try.underlying31 rfl cells3 (.pl rfl)) rfl ?_
      refine WD.q (Y.loadB (v := .int .i64 v11.thing) Try.underlying3 rfl (.pl rfl) (i := 0) rfl (rfl)) rfl ?_
      obtain ⟨x14, hx14, hF⟩ := bnd hF
      refine WD.q (Y.slEl Try.underlying23 cells3 hs5 (.pl rfl) (.pl rfl) (ix_lt (hx14))) rfl ?_
      refine WD.q (Y.loadS (enc := (eI .i64)) (v := .int .i64 x14) (j := 0) Try.underlying3 rfl hs5 (.pl rfl) (hx14) rfl rfl) rfl ?_
      refine WD.q (Y.fieldAddr0 (off := 2) (ft := 3) Try.underlying31 rfl cells3 (.pl rfl)) rfl ?_
      refine WD.q (Y.loadB (v := .int .i64 v11.kind) Try.underlying3 rfl (.pl rfl) (i := 0) rfl (rfl)) rfl ?_
      obtain ⟨r15, hr15, hF⟩ := bnd hF
      refine WD.callP isGo44 (.cons (.pl rfl) (.cons (.pl rfl) (.nil))) rfl (fun wz hw => history_Fits_ok (hr15) wz ) ?_
      refine WD.q (Y.not (.pl rfl)) rfl ?_
      refine WD.q (Y.move (.pl rfl)) rfl ?_
      refine WD.g (.pl rfl rfl rfl) (fun hg => Y.fieldAddr0 (off := 2) (ft := 3) Try.underlying31 rfl cells3 (.pl rfl)) rfl ?_
      refine WD.g (.pl rfl rfl rfl) (fun hg => Y.loadB (v := .int .i64 v11.kind) Try.underlying3 rfl (.gd (hg) rfl) (i := 0) rfl (rfl)) rfl ?_
      refine WD.g (.pl rfl rfl rfl) (fun hg => Y.fieldAddr0 (off := 3) (ft := 3) Try.underlying31 rfl cells3 (.pl rfl)) rfl ?_
      refine WD.g (.pl rfl rfl rfl) (fun hg => Y.loadB (v := .int .i64 v11.value) Try.underlying3 rfl (.gd (hg) rfl) (i := 0) rfl (rfl)) rfl ?_
      obtain ⟨r16, hr16, hF⟩ := bnd hF
      refine WD.gP (.pl rfl rfl rfl) isGo45 (fun hg => (.cons (.gd (hg) rfl) (.cons (.gd (hg) rfl) (.nil)))) rfl (fun hg wz hw => history_Argument_ok (gpos hg hr16) wz ) ?_
      refine WD.g (.pl rfl rfl rfl) (fun hg => Y.not (.gd (hg) rfl)) rfl ?_
      refine WD.q (Y.or (.pl rfl) (fun h2 => .gd (eqf h2) rfl)) rfl ?_
      refine WD.q (Y.assign (.pl rfl)) rfl ?_
      refine WD.next hR11 (.cons (i := 0) rfl (.cons (i := 1) rfl (.cons (i := 5) rfl (.cons (i := 7) rfl (.cons (i := 42) rfl (.nil)))))) ?_
      refine W.cond (.pl rfl) (fun hC12 => ?_) (fun hC12 => ?_)
      · replace hF := cpos hC12 hF
        refine W.seqR fun Q13 hQ13 => ?_
        refine WL.q (Y.assign (.pl rfl)) rfl ?_
        refine WL.next hQ13 (.cons (i := 6) rfl (.nil)) ?_
        obtain rfl := Option.some.inj hF
        refine W.retV (fn := Try.f34) (vs := [.int .i64 3]) Try.results34 ⟨.tmp rfl, trivial⟩ (fun _ _ h => h) (fun wz hw => ?_)
        exact hR _ _ ⟨(A6, c7), trivial, rfl, (hw.pickK 3 [1, 2] rfl)⟩
      · replace hF := cneg hC12 hF
        refine W.seqR fun Q14 hQ14 => ?_
        refine WL.q (Y.move (.pl rfl)) rfl ?_
        refine WL.q (Y.gtr (.pl rfl) (.pl rfl)) rfl ?_
        refine WL.q (Y.assign (.pl rfl)) rfl ?_
        refine WL.next hQ14 (.cons (i := 0) rfl (.cons (i := 1) rfl (.cons (i := 5) rfl (.cons (i := 63) rfl (.nil))))) ?_
        refine W.cond (.pl rfl) (fun hC15 => ?_) (fun hC15 => ?_)
        · replace hF := cpos hC15 hF
          refine W.seqR fun Q16 hQ16 => ?_
          refine WL.q (Y.assign (.pl rfl)) rfl ?_
          refine WL.next hQ16 (.cons (i := 6) rfl (.nil)) ?_
          obtain rfl := Option.some.inj hF
          refine W.retV (fn := Try.f34) (vs := [.int .i64 5]) Try.results34 ⟨.tmp rfl, trivial⟩ (fun _ _ h => h) (fun wz hw => ?_)
          exact hR _ _ ⟨(A6, c7), trivial, rfl, (hw.pickK 3 [1, 2] rfl)⟩
        · replace hF := cneg hC15 hF
          refine W.skip ?_
          refine W.go hK10 (.cons (i := 0) rfl (.cons (i := 1) rfl (.cons (i := 5) rfl (.nil)))) ?_
          refine W.seqX 16 (by kernel_rfl) fun K17 hK17 => ?_
          refine WX.pure 0 #[true, false, false, false, false, false, false, false, false, false, false, false, false, false, false, false, false, false, false, false] rfl (by kernel_rfl) (fun _ _ => Y.move (.pl rfl)) rfl ?_
          refine WX.pure 1 #[true, true, false, false, false, false, false, false, false, false, false, false, false, false, false, false, false, false, false, false] rfl (by kernel_rfl) (fun _ _ => Y.move (.pl rfl)) rfl ?_
          refine WX.pure 2 #[true, true, true, false, false, false, false, false, false, false, false, false, false, false, false, false, false, false, false, false] rfl (by kernel_rfl) (fun _ _ => Y.nilCheck (.pl rfl)) rfl ?_
          refine WX.pure 3 #[true, true, true, true, false, false, false, false, false, false, false, false, false, false, false, false, false, false, false, false] rfl (by kernel_rfl) (fun _ _ => Y.fieldAddr0 (off := 1) (ft := 35) Try.underlying88 rfl cells35 (.pl rfl)) rfl ?_
          refine WX.take 4 #[true, true, true, true, true, false, false, false, false, false, false, false, false, false, false, false, false, false, false, false] (fun wz hw => St.tail [] hw) rfl (by kernel_rfl) (Y.loadB (v := .slice A6 (out8).length c7) Try.underlying35 rfl (.pl rfl) (i := 1) rfl (rfl)) rfl ?_
          refine WX.pure 5 #[true, true, true, true, true, true, false, false, false, false, false, false, false, false, false, false, false, false, false, false] rfl (by kernel_rfl) (fun _ _ => Y.fieldAddr0 (off := 0) (ft := 3) Try.underlying31 rfl cells3 (.pl rfl)) rfl ?_
          refine WX.take 6 #[true, true, true, true, true, true, true, false, false, false, false, false, false, false, false, false, false, false, false, false] (fun wz hw => St.tail [] hw) rfl (by kernel_rfl) (Y.loadB (v := .int .i64 v11.who) Try.underlying3 rfl (.pl rfl) (i := 0) rfl (rfl)) rfl ?_
          refine WX.pure 7 #[true, true, true, true, true, true, true, true, false, false, false, false, false, false, false, false, false, false, false, false] rfl (by kernel_rfl) (fun _ _ => Y.fieldAddr0 (off := 1) (ft := 3) Try.underlying31 rfl cells3 (.pl rfl)) rfl ?_
          refine WX.take 8 #[true, true, true, true, true, true, true, true, true, false, false, false, false, false, false, false, false, false, false, false] (fun wz hw => St.tail [] hw) rfl (by kernel_rfl) (Y.loadB (v := .int .i64 v11.thing) Try.underlying3 rfl (.pl rfl) (i := 0) rfl (rfl)) rfl ?_
          refine WX.pure 9 #[true, true, true, true, true, true, true, true, true, true, false, false, false, false, false, false, false, false, false, false] rfl (by kernel_rfl) (fun _ _ => Y.fieldAddr0 (off := 2) (ft := 3) Try.underlying31 rfl cells3 (.pl rfl)) rfl ?_
          refine WX.take 10 #[true, true, true, true, true, true, true, true, true, true, true, false, false, false, false, false, false, false, false, false] (fun wz hw => St.tail [] hw) rfl (by kernel_rfl) (Y.loadB (v := .int .i64 v11.kind) Try.underlying3 rfl (.pl rfl) (i := 0) rfl (rfl)) rfl ?_
          refine WX.pure 11 #[true, true, true, true, true, true, true, true, true, true, true, true, false, false, false, false, false, false, false, false] rfl (by kernel_rfl) (fun _ _ => Y.fieldAddr0 (off := 3) (ft := 3) Try.underlying31 rfl cells3 (.pl rfl)) rfl ?_
          refine WX.take 12 #[true, true, true, true, true, true, true, true, true, true, true, true, true, false, false, false, false, false, false, false] (fun wz hw => St.tail [] hw) rfl (by kernel_rfl) (Y.loadB (v := .int .i64 v11.value) Try.underlying3 rfl (.pl rfl) (i := 0) rfl (rfl)) rfl ?_
          refine WX.pure 13 #[true, true, true, true, true, true, true, true, true, true, true, true, true, true, false, false, false, false, false, false] rfl (by kernel_rfl) (fun _ _ => Y.move (.pl rfl)) rfl ?_
          refine WX.pure 14 #[true, true, true, true, true, true, true, true, true, true, true, true, true, true, true, false, false, false, false, false] rfl (by kernel_rfl) (fun _ _ => Y.build (cs := (encCall (Call.mk v11.who v11.thing v11.kind v11.value 0 i10 (-1))).toArray) shape129 (.cons (.pl rfl) (.cons (.pl rfl) (.cons (.pl rfl) (.cons (.pl rfl) (.cons (.pl rfl) (.cons (.pl rfl) (.nil))))))) (one_parts ⟨rfl, ⟨rfl, ⟨rfl, ⟨rfl, ⟨rfl, ⟨rfl, trivial⟩⟩⟩⟩⟩⟩) rfl) rfl ?_
          refine WX.one 15 #[true, true, true, true, true, true, true, true, true, true, true, true, true, true, true, true, false, false, false, false] (fun wz hw => St.tail [] hw) rfl (by kernel_rfl) (WO.bsliceC (enc := encCall) (ys := ([(Call.mk v11.who v11.thing v11.kind v11.value 0 i10 (-1))] : List Call)) Try.underlying35 bz129 (.cons (.pl rfl) (.nil)) rfl lenCall rfl rfl (by decide) (by decide) rfl fun b17 => ?_)
          obtain ⟨hk20, hF⟩ := ckh hF
          refine WX.stop #[true, true, true, true, true, true, true, true, true, true, true, true, true, true, true, true, true, false, false, false] (fun wz hw => St.tail [_] hw) rfl (by kernel_rfl) (WO.appendC (enc := encCall) Try.underlying35 ap129 lenCall oneCall (.pl rfl) rfl (.pl rfl) (i := 3) rfl (m2 := 0) rfl (hk20) rfl fun A18 c19 => ?_)
          refine WA.take 17 #[true, true, true, true, true, true, true, true, true, true, true, true, true, true, true, true, true, true, false, false] rfl (by kernel_rfl) (fun _ _ => Y.nilCheck (.pl rfl)) rfl ?_
          refine WA.take 18 #[true, true, true, true, true, true, true, true, true, true, true, true, true, true, true, true, true, true, true, false] rfl (by kernel_rfl) (fun _ _ => Y.fieldAddr0 (off := 1) (ft := 35) Try.underlying88 rfl cells35 (.pl rfl)) rfl ?_
          refine WA.branch [19] (by kernel_rfl) ⟨?_, trivial⟩
          refine WI.step #[true, true, true, true, true, true, true, true, true, true, true, true, true, true, true, true, true, true, true, true] rfl rfl (WO.storeB (cs' := (Value.slice A3 (types2).length c4 :: (Value.slice A18 ((out8 ++ ([(Call.mk v11.who v11.thing v11.kind v11.value 0 i10 (-1))] : List Call))).length c19 :: (((encA 8 (eI .i64) 0) open9) ++ [])))) cells35 (.pl rfl) (.pl rfl) rfl (i := 2) rfl (ltl (m := 10) (by decide) rfl) (rfl) ?_)
          refine WA.done (by kernel_rfl) ?_
          refine KK.next hK17 (.cons (i := 0) rfl (.cons (i := 5) rfl (.nil))) ?_
          refine W.seqT 11 (by kernel_rfl) (by kernel_rfl) fun Q18 hQ18 => ?_
          refine WS.q (Y.move (.pl rfl)) rfl ?_
          refine WS.q (Y.fieldAddr0 (off := 0) (ft := 3) Try.underlying31 rfl cells3 (.pl rfl)) rfl ?_
          refine WS.q (Y.loadB (v := .int .i64 v11.who) Try.underlying3 rfl (.pl rfl) (i := 1) rfl (rfl)) rfl ?_
          refine WS.q (Y.move (.pl rfl)) rfl ?_
          refine WS.q (Y.nilCheck (.pl rfl)) rfl ?_
          refine WS.q (Y.fieldAddr0 (off := 1) (ft := 35) Try.underlying88 rfl cells35 (.pl rfl)) rfl ?_
          refine WS.q (Y.loadB (v := .slice A18 ((out8 ++ ([(Call.mk v11.who v11.thing v11.kind v11.value 0 i10 (-1))] : List Call))).length c19) Try.underlying35 rfl (.pl rfl) (i := 2) rfl (rfl)) rfl ?_
          refine WS.q (Y.len Try.underlying35 (.pl rfl)) rfl ?_
          refine WS.q (Y.nilCheck (.pl rfl)) rfl ?_
          refine WS.q (Y.fieldAddr0 (off := 2) (ft := 86) Try.underlying88 rfl cells86 (.pl rfl)) rfl ?_
          obtain ⟨x21, hx21, hF⟩ := bnd hF
          refine WS.q (Y.arrZ Try.underlying86 cells3 (.pl rfl) (.pl rfl) (ax_lt (hx21))) rfl ?_
          refine WS.tail ?_
          refine WL.step (WO.storeB (cs' := (Value.slice A3 (types2).length c4 :: (Value.slice A18 ((out8 ++ ([(Call.mk v11.who v11.thing v11.kind v11.value 0 i10 (-1))] : List Call))).length c19 :: (((encA 8 (eI .i64) 0) (setA 8 0 open9 v11.who (((out8 ++ ([(Call.mk v11.who v11.thing v11.kind v11.value 0 i10 (-1))] : List Call))).length : Int))) ++ [])))) cells3 (.pl rfl) (.pl rfl) rfl (i := 2) rfl (ltl (m := 10) (offlt (off := 2) (sz := 1) (j := 0) (ax_nat (hx21)) (by decide)) rfl) (cellsSet (pre := (Value.slice A3 (types2).length c4 :: (Value.slice A18 ((out8 ++ ([(Call.mk v11.who v11.thing v11.kind v11.value 0 i10 (-1))] : List Call))).length c19 :: []))) (off := 2) (post := []) (a := open9) (enc := (eI .i64)) (d := 0) (n := 8) (sz := 1) (j := 0) (x := x21) (x' := (((out8 ++ ([(Call.mk v11.who v11.thing v11.kind v11.value 0 i10 (-1))] : List Call))).length : Int)) (fun _ => rfl) rfl (ax_lt (hx21)) (ax_get (hx21)) (by decide) rfl rfl) ?_)
          refine WL.next hQ18 (.nil) ?_
          refine W.seqR fun Q19 hQ19 => ?_
          refine WL.q (Y.assign (.pl rfl)) rfl ?_
          refine WL.next hQ19 (.cons (i := 6) rfl (.nil)) ?_
          obtain rfl := Option.some.inj hF
          refine W.retV (fn := Try.f34) (vs := [.int .i64 0]) Try.results34 ⟨.tmp rfl, trivial⟩ (fun _ _ h => h) (fun wz hw => ?_)
          exact hR _ _ ⟨(A18, c19), trivial, rfl, (hw.pickK 4 [2, 3] rfl)⟩
    · replace hF := cneg hC9 hF
      refine W.skip ?_
      refine W.go hK7 (.cons (i := 0) rfl (.cons (i := 1) rfl (.cons (i := 5) rfl (.cons (i := 7) rfl (.nil))))) ?_
      refine W.seq fun K20 hK20 => ?_
      refine W.seqR fun Q21 hQ21 => ?_
      refine WL.q (Y.move (.pl rfl)) rfl ?_
      refine WL.q (Y.eql (.pl rfl) (.pl rfl)) rfl ?_
      refine WL.next hQ21 (.cons (i := 0) rfl (.cons (i := 1) rfl (.cons (i := 5) rfl (.cons (i := 7) rfl (.cons (i := 97) rfl (.nil)))))) ?_
      refine W.cond (.pl rfl) (fun hC22 => ?_) (fun hC22 => ?_)
      · replace hF := cpos hC22 hF
        refine W.seqR fun Q23 hQ23 => ?_
        refine WL.q (Y.assign (.pl rfl)) rfl ?_
        refine WL.next hQ23 (.cons (i := 6) rfl (.nil)) ?_
        obtain rfl := Option.some.inj hF
        refine W.retV (fn := Try.f34) (vs := [.int .i64 4]) Try.results34 ⟨.tmp rfl, trivial⟩ (fun _ _ h => h) (fun wz hw => ?_)
        exact hR _ _ ⟨(A6, c7), trivial, rfl, (hw.pickK 3 [1, 2] rfl)⟩
      · replace hF := cneg hC22 hF
        refine W.skip ?_
        refine W.go hK20 (.cons (i := 0) rfl (.cons (i := 1) rfl (.cons (i := 5) rfl (.cons (i := 7) rfl (.nil))))) ?_
        refine W.seqR fun Q24 hQ24 => ?_
        refine WL.q (Y.move (.pl rfl)) rfl ?_
        refine WL.q (Y.nilCheck (.pl rfl)) rfl ?_
        refine WL.q (Y.fieldAddr0 (off := 1) (ft := 35) Try.underlying88 rfl cells35 (.pl rfl)) rfl ?_
        refine WL.q (Y.loadB (v := .slice A6 (out8).length c7) Try.underlying35 rfl (.pl rfl) (i := 1) rfl (rfl)) rfl ?_
        refine WL.q (Y.move (.pl rfl)) rfl ?_
        obtain ⟨hk22, hF⟩ := ckh hF
        refine WL.q (Y.sub (.pl rfl) (.pl rfl) (ok64_lt (hk22))) rfl ?_
        obtain ⟨x23, hx23, hF⟩ := bnd hF
        refine WL.q (Y.rowEl Try.underlying35 cells129 (i := 2) rfl (.pl rfl) rfl (.pl rfl) (ix_lt (hx23))) rfl ?_
        refine WL.q (Y.assign (.pl rfl)) rfl ?_
        refine WL.next hQ24 (.cons (i := 0) rfl (.cons (i := 1) rfl (.cons (i := 5) rfl (.cons (i := 8) rfl (.nil))))) ?_
        refine W.seq fun K25 hK25 => ?_
        refine W.seqD (by kernel_rfl) (by kernel_rfl) fun R26 hR26 => ?_
        refine WD.q (Y.move (.pl rfl)) rfl ?_
        refine WD.q (Y.nilCheck (.pl rfl)) rfl ?_
        refine WD.q (Y.rowField (off := 1) (ft := 3) Try.underlying129 rfl cells3 (i' := 2) rfl (ix_lt (hx23)) (.pl rfl)) rfl ?_
        refine WD.q (Y.loadR (enc := encCall) (v := .int .i64 x23.thing) (a := x23) (idx := (x13 - 1)) (j := 1) Try.underlying3 rfl lenCall (i := 2) rfl (.pl rfl) (ix_get (hx23)) rfl rfl) rfl ?_
        refine WD.q (Y.fieldAddr0 (off := 1) (ft := 3) Try.underlying31 rfl cells3 (.pl rfl)) rfl ?_
        refine WD.q (Y.loadB (v := .int .i64 v11.thing) Try.underlying3 rfl (.pl rfl) (i := 0) rfl (rfl)) rfl ?_
        refine WD.q (Y.neq (.pl rfl) (.pl rfl)) rfl ?_
        refine WD.q (Y.move (.pl rfl)) rfl ?_
        refine WD.g (.pl rfl rfl rfl) (fun hg => Y.move (.pl rfl)) rfl ?_
        refine WD.g (.pl rfl rfl rfl) (fun hg => Y.nilCheck (.gd (hg) rfl)) rfl ?_
        refine WD.g (.pl rfl rfl rfl) (fun hg => Y.rowField (off := 2) (ft := 3) Try.underlying129 rfl cells3 (i' := 2) rfl (ix_lt (hx23)) (.gd (hg) rfl)) rfl ?_
        refine WD.g (.pl rfl rfl rfl) (fun hg => Y.loadR (enc := encCall) (v := .int .i64 x23.kind) (a := x23) (idx := (x13 - 1)) (j := 2) Try.underlying3 rfl lenCall (i := 2) rfl (.gd (hg) rfl) (ix_get (hx23)) rfl rfl) rfl ?_
        refine WD.g (.pl rfl rfl rfl) (fun hg => Y.fieldAddr0 (off := 3) (ft := 3) Try.underlying31 rfl cells3 (.pl rfl)) rfl ?_
        refine WD.g (.pl rfl rfl rfl) (fun hg => Y.loadB (v := .int .i64 v11.value) Try.underlying3 rfl (.gd (hg) rfl) (i := 0) rfl (rfl)) rfl ?_
        obtain ⟨r24, hr24, hF⟩ := bnd hF
        refine WD.gP (.pl rfl rfl rfl) isGo62 (fun hg => (.cons (.gd (hg) rfl) (.cons (.gd (hg) rfl) (.nil)))) rfl (fun hg wz hw => history_result_ok (gpos hg hr24) wz ) ?_
        refine WD.g (.pl rfl rfl rfl) (fun hg => Y.not (.gd (hg) rfl)) rfl ?_
        refine WD.q (Y.or (.pl rfl) (fun h2 => .gd (eqf h2) rfl)) rfl ?_
        refine WD.next hR26 (.cons (i := 0) rfl (.cons (i := 1) rfl (.cons (i := 5) rfl (.cons (i := 8) rfl (.cons (i := 121) rfl (.nil)))))) ?_
        refine W.cond (.pl rfl) (fun hC27 => ?_) (fun hC27 => ?_)
        · replace hF := cpos hC27 hF
          refine W.seqR fun Q28 hQ28 => ?_
          refine WL.q (Y.assign (.pl rfl)) rfl ?_
          refine WL.next hQ28 (.cons (i := 6) rfl (.nil)) ?_
          obtain rfl := Option.some.inj hF
          refine W.retV (fn := Try.f34) (vs := [.int .i64 3]) Try.results34 ⟨.tmp rfl, trivial⟩ (fun _ _ h => h) (fun wz hw => ?_)
          exact hR _ _ ⟨(A6, c7), trivial, rfl, (hw.pickK 3 [1, 2] rfl)⟩
        · replace hF := cneg hC27 hF
          refine W.skip ?_
          refine W.go hK25 (.cons (i := 0) rfl (.cons (i := 1) rfl (.cons (i := 5) rfl (.cons (i := 8) rfl (.nil))))) ?_
          refine W.seqR fun Q29 hQ29 => ?_
          refine WL.q (Y.move (.pl rfl)) rfl ?_
          refine WL.q (Y.move (.pl rfl)) rfl ?_
          refine WL.q (Y.fieldAddr0 (off := 3) (ft := 3) Try.underlying31 rfl cells3 (.pl rfl)) rfl ?_
          refine WL.q (Y.loadB (v := .int .i64 v11.value) Try.underlying3 rfl (.pl rfl) (i := 0) rfl (rfl)) rfl ?_
          refine WL.q (Y.move (.pl rfl)) rfl ?_
          refine WL.q (Y.nilCheck (.pl rfl)) rfl ?_
          refine WL.q (Y.rowField (off := 4) (ft := 3) Try.underlying129 rfl cells3 (i' := 2) rfl (ix_lt (hx23)) (.pl rfl)) rfl ?_
          refine WL.step (WO.storeS (enc := encCall) (a := x23) (a' := (Call.mk x23.who x23.thing x23.kind x23.arg v11.value x23.from_ x23.to_)) (idx := (x13 - 1)) (j := 4) cells3 (.pl rfl) (.pl rfl) rfl lenCall (i := 2) rfl (ix_get (hx23)) rfl (by decide) rfl ?_)
          refine WL.q (Y.nilCheck (.pl rfl)) rfl ?_
          refine WL.q (Y.rowField (off := 6) (ft := 3) Try.underlying129 rfl cells3 (i' := 2) rfl (⟨(ix_lt (hx23)).1, by simpa only [List.length_set] using (ix_lt (hx23)).2⟩) (.pl rfl)) rfl ?_
          refine WL.step (WO.storeFS (enc := encCall) (a := (Call.mk x23.who x23.thing x23.kind x23.arg v11.value x23.from_ x23.to_)) (a' := (Call.mk x23.who x23.thing x23.kind x23.arg v11.value x23.from_ i10)) (idx := (x13 - 1)) (j := 6) cells3 (.pl rfl) (.pl rfl) rfl lenCall (i := 2) rfl (ix_lt (hx23)) rfl (by decide) rfl ?_)
          refine WL.next hQ29 (.cons (i := 0) rfl (.cons (i := 5) rfl (.nil))) ?_
          refine W.seqT 6 (by kernel_rfl) (by kernel_rfl) fun Q30 hQ30 => ?_
          refine WS.q (Y.move (.pl rfl)) rfl ?_
          refine WS.q (Y.fieldAddr0 (off := 0) (ft := 3) Try.underlying31 rfl cells3 (.pl rfl)) rfl ?_
          refine WS.q (Y.loadB (v := .int .i64 v11.who) Try.underlying3 rfl (.pl rfl) (i := 0) rfl (rfl)) rfl ?_
          refine WS.q (Y.nilCheck (.pl rfl)) rfl ?_
          refine WS.q (Y.fieldAddr0 (off := 2) (ft := 86) Try.underlying88 rfl cells86 (.pl rfl)) rfl ?_
          obtain ⟨x25, hx25, hF⟩ := bnd hF
          refine WS.q (Y.arrZ Try.underlying86 cells3 (.pl rfl) (.pl rfl) (ax_lt (hx25))) rfl ?_
          refine WS.tail ?_
          refine WL.step (WO.storeB (cs' := (Value.slice A3 (types2).length c4 :: (Value.slice A6 (out8).length c7 :: (((encA 8 (eI .i64) 0) (setA 8 0 open9 v11.who 0)) ++ [])))) cells3 (.pl rfl) (.pl rfl) rfl (i := 1) rfl (ltl (m := 10) (offlt (off := 2) (sz := 1) (j := 0) (ax_nat (hx25)) (by decide)) rfl) (cellsSet (pre := (Value.slice A3 (types2).length c4 :: (Value.slice A6 (out8).length c7 :: []))) (off := 2) (post := []) (a := open9) (enc := (eI .i64)) (d := 0) (n := 8) (sz := 1) (j := 0) (x := x25) (x' := 0) (fun _ => rfl) rfl (ax_lt (hx25)) (ax_get (hx25)) (by decide) rfl rfl) ?_)
          refine WL.next hQ30 (.nil) ?_
          refine W.seqR fun Q31 hQ31 => ?_
          refine WL.q (Y.assign (.pl rfl)) rfl ?_
          refine WL.next hQ31 (.cons (i := 6) rfl (.nil)) ?_
          obtain rfl := Option.some.inj hF
          refine W.retV (fn := Try.f34) (vs := [.int .i64 0]) Try.results34 ⟨.tmp rfl, trivial⟩ (fun _ _ h => h) (fun wz hw => ?_)
          exact hR _ _ ⟨(A6, c7), trivial, rfl, (St.cong (L := ([cBx b1 88 (Value.slice A3 (types2).length c4 :: (Value.slice A6 (out8).length c7 :: (((encA 8 (eI .i64) 0) (setA 8 0 open9 v11.who 0)) ++ []))), cR encCall 7 A6 c7 129 (out8.set (x13 - 1).toNat (Call.mk x23.who x23.thing x23.kind x23.arg v11.value x23.from_ i10))] ++ T)) (hw.pickK 3 [1, 2] rfl) (by simp only [List.length_set, List.nil_append, List.cons_append]))⟩

def history_Calls_L3 (N : Nat) (l6 : (List Event)) (types1 : (List Int)) : ((List Call) × (List Int) × Int) → Option (((List Call) × (List Int) × Int) ⊕ (((List Call) × (List Int)) ⊕ ((List Call) × Int × Int)))
  | (out19, open20, v21) =>
    cond (decide (v21 < ((l6).length : Int)))
      (bd (ix l6 v21) fun (x22 : Event) =>
      bd (history_reader_event N types1 out19 open20 v21 x22) fun (r24 : ((List Call) × (List Int) × Int)) =>
      cond (!(decide (r24.2.2 = 0)))
        (some (.inr (.inr ([], v21, r24.2.2))))
        (ck (ok64 (v21 + 1)) <|
        some (.inl (r24.1, r24.2.1, (v21 + 1)))))
      (some (.inr (.inl (out19, open20))))

def history_Calls (N : Nat) (types1 : (List Int)) (l6 : (List Event)) : Option ((List Call) × Int × Int) :=
  bd (history_Types N types1) fun (r11 : Int) =>
  cond (!(decide (r11 = 0)))
    (some ([], 0, r11))
    (cond (decide (200 < ((l6).length : Int)))
      (some ([], 0, 2))
      (bd (α := (((List Call) × (List Int)) ⊕ ((List Call) × Int × Int))) (iter (history_Calls_L3 N l6 types1) N ([], [], 0)) <|
      Sum.elim (fun (out15, open16) => 
        some (out15, 0, 0)) (fun p => some p)))

theorem history_Calls_ok {N : Nat} {types1 : (List Int)} {l6 : (List Event)} {res : ((List Call) × Int × Int)} (hF : history_Calls N types1 l6 = some res) (w : World) {v5 : Value} (hs4 : SlIn (eI .i64) 1 w v5 types1) {v10 : Value} (hs9 : SlIn encEvent 4 w v10 l6) :
    Made Try.prog 14 [v5, v10] w (fun g : (Option Addr × Nat) => .tuple #[.slice g.1 (res.1).length g.2, .int .i64 res.2.1, .int .i64 res.2.2]) (fun g => [cR encCall 7 g.1 g.2 129 res.1]) (fun g => True) := by
  obtain ⟨A2, c3, rfl, hcc3, hs4⟩ := hs4.form
  obtain ⟨A7, c8, rfl, hcc8, hs9⟩ := hs9.form
  refine W.enter (n := 43) Try.func14 rfl rfl Sub.refl (by simp) (St.start w) fun R hR => ?_
  unfold history_Calls at hF
  refine W.seqR fun Q1 hQ1 => ?_
  refine WL.q (Y.assign (.pl rfl)) rfl ?_
  refine WL.q (Y.assign (.pl rfl)) rfl ?_
  refine WL.q (Y.assign (.pl rfl)) rfl ?_
  refine WL.next hQ1 (.cons (i := 0) rfl (.cons (i := 1) rfl (.nil))) ?_
  refine W.seq fun K2 hK2 => ?_
  refine W.seqR fun Q3 hQ3 => ?_
  refine WL.q (Y.move (.pl rfl)) rfl ?_
  obtain ⟨r11, hr11, hF⟩ := bnd hF
  refine WL.step (WO.callP isGo33 (.cons (.pl rfl) (.nil)) rfl (fun wz hw => history_Types_ok (hr11) wz (hs4.mono hw)) ?_)
  refine WL.q (Y.assign (.pl rfl)) rfl ?_
  refine WL.next hQ3 (.cons (i := 0) rfl (.cons (i := 1) rfl (.cons (i := 7) rfl (.nil)))) ?_
  refine W.seqR fun Q4 hQ4 => ?_
  refine WL.q (Y.move (.pl rfl)) rfl ?_
  refine WL.q (Y.neq (.pl rfl) (.pl rfl)) rfl ?_
  refine WL.next hQ4 (.cons (i := 0) rfl (.cons (i := 1) rfl (.cons (i := 7) rfl (.cons (i := 15) rfl (.nil))))) ?_
  refine W.cond (.pl rfl) (fun hC5 => ?_) (fun hC5 => ?_)
  · replace hF := cpos hC5 hF
    refine W.seqR fun Q6 hQ6 => ?_
    refine WL.q (Y.move (.pl rfl)) rfl ?_
    refine WL.q (Y.assign (.pl rfl)) rfl ?_
    refine WL.q (Y.assign (.pl rfl)) rfl ?_
    refine WL.q (Y.assign (.pl rfl)) rfl ?_
    refine WL.next hQ6 (.cons (i := 4) rfl (.cons (i := 5) rfl (.cons (i := 6) rfl (.nil)))) ?_
    obtain rfl := Option.some.inj hF
    refine W.retV (fn := Try.f14) (vs := [.slice none 0 0, .int .i64 0, .int .i64 r11]) Try.results14 ⟨.tmp rfl, ⟨.tmp rfl, ⟨.tmp rfl, trivial⟩⟩⟩ (fun _ _ h => h) (fun wz hw => ?_)
    exact hR _ _ ⟨(none, 0), trivial, rfl, ((St.nilR (hw.pick [] rfl) encCall 7 129).pick [0] rfl)⟩
  · replace hF := cneg hC5 hF
    refine W.skip ?_
    refine W.go hK2 (.cons (i := 0) rfl (.cons (i := 1) rfl (.nil))) ?_
    refine W.seq fun K7 hK7 => ?_
    refine W.seqR fun Q8 hQ8 => ?_
    refine WL.q (Y.move (.pl rfl)) rfl ?_
    refine WL.q (Y.len Try.underlying24 (.pl rfl)) rfl ?_
    refine WL.q (Y.gtr (.pl rfl) (.pl rfl)) rfl ?_
    refine WL.next hQ8 (.cons (i := 0) rfl (.cons (i := 1) rfl (.cons (i := 19) rfl (.nil)))) ?_
    refine W.cond (.pl rfl) (fun hC9 => ?_) (fun hC9 => ?_)
    · replace hF := cpos hC9 hF
      refine W.seqR fun Q10 hQ10 => ?_
      refine WL.q (Y.assign (.pl rfl)) rfl ?_
      refine WL.q (Y.assign (.pl rfl)) rfl ?_
      refine WL.q (Y.assign (.pl rfl)) rfl ?_
      refine WL.next hQ10 (.cons (i := 4) rfl (.cons (i := 5) rfl (.cons (i := 6) rfl (.nil)))) ?_
      obtain rfl := Option.some.inj hF
      refine W.retV (fn := Try.f14) (vs := [.slice none 0 0, .int .i64 0, .int .i64 2]) Try.results14 ⟨.tmp rfl, ⟨.tmp rfl, ⟨.tmp rfl, trivial⟩⟩⟩ (fun _ _ h => h) (fun wz hw => ?_)
      exact hR _ _ ⟨(none, 0), trivial, rfl, ((St.nilR (hw.pick [] rfl) encCall 7 129).pick [0] rfl)⟩
    · replace hF := cneg hC9 hF
      refine W.skip ?_
      refine W.go hK7 (.cons (i := 0) rfl (.cons (i := 1) rfl (.nil))) ?_
      refine W.seqR fun Q11 hQ11 => ?_
      refine WL.q (Y.move (.pl rfl)) rfl ?_
      refine WL.q (Y.build (cs := (Value.slice A2 (types1).length c3 :: (Value.slice none 0 0 :: (((encA 8 (eI .i64) 0) []) ++ []))).toArray) shape88 (.cons (.pl rfl) (.nil)) (one_parts ⟨rfl, trivial⟩) rfl) rfl ?_
      refine WL.step (WO.boxA (.pl rfl) rfl fun b12 => ?_)
      refine WL.q (Y.assign (.pl rfl)) rfl ?_
      refine WL.next hQ11 (.cons (i := 1) rfl (.cons (i := 8) rfl (.nil))) ?_
      obtain ⟨o12, hF12, hF⟩ := bnd hF
      refine W.join4 (Em := fun (out15 : (List Call)) (open16 : (List Int)) (A13 : Option Addr) (c14 : Nat) => []) (M := fun out15 open16 A13 c14 => [cBx b12 88 (Value.slice A2 (types1).length c3 :: (Value.slice A13 (out15).length c14 :: (((encA 8 (eI .i64) 0) open16) ++ []))), cR encCall 7 A13 c14 129 out15]) (I := fun out15 open16 A13 c14 => (.inl (out15, open16)) = o12) (.cons (i := 8) rfl (.nil)) (fun K13 hK13 => ?_) ?_
      · -- up to
        refine W.seqR fun Q14 hQ14 => ?_
        refine WL.q (Y.move (.pl rfl)) rfl ?_
        refine WL.q (Y.len Try.underlying24 (.pl rfl)) rfl ?_
        refine WL.q (Y.move (.pl rfl)) rfl ?_
        refine WL.next hQ14 (.cons (i := 8) rfl (.cons (i := 23) rfl (.cons (i := 24) rfl (.cons (i := 25) rfl (.nil))))) ?_
        refine W.block ?_
        refine W.loop5 (Em := fun (out19 : (List Call)) (open20 : (List Int)) (v21 : Int) (A17 : Option Addr) (c18 : Nat) => [(25, .int .i64 v21)]) (M := fun out19 open20 v21 A17 c18 => [cBx b12 88 (Value.slice A2 (types1).length c3 :: (Value.slice A17 (out19).length c18 :: (((encA 8 (eI .i64) 0) open20) ++ []))), cR encCall 7 A17 c18 129 out19]) (I := fun out19 open20 v21 A17 c18 k15 => iter (history_Calls_L3 N l6 types1) k15 (out19, open20, v21) = some o12) [] [] 0 none 0 N (hF12) (.cons rfl (.nil)) (.cons (i := 8) rfl (.cons (i := 23) rfl (.cons (i := 24) rfl (.nil)))) (fun wz hw => (St.nilR (hw.pick [0] rfl) encCall 7 129).pick [1, 0] rfl) (fun out19 open20 v21 A17 c18 k15 hI K16 hK16 => ?_)
        obtain ⟨k15, t15, rfl, hF15, hN15⟩ := iter_step hI
        refine W.seqR fun Q17 hQ17 => ?_
        refine WL.q (Y.lss (.pl rfl) (.pl rfl)) rfl ?_
        refine WL.next hQ17 (.cons (i := 8) rfl (.cons (i := 23) rfl (.cons (i := 24) rfl (.cons (i := 25) rfl (.cons (i := 26) rfl (.nil)))))) ?_
        refine W.seq fun K18 hK18 => ?_
        refine W.cond (.pl rfl) (fun hC19 => ?_) (fun hC19 => ?_)
        · replace hF15 := cpos hC19 hF15
          refine W.skip ?_
          refine W.go hK18 (.cons (i := 8) rfl (.cons (i := 23) rfl (.cons (i := 24) rfl (.cons (i := 25) rfl (.nil))))) ?_
          refine W.seq fun K20 hK20 => ?_
          refine W.block ?_
          refine W.seqR fun Q21 hQ21 => ?_
          refine WL.q (Y.move (.pl rfl)) rfl ?_
          obtain ⟨x22, hx22, hF15⟩ := bnd hF15
          refine WL.q (Y.slEl Try.underlying24 cells31 hs9 (.pl rfl) (.pl rfl) (ix_lt (hx22))) rfl ?_
          refine WL.q (Y.loadSA (enc := encEvent) (ds := (encEvent x22)) (j := 0) Try.underlying31 rfl cells31 hs9 (.pl rfl) (hx22) rfl rfl subW) rfl ?_
          refine WL.step (WO.alloc (cs := (encEvent (Event.mk 0 0 0 0)).toArray) zero31 rfl rfl fun b23 => ?_)
          refine WL.q (Y.assign (.pl rfl)) rfl ?_
          refine WL.step (WO.storeBA (ds := (encEvent x22)) (cs' := (encEvent x22)) cells31 (.pl rfl) (.pl rfl) rfl (oneEvent _) (i := 0) rfl (lel (o := 0) (l := 4) (m := 4) (by decide) rfl rfl) (putW rfl) ?_)
          refine WL.next hQ21 (.cons (i := 8) rfl (.cons (i := 9) rfl (.cons (i := 10) rfl (.cons (i := 23) rfl (.cons (i := 24) rfl (.cons (i := 25) rfl (.nil))))))) ?_
          refine W.seqR fun Q22 hQ22 => ?_
          refine WL.q (Y.move (.pl rfl)) rfl ?_
          refine WL.q (Y.move (.pl rfl)) rfl ?_
          refine WL.q (Y.loadBA (ds := (encEvent x22)) Try.underlying31 rfl cells31 (.pl rfl) (i := 0) rfl rfl subW) rfl ?_
          obtain ⟨r24, hr24, hF15⟩ := bnd hF15
          refine WL.step (WO.call (γ := (Option Addr × Nat)) (fun g => .int .i64 r24.2.2) (fun g => [cBx b12 88 (Value.slice A2 (types1).length c3 :: (Value.slice g.1 (r24.1).length g.2 :: (((encA 8 (eI .i64) 0) r24.2.1) ++ []))), cR encCall 7 g.1 g.2 129 r24.1, cBx b23 31 (encEvent x22)]) (fun g => True) isGo34 (.cons (.pl rfl) (.cons (.pl rfl) (.cons (.pl rfl) (.nil)))) rfl (fun wz hw => history_reader_event_ok (T := [cBx b23 31 (encEvent x22)]) (hr24) (hw.pick [1, 2, 0] rfl) hs4) ?_)
          rintro ⟨A25, c26⟩ -
          refine WL.q (Y.assign (.pl rfl)) rfl ?_
          refine WL.next hQ22 (.cons (i := 8) rfl (.cons (i := 9) rfl (.cons (i := 11) rfl (.cons (i := 23) rfl (.cons (i := 24) rfl (.cons (i := 25) rfl (.nil))))))) ?_
          refine W.seqR fun Q23 hQ23 => ?_
          refine WL.q (Y.move (.pl rfl)) rfl ?_
          refine WL.q (Y.neq (.pl rfl) (.pl rfl)) rfl ?_
          refine WL.next hQ23 (.cons (i := 8) rfl (.cons (i := 9) rfl (.cons (i := 11) rfl (.cons (i := 23) rfl (.cons (i := 24) rfl (.cons (i := 25) rfl (.cons (i := 35) rfl (.nil)))))))) ?_
          refine W.cond (.pl rfl) (fun hC24 => ?_) (fun hC24 => ?_)
          · replace hF15 := cpos hC24 hF15
            refine W.seqR fun Q25 hQ25 => ?_
            refine WL.q (Y.move (.pl rfl)) rfl ?_
            refine WL.q (Y.move (.pl rfl)) rfl ?_
            refine WL.q (Y.assign (.pl rfl)) rfl ?_
            refine WL.q (Y.assign (.pl rfl)) rfl ?_
            refine WL.q (Y.assign (.pl rfl)) rfl ?_
            refine WL.next hQ25 (.cons (i := 4) rfl (.cons (i := 5) rfl (.cons (i := 6) rfl (.nil)))) ?_
            obtain rfl := Option.some.inj hF15
            obtain rfl := einr hN15
            obtain rfl := Option.some.inj hF
            refine W.retV (fn := Try.f14) (vs := [.slice none 0 0, .int .i64 v21, .int .i64 r24.2.2]) Try.results14 ⟨.tmp rfl, ⟨.tmp rfl, ⟨.tmp rfl, trivial⟩⟩⟩ (fun _ _ h => h) (fun wz hw => ?_)
            exact hR _ _ ⟨(none, 0), trivial, rfl, ((St.nilR (hw.pick [] rfl) encCall 7 129).pick [0] rfl)⟩
          · replace hF15 := cneg hC24 hF15
            refine W.skip ?_
            refine W.go hK20 (.cons (i := 8) rfl (.cons (i := 23) rfl (.cons (i := 24) rfl (.cons (i := 25) rfl (.nil))))) ?_
            refine W.reg ?_
            obtain ⟨hk27, hF15⟩ := ckh hF15
            refine WL.q (Y.add (.pl rfl) (.pl rfl) (ok64_lt (hk27))) rfl ?_
            refine WL.q (Y.move (.pl rfl)) rfl ?_
            refine WL.nil ?_
            obtain rfl := Option.some.inj hF15
            exact W.again5 hK16 r24.1 r24.2.1 (v21 + 1) A25 c26 k15 hN15 (Nat.lt_succ_self _) (.cons rfl (.nil)) (.cons (i := 8) rfl (.cons (i := 23) rfl (.cons (i := 24) rfl (.nil)))) (fun wz hw => hw.pick [0, 1] rfl)
        · replace hF15 := cneg hC19 hF15
          refine W.exit ?_
          obtain rfl := Option.some.inj hF15
          exact W.joinAt4 hK13 out19 open20 A17 c18 (einr hN15) (.nil) (.cons (i := 8) rfl (.nil)) (fun wz hw => hw.pick [0, 1] rfl)
      · -- behind
        rintro out15 open16 A13 c14 rfl
        refine W.seqR fun Q27 hQ27 => ?_
        refine WL.q (Y.move (.pl rfl)) rfl ?_
        refine WL.q (Y.nilCheck (.pl rfl)) rfl ?_
        refine WL.q (Y.fieldAddr0 (off := 1) (ft := 35) Try.underlying88 rfl cells35 (.pl rfl)) rfl ?_
        refine WL.q (Y.loadB (v := .slice A13 (out15).length c14) Try.underlying35 rfl (.pl rfl) (i := 0) rfl (rfl)) rfl ?_
        refine WL.q (Y.assign (.pl rfl)) rfl ?_
        refine WL.q (Y.assign (.pl rfl)) rfl ?_
        refine WL.q (Y.assign (.pl rfl)) rfl ?_
        refine WL.next hQ27 (.cons (i := 4) rfl (.cons (i := 5) rfl (.cons (i := 6) rfl (.nil)))) ?_
        obtain rfl := Option.some.inj hF
        refine W.retV (fn := Try.f14) (vs := [.slice A13 (out15).length c14, .int .i64 0, .int .i64 0]) Try.results14 ⟨.tmp rfl, ⟨.tmp rfl, ⟨.tmp rfl, trivial⟩⟩⟩ (fun _ _ h => h) (fun wz hw => ?_)
        exact hR _ _ ⟨(A13, c14), trivial, rfl, (hw.pick [1] rfl)⟩

/-- slices.Clone -/
theorem slices_Clone_int_int_ok {xs : List Int} (hb : limB 8 xs.length = true) (w : World) {v : Value} (h : SlIn (eI .i64) 1 w v xs) :
    Made Try.prog 12 [v] w (fun g : Option Addr × Nat => .slice g.1 xs.length g.2) (fun g => [cR (eI .i64) 1 g.1 g.2 3 xs]) (fun _ => True) := by
  obtain ⟨A1, c1, rfl, hc1, hs⟩ := h.form
  refine W.enter (n := 8) Try.func12 rfl rfl Sub.refl (by simp) (St.start w) fun R hR => ?_
  refine W.seqR fun Q1 hQ1 => ?_
  refine WL.q (Y.assign (.pl rfl)) rfl ?_
  refine WL.next hQ1 (.cons (i := 0) rfl (.nil)) ?_
  refine W.seq fun K2 hK2 => ?_
  refine W.seqR fun Q3 hQ3 => ?_
  refine WL.q (Y.move (.pl rfl)) rfl ?_
  refine WL.q (Y.eqNil Try.underlying23 (.pl rfl)) rfl ?_
  refine WL.next hQ3 (.cons (i := 0) rfl (.cons (i := 4) rfl (.nil))) ?_
  refine W.cond (.pl rfl) (fun hC => ?_) (fun hC => ?_)
  · refine W.seqR fun Q4 hQ4 => ?_
    refine WL.q (Y.assign (.pl rfl)) rfl ?_
    refine WL.next hQ4 (.cons (i := 2) rfl (.nil)) ?_
    have hx : xs = [] := by
      cases xs with
      | nil => rfl
      | cons a r =>
        have := (hs.okA' (idx := 0) ⟨Int.le_refl _, by simp⟩).1
        rw [Option.isNone_iff_eq_none] at hC
        rw [hC] at this; cases this
    subst hx
    refine W.retV (fn := Try.f12) (vs := [.slice none 0 0]) Try.results12 ⟨.tmp rfl, trivial⟩ (fun _ _ h => h) (fun w hw => ?_)
    exact hR _ _ ⟨(none, 0), trivial, rfl, St.nilR hw (eI .i64) 1 3⟩
  · refine W.skip ?_
    refine W.go hK2 (.cons (i := 0) rfl (.nil)) ?_
    obtain ⟨a1, rfl⟩ : ∃ a, A1 = some a := by cases A1 with
      | none => cases hC
      | some a => exact ⟨a, rfl⟩
    refine W.seqR fun Q5 hQ5 => ?_
    refine WL.step (WO.bsliceC (enc := (eI .i64)) (ys := []) Try.underlying23 bz3 (.nil) rfl (fun _ => rfl) rfl rfl (by decide) (by decide) rfl fun b => ?_)
    refine WL.q (Y.move (.pl rfl)) rfl ?_
    refine WL.step (WO.appendS (enc := (eI .i64)) (ys := xs) (xs := []) Try.underlying23 ap3 (fun _ => rfl) oneI (.pl rfl) rfl (.pl rfl) (i := 0) rfl (fun w hw => hs.mono hw) (by simpa using hb) rfl fun A c => ?_)
    refine WL.q (Y.assign (.pl rfl)) rfl ?_
    refine WL.next hQ5 (.cons (i := 2) rfl (.nil)) ?_
    refine W.retV (fn := Try.f12) (vs := [.slice A xs.length c]) Try.results12 ⟨.tmp rfl, trivial⟩ (fun _ _ h => h) (fun w hw => ?_)
    exact hR _ _ ⟨(A, c), trivial, rfl, hw⟩

def alibkeep_StepsAlone_1_L3 (N : Nat) (l3 : (List Event)) (a5 : Int) : (Int × Int) → Option ((Int × Int) ⊕ Int)
  | (n7, v8) =>
    cond (decide (v8 < ((l3).length : Int)))
      (bd (ix l3 v8) fun (x9 : Event) =>
      cond ((decide (x9.who = a5)) && (decide (x9.kind = 0)))
        (ck (ok64 (n7 + 1)) <|
        ck (ok64 (v8 + 1)) <|
        some (.inl ((n7 + 1), (v8 + 1))))
        (ck (ok64 (v8 + 1)) <|
        some (.inl (n7, (v8 + 1)))))
      (some (.inr n7))

def alibkeep_StepsAlone_1 (N : Nat) (l3 : (List Event)) (a5 : Int) : Option Int :=
  bd (α := Int) (iter (alibkeep_StepsAlone_1_L3 N l3 a5) N (0, 0)) <|
  fun (n6 : Int) => 
    some n6

theorem alibkeep_StepsAlone_1_ok {N : Nat} {l3 : (List Event)} {a5 : Int} {A1 : Option Addr} {c2 : Nat} {b4 : Nat} {res : Int} (hF : alibkeep_StepsAlone_1 N l3 a5 = some res) {w0 w : World} {T : List Chunk} (hw : St w0.heap.size w0 ([cR encEvent 4 A1 c2 31 l3, cBx b4 3 [.int .i64 a5]] ++ T) w) :
    Calls Try.prog 13 (List.toArray [.slice A1 (l3).length c2, .pointer (some ⟨b4, 0, none⟩)]) w (fun e w' => ∃ g : Unit, (True) ∧ e = .returned (.int .i64 res) ∧ St w0.heap.size w0 ([cR encEvent 4 A1 c2 31 l3, cBx b4 3 [.int .i64 a5]] ++ T) w') := by
  refine W.enter (n := 26) Try.func13 rfl rfl Sub.refl (by simp) hw fun R hR => ?_
  unfold alibkeep_StepsAlone_1 at hF
  refine W.seqR fun Q1 hQ1 => ?_
  refine WL.q (Y.assign (.pl rfl)) rfl ?_
  refine WL.next hQ1 (.cons (i := 0) rfl (.cons (i := 1) rfl (.nil))) ?_
  refine W.seqR fun Q2 hQ2 => ?_
  refine WL.q (Y.assign (.pl rfl)) rfl ?_
  refine WL.next hQ2 (.cons (i := 0) rfl (.cons (i := 1) rfl (.cons (i := 4) rfl (.nil)))) ?_
  obtain ⟨o3, hF3, hF⟩ := bnd hF
  refine W.join1 (Em := fun (n6 : Int) => [(4, .int .i64 n6)]) (M := fun n6 => ([cR encEvent 4 A1 c2 31 l3, cBx b4 3 [.int .i64 a5]] ++ T)) (I := fun n6 => n6 = o3) (.nil) (fun K4 hK4 => ?_) ?_
  · -- up to
    refine W.seqR fun Q5 hQ5 => ?_
    refine WL.q (Y.move (.pl rfl)) rfl ?_
    refine WL.q (Y.len Try.underlying24 (.pl rfl)) rfl ?_
    refine WL.q (Y.move (.pl rfl)) rfl ?_
    refine WL.next hQ5 (.cons (i := 1) rfl (.cons (i := 4) rfl (.cons (i := 7) rfl (.cons (i := 8) rfl (.cons (i := 9) rfl (.nil)))))) ?_
    refine W.block ?_
    refine W.loop2 (Em := fun (n7 : Int) (v8 : Int) => [(4, .int .i64 n7), (9, .int .i64 v8)]) (M := fun n7 v8 => ([cR encEvent 4 A1 c2 31 l3, cBx b4 3 [.int .i64 a5]] ++ T)) (I := fun n7 v8 k6 => iter (alibkeep_StepsAlone_1_L3 N l3 a5) k6 (n7, v8) = some o3) 0 0 N (hF3) (.cons rfl (.cons rfl (.nil))) (.cons (i := 1) rfl (.cons (i := 7) rfl (.cons (i := 8) rfl (.nil)))) (fun wz hw => hw.pickK 2 [0, 1] rfl) (fun n7 v8 k6 hI K7 hK7 => ?_)
    obtain ⟨k6, t6, rfl, hF6, hN6⟩ := iter_step hI
    refine W.seqR fun Q8 hQ8 => ?_
    refine WL.q (Y.lss (.pl rfl) (.pl rfl)) rfl ?_
    refine WL.next hQ8 (.cons (i := 1) rfl (.cons (i := 4) rfl (.cons (i := 7) rfl (.cons (i := 8) rfl (.cons (i := 9) rfl (.cons (i := 10) rfl (.nil))))))) ?_
    refine W.seq fun K9 hK9 => ?_
    refine W.cond (.pl rfl) (fun hC10 => ?_) (fun hC10 => ?_)
    · replace hF6 := cpos hC10 hF6
      refine W.skip ?_
      refine W.go hK9 (.cons (i := 1) rfl (.cons (i := 4) rfl (.cons (i := 7) rfl (.cons (i := 8) rfl (.cons (i := 9) rfl (.nil)))))) ?_
      refine W.seq fun K11 hK11 => ?_
      refine W.block ?_
      refine W.seqR fun Q12 hQ12 => ?_
      obtain ⟨x9, hx9, hF6⟩ := bnd hF6
      refine WL.q (Y.rowEl Try.underlying24 cells31 (i := 0) rfl (.pl rfl) rfl (.pl rfl) (ix_lt (hx9))) rfl ?_
      refine WL.q (Y.loadRA (enc := encEvent) (ds := (encEvent x9)) (a := x9) (idx := v8) (j := 0) Try.underlying31 rfl cells31 lenEvent (i := 0) rfl (.pl rfl) (ix_get (hx9)) rfl rfl subW) rfl ?_
      refine WL.step (WO.alloc (cs := (encEvent (Event.mk 0 0 0 0)).toArray) zero31 rfl rfl fun b10 => ?_)
      refine WL.step (WO.storeBA (ds := (encEvent x9)) (cs' := (encEvent x9)) cells31 (.pl rfl) (.pl rfl) rfl (oneEvent _) (i := 0) rfl (lel (o := 0) (l := 4) (m := 4) (by decide) rfl rfl) (putW rfl) ?_)
      refine WL.next hQ12 (.cons (i := 1) rfl (.cons (i := 4) rfl (.cons (i := 6) rfl (.cons (i := 7) rfl (.cons (i := 8) rfl (.cons (i := 9) rfl (.nil))))))) ?_
      refine W.seqR fun Q13 hQ13 => ?_
      refine WL.q (Y.fieldAddr0 (off := 0) (ft := 3) Try.underlying31 rfl cells3 (.pl rfl)) rfl ?_
      refine WL.q (Y.loadB (v := .int .i64 x9.who) Try.underlying3 rfl (.pl rfl) (i := 0) rfl (rfl)) rfl ?_
      refine WL.q (Y.loadB (v := .int .i64 a5) Try.underlying3 rfl (.pl rfl) (i := 2) rfl (rfl)) rfl ?_
      refine WL.q (Y.eql (.pl rfl) (.pl rfl)) rfl ?_
      refine WL.q (Y.move (.pl rfl)) rfl ?_
      refine WL.g (.pl rfl rfl rfl) (fun hg => Y.fieldAddr0 (off := 2) (ft := 3) Try.underlying31 rfl cells3 (.pl rfl)) rfl ?_
      refine WL.g (.pl rfl rfl rfl) (fun hg => Y.loadB (v := .int .i64 x9.kind) Try.underlying3 rfl (.gd (hg) rfl) (i := 0) rfl (rfl)) rfl ?_
      refine WL.g (.pl rfl rfl rfl) (fun hg => Y.eql (.gd (hg) rfl) (.pl rfl)) rfl ?_
      refine WL.q (Y.and (.pl rfl) (fun h2 => .gd (eqt h2) rfl)) rfl ?_
      refine WL.next hQ13 (.cons (i := 1) rfl (.cons (i := 4) rfl (.cons (i := 7) rfl (.cons (i := 8) rfl (.cons (i := 9) rfl (.cons (i := 21) rfl (.nil))))))) ?_
      refine W.cond (.pl rfl) (fun hC14 => ?_) (fun hC14 => ?_)
      · replace hF6 := cpos hC14 hF6
        refine W.reg ?_
        refine WL.q (Y.move (.pl rfl)) rfl ?_
        obtain ⟨hk11, hF6⟩ := ckh hF6
        refine WL.q (Y.add (.pl rfl) (.pl rfl) (ok64_lt (hk11))) rfl ?_
        refine WL.q (Y.assign (.pl rfl)) rfl ?_
        refine WL.nil ?_
        refine W.go hK11 (.cons (i := 1) rfl (.cons (i := 4) rfl (.cons (i := 7) rfl (.cons (i := 8) rfl (.cons (i := 9) rfl (.nil)))))) ?_
        refine W.reg ?_
        obtain ⟨hk12, hF6⟩ := ckh hF6
        refine WL.q (Y.add (.pl rfl) (.pl rfl) (ok64_lt (hk12))) rfl ?_
        refine WL.q (Y.move (.pl rfl)) rfl ?_
        refine WL.nil ?_
        obtain rfl := Option.some.inj hF6
        exact W.again2 hK7 (n7 + 1) (v8 + 1) k6 hN6 (Nat.lt_succ_self _) (.cons rfl (.cons rfl (.nil))) (.cons (i := 1) rfl (.cons (i := 7) rfl (.cons (i := 8) rfl (.nil)))) (fun wz hw => hw.pickK 3 [1, 2] rfl)
      · replace hF6 := cneg hC14 hF6
        refine W.skip ?_
        refine W.go hK11 (.cons (i := 1) rfl (.cons (i := 4) rfl (.cons (i := 7) rfl (.cons (i := 8) rfl (.cons (i := 9) rfl (.nil)))))) ?_
        refine W.reg ?_
        obtain ⟨hk13, hF6⟩ := ckh hF6
        refine WL.q (Y.add (.pl rfl) (.pl rfl) (ok64_lt (hk13))) rfl ?_
        refine WL.q (Y.move (.pl rfl)) rfl ?_
        refine WL.nil ?_
        obtain rfl := Option.some.inj hF6
        exact W.again2 hK7 n7 (v8 + 1) k6 hN6 (Nat.lt_succ_self _) (.cons rfl (.cons rfl (.nil))) (.cons (i := 1) rfl (.cons (i := 7) rfl (.cons (i := 8) rfl (.nil)))) (fun wz hw => hw.pickK 3 [1, 2] rfl)
    · replace hF6 := cneg hC10 hF6
      refine W.exit ?_
      obtain rfl := Option.some.inj hF6
      exact W.joinAt1 hK4 n7 (einr hN6) (.cons rfl (.nil)) (.nil) (fun wz hw => hw.pickK 2 [0, 1] rfl)
  · -- behind
    rintro n6 rfl
    refine W.seqR fun Q18 hQ18 => ?_
    refine WL.q (Y.move (.pl rfl)) rfl ?_
    refine WL.q (Y.assign (.pl rfl)) rfl ?_
    refine WL.next hQ18 (.cons (i := 3) rfl (.nil)) ?_
    obtain rfl := Option.some.inj hF
    refine W.retV (fn := Try.f13) (vs := [.int .i64 n6]) Try.results13 ⟨.tmp rfl, trivial⟩ (fun _ _ h => h) (fun wz hw => ?_)
    exact hR _ _ ⟨(), trivial, rfl, (hw.pickK 2 [0, 1] rfl)⟩

def alibkeep_StepsAlone_L3 (N : Nat) (who12 : Int) : ((List Int) × Int) → Option (((List Int) × Int) ⊕ (List Int))
  | (all28, v29) =>
    cond (decide (v29 < 12))
      (ck (limB 8 ((all28).length + (([who12] : List Int)).length)) <|
      ck (ok64 (v29 + 1)) <|
      some (.inl ((all28 ++ ([who12] : List Int)), (v29 + 1))))
      (some (.inr all28))

def alibkeep_StepsAlone (N : Nat) (algo1 : Int) (people2 : (List (List Ask))) (turns7 : (List Int)) (who12 : Int) : Option Bool :=
  bd (steps_Play N algo1 people2 turns7) fun (r14 : ((List Event) × Int × Int)) =>
  bd (alibkeep_stepsLives N) fun (r17 : Bool) =>
  ck (!(((((!r17) || (!(decide (r14.2.2 = 0)))) || (decide (who12 < 0))) || (decide (((people2).length : Int) ≤ who12))) == false) || (ok64 (((turns7).length : Int) + 12))) <|
  cond (((((!r17) || (!(decide (r14.2.2 = 0)))) || (decide (who12 < 0))) || (decide (((people2).length : Int) ≤ who12))) || (decide (300 < (((turns7).length : Int) + 12))))
    (bd (alibkeep_stepsLives N) fun (r19 : Bool) =>
    some r19)
    (ck (limB 8 (turns7).length) <|
    bd (α := (List Int)) (iter (alibkeep_StepsAlone_L3 N who12) N (turns7, 0)) <|
    fun (all25 : (List Int)) => 
      bd (steps_Play N algo1 people2 all25) fun (r35 : ((List Event) × Int × Int)) =>
      bd (α := Bool) (cond ((decide (r35.2.2 = 0)) == true)
          (bd (alibkeep_StepsAlone_1 N r35.1 who12) fun (r39 : Int) =>
          bd (alibkeep_StepsAlone_1 N r14.1 who12) fun (r40 : Int) =>
          bd ((cond ((decide (r40 < r39)) == false) (ix people2 who12) (some []))) fun (x41 : (List Ask)) =>
          cond ((decide (r40 < r39)) == false)
            (bd (alibkeep_StepsAlone_1 N r14.1 who12) fun (r42 : Int) =>
            some ((decide (r35.2.2 = 0)) && ((decide (r40 < r39)) || (decide (r42 = ((x41).length : Int))))))
            (some ((decide (r35.2.2 = 0)) && ((decide (r40 < r39)) || false))))
          (some ((decide (r35.2.2 = 0)) && false))) <|
      fun (v38 : Bool) => 
        some v38)

theorem alibkeep_StepsAlone_ok {N : Nat} {algo1 : Int} {people2 : (List (List Ask))} {turns7 : (List Int)} {who12 : Int} {A3 : Option Addr} {c4 : Nat} {hd5 : List Hd} {res : Bool} (hF : alibkeep_StepsAlone N algo1 people2 turns7 who12 = some res) (w : World) (hs6 : SlNN encAsk 3 w A3 c4 hd5 people2) {v11 : Value} (hs10 : SlIn (eI .i64) 1 w v11 turns7) :
    Pure Try.prog 3 [.int .i64 algo1, .slice A3 (people2).length c4, v11, .int .i64 who12] w (.bool res) := by
  obtain ⟨A8, c9, rfl, hcc9, hs10⟩ := hs10.form
  refine W.enter (n := 88) Try.func3 rfl rfl Sub.refl (by simp) (St.start w) fun R hR => ?_
  unfold alibkeep_StepsAlone at hF
  refine W.seqR fun Q1 hQ1 => ?_
  refine WL.step (WO.box1 (.pl rfl) rfl rfl fun b13 => ?_)
  refine WL.q (Y.assign (.pl rfl)) rfl ?_
  refine WL.next hQ1 (.cons (i := 0) rfl (.cons (i := 1) rfl (.cons (i := 2) rfl (.cons (i := 7) rfl (.nil))))) ?_
  refine W.seqR fun Q2 hQ2 => ?_
  refine WL.q (Y.move (.pl rfl)) rfl ?_
  refine WL.q (Y.move (.pl rfl)) rfl ?_
  refine WL.q (Y.move (.pl rfl)) rfl ?_
  obtain ⟨r14, hr14, hF⟩ := bnd hF
  refine WL.step (WO.callM isGo10 (.cons (.pl rfl) (.cons (.pl rfl) (.cons (.pl rfl) (.nil)))) rfl (fun wz hw => steps_Play_ok (hr14) wz (hs6.mono hw) (hs10.mono hw)) ?_)
  rintro ⟨A15, c16⟩ -
  refine WL.q (Y.move (.pl rfl)) rfl ?_
  refine WL.q (Y.extract (.pl rfl) rfl) rfl ?_
  refine WL.q (Y.extract (.pl rfl) rfl) rfl ?_
  refine WL.q (Y.extract (.pl rfl) rfl) rfl ?_
  refine WL.q (Y.assign (.pl rfl)) rfl ?_
  refine WL.q (Y.assign (.pl rfl)) rfl ?_
  refine WL.q (Y.assign (.pl rfl)) rfl ?_
  refine WL.next hQ2 (.cons (i := 0) rfl (.cons (i := 1) rfl (.cons (i := 2) rfl (.cons (i := 7) rfl (.cons (i := 9) rfl (.cons (i := 11) rfl (.nil))))))) ?_
  refine W.seq fun K3 hK3 => ?_
  refine W.seqR fun Q4 hQ4 => ?_
  obtain ⟨r17, hr17, hF⟩ := bnd hF
  refine WL.step (WO.callP isGo11 (.nil) rfl (fun wz hw => alibkeep_stepsLives_ok (hr17) wz ) ?_)
  refine WL.q (Y.not (.pl rfl)) rfl ?_
  refine WL.q (Y.move (.pl rfl)) rfl ?_
  refine WL.g (.pl rfl rfl rfl) (fun hg => Y.move (.pl rfl)) rfl ?_
  refine WL.g (.pl rfl rfl rfl) (fun hg => Y.neq (.gd (hg) rfl) (.pl rfl)) rfl ?_
  refine WL.q (Y.or (.pl rfl) (fun h2 => .gd (eqf h2) rfl)) rfl ?_
  refine WL.q (Y.move (.pl rfl)) rfl ?_
  refine WL.g (.pl rfl rfl rfl) (fun hg => Y.loadB (v := .int .i64 who12) Try.underlying3 rfl (.pl rfl) (i := 1) rfl (rfl)) rfl ?_
  refine WL.g (.pl rfl rfl rfl) (fun hg => Y.lss (.gd (hg) rfl) (.pl rfl)) rfl ?_
  refine WL.q (Y.or (.pl rfl) (fun h2 => .gd (eqf h2) rfl)) rfl ?_
  refine WL.q (Y.move (.pl rfl)) rfl ?_
  refine WL.g (.pl rfl rfl rfl) (fun hg => Y.loadB (v := .int .i64 who12) Try.underlying3 rfl (.pl rfl) (i := 1) rfl (rfl)) rfl ?_
  refine WL.g (.pl rfl rfl rfl) (fun hg => Y.move (.pl rfl)) rfl ?_
  refine WL.g (.pl rfl rfl rfl) (fun hg => Y.len Try.underlying22 (.gd (hg) rfl)) rfl ?_
  refine WL.g (.pl rfl rfl rfl) (fun hg => Y.geq (.gd (hg) rfl) (.gd (hg) rfl)) rfl ?_
  refine WL.q (Y.or (.pl rfl) (fun h2 => .gd (eqf h2) rfl)) rfl ?_
  refine WL.q (Y.move (.pl rfl)) rfl ?_
  refine WL.g (.pl rfl rfl rfl) (fun hg => Y.move (.pl rfl)) rfl ?_
  refine WL.g (.pl rfl rfl rfl) (fun hg => Y.len Try.underlying23 (.gd (hg) rfl)) rfl ?_
  obtain ⟨hk18, hF⟩ := ckh hF
  refine WL.g (.pl rfl rfl rfl) (fun hg => Y.add (.gd (hg) rfl) (.pl rfl) (ok64_lt (gor hg hk18))) rfl ?_
  refine WL.g (.pl rfl rfl rfl) (fun hg => Y.gtr (.gd (hg) rfl) (.pl rfl)) rfl ?_
  refine WL.q (Y.or (.pl rfl) (fun h2 => .gd (eqf h2) rfl)) rfl ?_
  refine WL.next hQ4 (.cons (i := 0) rfl (.cons (i := 1) rfl (.cons (i := 2) rfl (.cons (i := 7) rfl (.cons (i := 9) rfl (.cons (i := 46) rfl (.nil))))))) ?_
  refine W.cond (.pl rfl) (fun hC5 => ?_) (fun hC5 => ?_)
  · replace hF := cpos hC5 hF
    refine W.seqR fun Q6 hQ6 => ?_
    obtain ⟨r19, hr19, hF⟩ := bnd hF
    refine WL.step (WO.callP isGo11 (.nil) rfl (fun wz hw => alibkeep_stepsLives_ok (hr19) wz ) ?_)
    refine WL.q (Y.assign (.pl rfl)) rfl ?_
    refine WL.next hQ6 (.cons (i := 8) rfl (.nil)) ?_
    obtain rfl := Option.some.inj hF
    refine W.retV (fn := Try.f3) (vs := [.bool r19]) Try.results3 ⟨.tmp rfl, trivial⟩ (fun _ _ h => h) (fun wz hw => ?_)
    exact hR _ _ ⟨rfl, (hw.pick [] rfl)⟩
  · replace hF := cneg hC5 hF
    refine W.skip ?_
    refine W.go hK3 (.cons (i := 0) rfl (.cons (i := 1) rfl (.cons (i := 2) rfl (.cons (i := 7) rfl (.cons (i := 9) rfl (.nil)))))) ?_
    refine W.seqR fun Q7 hQ7 => ?_
    refine WL.q (Y.move (.pl rfl)) rfl ?_
    obtain ⟨hk20, hF⟩ := ckh hF
    refine WL.step (WO.callM isGo12 (.cons (.pl rfl) (.nil)) rfl (fun wz hw => slices_Clone_int_int_ok (hk20) wz (hs10.mono hw)) ?_)
    rintro ⟨A21, c22⟩ -
    refine WL.q (Y.assign (.pl rfl)) rfl ?_
    refine WL.next hQ7 (.cons (i := 0) rfl (.cons (i := 1) rfl (.cons (i := 7) rfl (.cons (i := 9) rfl (.cons (i := 12) rfl (.nil)))))) ?_
    obtain ⟨o8, hF8, hF⟩ := bnd hF
    refine W.join3 (Em := fun (all25 : (List Int)) (A23 : Option Addr) (c24 : Nat) => [(12, .slice A23 (all25).length c24)]) (M := fun all25 A23 c24 => [cBx b13 3 [.int .i64 who12], cR encEvent 4 A15 c16 31 r14.1, cR (eI .i64) 1 A23 c24 3 all25]) (I := fun all25 A23 c24 => all25 = o8) (.cons (i := 0) rfl (.cons (i := 1) rfl (.cons (i := 7) rfl (.cons (i := 9) rfl (.nil))))) (fun K9 hK9 => ?_) ?_
    · -- up to
      refine W.seqR fun Q10 hQ10 => ?_
      refine WL.q (Y.move (.pl rfl)) rfl ?_
      refine WL.next hQ10 (.cons (i := 0) rfl (.cons (i := 1) rfl (.cons (i := 7) rfl (.cons (i := 9) rfl (.cons (i := 12) rfl (.cons (i := 50) rfl (.nil))))))) ?_
      refine W.block ?_
      refine W.loop4 (Em := fun (all28 : (List Int)) (v29 : Int) (A26 : Option Addr) (c27 : Nat) => [(12, .slice A26 (all28).length c27), (50, .int .i64 v29)]) (M := fun all28 v29 A26 c27 => [cBx b13 3 [.int .i64 who12], cR encEvent 4 A15 c16 31 r14.1, cR (eI .i64) 1 A26 c27 3 all28]) (I := fun all28 v29 A26 c27 k11 => iter (alibkeep_StepsAlone_L3 N who12) k11 (all28, v29) = some o8) turns7 0 A21 c22 N (hF8) (.cons rfl (.cons rfl (.nil))) (.cons (i := 0) rfl (.cons (i := 1) rfl (.cons (i := 7) rfl (.cons (i := 9) rfl (.nil))))) (fun wz hw => hw.pick [2, 1, 0] rfl) (fun all28 v29 A26 c27 k11 hI K12 hK12 => ?_)
      obtain ⟨k11, t11, rfl, hF11, hN11⟩ := iter_step hI
      refine W.seqR fun Q13 hQ13 => ?_
      refine WL.q (Y.lss (.pl rfl) (.pl rfl)) rfl ?_
      refine WL.next hQ13 (.cons (i := 0) rfl (.cons (i := 1) rfl (.cons (i := 7) rfl (.cons (i := 9) rfl (.cons (i := 12) rfl (.cons (i := 50) rfl (.cons (i := 51) rfl (.nil)))))))) ?_
      refine W.seq fun K14 hK14 => ?_
      refine W.cond (.pl rfl) (fun hC15 => ?_) (fun hC15 => ?_)
      · replace hF11 := cpos hC15 hF11
        refine W.skip ?_
        refine W.go hK14 (.cons (i := 0) rfl (.cons (i := 1) rfl (.cons (i := 7) rfl (.cons (i := 9) rfl (.cons (i := 12) rfl (.cons (i := 50) rfl (.nil))))))) ?_
        refine W.seq fun K16 hK16 => ?_
        refine W.block ?_
        refine W.reg ?_
        refine WL.q (Y.move (.pl rfl)) rfl ?_
        refine WL.q (Y.loadB (v := .int .i64 who12) Try.underlying3 rfl (.pl rfl) (i := 0) rfl (rfl)) rfl ?_
        refine WL.step (WO.bsliceC (enc := (eI .i64)) (ys := ([who12] : List Int)) Try.underlying23 bz3 (.cons (.pl rfl) (.nil)) rfl (fun _ => rfl) rfl rfl (by decide) (by decide) rfl fun b30 => ?_)
        obtain ⟨hk33, hF11⟩ := ckh hF11
        refine WL.step (WO.appendC (enc := (eI .i64)) Try.underlying23 ap3 (fun _ => rfl) oneI (.pl rfl) rfl (.pl rfl) (i := 3) rfl (m2 := 0) rfl (hk33) rfl fun A31 c32 => ?_)
        refine WL.q (Y.assign (.pl rfl)) rfl ?_
        refine WL.nil ?_
        refine W.go hK16 (.cons (i := 0) rfl (.cons (i := 1) rfl (.cons (i := 7) rfl (.cons (i := 9) rfl (.cons (i := 12) rfl (.cons (i := 50) rfl (.nil))))))) ?_
        refine W.reg ?_
        obtain ⟨hk34, hF11⟩ := ckh hF11
        refine WL.q (Y.add (.pl rfl) (.pl rfl) (ok64_lt (hk34))) rfl ?_
        refine WL.q (Y.move (.pl rfl)) rfl ?_
        refine WL.nil ?_
        obtain rfl := Option.some.inj hF11
        exact W.again4 hK12 (all28 ++ ([who12] : List Int)) (v29 + 1) A31 c32 k11 hN11 (Nat.lt_succ_self _) (.cons rfl (.cons rfl (.nil))) (.cons (i := 0) rfl (.cons (i := 1) rfl (.cons (i := 7) rfl (.cons (i := 9) rfl (.nil))))) (fun wz hw => hw.pick [1, 2, 3] rfl)
      · replace hF11 := cneg hC15 hF11
        refine W.exit ?_
        obtain rfl := Option.some.inj hF11
        exact W.joinAt3 hK9 all28 A26 c27 (einr hN11) (.cons rfl (.nil)) (.cons (i := 0) rfl (.cons (i := 1) rfl (.cons (i := 7) rfl (.cons (i := 9) rfl (.nil))))) (fun wz hw => hw.pick [0, 1, 2] rfl)
    · -- behind
      rintro all25 A23 c24 rfl
      refine W.seqR fun Q19 hQ19 => ?_
      refine WL.q (Y.move (.pl rfl)) rfl ?_
      refine WL.q (Y.move (.pl rfl)) rfl ?_
      refine WL.q (Y.move (.pl rfl)) rfl ?_
      obtain ⟨r35, hr35, hF⟩ := bnd hF
      refine WL.step (WO.callM isGo10 (.cons (.pl rfl) (.cons (.pl rfl) (.cons (.pl rfl) (.nil)))) rfl (fun wz hw => steps_Play_ok (hr35) wz (hs6.mono hw) (SlIn.ofRow (fun _ => rfl) hw (i := 2) rfl)) ?_)
      rintro ⟨A36, c37⟩ -
      refine WL.q (Y.move (.pl rfl)) rfl ?_
      refine WL.q (Y.extract (.pl rfl) rfl) rfl ?_
      refine WL.q (Y.extract (.pl rfl) rfl) rfl ?_
      refine WL.q (Y.extract (.pl rfl) rfl) rfl ?_
      refine WL.q (Y.assign (.pl rfl)) rfl ?_
      refine WL.q (Y.assign (.pl rfl)) rfl ?_
      refine WL.q (Y.assign (.pl rfl)) rfl ?_
      refine WL.next hQ19 (.cons (i := 1) rfl (.cons (i := 7) rfl (.cons (i := 9) rfl (.cons (i := 13) rfl (.cons (i := 15) rfl (.nil)))))) ?_
      refine W.seqR fun Q20 hQ20 => ?_
      refine WL.q (Y.fnC (.cons (.pl rfl) (.nil))) rfl ?_
      refine WL.q (Y.assign (.pl rfl)) rfl ?_
      refine WL.next hQ20 (.cons (i := 1) rfl (.cons (i := 7) rfl (.cons (i := 9) rfl (.cons (i := 13) rfl (.cons (i := 15) rfl (.cons (i := 16) rfl (.nil))))))) ?_
      obtain ⟨o21, hF21, hF⟩ := bnd hF
      refine W.join1 (Em := fun (v38 : Bool) => [(8, .bool v38)]) (M := fun v38 => []) (I := fun v38 => v38 = o21) (.nil) (fun K22 hK22 => ?_) ?_
      · -- up to
        refine W.regX 22 (by kernel_rfl) ?_
        refine WX.pure 0 #[true, false, false, false, false, false, false, false, false, false, false, false, false, false, false, false, false, false, false, false, false, false, false] rfl (by kernel_rfl) (fun _ _ => Y.move (.pl rfl)) rfl ?_
        refine WX.pure 1 #[true, true, false, false, false, false, false, false, false, false, false, false, false, false, false, false, false, false, false, false, false, false, false] rfl (by kernel_rfl) (fun _ _ => Y.eql (.pl rfl) (.pl rfl)) rfl ?_
        refine WX.pure 2 #[true, true, true, false, false, false, false, false, false, false, false, false, false, false, false, false, false, false, false, false, false, false, false] rfl (by kernel_rfl) (fun _ _ => Y.move (.pl rfl)) rfl ?_
        refine WX.pureY 3 #[true, true, true, true, false, false, false, false, false, false, false, false, false, false, false, false, false, false, false, false, false, false, false] rfl (by kernel_rfl) (fun _ _ => Yg.g (.pl rfl rfl rfl) (fun hg => Y.move (.pl rfl))) rfl ?_
        refine WX.pureY 4 #[true, true, true, true, true, false, false, false, false, false, false, false, false, false, false, false, false, false, false, false, false, false, false] rfl (by kernel_rfl) (fun _ _ => Yg.g (.pl rfl rfl rfl) (fun hg => Y.move (.pl rfl))) rfl ?_
        refine WX.pureY 6 #[true, true, true, true, true, false, true, false, false, false, false, false, false, false, false, false, false, false, false, false, false, false, false] rfl (by kernel_rfl) (fun _ _ => Yg.g (.pl rfl rfl rfl) (fun hg => Y.move (.pl rfl))) rfl ?_
        refine WX.pureY 7 #[true, true, true, true, true, false, true, true, false, false, false, false, false, false, false, false, false, false, false, false, false, false, false] rfl (by kernel_rfl) (fun _ _ => Yg.g (.pl rfl rfl rfl) (fun hg => Y.move (.pl rfl))) rfl ?_
        refine bsplit ((decide (r35.2.2 = 0)) == true) (fun hg24 => ?_) (fun hg24 => ?_)
        · replace hF21 := cpos hg24 hF21
          obtain ⟨r39, hr39, hF21⟩ := bnd hF21
          refine WX.one 5 #[true, true, true, true, true, true, true, true, false, false, false, false, false, false, false, false, false, false, false, false, false, false, false] (fun wz hw => St.tail [] hw) rfl (by kernel_rfl) (WO.gT (.pl rfl rfl rfl) (hg24) (WO.callG (γ := Unit) (first := []) (cap := [.pointer (some ⟨b13, 0, none⟩)]) (fun g => .int .i64 r39) (fun g => [cR encEvent 4 A36 c37 31 r35.1, cBx b13 3 [.int .i64 who12], cR encEvent 4 A15 c16 31 r14.1, cR (eI .i64) 1 A23 c24 3 all25]) (fun g => True) isGo13 (.gd (hg24) rfl) (.cons (.gd (hg24) rfl) (.nil)) rfl (fun wz hw => (by have h := alibkeep_StepsAlone_1_ok (T := [cR encEvent 4 A15 c16 31 r14.1, cR (eI .i64) 1 A23 c24 3 all25]) (A1 := A36) (c2 := c37) (b4 := b13) (hr39) (hw.pick [0, 1, 2, 3] rfl) ; unfold Calls at h ⊢; intro cs; obtain ⟨e, w2, fr, h1, h2⟩ := h cs; exact ⟨e, w2, fr, h1, h2⟩)) ?_))
          rintro _ -
          obtain ⟨r40, hr40, hF21⟩ := bnd hF21
          refine WX.one 8 #[true, true, true, true, true, true, true, true, true, false, false, false, false, false, false, false, false, false, false, false, false, false, false] (fun wz hw => St.tail [] hw) rfl (by kernel_rfl) (WO.gT (.pl rfl rfl rfl) (hg24) (WO.callG (γ := Unit) (first := []) (cap := [.pointer (some ⟨b13, 0, none⟩)]) (fun g => .int .i64 r40) (fun g => [cR encEvent 4 A15 c16 31 r14.1, cBx b13 3 [.int .i64 who12], cR encEvent 4 A36 c37 31 r35.1, cR (eI .i64) 1 A23 c24 3 all25]) (fun g => True) isGo13 (.gd (hg24) rfl) (.cons (.gd (hg24) rfl) (.nil)) rfl (fun wz hw => (by have h := alibkeep_StepsAlone_1_ok (T := [cR encEvent 4 A36 c37 31 r35.1, cR (eI .i64) 1 A23 c24 3 all25]) (A1 := A15) (c2 := c16) (b4 := b13) (hr40) (hw.pick [2, 1, 0, 3] rfl) ; unfold Calls at h ⊢; intro cs; obtain ⟨e, w2, fr, h1, h2⟩ := h cs; exact ⟨e, w2, fr, h1, h2⟩)) ?_))
          rintro _ -
          refine WX.pureY 9 #[true, true, true, true, true, true, true, true, true, true, false, false, false, false, false, false, false, false, false, false, false, false, false] rfl (by kernel_rfl) (fun _ _ => Yg.yes (.pl rfl rfl rfl) (hg24) (Y.gtr (.pl rfl) (.pl rfl))) rfl ?_
          refine WX.pureY 10 #[true, true, true, true, true, true, true, true, true, true, true, false, false, false, false, false, false, false, false, false, false, false, false] rfl (by kernel_rfl) (fun _ _ => Yg.yes (.pl rfl rfl rfl) (hg24) (Y.move (.pl rfl))) rfl ?_
          refine WX.pureY 11 #[true, true, true, true, true, true, true, true, true, true, true, true, false, false, false, false, false, false, false, false, false, false, false] rfl (by kernel_rfl) (fun _ _ => Yg.g (.pl rfl rfl rfl) (fun hg => Y.move (.pl rfl))) rfl ?_
          refine WX.pureY 12 #[true, true, true, true, true, true, true, true, true, true, true, true, true, false, false, false, false, false, false, false, false, false, false] rfl (by kernel_rfl) (fun _ _ => Yg.g (.pl rfl rfl rfl) (fun hg => Y.move (.pl rfl))) rfl ?_
          refine WX.pureY 14 #[true, true, true, true, true, true, true, true, true, true, true, true, true, false, true, false, false, false, false, false, false, false, false] rfl (by kernel_rfl) (fun _ _ => Yg.g (.pl rfl rfl rfl) (fun hg => Y.move (.pl rfl))) rfl ?_
          refine WX.takeY 15 #[true, true, true, true, true, true, true, true, true, true, true, true, true, false, true, true, false, false, false, false, false, false, false] (fun wz hw => hw.pick [2, 1, 0, 3] rfl) rfl (by kernel_rfl) (Yg.g (.pl rfl rfl rfl) (fun hg => Y.loadB (v := .int .i64 who12) Try.underlying3 rfl (.pl rfl) (i := 1) rfl (rfl))) rfl ?_
          obtain ⟨x41, hx41, hF21⟩ := bnd hF21
          refine WX.takeY 16 #[true, true, true, true, true, true, true, true, true, true, true, true, true, false, true, true, true, false, false, false, false, false, false] (fun wz hw => hw.pick [2, 1, 0, 3] rfl) rfl (by kernel_rfl) (Yg.g (.pl rfl rfl rfl) (fun hg => Y.nnEl Try.underlying22 cells33 hs6 (.gd (hg) rfl) (.gd (hg) rfl) (ix_lt (gpos hg hx41)))) rfl ?_
          refine WX.takeY 17 #[true, true, true, true, true, true, true, true, true, true, true, true, true, false, true, true, true, true, false, false, false, false, false] (fun wz hw => hw.pick [2, 1, 0, 3] rfl) rfl (by kernel_rfl) (Yg.g (.pl rfl rfl rfl) (fun hg => Y.loadNN Try.underlying33 rfl hs6 (.gd (hg) rfl) (gpos hg hx41) rfl)) rfl ?_
          refine WX.takeY 18 #[true, true, true, true, true, true, true, true, true, true, true, true, true, false, true, true, true, true, true, false, false, false, false] (fun wz hw => hw.pick [2, 1, 0, 3] rfl) rfl (by kernel_rfl) (Yg.g (.pl rfl rfl rfl) (fun hg => Y.len Try.underlying33 (.gd (hg) rfl))) rfl ?_
          refine bsplit ((decide (r40 < r39)) == false) (fun hg25 => ?_) (fun hg25 => ?_)
          · replace hF21 := cpos hg25 hF21
            obtain ⟨r42, hr42, hF21⟩ := bnd hF21
            refine WX.one 13 #[true, true, true, true, true, true, true, true, true, true, true, true, true, true, true, true, true, true, true, false, false, false, false] (fun wz hw => hw.pick [2, 1, 0, 3] rfl) rfl (by kernel_rfl) (WO.gT (.pl rfl rfl rfl) (hg25) (WO.callG (γ := Unit) (first := []) (cap := [.pointer (some ⟨b13, 0, none⟩)]) (fun g => .int .i64 r42) (fun g => [cR encEvent 4 A15 c16 31 r14.1, cBx b13 3 [.int .i64 who12], cR encEvent 4 A36 c37 31 r35.1, cR (eI .i64) 1 A23 c24 3 all25]) (fun g => True) isGo13 (.gd (hg25) rfl) (.cons (.gd (hg25) rfl) (.nil)) rfl (fun wz hw => (by have h := alibkeep_StepsAlone_1_ok (T := [cR encEvent 4 A36 c37 31 r35.1, cR (eI .i64) 1 A23 c24 3 all25]) (A1 := A15) (c2 := c16) (b4 := b13) (hr42) (hw.pick [0, 1, 2, 3] rfl) ; unfold Calls at h ⊢; intro cs; obtain ⟨e, w2, fr, h1, h2⟩ := h cs; exact ⟨e, w2, fr, h1, h2⟩)) ?_))
            rintro _ -
            refine WX.pureY 19 #[true, true, true, true, true, true, true, true, true, true, true, true, true, true, true, true, true, true, true, true, false, false, false] rfl (by kernel_rfl) (fun _ _ => Yg.yes (.pl rfl rfl rfl) (hg25) (Y.eql (.pl rfl) (.gd (hg25) rfl))) rfl ?_
            refine WX.takeY 20 #[true, true, true, true, true, true, true, true, true, true, true, true, true, true, true, true, true, true, true, true, true, false, false] (fun wz hw => hw.pick [2, 1, 0, 3] rfl) rfl (by kernel_rfl) (Yg.yes (.pl rfl rfl rfl) (hg24) (Y.or (.pl rfl) (fun _ => .pl rfl))) rfl ?_
            refine WX.take 21 #[true, true, true, true, true, true, true, true, true, true, true, true, true, true, true, true, true, true, true, true, true, true, false] (fun wz hw => hw.pick [2, 1, 0, 3] rfl) rfl (by kernel_rfl) (Y.and (.pl rfl) (fun _ => .pl rfl)) rfl ?_
            refine WX.stop #[true, true, true, true, true, true, true, true, true, true, true, true, true, true, true, true, true, true, true, true, true, true, true] (fun wz hw => hw.pick [2, 1, 0, 3] rfl) rfl (by kernel_rfl) (WO.q (Y.assign (.pl rfl)) rfl ?_)
            refine WA.done (by kernel_rfl) ?_
            exact W.joinAt1 hK22 ((decide (r35.2.2 = 0)) && ((decide (r40 < r39)) || (decide (r42 = ((x41).length : Int))))) (Option.some.inj hF21) (.cons rfl (.nil)) (.nil) (fun wz hw => hw.pick [] rfl)
          · replace hF21 := cneg hg25 hF21
            refine WX.one 13 #[true, true, true, true, true, true, true, true, true, true, true, true, true, true, true, true, true, true, true, false, false, false, false] (fun wz hw => hw.pick [2, 1, 0, 3] rfl) rfl (by kernel_rfl) (WO.gN (.pl rfl rfl rfl) hg25 rfl ?_)
            refine WX.pureY 19 #[true, true, true, true, true, true, true, true, true, true, true, true, true, true, true, true, true, true, true, true, false, false, false] rfl (by kernel_rfl) (fun _ _ => Yg.no (.pl rfl rfl rfl) hg25) rfl ?_
            refine WX.takeY 20 #[true, true, true, true, true, true, true, true, true, true, true, true, true, true, true, true, true, true, true, true, true, false, false] (fun wz hw => hw.pick [2, 1, 0, 3] rfl) rfl (by kernel_rfl) (Yg.yes (.pl rfl rfl rfl) (hg24) (Y.or (b := false) (.pl rfl) (fun h2 => (gabsO hg25 h2).elim))) rfl ?_
            refine WX.take 21 #[true, true, true, true, true, true, true, true, true, true, true, true, true, true, true, true, true, true, true, true, true, true, false] (fun wz hw => hw.pick [2, 1, 0, 3] rfl) rfl (by kernel_rfl) (Y.and (.pl rfl) (fun _ => .pl rfl)) rfl ?_
            refine WX.stop #[true, true, true, true, true, true, true, true, true, true, true, true, true, true, true, true, true, true, true, true, true, true, true] (fun wz hw => hw.pick [2, 1, 0, 3] rfl) rfl (by kernel_rfl) (WO.q (Y.assign (.pl rfl)) rfl ?_)
            refine WA.done (by kernel_rfl) ?_
            exact W.joinAt1 hK22 ((decide (r35.2.2 = 0)) && ((decide (r40 < r39)) || false)) (Option.some.inj hF21) (.cons rfl (.nil)) (.nil) (fun wz hw => hw.pick [] rfl)
        · replace hF21 := cneg hg24 hF21
          refine WX.one 5 #[true, true, true, true, true, true, true, true, false, false, false, false, false, false, false, false, false, false, false, false, false, false, false] (fun wz hw => St.tail [] hw) rfl (by kernel_rfl) (WO.gN (.pl rfl rfl rfl) hg24 rfl ?_)
          refine WX.one 8 #[true, true, true, true, true, true, true, true, true, false, false, false, false, false, false, false, false, false, false, false, false, false, false] (fun wz hw => St.tail [] hw) rfl (by kernel_rfl) (WO.gN (.pl rfl rfl rfl) hg24 rfl ?_)
          refine WX.pureY 9 #[true, true, true, true, true, true, true, true, true, true, false, false, false, false, false, false, false, false, false, false, false, false, false] rfl (by kernel_rfl) (fun _ _ => Yg.no (.pl rfl rfl rfl) hg24) rfl ?_
          refine WX.pureY 10 #[true, true, true, true, true, true, true, true, true, true, true, false, false, false, false, false, false, false, false, false, false, false, false] rfl (by kernel_rfl) (fun _ _ => Yg.no (.pl rfl rfl rfl) hg24) rfl ?_
          refine WX.pureY 11 #[true, true, true, true, true, true, true, true, true, true, true, true, false, false, false, false, false, false, false, false, false, false, false] rfl (by kernel_rfl) (fun _ _ => Yg.no (.un rfl rfl) rfl) rfl ?_
          refine WX.pureY 12 #[true, true, true, true, true, true, true, true, true, true, true, true, true, false, false, false, false, false, false, false, false, false, false] rfl (by kernel_rfl) (fun _ _ => Yg.no (.un rfl rfl) rfl) rfl ?_
          refine WX.pureY 14 #[true, true, true, true, true, true, true, true, true, true, true, true, true, false, true, false, false, false, false, false, false, false, false] rfl (by kernel_rfl) (fun _ _ => Yg.no (.un rfl rfl) rfl) rfl ?_
          refine WX.takeY 15 #[true, true, true, true, true, true, true, true, true, true, true, true, true, false, true, true, false, false, false, false, false, false, false] (fun wz hw => St.tail [] hw) rfl (by kernel_rfl) (Yg.no (.un rfl rfl) rfl) rfl ?_
          refine WX.takeY 16 #[true, true, true, true, true, true, true, true, true, true, true, true, true, false, true, true, true, false, false, false, false, false, false] (fun wz hw => St.tail [] hw) rfl (by kernel_rfl) (Yg.no (.un rfl rfl) rfl) rfl ?_
          refine WX.takeY 17 #[true, true, true, true, true, true, true, true, true, true, true, true, true, false, true, true, true, true, false, false, false, false, false] (fun wz hw => St.tail [] hw) rfl (by kernel_rfl) (Yg.no (.un rfl rfl) rfl) rfl ?_
          refine WX.takeY 18 #[true, true, true, true, true, true, true, true, true, true, true, true, true, false, true, true, true, true, true, false, false, false, false] (fun wz hw => St.tail [] hw) rfl (by kernel_rfl) (Yg.no (.un rfl rfl) rfl) rfl ?_
          refine WX.one 13 #[true, true, true, true, true, true, true, true, true, true, true, true, true, true, true, true, true, true, true, false, false, false, false] (fun wz hw => St.tail [] hw) rfl (by kernel_rfl) (WO.gN (.un rfl rfl) rfl rfl ?_)
          refine WX.pureY 19 #[true, true, true, true, true, true, true, true, true, true, true, true, true, true, true, true, true, true, true, true, false, false, false] rfl (by kernel_rfl) (fun _ _ => Yg.no (.un rfl rfl) rfl) rfl ?_
          refine WX.takeY 20 #[true, true, true, true, true, true, true, true, true, true, true, true, true, true, true, true, true, true, true, true, true, false, false] (fun wz hw => St.tail [] hw) rfl (by kernel_rfl) (Yg.no (.pl rfl rfl rfl) hg24) rfl ?_
          refine WX.take 21 #[true, true, true, true, true, true, true, true, true, true, true, true, true, true, true, true, true, true, true, true, true, true, false] (fun wz hw => St.tail [] hw) rfl (by kernel_rfl) (Y.and (b := false) (.pl rfl) (fun h2 => (gabsA hg24 h2).elim)) rfl ?_
          refine WX.stop #[true, true, true, true, true, true, true, true, true, true, true, true, true, true, true, true, true, true, true, true, true, true, true] (fun wz hw => St.tail [] hw) rfl (by kernel_rfl) (WO.q (Y.assign (.pl rfl)) rfl ?_)
          refine WA.done (by kernel_rfl) ?_
          exact W.joinAt1 hK22 ((decide (r35.2.2 = 0)) && false) (Option.some.inj hF21) (.cons rfl (.nil)) (.nil) (fun wz hw => hw.pick [] rfl)
      · -- behind
        rintro v38 rfl
        obtain rfl := Option.some.inj hF
        refine W.retV (fn := Try.f3) (vs := [.bool v38]) Try.results3 ⟨.tmp rfl, trivial⟩ (fun _ _ h => h) (fun wz hw => ?_)
        exact hR _ _ ⟨rfl, (hw.pick [] rfl)⟩

def alibkeep_StepsAnew (N : Nat) (algo1 : Int) (people2 : (List (List Ask))) (turns7 : (List Int)) : Option Bool :=
  bd (steps_Play N algo1 people2 turns7) fun (r12 : ((List Event) × Int × Int)) =>
  bd (alibkeep_stepsLives N) fun (r15 : Bool) =>
  cond (((!r15) || (!(decide (r12.2.2 = 0)))) || (decide (algo1 = 4)))
    (bd (alibkeep_stepsLives N) fun (r16 : Bool) =>
    some r16)
    (bd (steps_Type N algo1) fun (r17 : Int) =>
    bd (history_Calls N ([r17] : List Int) r12.1) fun (r19 : ((List Call) × Int × Int)) =>
    cond (decide (algo1 = 2))
      (some ((decide (r19.2.2 = 0)) && (decide (r12.2.1 = 0))))
      (ck (!((decide (r19.2.2 = 0)) == true) || (ok64 (((people2).length : Int) * ((r19.1).length : Int)))) <|
      some ((decide (r19.2.2 = 0)) && (decide (r12.2.1 ≤ (((people2).length : Int) * ((r19.1).length : Int)))))))

theorem alibkeep_StepsAnew_ok {N : Nat} {algo1 : Int} {people2 : (List (List Ask))} {turns7 : (List Int)} {A3 : Option Addr} {c4 : Nat} {hd5 : List Hd} {res : Bool} (hF : alibkeep_StepsAnew N algo1 people2 turns7 = some res) (w : World) (hs6 : SlNN encAsk 3 w A3 c4 hd5 people2) {v11 : Value} (hs10 : SlIn (eI .i64) 1 w v11 turns7) :
    Pure Try.prog 4 [.int .i64 algo1, .slice A3 (people2).length c4, v11] w (.bool res) := by
  obtain ⟨A8, c9, rfl, hcc9, hs10⟩ := hs10.form
  refine W.enter (n := 60) Try.func4 rfl rfl Sub.refl (by simp) (St.start w) fun R hR => ?_
  unfold alibkeep_StepsAnew at hF
  refine W.seqR fun Q1 hQ1 => ?_
  refine WL.q (Y.assign (.pl rfl)) rfl ?_
  refine WL.next hQ1 (.cons (i := 0) rfl (.cons (i := 1) rfl (.cons (i := 2) rfl (.nil)))) ?_
  refine W.seqR fun Q2 hQ2 => ?_
  refine WL.q (Y.move (.pl rfl)) rfl ?_
  refine WL.q (Y.move (.pl rfl)) rfl ?_
  refine WL.q (Y.move (.pl rfl)) rfl ?_
  obtain ⟨r12, hr12, hF⟩ := bnd hF
  refine WL.step (WO.callM isGo10 (.cons (.pl rfl) (.cons (.pl rfl) (.cons (.pl rfl) (.nil)))) rfl (fun wz hw => steps_Play_ok (hr12) wz (hs6.mono hw) (hs10.mono hw)) ?_)
  rintro ⟨A13, c14⟩ -
  refine WL.q (Y.move (.pl rfl)) rfl ?_
  refine WL.q (Y.extract (.pl rfl) rfl) rfl ?_
  refine WL.q (Y.extract (.pl rfl) rfl) rfl ?_
  refine WL.q (Y.extract (.pl rfl) rfl) rfl ?_
  refine WL.q (Y.assign (.pl rfl)) rfl ?_
  refine WL.q (Y.assign (.pl rfl)) rfl ?_
  refine WL.q (Y.assign (.pl rfl)) rfl ?_
  refine WL.next hQ2 (.cons (i := 0) rfl (.cons (i := 1) rfl (.cons (i := 7) rfl (.cons (i := 8) rfl (.cons (i := 9) rfl (.nil)))))) ?_
  refine W.seq fun K3 hK3 => ?_
  refine W.seqR fun Q4 hQ4 => ?_
  obtain ⟨r15, hr15, hF⟩ := bnd hF
  refine WL.step (WO.callP isGo11 (.nil) rfl (fun wz hw => alibkeep_stepsLives_ok (hr15) wz ) ?_)
  refine WL.q (Y.not (.pl rfl)) rfl ?_
  refine WL.q (Y.move (.pl rfl)) rfl ?_
  refine WL.g (.pl rfl rfl rfl) (fun hg => Y.move (.pl rfl)) rfl ?_
  refine WL.g (.pl rfl rfl rfl) (fun hg => Y.neq (.gd (hg) rfl) (.pl rfl)) rfl ?_
  refine WL.q (Y.or (.pl rfl) (fun h2 => .gd (eqf h2) rfl)) rfl ?_
  refine WL.q (Y.move (.pl rfl)) rfl ?_
  refine WL.g (.pl rfl rfl rfl) (fun hg => Y.move (.pl rfl)) rfl ?_
  refine WL.g (.pl rfl rfl rfl) (fun hg => Y.eql (.gd (hg) rfl) (.pl rfl)) rfl ?_
  refine WL.q (Y.or (.pl rfl) (fun h2 => .gd (eqf h2) rfl)) rfl ?_
  refine WL.next hQ4 (.cons (i := 0) rfl (.cons (i := 1) rfl (.cons (i := 7) rfl (.cons (i := 8) rfl (.cons (i := 30) rfl (.nil)))))) ?_
  refine W.cond (.pl rfl) (fun hC5 => ?_) (fun hC5 => ?_)
  · replace hF := cpos hC5 hF
    refine W.seqR fun Q6 hQ6 => ?_
    obtain ⟨r16, hr16, hF⟩ := bnd hF
    refine WL.step (WO.callP isGo11 (.nil) rfl (fun wz hw => alibkeep_stepsLives_ok (hr16) wz ) ?_)
    refine WL.q (Y.assign (.pl rfl)) rfl ?_
    refine WL.next hQ6 (.cons (i := 6) rfl (.nil)) ?_
    obtain rfl := Option.some.inj hF
    refine W.retV (fn := Try.f4) (vs := [.bool r16]) Try.results4 ⟨.tmp rfl, trivial⟩ (fun _ _ h => h) (fun wz hw => ?_)
    exact hR _ _ ⟨rfl, (hw.pick [] rfl)⟩
  · replace hF := cneg hC5 hF
    refine W.skip ?_
    refine W.go hK3 (.cons (i := 0) rfl (.cons (i := 1) rfl (.cons (i := 7) rfl (.cons (i := 8) rfl (.nil))))) ?_
    refine W.seqR fun Q7 hQ7 => ?_
    refine WL.q (Y.move (.pl rfl)) rfl ?_
    obtain ⟨r17, hr17, hF⟩ := bnd hF
    refine WL.step (WO.callP isGo15 (.cons (.pl rfl) (.nil)) rfl (fun wz hw => steps_Type_ok (hr17) wz ) ?_)
    refine WL.step (WO.bsliceC (enc := (eI .i64)) (ys := ([r17] : List Int)) Try.underlying23 bz3 (.cons (.pl rfl) (.nil)) rfl (fun _ => rfl) rfl rfl (by decide) (by decide) rfl fun b18 => ?_)
    refine WL.q (Y.move (.pl rfl)) rfl ?_
    obtain ⟨r19, hr19, hF⟩ := bnd hF
    refine WL.step (WO.callM isGo14 (.cons (.pl rfl) (.cons (.pl rfl) (.nil))) rfl (fun wz hw => history_Calls_ok (hr19) wz (SlIn.ofRow (fun _ => rfl) hw (i := 0) rfl) (SlIn.ofRow lenEvent hw (i := 1) rfl)) ?_)
    rintro ⟨A20, c21⟩ -
    refine WL.q (Y.move (.pl rfl)) rfl ?_
    refine WL.q (Y.extract (.pl rfl) rfl) rfl ?_
    refine WL.q (Y.extract (.pl rfl) rfl) rfl ?_
    refine WL.q (Y.extract (.pl rfl) rfl) rfl ?_
    refine WL.q (Y.assign (.pl rfl)) rfl ?_
    refine WL.q (Y.assign (.pl rfl)) rfl ?_
    refine WL.q (Y.assign (.pl rfl)) rfl ?_
    refine WL.next hQ7 (.cons (i := 0) rfl (.cons (i := 1) rfl (.cons (i := 8) rfl (.cons (i := 10) rfl (.cons (i := 12) rfl (.nil)))))) ?_
    refine W.seq fun K8 hK8 => ?_
    refine W.seqR fun Q9 hQ9 => ?_
    refine WL.q (Y.move (.pl rfl)) rfl ?_
    refine WL.q (Y.eql (.pl rfl) (.pl rfl)) rfl ?_
    refine WL.next hQ9 (.cons (i := 1) rfl (.cons (i := 8) rfl (.cons (i := 10) rfl (.cons (i := 12) rfl (.cons (i := 42) rfl (.nil)))))) ?_
    refine W.cond (.pl rfl) (fun hC10 => ?_) (fun hC10 => ?_)
    · replace hF := cpos hC10 hF
      refine W.seqR fun Q11 hQ11 => ?_
      refine WL.q (Y.move (.pl rfl)) rfl ?_
      refine WL.q (Y.eql (.pl rfl) (.pl rfl)) rfl ?_
      refine WL.q (Y.move (.pl rfl)) rfl ?_
      refine WL.g (.pl rfl rfl rfl) (fun hg => Y.move (.pl rfl)) rfl ?_
      refine WL.g (.pl rfl rfl rfl) (fun hg => Y.eql (.gd (hg) rfl) (.pl rfl)) rfl ?_
      refine WL.q (Y.and (.pl rfl) (fun h2 => .gd (eqt h2) rfl)) rfl ?_
      refine WL.q (Y.assign (.pl rfl)) rfl ?_
      refine WL.next hQ11 (.cons (i := 6) rfl (.nil)) ?_
      obtain rfl := Option.some.inj hF
      refine W.retV (fn := Try.f4) (vs := [.bool ((decide (r19.2.2 = 0)) && (decide (r12.2.1 = 0)))]) Try.results4 ⟨.tmp rfl, trivial⟩ (fun _ _ h => h) (fun wz hw => ?_)
      exact hR _ _ ⟨rfl, (hw.pick [] rfl)⟩
    · replace hF := cneg hC10 hF
      refine W.skip ?_
      refine W.go hK8 (.cons (i := 1) rfl (.cons (i := 8) rfl (.cons (i := 10) rfl (.cons (i := 12) rfl (.nil))))) ?_
      refine W.seqR fun Q12 hQ12 => ?_
      refine WL.q (Y.move (.pl rfl)) rfl ?_
      refine WL.q (Y.eql (.pl rfl) (.pl rfl)) rfl ?_
      refine WL.q (Y.move (.pl rfl)) rfl ?_
      refine WL.g (.pl rfl rfl rfl) (fun hg => Y.move (.pl rfl)) rfl ?_
      refine WL.g (.pl rfl rfl rfl) (fun hg => Y.move (.pl rfl)) rfl ?_
      refine WL.g (.pl rfl rfl rfl) (fun hg => Y.len Try.underlying22 (.gd (hg) rfl)) rfl ?_
      refine WL.g (.pl rfl rfl rfl) (fun hg => Y.move (.pl rfl)) rfl ?_
      refine WL.g (.pl rfl rfl rfl) (fun hg => Y.len Try.underlying35 (.gd (hg) rfl)) rfl ?_
      obtain ⟨hk22, hF⟩ := ckh hF
      refine WL.g (.pl rfl rfl rfl) (fun hg => Y.mul (.gd (hg) rfl) (.gd (hg) rfl) (ok64_lt (gor hg hk22))) rfl ?_
      refine WL.g (.pl rfl rfl rfl) (fun hg => Y.leq (.gd (hg) rfl) (.gd (hg) rfl)) rfl ?_
      refine WL.q (Y.and (.pl rfl) (fun h2 => .gd (eqt h2) rfl)) rfl ?_
      refine WL.q (Y.assign (.pl rfl)) rfl ?_
      refine WL.next hQ12 (.cons (i := 6) rfl (.nil)) ?_
      obtain rfl := Option.some.inj hF
      refine W.retV (fn := Try.f4) (vs := [.bool ((decide (r19.2.2 = 0)) && (decide (r12.2.1 ≤ (((people2).length : Int) * ((r19.1).length : Int)))))]) Try.results4 ⟨.tmp rfl, trivial⟩ (fun _ _ h => h) (fun wz hw => ?_)
      exact hR _ _ ⟨rfl, (hw.pick [] rfl)⟩

end Go.Proofs.Ytkmmagekepoapaa
