/- Tickets: what their code computes, and the walks. -/
import Derived.Test.YtkmmagekepoapaaA2
set_option linter.unusedVariables false
set_option linter.unusedSimpArgs false
set_option linter.unusedSectionVars false
set_option maxRecDepth 100000
namespace Go.Proofs.Ytkmmagekepoapaa
open Go.RowKit
structure Bad where
  kind : Int
  a : Int
  b : Int
deriving DecidableEq
def Bad.z : Bad := ⟨0, 0, 0⟩
def encBad (x : Bad) : List Value := (Value.int .i64 x.kind :: (Value.int .i64 x.a :: (Value.int .i64 x.b :: [])))
theorem oneBad : ∀ x, ∀ v ∈ encBad x, v.oneCell' = true := fun x => (one_cons rfl (one_cons rfl (one_cons rfl one_nil)))
structure Call where
  who : Int
  thing : Int
  kind : Int
  arg : Int
  res : Int
  from_ : Int
  to_ : Int
deriving DecidableEq
def Call.z : Call := ⟨0, 0, 0, 0, 0, 0, 0⟩
def encCall (x : Call) : List Value := (Value.int .i64 x.who :: (Value.int .i64 x.thing :: (Value.int .i64 x.kind :: (Value.int .i64 x.arg :: (Value.int .i64 x.res :: (Value.int .i64 x.from_ :: (Value.int .i64 x.to_ :: [])))))))
theorem lenCall (x : Call) : (encCall x).length = 7 := rfl
theorem oneCall : ∀ x, ∀ v ∈ encCall x, v.oneCell' = true := fun x => (one_cons rfl (one_cons rfl (one_cons rfl (one_cons rfl (one_cons rfl (one_cons rfl (one_cons rfl one_nil)))))))
theorem cells23 : Try.prog.cellsOf 23 = 0 + 1 := by kernel_rfl
theorem cells35 : Try.prog.cellsOf 35 = 0 + 1 := by kernel_rfl
theorem cells66 : Try.prog.cellsOf 66 = 2 + 1 := by kernel_rfl
theorem cells86 : Try.prog.cellsOf 86 = 7 + 1 := by kernel_rfl
theorem cells129 : Try.prog.cellsOf 129 = 6 + 1 := by kernel_rfl
theorem isGo14 : IsGo Try.prog 14 := ⟨_, Try.func14, by kernel_rfl, rfl⟩
theorem isGo34 : IsGo Try.prog 34 := ⟨_, Try.func34, by kernel_rfl, rfl⟩
theorem isGo51 : IsGo Try.prog 51 := ⟨_, Try.func51, by kernel_rfl, rfl⟩
theorem isGo52 : IsGo Try.prog 52 := ⟨_, Try.func52, by kernel_rfl, rfl⟩
theorem isGo62 : IsGo Try.prog 62 := ⟨_, Try.func62, by kernel_rfl, rfl⟩
theorem isGo72 : IsGo Try.prog 72 := ⟨_, Try.func72, by kernel_rfl, rfl⟩
theorem isGo97 : IsGo Try.prog 97 := ⟨_, Try.func97, by kernel_rfl, rfl⟩
theorem isGo98 : IsGo Try.prog 98 := ⟨_, Try.func98, by kernel_rfl, rfl⟩
theorem isGo110 : IsGo Try.prog 110 := ⟨_, Try.func110, by kernel_rfl, rfl⟩
theorem zero4 : ∃ i, Try.prog.info? 4 = some i ∧ i.zero = some (Value.bool false) := ⟨_, rfl, by kernel_rfl⟩
theorem zero31 : ∃ i, Try.prog.info? 31 = some i ∧ i.zero = some (Value.agg #[(Value.int .i64 0), (Value.int .i64 0), (Value.int .i64 0), (Value.int .i64 0)]) := ⟨_, rfl, by kernel_rfl⟩
theorem zero66 : ∃ i, Try.prog.info? 66 = some i ∧ i.zero = some (Value.agg #[(Value.int .i64 0), (Value.int .i64 0), (Value.int .i64 0)]) := ⟨_, rfl, by kernel_rfl⟩
theorem zero129 : ∃ i, Try.prog.info? 129 = some i ∧ i.zero = some (Value.agg #[(Value.int .i64 0), (Value.int .i64 0), (Value.int .i64 0), (Value.int .i64 0), (Value.int .i64 0), (Value.int .i64 0), (Value.int .i64 0)]) := ⟨_, rfl, by kernel_rfl⟩
theorem bz129 : ∃ i, Try.prog.info? 129 = some i ∧ i.zero = some (Value.agg #[(Value.int .i64 0), (Value.int .i64 0), (Value.int .i64 0), (Value.int .i64 0), (Value.int .i64 0), (Value.int .i64 0), (Value.int .i64 0)]) ∧ i.size = 7 := ⟨_, rfl, by kernel_rfl, by kernel_rfl⟩
theorem ap3 : ∃ i z, Try.prog.info? 3 = some i ∧ i.zero = some z ∧ i.size = 1 ∧ i.bytes = 8 ∧ z.cells.size = 1 ∧ 0 < 1 := ⟨_, (Value.int .i64 0), rfl, by kernel_rfl, by kernel_rfl, by kernel_rfl, by kernel_rfl, by decide⟩
theorem ap129 : ∃ i z, Try.prog.info? 129 = some i ∧ i.zero = some z ∧ i.size = 7 ∧ i.bytes = 56 ∧ z.cells.size = 7 ∧ 0 < 7 := ⟨_, (Value.agg #[(Value.int .i64 0), (Value.int .i64 0), (Value.int .i64 0), (Value.int .i64 0), (Value.int .i64 0), (Value.int .i64 0), (Value.int .i64 0)]), rfl, by kernel_rfl, by kernel_rfl, by kernel_rfl, by kernel_rfl, by decide⟩
theorem shape66 : Shape Try.prog 66 [(0, 1), (1, 1), (2, 1)] #[(Value.int .i64 0), (Value.int .i64 0), (Value.int .i64 0)] := ⟨_, _, Value.agg #[(Value.int .i64 0), (Value.int .i64 0), (Value.int .i64 0)], Try.underlying66, rfl, by kernel_rfl, rfl, by kernel_rfl, by decide⟩
theorem shape88 : Shape Try.prog 88 [(0, 1), (1, 1), (2, 8)] #[(Value.slice none 0 0), (Value.slice none 0 0), (Value.int .i64 0), (Value.int .i64 0), (Value.int .i64 0), (Value.int .i64 0), (Value.int .i64 0), (Value.int .i64 0), (Value.int .i64 0), (Value.int .i64 0)] := ⟨_, _, Value.agg #[(Value.slice none 0 0), (Value.slice none 0 0), (Value.int .i64 0), (Value.int .i64 0), (Value.int .i64 0), (Value.int .i64 0), (Value.int .i64 0), (Value.int .i64 0), (Value.int .i64 0), (Value.int .i64 0)], Try.underlying88, rfl, by kernel_rfl, rfl, by kernel_rfl, by decide⟩
theorem shape129 : Shape Try.prog 129 [(0, 1), (1, 1), (2, 1), (3, 1), (4, 1), (5, 1), (6, 1)] #[(Value.int .i64 0), (Value.int .i64 0), (Value.int .i64 0), (Value.int .i64 0), (Value.int .i64 0), (Value.int .i64 0), (Value.int .i64 0)] := ⟨_, _, Value.agg #[(Value.int .i64 0), (Value.int .i64 0), (Value.int .i64 0), (Value.int .i64 0), (Value.int .i64 0), (Value.int .i64 0), (Value.int .i64 0)], Try.underlying129, rfl, by kernel_rfl, rfl, by kernel_rfl, by decide⟩
theorem shape159 : Shape Try.prog 159 [(0, 1), (1, 1), (2, 1)] #[(Value.slice none 0 0), (Value.slice none 0 0), (Value.slice none 0 0)] := ⟨_, _, Value.agg #[(Value.slice none 0 0), (Value.slice none 0 0), (Value.slice none 0 0)], Try.underlying159, rfl, by kernel_rfl, rfl, by kernel_rfl, by decide⟩
def history_result (N : Nat) (kind1 : Int) (n2 : Int) : Option Bool :=
  bd (α := Bool) (cond (decide (kind1 = 2))
      (some (decide (kind1 = 2)))
      (some (decide (kind1 = 10)))) <|
  fun (v3 : Bool) => 
    cond v3
      (some ((decide (0 ≤ n2)) && (decide (n2 ≤ 1000))))
      (bd (α := Bool) (cond (decide (kind1 = 4))
          (some (decide (kind1 = 4)))
          (some (decide (kind1 = 6)))) <|
      fun (v4 : Bool) => 
        cond v4
          (some ((decide (n2 = (-1))) || ((decide (1 ≤ n2)) && (decide (n2 ≤ 1000)))))
          (bd (α := Bool) (cond (decide (kind1 = 7))
              (some (decide (kind1 = 7)))
              (cond (decide (kind1 = 8))
                (some (decide (kind1 = 8)))
                (some (decide (kind1 = 9))))) <|
          fun (v5 : Bool) => 
            cond v5
              (some ((decide (n2 = 0)) || (decide (n2 = 1))))
              (some (decide (n2 = 0)))))

theorem history_result_ok {N : Nat} {kind1 : Int} {n2 : Int} {res : Bool} (hF : history_result N kind1 n2 = some res) (w : World) :
    Pure Try.prog 62 [.int .i64 kind1, .int .i64 n2] w (.bool res) := by
  refine W.enter (n := 40) Try.func62 rfl rfl Sub.refl (by simp) (St.start w) fun R hR => ?_
  unfold history_result at hF
  refine W.seqR fun Q1 hQ1 => ?_
  refine WL.q (Y.assign (.pl rfl)) rfl ?_
  refine WL.next hQ1 (.cons (i := 0) rfl (.cons (i := 1) rfl (.nil))) ?_
  refine W.seq fun K2 hK2 => ?_
  refine W.seqR fun Q3 hQ3 => ?_
  refine WL.q (Y.move (.pl rfl)) rfl ?_
  refine WL.next hQ3 (.cons (i := 1) rfl (.cons (i := 5) rfl (.nil))) ?_
  refine W.block ?_
  obtain ⟨o4, hF4, hF⟩ := bnd hF
  refine W.join1 (Em := fun (v3 : Bool) => [(6, .bool v3)]) (M := fun v3 => []) (I := fun v3 => v3 = o4) (.cons (i := 1) rfl (.cons (i := 5) rfl (.nil))) (fun K5 hK5 => ?_) ?_
  · -- up to
    refine W.seqR fun Q6 hQ6 => ?_
    refine WL.q (Y.eql (.pl rfl) (.pl rfl)) rfl ?_
    refine WL.q (Y.assign (.pl rfl)) rfl ?_
    refine WL.next hQ6 (.cons (i := 1) rfl (.cons (i := 5) rfl (.cons (i := 6) rfl (.nil)))) ?_
    refine W.cond (.pl rfl) (fun hC7 => ?_) (fun hC7 => ?_)
    · replace hF4 := cpos hC7 hF4
      refine W.skip ?_
      exact W.joinAt1 hK5 (decide (kind1 = 2)) (Option.some.inj hF4) (.cons rfl (.nil)) (.cons (i := 1) rfl (.cons (i := 5) rfl (.nil))) (fun wz hw => hw.pick [] rfl)
    · replace hF4 := cneg hC7 hF4
      refine W.reg ?_
      refine WL.q (Y.eql (.pl rfl) (.pl rfl)) rfl ?_
      refine WL.q (Y.assign (.pl rfl)) rfl ?_
      refine WL.nil ?_
      exact W.joinAt1 hK5 (decide (kind1 = 10)) (Option.some.inj hF4) (.cons rfl (.nil)) (.cons (i := 1) rfl (.cons (i := 5) rfl (.nil))) (fun wz hw => hw.pick [] rfl)
  · -- behind
    rintro v3 rfl
    refine W.cond (.pl rfl) (fun hC9 => ?_) (fun hC9 => ?_)
    · replace hF := cpos hC9 hF
      refine W.seqR fun Q10 hQ10 => ?_
      refine WL.q (Y.move (.pl rfl)) rfl ?_
      refine WL.q (Y.geq (.pl rfl) (.pl rfl)) rfl ?_
      refine WL.q (Y.move (.pl rfl)) rfl ?_
      refine WL.g (.pl rfl rfl rfl) (fun hg => Y.move (.pl rfl)) rfl ?_
      refine WL.g (.pl rfl rfl rfl) (fun hg => Y.leq (.gd (hg) rfl) (.pl rfl)) rfl ?_
      refine WL.q (Y.and (.pl rfl) (fun h2 => .gd (eqt h2) rfl)) rfl ?_
      refine WL.q (Y.assign (.pl rfl)) rfl ?_
      refine WL.next hQ10 (.cons (i := 4) rfl (.nil)) ?_
      obtain rfl := Option.some.inj hF
      refine W.retV (fn := Try.f62) (vs := [.bool ((decide (0 ≤ n2)) && (decide (n2 ≤ 1000)))]) Try.results62 ⟨.tmp rfl, trivial⟩ (fun _ _ h => h) (fun wz hw => ?_)
      exact hR _ _ ⟨rfl, (hw.pick [] rfl)⟩
    · replace hF := cneg hC9 hF
      obtain ⟨o11, hF11, hF⟩ := bnd hF
      refine W.join1 (Em := fun (v4 : Bool) => [(15, .bool v4)]) (M := fun v4 => []) (I := fun v4 => v4 = o11) (.cons (i := 1) rfl (.cons (i := 5) rfl (.nil))) (fun K12 hK12 => ?_) ?_
      · -- up to
        refine W.seqR fun Q13 hQ13 => ?_
        refine WL.q (Y.eql (.pl rfl) (.pl rfl)) rfl ?_
        refine WL.q (Y.assign (.pl rfl)) rfl ?_
        refine WL.next hQ13 (.cons (i := 1) rfl (.cons (i := 5) rfl (.cons (i := 15) rfl (.nil)))) ?_
        refine W.cond (.pl rfl) (fun hC14 => ?_) (fun hC14 => ?_)
        · replace hF11 := cpos hC14 hF11
          refine W.skip ?_
          exact W.joinAt1 hK12 (decide (kind1 = 4)) (Option.some.inj hF11) (.cons rfl (.nil)) (.cons (i := 1) rfl (.cons (i := 5) rfl (.nil))) (fun wz hw => hw.pick [] rfl)
        · replace hF11 := cneg hC14 hF11
          refine W.reg ?_
          refine WL.q (Y.eql (.pl rfl) (.pl rfl)) rfl ?_
          refine WL.q (Y.assign (.pl rfl)) rfl ?_
          refine WL.nil ?_
          exact W.joinAt1 hK12 (decide (kind1 = 6)) (Option.some.inj hF11) (.cons rfl (.nil)) (.cons (i := 1) rfl (.cons (i := 5) rfl (.nil))) (fun wz hw => hw.pick [] rfl)
      · -- behind
        rintro v4 rfl
        refine W.cond (.pl rfl) (fun hC16 => ?_) (fun hC16 => ?_)
        · replace hF := cpos hC16 hF
          refine W.seqR fun Q17 hQ17 => ?_
          refine WL.q (Y.move (.pl rfl)) rfl ?_
          refine WL.q (Y.eql (.pl rfl) (.pl rfl)) rfl ?_
          refine WL.q (Y.move (.pl rfl)) rfl ?_
          refine WL.g (.pl rfl rfl rfl) (fun hg => Y.move (.pl rfl)) rfl ?_
          refine WL.g (.pl rfl rfl rfl) (fun hg => Y.geq (.gd (hg) rfl) (.pl rfl)) rfl ?_
          refine WL.g (.pl rfl rfl rfl) (fun hg => Y.move (.gd (hg) rfl)) rfl ?_
          refine WL.g (.gd rfl rfl rfl) (fun hg => Y.move (.pl rfl)) rfl ?_
          refine WL.g (.gd rfl rfl rfl) (fun hg => Y.leq (.gd (hg) rfl) (.pl rfl)) rfl ?_
          refine WL.g (.pl rfl rfl rfl) (fun hg => Y.and (.gd (hg) rfl) (fun h2 => .gd (band hg (eqt h2)) rfl)) rfl ?_
          refine WL.q (Y.or (.pl rfl) (fun h2 => .gd (eqf h2) rfl)) rfl ?_
          refine WL.q (Y.assign (.pl rfl)) rfl ?_
          refine WL.next hQ17 (.cons (i := 4) rfl (.nil)) ?_
          obtain rfl := Option.some.inj hF
          refine W.retV (fn := Try.f62) (vs := [.bool ((decide (n2 = (-1))) || ((decide (1 ≤ n2)) && (decide (n2 ≤ 1000))))]) Try.results62 ⟨.tmp rfl, trivial⟩ (fun _ _ h => h) (fun wz hw => ?_)
          exact hR _ _ ⟨rfl, (hw.pick [] rfl)⟩
        · replace hF := cneg hC16 hF
          obtain ⟨o18, hF18, hF⟩ := bnd hF
          refine W.join1 (Em := fun (v5 : Bool) => [(28, .bool v5)]) (M := fun v5 => []) (I := fun v5 => v5 = o18) (.cons (i := 1) rfl (.nil)) (fun K19 hK19 => ?_) ?_
          · -- up to
            refine W.seqR fun Q20 hQ20 => ?_
            refine WL.q (Y.eql (.pl rfl) (.pl rfl)) rfl ?_
            refine WL.q (Y.assign (.pl rfl)) rfl ?_
            refine WL.next hQ20 (.cons (i := 1) rfl (.cons (i := 5) rfl (.cons (i := 28) rfl (.nil)))) ?_
            refine W.cond (.pl rfl) (fun hC21 => ?_) (fun hC21 => ?_)
            · replace hF18 := cpos hC21 hF18
              refine W.skip ?_
              exact W.joinAt1 hK19 (decide (kind1 = 7)) (Option.some.inj hF18) (.cons rfl (.nil)) (.cons (i := 1) rfl (.nil)) (fun wz hw => hw.pick [] rfl)
            · replace hF18 := cneg hC21 hF18
              refine W.seqR fun Q22 hQ22 => ?_
              refine WL.q (Y.eql (.pl rfl) (.pl rfl)) rfl ?_
              refine WL.q (Y.assign (.pl rfl)) rfl ?_
              refine WL.next hQ22 (.cons (i := 1) rfl (.cons (i := 5) rfl (.cons (i := 28) rfl (.nil)))) ?_
              refine W.cond (.pl rfl) (fun hC23 => ?_) (fun hC23 => ?_)
              · replace hF18 := cpos hC23 hF18
                refine W.skip ?_
                exact W.joinAt1 hK19 (decide (kind1 = 8)) (Option.some.inj hF18) (.cons rfl (.nil)) (.cons (i := 1) rfl (.nil)) (fun wz hw => hw.pick [] rfl)
              · replace hF18 := cneg hC23 hF18
                refine W.reg ?_
                refine WL.q (Y.eql (.pl rfl) (.pl rfl)) rfl ?_
                refine WL.q (Y.assign (.pl rfl)) rfl ?_
                refine WL.nil ?_
                exact W.joinAt1 hK19 (decide (kind1 = 9)) (Option.some.inj hF18) (.cons rfl (.nil)) (.cons (i := 1) rfl (.nil)) (fun wz hw => hw.pick [] rfl)
          · -- behind
            rintro v5 rfl
            refine W.cond (.pl rfl) (fun hC25 => ?_) (fun hC25 => ?_)
            · replace hF := cpos hC25 hF
              refine W.seqR fun Q26 hQ26 => ?_
              refine WL.q (Y.move (.pl rfl)) rfl ?_
              refine WL.q (Y.eql (.pl rfl) (.pl rfl)) rfl ?_
              refine WL.q (Y.move (.pl rfl)) rfl ?_
              refine WL.g (.pl rfl rfl rfl) (fun hg => Y.move (.pl rfl)) rfl ?_
              refine WL.g (.pl rfl rfl rfl) (fun hg => Y.eql (.gd (hg) rfl) (.pl rfl)) rfl ?_
              refine WL.q (Y.or (.pl rfl) (fun h2 => .gd (eqf h2) rfl)) rfl ?_
              refine WL.q (Y.assign (.pl rfl)) rfl ?_
              refine WL.next hQ26 (.cons (i := 4) rfl (.nil)) ?_
              obtain rfl := Option.some.inj hF
              refine W.retV (fn := Try.f62) (vs := [.bool ((decide (n2 = 0)) || (decide (n2 = 1)))]) Try.results62 ⟨.tmp rfl, trivial⟩ (fun _ _ h => h) (fun wz hw => ?_)
              exact hR _ _ ⟨rfl, (hw.pick [] rfl)⟩
            · replace hF := cneg hC25 hF
              refine W.skip ?_
              refine W.go hK2 (.cons (i := 1) rfl (.nil)) ?_
              refine W.seqR fun Q27 hQ27 => ?_
              refine WL.q (Y.move (.pl rfl)) rfl ?_
              refine WL.q (Y.eql (.pl rfl) (.pl rfl)) rfl ?_
              refine WL.q (Y.assign (.pl rfl)) rfl ?_
              refine WL.next hQ27 (.cons (i := 4) rfl (.nil)) ?_
              obtain rfl := Option.some.inj hF
              refine W.retV (fn := Try.f62) (vs := [.bool (decide (n2 = 0))]) Try.results62 ⟨.tmp rfl, trivial⟩ (fun _ _ h => h) (fun wz hw => ?_)
              exact hR _ _ ⟨rfl, (hw.pick [] rfl)⟩

def history_reader_event (N : Nat) (types2 : (List Int)) (out8 : (List Call)) (open9 : (List Int)) (i10 : Int) (v11 : Event) : Option ((List Call) × (List Int) × Int) :=
  cond ((((decide (v11.who < 0)) || (decide (8 ≤ v11.who))) || (decide (v11.thing < 0))) || (decide (((types2).length : Int) ≤ v11.thing)))
    (some (out8, open9, 3))
    (bd (ax 8 0 open9 v11.who) fun (x13 : Int) =>
    cond (!(decide (v11.kind = 0)))
      (bd (ix types2 v11.thing) fun (x14 : Int) =>
      bd (history_Fits N x14 v11.kind) fun (r15 : Bool) =>
      bd ((cond ((!r15) == false) (history_Argument N v11.kind v11.value) (some false))) fun (r16 : Bool) =>
      cond ((!r15) || (!r16))
        (some (out8, open9, 3))
        (cond (decide (0 < x13))
          (some (out8, open9, 5))
          (ck (limB 56 ((out8).length + (([(Call.mk v11.who v11.thing v11.kind v11.value 0 i10 (-1))] : List Call)).length)) <|
          bd (ax 8 0 open9 v11.who) fun (x21 : Int) =>
          some ((out8 ++ ([(Call.mk v11.who v11.thing v11.kind v11.value 0 i10 (-1))] : List Call)), (setA 8 0 open9 v11.who (((out8 ++ ([(Call.mk v11.who v11.thing v11.kind v11.value 0 i10 (-1))] : List Call))).length : Int)), 0))))
      (cond (decide (x13 = 0))
        (some (out8, open9, 4))
        (ck (ok64 (x13 - 1)) <|
        bd (ix out8 (x13 - 1)) fun (x23 : Call) =>
        bd ((cond ((!(decide (x23.thing = v11.thing))) == false) (history_result N x23.kind v11.value) (some false))) fun (r24 : Bool) =>
        cond ((!(decide (x23.thing = v11.thing))) || (!r24))
          (some (out8, open9, 3))
          (bd (ax 8 0 open9 v11.who) fun (x25 : Int) =>
          some ((out8.set (x13 - 1).toNat (Call.mk x23.who x23.thing x23.kind x23.arg v11.value x23.from_ i10)), (setA 8 0 open9 v11.who 0), 0)))))

theorem history_reader_event_ok {N : Nat} {types2 : (List Int)} {out8 : (List Call)} {open9 : (List Int)} {i10 : Int} {v11 : Event} {b1 : Nat} {A3 : Option Addr} {c4 : Nat} {A6 : Option Addr} {c7 : Nat} {res : ((List Call) × (List Int) × Int)} (hF : history_reader_event N types2 out8 open9 i10 v11 = some res) {w0 w : World} {T : List Chunk} (hw : St w0.heap.size w0 ([cBx b1 88 (Value.slice A3 (types2).length c4 :: (Value.slice A6 (out8).length c7 :: (((encA 8 (eI .i64) 0) open9) ++ []))), cR encCall 7 A6 c7 129 out8] ++ T) w) (hs5 : SlIn (eI .i64) 1 w0 (.slice A3 (types2).length c4) types2) :
    Calls Try.prog 34 (List.toArray [.pointer (some ⟨b1, 0, none⟩), .int .i64 i10, .agg (encEvent v11).toArray]) w (fun e w' => ∃ g : (Option Addr × Nat), (True) ∧ e = .returned (.int .i64 res.2.2) ∧ St w0.heap.size w0 ([cBx b1 88 (Value.slice A3 (types2).length c4 :: (Value.slice g.1 (res.1).length g.2 :: (((encA 8 (eI .i64) 0) res.2.1) ++ []))), cR encCall 7 g.1 g.2 129 res.1] ++ T) w') := by
  refine W.enter (n := 137) Try.func34 rfl rfl Sub.refl (by simp) hw fun R hR => ?_
  unfold history_reader_event at hF
  refine W.seqR fun Q1 hQ1 => ?_
  refine WL.step (WO.boxA (.pl rfl) rfl fun b12 => ?_)
  refine WL.q (Y.assign (.pl rfl)) rfl ?_
  refine WL.next hQ1 (.cons (i := 0) rfl (.cons (i := 1) rfl (.cons (i := 5) rfl (.nil)))) ?_
  refine W.seq fun K2 hK2 => ?_
  refine W.seqD (by kernel_rfl) (by kernel_rfl) fun R3 hR3 => ?_
  refine WD.q (Y.fieldAddr0 (off := 0) (ft := 3) Try.underlying31 rfl cells3 (.pl rfl)) rfl ?_
  refine WD.q (Y.loadB (v := .int .i64 v11.who) Try.underlying3 rfl (.pl rfl) (i := 0) rfl (rfl)) rfl ?_
  refine WD.q (Y.lss (.pl rfl) (.pl rfl)) rfl ?_
  refine WD.q (Y.move (.pl rfl)) rfl ?_
  refine WD.g (.pl rfl rfl rfl) (fun hg => Y.fieldAddr0 (off := 0) (ft := 3) Try.underlying31 rfl cells3 (.pl rfl)) rfl ?_
  refine WD.g (.pl rfl rfl rfl) (fun hg => Y.loadB (v := .int .i64 v11.who) Try.underlying3 rfl (.gd (hg) rfl) (i := 0) rfl (rfl)) rfl ?_
  refine WD.g (.pl rfl rfl rfl) (fun hg => Y.geq (.gd (hg) rfl) (.pl rfl)) rfl ?_
  refine WD.q (Y.or (.pl rfl) (fun h2 => .gd (eqf h2) rfl)) rfl ?_
  refine WD.q (Y.move (.pl rfl)) rfl ?_
  refine WD.g (.pl rfl rfl rfl) (fun hg => Y.fieldAddr0 (off := 1) (ft := 3) Try.underlying31 rfl cells3 (.pl rfl)) rfl ?_
  refine WD.g (.pl rfl rfl rfl) (fun hg => Y.loadB (v := .int .i64 v11.thing) Try.underlying3 rfl (.gd (hg) rfl) (i := 0) rfl (rfl)) rfl ?_
  refine WD.g (.pl rfl rfl rfl) (fun hg => Y.lss (.gd (hg) rfl) (.pl rfl)) rfl ?_
  refine WD.q (Y.or (.pl rfl) (fun h2 => .gd (eqf h2) rfl)) rfl ?_
  refine WD.q (Y.move (.pl rfl)) rfl ?_
  refine WD.g (.pl rfl rfl rfl) (fun hg => Y.fieldAddr0 (off := 1) (ft := 3) Try.underlying31 rfl cells3 (.pl rfl)) rfl ?_
  refine WD.g (.pl rfl rfl rfl) (fun hg => Y.loadB (v := .int .i64 v11.thing) Try.underlying3 rfl (.gd (hg) rfl) (i := 0) rfl (rfl)) rfl ?_
  refine WD.g (.pl rfl rfl rfl) (fun hg => Y.move (.pl rfl)) rfl ?_
  refine WD.g (.pl rfl rfl rfl) (fun hg => Y.nilCheck (.gd (hg) rfl)) rfl ?_
  refine WD.g (.pl rfl rfl rfl) (fun hg => Y.fieldAddr0 (off := 0) (ft := 23) Try.underlying88 rfl cells23 (.gd (hg) rfl)) rfl ?_
  refine WD.g (.pl rfl rfl rfl) (fun hg => Y.loadB (v := .slice A3 (types2).length c4) Try.underlying23 rfl (.gd (hg) rfl) (i := 1) rfl (rfl)) rfl ?_
  refine WD.g (.pl rfl rfl rfl) (fun hg => Y.len Try.underlying23 (.gd (hg) rfl)) rfl ?_
  refine WD.g (.pl rfl rfl rfl) (fun hg => Y.geq (.gd (hg) rfl) (.gd (hg) rfl)) rfl ?_
  refine WD.q (Y.or (.pl rfl) (fun h2 => .gd (eqf h2) rfl)) rfl ?_
  refine WD.next hR3 (.cons (i := 0) rfl (.cons (i := 1) rfl (.cons (i := 5) rfl (.cons (i := 31) rfl (.nil))))) ?_
  refine W.cond (.pl rfl) (fun hC4 => ?_) (fun hC4 => ?_)
  · replace hF := cpos hC4 hF
    refine W.seqR fun Q5 hQ5 => ?_
    refine WL.q (Y.assign (.pl rfl)) rfl ?_
    refine WL.next hQ5 (.cons (i := 6) rfl (.nil)) ?_
    obtain rfl := Option.some.inj hF
    refine W.retV (fn := Try.f34) (vs := [.int .i64 3]) Try.results34 ⟨.tmp rfl, trivial⟩ (fun _ _ h => h) (fun wz hw => ?_)
    exact hR _ _ ⟨(A6, c7), trivial, rfl, (hw.pickK 3 [1, 2] rfl)⟩
  · replace hF := cneg hC4 hF
    refine W.skip ?_
    refine W.go hK2 (.cons (i := 0) rfl (.cons (i := 1) rfl (.cons (i := 5) rfl (.nil)))) ?_
    refine W.seqD (by kernel_rfl) (by kernel_rfl) fun R6 hR6 => ?_
    refine WD.q (Y.move (.pl rfl)) rfl ?_
    refine WD.q (Y.fieldAddr0 (off := 0) (ft := 3) Try.underlying31 rfl cells3 (.pl rfl)) rfl ?_
    refine WD.q (Y.loadB (v := .int .i64 v11.who) Try.underlying3 rfl (.pl rfl) (i := 0) rfl (rfl)) rfl ?_
    refine WD.q (Y.nilCheck (.pl rfl)) rfl ?_
    refine WD.q (Y.fieldAddr0 (off := 2) (ft := 86) Try.underlying88 rfl cells86 (.pl rfl)) rfl ?_
    obtain ⟨x13, hx13, hF⟩ := bnd hF
    refine WD.q (Y.arrZ Try.underlying86 cells3 (.pl rfl) (.pl rfl) (ax_lt (hx13))) rfl ?_
    refine WD.q (Y.loadB (v := .int .i64 x13) Try.underlying3 rfl (.pl rfl) (i := 1) rfl (cellsA (pre := (Value.slice A3 (types2).length c4 :: (Value.slice A6 (out8).length c7 :: []))) (off := 2) (post := []) (a := open9) (enc := (eI .i64)) (d := 0) (n := 8) (sz := 1) (j := 0) (fun _ => rfl) rfl (ax_nat (hx13)) (ax_get (hx13)) rfl)) rfl ?_
    refine WD.q (Y.assign (.pl rfl)) rfl ?_
    refine WD.next hR6 (.cons (i := 0) rfl (.cons (i := 1) rfl (.cons (i := 5) rfl (.cons (i := 7) rfl (.nil))))) ?_
    refine W.seq fun K7 hK7 => ?_
    refine W.seqR fun Q8 hQ8 => ?_
    refine WL.q (Y.fieldAddr0 (off := 2) (ft := 3) Try.underlying31 rfl cells3 (.pl rfl)) rfl ?_
    refine WL.q (Y.loadB (v := .int .i64 v11.kind) Try.underlying3 rfl (.pl rfl) (i := 0) rfl (rfl)) rfl ?_
    refine WL.q (Y.neq (.pl rfl) (.pl rfl)) rfl ?_
    refine WL.next hQ8 (.cons (i := 0) rfl (.cons (i := 1) rfl (.cons (i := 5) rfl (.cons (i := 7) rfl (.cons (i := 41) rfl (.nil)))))) ?_
    refine W.cond (.pl rfl) (fun hC9 => ?_) (fun hC9 => ?_)
    · replace hF := cpos hC9 hF
      refine W.seq fun K10 hK10 => ?_
      refine W.block ?_
      refine W.seqD (by kernel_rfl) (by kernel_rfl) fun R11 hR11 => ?_
      refine WD.q (Y.move (.pl rfl)) rfl ?_
      refine WD.q (Y.nilCheck (.pl rfl)) rfl ?_
      refine WD.q (Y.fieldAddr0 (off := 0) (ft := 23) Try.underlying88 rfl cells23 (.pl rfl)) rfl ?_
      refine WD.q (Y.loadB (v := .slice A3 (types2).length c4) Try.underlying23 rfl (.pl rfl) (i := 1) rfl (rfl)) rfl ?_
      refine WD.q (Y.fieldAddr0 (off := 1) (ft := 3) Try.underlying31 rfl cells3 (.pl rfl)) rfl ?_
      refine WD.q (Y.loadB (v := .int .i64 v11.thing) Try.underlying3 rfl (.pl rfl) (i := 0) rfl (rfl)) rfl ?_
      obtain ⟨x14, hx14, hF⟩ := bnd hF
      refine WD.q (Y.slEl Try.underlying23 cells3 hs5 (.pl rfl) (.pl rfl) (ix_lt (hx14))) rfl ?_
      refine WD.q (Y.loadS (enc := (eI .i64)) (v := .int .i64 x14) (j := 0) Try.underlying3 rfl hs5 (.pl rfl) (hx14) rfl rfl) rfl ?_
      refine WD.q (Y.fieldAddr0 (off := 2) (ft := 3) Try.underlying31 rfl cells3 (.pl rfl)) rfl ?_
      refine WD.q (Y.loadB (v := .int .i64 v11.kind) Try.underlying3 rfl (.pl rfl) (i := 0) rfl (rfl)) rfl ?_
      obtain ⟨r15, hr15, hF⟩ := bnd hF
      refine WD.callP isGo44 (.cons (.pl rfl) (.cons (.pl rfl) (.nil))) rfl (fun wz hw => history_Fits_ok (hr15) wz ) ?_
      refine WD.q (Y.not (.pl rfl)) rfl ?_
      refine WD.q (Y.move (.pl rfl)) rfl ?_
      refine WD.g (.pl rfl rfl rfl) (fun hg => Y.fieldAddr0 (off := 2) (ft := 3) Try.underlying31 rfl cells3 (.pl rfl)) rfl ?_
      refine WD.g (.pl rfl rfl rfl) (fun hg => Y.loadB (v := .int .i64 v11.kind) Try.underlying3 rfl (.gd (hg) rfl) (i := 0) rfl (rfl)) rfl ?_
      refine WD.g (.pl rfl rfl rfl) (fun hg => Y.fieldAddr0 (off := 3) (ft := 3) Try.underlying31 rfl cells3 (.pl rfl)) rfl ?_
      refine WD.g (.pl rfl rfl rfl) (fun hg => Y.loadB (v := .int .i64 v11.value) Try.underlying3 rfl (.gd (hg) rfl) (i := 0) rfl (rfl)) rfl ?_
      obtain ⟨r16, hr16, hF⟩ := bnd hF
      refine WD.gP (.pl rfl rfl rfl) isGo45 (fun hg => (.cons (.gd (hg) rfl) (.cons (.gd (hg) rfl) (.nil)))) rfl (fun hg wz hw => history_Argument_ok (gpos hg hr16) wz ) ?_
      refine WD.g (.pl rfl rfl rfl) (fun hg => Y.not (.gd (hg) rfl)) rfl ?_
      refine WD.q (Y.or (.pl rfl) (fun h2 => .gd (eqf h2) rfl)) rfl ?_
      refine WD.q (Y.assign (.pl rfl)) rfl ?_
      refine WD.next hR11 (.cons (i := 0) rfl (.cons (i := 1) rfl (.cons (i := 5) rfl (.cons (i := 7) rfl (.cons (i := 42) rfl (.nil)))))) ?_
      refine W.cond (.pl rfl) (fun hC12 => ?_) (fun hC12 => ?_)
      · replace hF := cpos hC12 hF
        refine W.seqR fun Q13 hQ13 => ?_
        refine WL.q (Y.assign (.pl rfl)) rfl ?_
        refine WL.next hQ13 (.cons (i := 6) rfl (.nil)) ?_
        obtain rfl := Option.some.inj hF
        refine W.retV (fn := Try.f34) (vs := [.int .i64 3]) Try.results34 ⟨.tmp rfl, trivial⟩ (fun _ _ h => h) (fun wz hw => ?_)
        exact hR _ _ ⟨(A6, c7), trivial, rfl, (hw.pickK 3 [1, 2] rfl)⟩
      · replace hF := cneg hC12 hF
        refine W.seqR fun Q14 hQ14 => ?_
        refine WL.q (Y.move (.pl rfl)) rfl ?_
        refine WL.q (Y.gtr (.pl rfl) (.pl rfl)) rfl ?_
        refine WL.q (Y.assign (.pl rfl)) rfl ?_
        refine WL.next hQ14 (.cons (i := 0) rfl (.cons (i := 1) rfl (.cons (i := 5) rfl (.cons (i := 63) rfl (.nil))))) ?_
        refine W.cond (.pl rfl) (fun hC15 => ?_) (fun hC15 => ?_)
        · replace hF := cpos hC15 hF
          refine W.seqR fun Q16 hQ16 => ?_
          refine WL.q (Y.assign (.pl rfl)) rfl ?_
          refine WL.next hQ16 (.cons (i := 6) rfl (.nil)) ?_
          obtain rfl := Option.some.inj hF
          refine W.retV (fn := Try.f34) (vs := [.int .i64 5]) Try.results34 ⟨.tmp rfl, trivial⟩ (fun _ _ h => h) (fun wz hw => ?_)
          exact hR _ _ ⟨(A6, c7), trivial, rfl, (hw.pickK 3 [1, 2] rfl)⟩
        · replace hF := cneg hC15 hF
          refine W.skip ?_
          refine W.go hK10 (.cons (i := 0) rfl (.cons (i := 1) rfl (.cons (i := 5) rfl (.nil)))) ?_
          refine W.seqX 16 (by kernel_rfl) fun K17 hK17 => ?_
          refine WX.pure 0 #[true, false, false, false, false, false, false, false, false, false, false, false, false, false, false, false, false, false, false, false] rfl (by kernel_rfl) (fun _ _ => Y.move (.pl rfl)) rfl ?_
          refine WX.pure 1 #[true, true, false, false, false, false, false, false, false, false, false, false, false, false, false, false, false, false, false, false] rfl (by kernel_rfl) (fun _ _ => Y.move (.pl rfl)) rfl ?_
          refine WX.pure 2 #[true, true, true, false, false, false, false, false, false, false, false, false, false, false, false, false, false, false, false, false] rfl (by kernel_rfl) (fun _ _ => Y.nilCheck (.pl rfl)) rfl ?_
          refine WX.pure 3 #[true, true, true, true, false, false, false, false, false, false, false, false, false, false, false, false, false, false, false, false] rfl (by kernel_rfl) (fun _ _ => Y.fieldAddr0 (off := 1) (ft := 35) Try.underlying88 rfl cells35 (.pl rfl)) rfl ?_
          refine WX.take 4 #[true, true, true, true, true, false, false, false, false, false, false, false, false, false, false, false, false, false, false, false] (fun wz hw => St.tail [] hw) rfl (by kernel_rfl) (Y.loadB (v := .slice A6 (out8).length c7) Try.underlying35 rfl (.pl rfl) (i := 1) rfl (rfl)) rfl ?_
          refine WX.pure 5 #[true, true, true, true, true, true, false, false, false, false, false, false, false, false, false, false, false, false, false, false] rfl (by kernel_rfl) (fun _ _ => Y.fieldAddr0 (off := 0) (ft := 3) Try.underlying31 rfl cells3 (.pl rfl)) rfl ?_
          refine WX.take 6 #[true, true, true, true, true, true, true, false, false, false, false, false, false, false, false, false, false, false, false, false] (fun wz hw => St.tail [] hw) rfl (by kernel_rfl) (Y.loadB (v := .int .i64 v11.who) Try.underlying3 rfl (.pl rfl) (i := 0) rfl (rfl)) rfl ?_
          refine WX.pure 7 #[true, true, true, true, true, true, true, true, false, false, false, false, false, false, false, false, false, false, false, false] rfl (by kernel_rfl) (fun _ _ => Y.fieldAddr0 (off := 1) (ft := 3) Try.underlying31 rfl cells3 (.pl rfl)) rfl ?_
          refine WX.take 8 #[true, true, true, true, true, true, true, true, true, false, false, false, false, false, false, false, false, false, false, false] (fun wz hw => St.tail [] hw) rfl (by kernel_rfl) (Y.loadB (v := .int .i64 v11.thing) Try.underlying3 rfl (.pl rfl) (i := 0) rfl (rfl)) rfl ?_
          refine WX.pure 9 #[true, true, true, true, true, true, true, true, true, true, false, false, false, false, false, false, false, false, false, false] rfl (by kernel_rfl) (fun _ _ => Y.fieldAddr0 (off := 2) (ft := 3) Try.underlying31 rfl cells3 (.pl rfl)) rfl ?_
          refine WX.take 10 #[true, true, true, true, true, true, true, true, true, true, true, false, false, false, false, false, false, false, false, false] (fun wz hw => St.tail [] hw) rfl (by kernel_rfl) (Y.loadB (v := .int .i64 v11.kind) Try.underlying3 rfl (.pl rfl) (i := 0) rfl (rfl)) rfl ?_
          refine WX.pure 11 #[true, true, true, true, true, true, true, true, true, true, true, true, false, false, false, false, false, false, false, false] rfl (by kernel_rfl) (fun _ _ => Y.fieldAddr0 (off := 3) (ft := 3) Try.underlying31 rfl cells3 (.pl rfl)) rfl ?_
          refine WX.take 12 #[true, true, true, true, true, true, true, true, true, true, true, true, true, false, false, false, false, false, false, false] (fun wz hw => St.tail [] hw) rfl (by kernel_rfl) (Y.loadB (v := .int .i64 v11.value) Try.underlying3 rfl (.pl rfl) (i := 0) rfl (rfl)) rfl ?_
          refine WX.pure 13 #[true, true, true, true, true, true, true, true, true, true, true, true, true, true, false, false, false, false, false, false] rfl (by kernel_rfl) (fun _ _ => Y.move (.pl rfl)) rfl ?_
          refine WX.pure 14 #[true, true, true, true, true, true, true, true, true, true, true, true, true, true, true, false, false, false, false, false] rfl (by kernel_rfl) (fun _ _ => Y.build (cs := (encCall (Call.mk v11.who v11.thing v11.kind v11.value 0 i10 (-1))).toArray) shape129 (.cons (.pl rfl) (.cons (.pl rfl) (.cons (.pl rfl) (.cons (.pl rfl) (.cons (.pl rfl) (.cons (.pl rfl) (.nil))))))) (one_parts ⟨rfl, ⟨rfl, ⟨rfl, ⟨rfl, ⟨rfl, ⟨rfl, trivial⟩⟩⟩⟩⟩⟩) rfl) rfl ?_
          refine WX.one 15 #[true, true, true, true, true, true, true, true, true, true, true, true, true, true, true, true, false, false, false, false] (fun wz hw => St.tail [] hw) rfl (by kernel_rfl) (WO.bsliceC (enc := encCall) (ys := ([(Call.mk v11.who v11.thing v11.kind v11.value 0 i10 (-1))] : List Call)) Try.underlying35 bz129 (.cons (.pl rfl) (.nil)) rfl lenCall rfl rfl (by decide) (by decide) rfl fun b17 => ?_)
          obtain ⟨hk20, hF⟩ := ckh hF
          refine WX.stop #[true, true, true, true, true, true, true, true, true, true, true, true, true, true, true, true, true, false, false, false] (fun wz hw => St.tail [_] hw) rfl (by kernel_rfl) (WO.appendC (enc := encCall) Try.underlying35 ap129 lenCall oneCall (.pl rfl) rfl (.pl rfl) (i := 3) rfl (m2 := 0) rfl (hk20) rfl fun A18 c19 => ?_)
          refine WA.take 17 #[true, true, true, true, true, true, true, true, true, true, true, true, true, true, true, true, true, true, false, false] rfl (by kernel_rfl) (fun _ _ => Y.nilCheck (.pl rfl)) rfl ?_
          refine WA.take 18 #[true, true, true, true, true, true, true, true, true, true, true, true, true, true, true, true, true, true, true, false] rfl (by kernel_rfl) (fun _ _ => Y.fieldAddr0 (off := 1) (ft := 35) Try.underlying88 rfl cells35 (.pl rfl)) rfl ?_
          refine WA.branch [19] (by kernel_rfl) ⟨?_, trivial⟩
          refine WI.step #[true, true, true, true, true, true, true, true, true, true, true, true, true, true, true, true, true, true, true, true] rfl rfl (WO.storeB (cs' := (Value.slice A3 (types2).length c4 :: (Value.slice A18 ((out8 ++ ([(Call.mk v11.who v11.thing v11.kind v11.value 0 i10 (-1))] : List Call))).length c19 :: (((encA 8 (eI .i64) 0) open9) ++ [])))) cells35 (.pl rfl) (.pl rfl) rfl (i := 2) rfl (ltl (m := 10) (by decide) rfl) (rfl) ?_)
          refine WA.done (by kernel_rfl) ?_
          refine KK.next hK17 (.cons (i := 0) rfl (.cons (i := 5) rfl (.nil))) ?_
          refine W.seqT 11 (by kernel_rfl) (by kernel_rfl) fun Q18 hQ18 => ?_
          refine WS.q (Y.move (.pl rfl)) rfl ?_
          refine WS.q (Y.fieldAddr0 (off := 0) (ft := 3) Try.underlying31 rfl cells3 (.pl rfl)) rfl ?_
          refine WS.q (Y.loadB (v := .int .i64 v11.who) Try.underlying3 rfl (.pl rfl) (i := 1) rfl (rfl)) rfl ?_
          refine WS.q (Y.move (.pl rfl)) rfl ?_
          refine WS.q (Y.nilCheck (.pl rfl)) rfl ?_
          refine WS.q (Y.fieldAddr0 (off := 1) (ft := 35) Try.underlying88 rfl cells35 (.pl rfl)) rfl ?_
          refine WS.q (Y.loadB (v := .slice A18 ((out8 ++ ([(Call.mk v11.who v11.thing v11.kind v11.value 0 i10 (-1))] : List Call))).length c19) Try.underlying35 rfl (.pl rfl) (i := 2) rfl (rfl)) rfl ?_
          refine WS.q (Y.len Try.underlying35 (.pl rfl)) rfl ?_
          refine WS.q (Y.nilCheck (.pl rfl)) rfl ?_
          refine WS.q (Y.fieldAddr0 (off := 2) (ft := 86) Try.underlying88 rfl cells86 (.pl rfl)) rfl ?_
          obtain ⟨x21, hx21, hF⟩ := bnd hF
          refine WS.q (Y.arrZ Try.underlying86 cells3 (.pl rfl) (.pl rfl) (ax_lt (hx21))) rfl ?_
          refine WS.tail ?_
          refine WL.step (WO.storeB (cs' := (Value.slice A3 (types2).length c4 :: (Value.slice A18 ((out8 ++ ([(Call.mk v11.who v11.thing v11.kind v11.value 0 i10 (-1))] : List Call))).length c19 :: (((encA 8 (eI .i64) 0) (setA 8 0 open9 v11.who (((out8 ++ ([(Call.mk v11.who v11.thing v11.kind v11.value 0 i10 (-1))] : List Call))).length : Int))) ++ [])))) cells3 (.pl rfl) (.pl rfl) rfl (i := 2) rfl (ltl (m := 10) (offlt (off := 2) (sz := 1) (j := 0) (ax_nat (hx21)) (by decide)) rfl) (cellsSet (pre := (Value.slice A3 (types2).length c4 :: (Value.slice A18 ((out8 ++ ([(Call.mk v11.who v11.thing v11.kind v11.value 0 i10 (-1))] : List Call))).length c19 :: []))) (off := 2) (post := []) (a := open9) (enc := (eI .i64)) (d := 0) (n := 8) (sz := 1) (j := 0) (x := x21) (x' := (((out8 ++ ([(Call.mk v11.who v11.thing v11.kind v11.value 0 i10 (-1))] : List Call))).length : Int)) (fun _ => rfl) rfl (ax_lt (hx21)) (ax_get (hx21)) (by decide) rfl rfl) ?_)
          refine WL.next hQ18 (.nil) ?_
          refine W.seqR fun Q19 hQ19 => ?_
          refine WL.q (Y.assign (.pl rfl)) rfl ?_
          refine WL.next hQ19 (.cons (i := 6) rfl (.nil)) ?_
          obtain rfl := Option.some.inj hF
          refine W.retV (fn := Try.f34) (vs := [.int .i64 0]) Try.results34 ⟨.tmp rfl, trivial⟩ (fun _ _ h => h) (fun wz hw => ?_)
          exact hR _ _ ⟨(A18, c19), trivial, rfl, (hw.pickK 4 [2, 3] rfl)⟩
    · replace hF := cneg hC9 hF
      refine W.skip ?_
      refine W.go hK7 (.cons (i := 0) rfl (.cons (i := 1) rfl (.cons (i := 5) rfl (.cons (i := 7) rfl (.nil))))) ?_
      refine W.seq fun K20 hK20 => ?_
      refine W.seqR fun Q21 hQ21 => ?_
      refine WL.q (Y.move (.pl rfl)) rfl ?_
      refine WL.q (Y.eql (.pl rfl) (.pl rfl)) rfl ?_
      refine WL.next hQ21 (.cons (i := 0) rfl (.cons (i := 1) rfl (.cons (i := 5) rfl (.cons (i := 7) rfl (.cons (i := 97) rfl (.nil)))))) ?_
      refine W.cond (.pl rfl) (fun hC22 => ?_) (fun hC22 => ?_)
      · replace hF := cpos hC22 hF
        refine W.seqR fun Q23 hQ23 => ?_
        refine WL.q (Y.assign (.pl rfl)) rfl ?_
        refine WL.next hQ23 (.cons (i := 6) rfl (.nil)) ?_
        obtain rfl := Option.some.inj hF
        refine W.retV (fn := Try.f34) (vs := [.int .i64 4]) Try.results34 ⟨.tmp rfl, trivial⟩ (fun _ _ h => h) (fun wz hw => ?_)
        exact hR _ _ ⟨(A6, c7), trivial, rfl, (hw.pickK 3 [1, 2] rfl)⟩
      · replace hF := cneg hC22 hF
        refine W.skip ?_
        refine W.go hK20 (.cons (i := 0) rfl (.cons (i := 1) rfl (.cons (i := 5) rfl (.cons (i := 7) rfl (.nil))))) ?_
        refine W.seqR fun Q24 hQ24 => ?_
        refine WL.q (Y.move (.pl rfl)) rfl ?_
        refine WL.q (Y.nilCheck (.pl rfl)) rfl ?_
        refine WL.q (Y.fieldAddr0 (off := 1) (ft := 35) Try.underlying88 rfl cells35 (.pl rfl)) rfl ?_
        refine WL.q (Y.loadB (v := .slice A6 (out8).length c7) Try.underlying35 rfl (.pl rfl) (i := 1) rfl (rfl)) rfl ?_
        refine WL.q (Y.move (.pl rfl)) rfl ?_
        obtain ⟨hk22, hF⟩ := ckh hF
        refine WL.q (Y.sub (.pl rfl) (.pl rfl) (ok64_lt (hk22))) rfl ?_
        obtain ⟨x23, hx23, hF⟩ := bnd hF
        refine WL.q (Y.rowEl Try.underlying35 cells129 (i := 2) rfl (.pl rfl) rfl (.pl rfl) (ix_lt (hx23))) rfl ?_
        refine WL.q (Y.assign (.pl rfl)) rfl ?_
        refine WL.next hQ24 (.cons (i := 0) rfl (.cons (i := 1) rfl (.cons (i := 5) rfl (.cons (i := 8) rfl (.nil))))) ?_
        refine W.seq fun K25 hK25 => ?_
        refine W.seqD (by kernel_rfl) (by kernel_rfl) fun R26 hR26 => ?_
        refine WD.q (Y.move (.pl rfl)) rfl ?_
        refine WD.q (Y.nilCheck (.pl rfl)) rfl ?_
        refine WD.q (Y.rowField (off := 1) (ft := 3) Try.underlying129 rfl cells3 (i' := 2) rfl (ix_lt (hx23)) (.pl rfl)) rfl ?_
        refine WD.q (Y.loadR (enc := encCall) (v := .int .i64 x23.thing) (a := x23) (idx := (x13 - 1)) (j := 1) Try.underlying3 rfl lenCall (i := 2) rfl (.pl rfl) (ix_get (hx23)) rfl rfl) rfl ?_
        refine WD.q (Y.fieldAddr0 (off := 1) (ft := 3) Try.underlying31 rfl cells3 (.pl rfl)) rfl ?_
        refine WD.q (Y.loadB (v := .int .i64 v11.thing) Try.underlying3 rfl (.pl rfl) (i := 0) rfl (rfl)) rfl ?_
        refine WD.q (Y.neq (.pl rfl) (.pl rfl)) rfl ?_
        refine WD.q (Y.move (.pl rfl)) rfl ?_
        refine WD.g (.pl rfl rfl rfl) (fun hg => Y.move (.pl rfl)) rfl ?_
        refine WD.g (.pl rfl rfl rfl) (fun hg => Y.nilCheck (.gd (hg) rfl)) rfl ?_
        refine WD.g (.pl rfl rfl rfl) (fun hg => Y.rowField (off := 2) (ft := 3) Try.underlying129 rfl cells3 (i' := 2) rfl (ix_lt (hx23)) (.gd (hg) rfl)) rfl ?_
        refine WD.g (.pl rfl rfl rfl) (fun hg => Y.loadR (enc := encCall) (v := .int .i64 x23.kind) (a := x23) (idx := (x13 - 1)) (j := 2) Try.underlying3 rfl lenCall (i := 2) rfl (.gd (hg) rfl) (ix_get (hx23)) rfl rfl) rfl ?_
        refine WD.g (.pl rfl rfl rfl) (fun hg => Y.fieldAddr0 (off := 3) (ft := 3) Try.underlying31 rfl cells3 (.pl rfl)) rfl ?_
        refine WD.g (.pl rfl rfl rfl) (fun hg => Y.loadB (v := .int .i64 v11.value) Try.underlying3 rfl (.gd (hg) rfl) (i := 0) rfl (rfl)) rfl ?_
        obtain ⟨r24, hr24, hF⟩ := bnd hF
        refine WD.gP (.pl rfl rfl rfl) isGo62 (fun hg => (.cons (.gd (hg) rfl) (.cons (.gd (hg) rfl) (.nil)))) rfl (fun hg wz hw => history_result_ok (gpos hg hr24) wz ) ?_
        refine WD.g (.pl rfl rfl rfl) (fun hg => Y.not (.gd (hg) rfl)) rfl ?_
        refine WD.q (Y.or (.pl rfl) (fun h2 => .gd (eqf h2) rfl)) rfl ?_
        refine WD.next hR26 (.cons (i := 0) rfl (.cons (i := 1) rfl (.cons (i := 5) rfl (.cons (i := 8) rfl (.cons (i := 121) rfl (.nil)))))) ?_
        refine W.cond (.pl rfl) (fun hC27 => ?_) (fun hC27 => ?_)
        · replace hF := cpos hC27 hF
          refine W.seqR fun Q28 hQ28 => ?_
          refine WL.q (Y.assign (.pl rfl)) rfl ?_
          refine WL.next hQ28 (.cons (i := 6) rfl (.nil)) ?_
          obtain rfl := Option.some.inj hF
          refine W.retV (fn := Try.f34) (vs := [.int .i64 3]) Try.results34 ⟨.tmp rfl, trivial⟩ (fun _ _ h => h) (fun wz hw => ?_)
          exact hR _ _ ⟨(A6, c7), trivial, rfl, (hw.pickK 3 [1, 2] rfl)⟩
        · replace hF := cneg hC27 hF
          refine W.skip ?_
          refine W.go hK25 (.cons (i := 0) rfl (.cons (i := 1) rfl (.cons (i := 5) rfl (.cons (i := 8) rfl (.nil))))) ?_
          refine W.seqR fun Q29 hQ29 => ?_
          refine WL.q (Y.move (.pl rfl)) rfl ?_
          refine WL.q (Y.move (.pl rfl)) rfl ?_
          refine WL.q (Y.fieldAddr0 (off := 3) (ft := 3) Try.underlying31 rfl cells3 (.pl rfl)) rfl ?_
          refine WL.q (Y.loadB (v := .int .i64 v11.value) Try.underlying3 rfl (.pl rfl) (i := 0) rfl (rfl)) rfl ?_
          refine WL.q (Y.move (.pl rfl)) rfl ?_
          refine WL.q (Y.nilCheck (.pl rfl)) rfl ?_
          refine WL.q (Y.rowField (off := 4) (ft := 3) Try.underlying129 rfl cells3 (i' := 2) rfl (ix_lt (hx23)) (.pl rfl)) rfl ?_
          refine WL.step (WO.storeS (enc := encCall) (a := x23) (a' := (Call.mk x23.who x23.thing x23.kind x23.arg v11.value x23.from_ x23.to_)) (idx := (x13 - 1)) (j := 4) cells3 (.pl rfl) (.pl rfl) rfl lenCall (i := 2) rfl (ix_get (hx23)) rfl (by decide) rfl ?_)
          refine WL.q (Y.nilCheck (.pl rfl)) rfl ?_
          refine WL.q (Y.rowField (off := 6) (ft := 3) Try.underlying129 rfl cells3 (i' := 2) rfl (⟨(ix_lt (hx23)).1, by simpa only [List.length_set] using (ix_lt (hx23)).2⟩) (.pl rfl)) rfl ?_
          refine WL.step (WO.storeFS (enc := encCall) (a := (Call.mk x23.who x23.thing x23.kind x23.arg v11.value x23.from_ x23.to_)) (a' := (Call.mk x23.who x23.thing x23.kind x23.arg v11.value x23.from_ i10)) (idx := (x13 - 1)) (j := 6) cells3 (.pl rfl) (.pl rfl) rfl lenCall (i := 2) rfl (ix_lt (hx23)) rfl (by decide) rfl ?_)
          refine WL.next hQ29 (.cons (i := 0) rfl (.cons (i := 5) rfl (.nil))) ?_
          refine W.seqT 6 (by kernel_rfl) (by kernel_rfl) fun Q30 hQ30 => ?_
          refine WS.q (Y.move (.pl rfl)) rfl ?_
          refine WS.q (Y.fieldAddr0 (off := 0) (ft := 3) Try.underlying31 rfl cells3 (.pl rfl)) rfl ?_
          refine WS.q (Y.loadB (v := .int .i64 v11.who) Try.underlying3 rfl (.pl rfl) (i := 0) rfl (rfl)) rfl ?_
          refine WS.q (Y.nilCheck (.pl rfl)) rfl ?_
          refine WS.q (Y.fieldAddr0 (off := 2) (ft := 86) Try.underlying88 rfl cells86 (.pl rfl)) rfl ?_
          obtain ⟨x25, hx25, hF⟩ := bnd hF
          refine WS.q (Y.arrZ Try.underlying86 cells3 (.pl rfl) (.pl rfl) (ax_lt (hx25))) rfl ?_
          refine WS.tail ?_
          refine WL.step (WO.storeB (cs' := (Value.slice A3 (types2).length c4 :: (Value.slice A6 (out8).length c7 :: (((encA 8 (eI .i64) 0) (setA 8 0 open9 v11.who 0)) ++ [])))) cells3 (.pl rfl) (.pl rfl) rfl (i := 1) rfl (ltl (m := 10) (offlt (off := 2) (sz := 1) (j := 0) (ax_nat (hx25)) (by decide)) rfl) (cellsSet (pre := (Value.slice A3 (types2).length c4 :: (Value.slice A6 (out8).length c7 :: []))) (off := 2) (post := []) (a := open9) (enc := (eI .i64)) (d := 0) (n := 8) (sz := 1) (j := 0) (x := x25) (x' := 0) (fun _ => rfl) rfl (ax_lt (hx25)) (ax_get (hx25)) (by decide) rfl rfl) ?_)
          refine WL.next hQ30 (.nil) ?_
          refine W.seqR fun Q31 hQ31 => ?_
          refine WL.q (Y.assign (.pl rfl)) rfl ?_
          refine WL.next hQ31 (.cons (i := 6) rfl (.nil)) ?_
          obtain rfl := Option.some.inj hF
          refine W.retV (fn := Try.f34) (vs := [.int .i64 0]) Try.results34 ⟨.tmp rfl, trivial⟩ (fun _ _ h => h) (fun wz hw => ?_)
          exact hR _ _ ⟨(A6, c7), trivial, rfl, (St.cong (L := ([cBx b1 88 (Value.slice A3 (types2).length c4 :: (Value.slice A6 (out8).length c7 :: (((encA 8 (eI .i64) 0) (setA 8 0 open9 v11.who 0)) ++ []))), cR encCall 7 A6 c7 129 (out8.set (x13 - 1).toNat (Call.mk x23.who x23.thing x23.kind x23.arg v11.value x23.from_ i10))] ++ T)) (hw.pickK 3 [1, 2] rfl) (by simp only [List.length_set, List.nil_append, List.cons_append]))⟩

def history_Calls_L3 (N : Nat) (l6 : (List Event)) (types1 : (List Int)) : ((List Call) × (List Int) × Int) → Option (((List Call) × (List Int) × Int) ⊕ (((List Call) × (List Int)) ⊕ ((List Call) × Int × Int)))
  | (out19, open20, v21) =>
    cond (decide (v21 < ((l6).length : Int)))
      (bd (ix l6 v21) fun (x22 : Event) =>
      bd (history_reader_event N types1 out19 open20 v21 x22) fun (r24 : ((List Call) × (List Int) × Int)) =>
      cond (!(decide (r24.2.2 = 0)))
        (some (.inr (.inr ([], v21, r24.2.2))))
        (ck (ok64 (v21 + 1)) <|
        some (.inl (r24.1, r24.2.1, (v21 + 1)))))
      (some (.inr (.inl (out19, open20))))

def history_Calls (N : Nat) (types1 : (List Int)) (l6 : (List Event)) : Option ((List Call) × Int × Int) :=
  bd (history_Types N types1) fun (r11 : Int) =>
  cond (!(decide (r11 = 0)))
    (some ([], 0, r11))
    (cond (decide (200 < ((l6).length : Int)))
      (some ([], 0, 2))
      (bd (α := (((List Call) × (List Int)) ⊕ ((List Call) × Int × Int))) (iter (history_Calls_L3 N l6 types1) N ([], [], 0)) <|
      Sum.elim (fun (out15, open16) => 
        some (out15, 0, 0)) (fun p => some p)))

theorem history_Calls_ok {N : Nat} {types1 : (List Int)} {l6 : (List Event)} {res : ((List Call) × Int × Int)} (hF : history_Calls N types1 l6 = some res) (w : World) {v5 : Value} (hs4 : SlIn (eI .i64) 1 w v5 types1) {v10 : Value} (hs9 : SlIn encEvent 4 w v10 l6) :
    Made Try.prog 14 [v5, v10] w (fun g : (Option Addr × Nat) => .tuple #[.slice g.1 (res.1).length g.2, .int .i64 res.2.1, .int .i64 res.2.2]) (fun g => [cR encCall 7 g.1 g.2 129 res.1]) (fun g => True) := by
  obtain ⟨A2, c3, rfl, hcc3, hs4⟩ := hs4.form
  obtain ⟨A7, c8, rfl, hcc8, hs9⟩ := hs9.form
  refine W.enter (n := 43) Try.func14 rfl rfl Sub.refl (by simp) (St.start w) fun R hR => ?_
  unfold history_Calls at hF
  refine W.seqR fun Q1 hQ1 => ?_
  refine WL.q (Y.assign (.pl rfl)) rfl ?_
  refine WL.q (Y.assign (.pl rfl)) rfl ?_
  refine WL.q (Y.assign (.pl rfl)) rfl ?_
  refine WL.next hQ1 (.cons (i := 0) rfl (.cons (i := 1) rfl (.nil))) ?_
  refine W.seq fun K2 hK2 => ?_
  refine W.seqR fun Q3 hQ3 => ?_
  refine WL.q (Y.move (.pl rfl)) rfl ?_
  obtain ⟨r11, hr11, hF⟩ := bnd hF
  refine WL.step (WO.callP isGo33 (.cons (.pl rfl) (.nil)) rfl (fun wz hw => history_Types_ok (hr11) wz (hs4.mono hw)) ?_)
  refine WL.q (Y.assign (.pl rfl)) rfl ?_
  refine WL.next hQ3 (.cons (i := 0) rfl (.cons (i := 1) rfl (.cons (i := 7) rfl (.nil)))) ?_
  refine W.seqR fun Q4 hQ4 => ?_
  refine WL.q (Y.move (.pl rfl)) rfl ?_
  refine WL.q (Y.neq (.pl rfl) (.pl rfl)) rfl ?_
  refine WL.next hQ4 (.cons (i := 0) rfl (.cons (i := 1) rfl (.cons (i := 7) rfl (.cons (i := 15) rfl (.nil))))) ?_
  refine W.cond (.pl rfl) (fun hC5 => ?_) (fun hC5 => ?_)
  · replace hF := cpos hC5 hF
    refine W.seqR fun Q6 hQ6 => ?_
    refine WL.q (Y.move (.pl rfl)) rfl ?_
    refine WL.q (Y.assign (.pl rfl)) rfl ?_
    refine WL.q (Y.assign (.pl rfl)) rfl ?_
    refine WL.q (Y.assign (.pl rfl)) rfl ?_
    refine WL.next hQ6 (.cons (i := 4) rfl (.cons (i := 5) rfl (.cons (i := 6) rfl (.nil)))) ?_
    obtain rfl := Option.some.inj hF
    refine W.retV (fn := Try.f14) (vs := [.slice none 0 0, .int .i64 0, .int .i64 r11]) Try.results14 ⟨.tmp rfl, ⟨.tmp rfl, ⟨.tmp rfl, trivial⟩⟩⟩ (fun _ _ h => h) (fun wz hw => ?_)
    exact hR _ _ ⟨(none, 0), trivial, rfl, ((St.nilR (hw.pick [] rfl) encCall 7 129).pick [0] rfl)⟩
  · replace hF := cneg hC5 hF
    refine W.skip ?_
    refine W.go hK2 (.cons (i := 0) rfl (.cons (i := 1) rfl (.nil))) ?_
    refine W.seq fun K7 hK7 => ?_
    refine W.seqR fun Q8 hQ8 => ?_
    refine WL.q (Y.move (.pl rfl)) rfl ?_
    refine WL.q (Y.len Try.underlying24 (.pl rfl)) rfl ?_
    refine WL.q (Y.gtr (.pl rfl) (.pl rfl)) rfl ?_
    refine WL.next hQ8 (.cons (i := 0) rfl (.cons (i := 1) rfl (.cons (i := 19) rfl (.nil)))) ?_
    refine W.cond (.pl rfl) (fun hC9 => ?_) (fun hC9 => ?_)
    · replace hF := cpos hC9 hF
      refine W.seqR fun Q10 hQ10 => ?_
      refine WL.q (Y.assign (.pl rfl)) rfl ?_
      refine WL.q (Y.assign (.pl rfl)) rfl ?_
      refine WL.q (Y.assign (.pl rfl)) rfl ?_
      refine WL.next hQ10 (.cons (i := 4) rfl (.cons (i := 5) rfl (.cons (i := 6) rfl (.nil)))) ?_
      obtain rfl := Option.some.inj hF
      refine W.retV (fn := Try.f14) (vs := [.slice none 0 0, .int .i64 0, .int .i64 2]) Try.results14 ⟨.tmp rfl, ⟨.tmp rfl, ⟨.tmp rfl, trivial⟩⟩⟩ (fun _ _ h => h) (fun wz hw => ?_)
      exact hR _ _ ⟨(none, 0), trivial, rfl, ((St.nilR (hw.pick [] rfl) encCall 7 129).pick [0] rfl)⟩
    · replace hF := cneg hC9 hF
      refine W.skip ?_
      refine W.go hK7 (.cons (i := 0) rfl (.cons (i := 1) rfl (.nil))) ?_
      refine W.seqR fun Q11 hQ11 => ?_
      refine WL.q (Y.move (.pl rfl)) rfl ?_
      refine WL.q (Y.build (cs := (Value.slice A2 (types1).length c3 :: (Value.slice none 0 0 :: (((encA 8 (eI .i64) 0) []) ++ []))).toArray) shape88 (.cons (.pl rfl) (.nil)) (one_parts ⟨rfl, trivial⟩) rfl) rfl ?_
      refine WL.step (WO.boxA (.pl rfl) rfl fun b12 => ?_)
      refine WL.q (Y.assign (.pl rfl)) rfl ?_
      refine WL.next hQ11 (.cons (i := 1) rfl (.cons (i := 8) rfl (.nil))) ?_
      obtain ⟨o12, hF12, hF⟩ := bnd hF
      refine W.join4 (Em := fun (out15 : (List Call)) (open16 : (List Int)) (A13 : Option Addr) (c14 : Nat) => []) (M := fun out15 open16 A13 c14 => [cBx b12 88 (Value.slice A2 (types1).length c3 :: (Value.slice A13 (out15).length c14 :: (((encA 8 (eI .i64) 0) open16) ++ []))), cR encCall 7 A13 c14 129 out15]) (I := fun out15 open16 A13 c14 => (.inl (out15, open16)) = o12) (.cons (i := 8) rfl (.nil)) (fun K13 hK13 => ?_) ?_
      · -- up to
        refine W.seqR fun Q14 hQ14 => ?_
        refine WL.q (Y.move (.pl rfl)) rfl ?_
        refine WL.q (Y.len Try.underlying24 (.pl rfl)) rfl ?_
        refine WL.q (Y.move (.pl rfl)) rfl ?_
        refine WL.next hQ14 (.cons (i := 8) rfl (.cons (i := 23) rfl (.cons (i := 24) rfl (.cons (i := 25) rfl (.nil))))) ?_
        refine W.block ?_
        refine W.loop5 (Em := fun (out19 : (List Call)) (open20 : (List Int)) (v21 : Int) (A17 : Option Addr) (c18 : Nat) => [(25, .int .i64 v21)]) (M := fun out19 open20 v21 A17 c18 => [cBx b12 88 (Value.slice A2 (types1).length c3 :: (Value.slice A17 (out19).length c18 :: (((encA 8 (eI .i64) 0) open20) ++ []))), cR encCall 7 A17 c18 129 out19]) (I := fun out19 open20 v21 A17 c18 k15 => iter (history_Calls_L3 N l6 types1) k15 (out19, open20, v21) = some o12) [] [] 0 none 0 N (hF12) (.cons rfl (.nil)) (.cons (i := 8) rfl (.cons (i := 23) rfl (.cons (i := 24) rfl (.nil)))) (fun wz hw => (St.nilR (hw.pick [0] rfl) encCall 7 129).pick [1, 0] rfl) (fun out19 open20 v21 A17 c18 k15 hI K16 hK16 => ?_)
        obtain ⟨k15, t15, rfl, hF15, hN15⟩ := iter_step hI
        refine W.seqR fun Q17 hQ17 => ?_
        refine WL.q (Y.lss (.pl rfl) (.pl rfl)) rfl ?_
        refine WL.next hQ17 (.cons (i := 8) rfl (.cons (i := 23) rfl (.cons (i := 24) rfl (.cons (i := 25) rfl (.cons (i := 26) rfl (.nil)))))) ?_
        refine W.seq fun K18 hK18 => ?_
        refine W.cond (.pl rfl) (fun hC19 => ?_) (fun hC19 => ?_)
        · replace hF15 := cpos hC19 hF15
          refine W.skip ?_
          refine W.go hK18 (.cons (i := 8) rfl (.cons (i := 23) rfl (.cons (i := 24) rfl (.cons (i := 25) rfl (.nil))))) ?_
          refine W.seq fun K20 hK20 => ?_
          refine W.block ?_
          refine W.seqR fun Q21 hQ21 => ?_
          refine WL.q (Y.move (.pl rfl)) rfl ?_
          obtain ⟨x22, hx22, hF15⟩ := bnd hF15
          refine WL.q (Y.slEl Try.underlying24 cells31 hs9 (.pl rfl) (.pl rfl) (ix_lt (hx22))) rfl ?_
          refine WL.q (Y.loadSA (enc := encEvent) (ds := (encEvent x22)) (j := 0) Try.underlying31 rfl cells31 hs9 (.pl rfl) (hx22) rfl rfl subW) rfl ?_
          refine WL.step (WO.alloc (cs := (encEvent (Event.mk 0 0 0 0)).toArray) zero31 rfl rfl fun b23 => ?_)
          refine WL.q (Y.assign (.pl rfl)) rfl ?_
          refine WL.step (WO.storeBA (ds := (encEvent x22)) (cs' := (encEvent x22)) cells31 (.pl rfl) (.pl rfl) rfl (oneEvent _) (i := 0) rfl (lel (o := 0) (l := 4) (m := 4) (by decide) rfl rfl) (putW rfl) ?_)
          refine WL.next hQ21 (.cons (i := 8) rfl (.cons (i := 9) rfl (.cons (i := 10) rfl (.cons (i := 23) rfl (.cons (i := 24) rfl (.cons (i := 25) rfl (.nil))))))) ?_
          refine W.seqR fun Q22 hQ22 => ?_
          refine WL.q (Y.move (.pl rfl)) rfl ?_
          refine WL.q (Y.move (.pl rfl)) rfl ?_
          refine WL.q (Y.loadBA (ds := (encEvent x22)) Try.underlying31 rfl cells31 (.pl rfl) (i := 0) rfl rfl subW) rfl ?_
          obtain ⟨r24, hr24, hF15⟩ := bnd hF15
          refine WL.step (WO.call (γ := (Option Addr × Nat)) (fun g => .int .i64 r24.2.2) (fun g => [cBx b12 88 (Value.slice A2 (types1).length c3 :: (Value.slice g.1 (r24.1).length g.2 :: (((encA 8 (eI .i64) 0) r24.2.1) ++ []))), cR encCall 7 g.1 g.2 129 r24.1, cBx b23 31 (encEvent x22)]) (fun g => True) isGo34 (.cons (.pl rfl) (.cons (.pl rfl) (.cons (.pl rfl) (.nil)))) rfl (fun wz hw => history_reader_event_ok (T := [cBx b23 31 (encEvent x22)]) (hr24) (hw.pick [1, 2, 0] rfl) hs4) ?_)
          rintro ⟨A25, c26⟩ -
          refine WL.q (Y.assign (.pl rfl)) rfl ?_
          refine WL.next hQ22 (.cons (i := 8) rfl (.cons (i := 9) rfl (.cons (i := 11) rfl (.cons (i := 23) rfl (.cons (i := 24) rfl (.cons (i := 25) rfl (.nil))))))) ?_
          refine W.seqR fun Q23 hQ23 => ?_
          refine WL.q (Y.move (.pl rfl)) rfl ?_
          refine WL.q (Y.neq (.pl rfl) (.pl rfl)) rfl ?_
          refine WL.next hQ23 (.cons (i := 8) rfl (.cons (i := 9) rfl (.cons (i := 11) rfl (.cons (i := 23) rfl (.cons (i := 24) rfl (.cons (i := 25) rfl (.cons (i := 35) rfl (.nil)))))))) ?_
          refine W.cond (.pl rfl) (fun hC24 => ?_) (fun hC24 => ?_)
          · replace hF15 := cpos hC24 hF15
            refine W.seqR fun Q25 hQ25 => ?_
            refine WL.q (Y.move (.pl rfl)) rfl ?_
            refine WL.q (Y.move (.pl rfl)) rfl ?_
            refine WL.q (Y.assign (.pl rfl)) rfl ?_
            refine WL.q (Y.assign (.pl rfl)) rfl ?_
            refine WL.q (Y.assign (.pl rfl)) rfl ?_
            refine WL.next hQ25 (.cons (i := 4) rfl (.cons (i := 5) rfl (.cons (i := 6) rfl (.nil)))) ?_
            obtain rfl := Option.some.inj hF15
            obtain rfl := einr hN15
            obtain rfl := Option.some.inj hF
            refine W.retV (fn := Try.f14) (vs := [.slice none 0 0, .int .i64 v21, .int .i64 r24.2.2]) Try.results14 ⟨.tmp rfl, ⟨.tmp rfl, ⟨.tmp rfl, trivial⟩⟩⟩ (fun _ _ h => h) (fun wz hw => ?_)
            exact hR _ _ ⟨(none, 0), trivial, rfl, ((St.nilR (hw.pick [] rfl) encCall 7 129).pick [0] rfl)⟩
          · replace hF15 := cneg hC24 hF15
            refine W.skip ?_
            refine W.go hK20 (.cons (i := 8) rfl (.cons (i := 23) rfl (.cons (i := 24) rfl (.cons (i := 25) rfl (.nil))))) ?_
            refine W.reg ?_
            obtain ⟨hk27, hF15⟩ := ckh hF15
            refine WL.q (Y.add (.pl rfl) (.pl rfl) (ok64_lt (hk27))) rfl ?_
            refine WL.q (Y.move (.pl rfl)) rfl ?_
            refine WL.nil ?_
            obtain rfl := Option.some.inj hF15
            exact W.again5 hK16 r24.1 r24.2.1 (v21 + 1) A25 c26 k15 hN15 (Nat.lt_succ_self _) (.cons rfl (.nil)) (.cons (i := 8) rfl (.cons (i := 23) rfl (.cons (i := 24) rfl (.nil)))) (fun wz hw => hw.pick [0, 1] rfl)
        · replace hF15 := cneg hC19 hF15
          refine W.exit ?_
          obtain rfl := Option.some.inj hF15
          exact W.joinAt4 hK13 out19 open20 A17 c18 (einr hN15) (.nil) (.cons (i := 8) rfl (.nil)) (fun wz hw => hw.pick [0, 1] rfl)
      · -- behind
        rintro out15 open16 A13 c14 rfl
        refine W.seqR fun Q27 hQ27 => ?_
        refine WL.q (Y.move (.pl rfl)) rfl ?_
        refine WL.q (Y.nilCheck (.pl rfl)) rfl ?_
        refine WL.q (Y.fieldAddr0 (off := 1) (ft := 35) Try.underlying88 rfl cells35 (.pl rfl)) rfl ?_
        refine WL.q (Y.loadB (v := .slice A13 (out15).length c14) Try.underlying35 rfl (.pl rfl) (i := 0) rfl (rfl)) rfl ?_
        refine WL.q (Y.assign (.pl rfl)) rfl ?_
        refine WL.q (Y.assign (.pl rfl)) rfl ?_
        refine WL.q (Y.assign (.pl rfl)) rfl ?_
        refine WL.next hQ27 (.cons (i := 4) rfl (.cons (i := 5) rfl (.cons (i := 6) rfl (.nil)))) ?_
        obtain rfl := Option.some.inj hF
        refine W.retV (fn := Try.f14) (vs := [.slice A13 (out15).length c14, .int .i64 0, .int .i64 0]) Try.results14 ⟨.tmp rfl, ⟨.tmp rfl, ⟨.tmp rfl, trivial⟩⟩⟩ (fun _ _ h => h) (fun wz hw => ?_)
        exact hR _ _ ⟨(A13, c14), trivial, rfl, (hw.pick [1] rfl)⟩

def tickets_read_L5 (N : Nat) (r7 : ((List Call) × Int × Int)) : ((List Int) × Int × (List (Int × Bool)) × Int) → Option (((List Int) × Int × (List (Int × Bool)) × Int) ⊕ ((List Int) × Int × (List (Int × Bool))))
  | (pending19, most20, has21, v22) =>
    cond (decide (v22 < ((r7.1).length : Int)))
      (bd (ix r7.1 v22) fun (x23 : Call) =>
      cond (decide (x23.to_ = (-1)))
        (ck (limB 8 ((pending19).length + (([v22] : List Int)).length)) <|
        ck (ok64 (v22 + 1)) <|
        some (.inl ((pending19 ++ ([v22] : List Int)), most20, has21, (v22 + 1))))
        (ck (ok64 (v22 + 1)) <|
        some (.inl (pending19, (max most20 x23.res), (mput has21 x23.res true), (v22 + 1)))))
      (some (.inr (pending19, most20, has21)))

def tickets_read_L7 (N : Nat) (most15 : Int) (has16 : (List (Int × Bool))) : ((List Int) × Int) → Option (((List Int) × Int) ⊕ (List Int))
  | (missing37, v38) =>
    cond (decide (v38 < (most15 + 1)))
      (cond (!((mget has16 v38).getD false))
        (ck (limB 8 ((missing37).length + (([v38] : List Int)).length)) <|
        ck (ok64 (v38 + 1)) <|
        some (.inl ((missing37 ++ ([v38] : List Int)), (v38 + 1))))
        (ck (ok64 (v38 + 1)) <|
        some (.inl (missing37, (v38 + 1)))))
      (some (.inr missing37))

def tickets_read (N : Nat) (l1 : (List Event)) : Option (Bool × (List Call) × (List Int) × (List Int) × Int) :=
  bd (history_Calls N ([5] : List Int) l1) fun (r7 : ((List Call) × Int × Int)) =>
  cond (!(decide (r7.2.2 = 0)))
    (some (false, [], [], [], r7.2.2))
    (bd (α := ((List Int) × Int × (List (Int × Bool)))) (iter (tickets_read_L5 N r7) N ([], (-1), ([] : List (Int × Bool)), 0)) <|
    fun (pending14, most15, has16) => 
      bd (α := (List Int)) (ck (ok64 (most15 + 1)) <|
        iter (tickets_read_L7 N most15 has16) N ([], 0)) <|
      fun (missing33 : (List Int)) => 
        some (true, r7.1, pending14, missing33, 0))

theorem tickets_read_ok {N : Nat} {l1 : (List Event)} {res : (Bool × (List Call) × (List Int) × (List Int) × Int)} (hF : tickets_read N l1 = some res) (w : World) {v5 : Value} (hs4 : SlIn encEvent 4 w v5 l1) :
    Made Try.prog 51 [v5] w (fun g : (Option Nat × Option Addr × Nat × Option Addr × Nat × Option Addr × Nat) => .tuple #[.pointer (ptO g.1), .int .i64 res.2.2.2.2]) (fun g => [cBo g.1 159 (Value.slice g.2.1 (res.2.1).length g.2.2.1 :: (Value.slice g.2.2.2.1 (res.2.2.1).length g.2.2.2.2.1 :: (Value.slice g.2.2.2.2.2.1 (res.2.2.2.1).length g.2.2.2.2.2.2 :: []))), cR encCall 7 g.2.1 g.2.2.1 129 res.2.1, cR (eI .i64) 1 g.2.2.2.1 g.2.2.2.2.1 3 res.2.2.1, cR (eI .i64) 1 g.2.2.2.2.2.1 g.2.2.2.2.2.2 3 res.2.2.2.1]) (fun g => res.1 = (g.1).isSome) := by
  obtain ⟨A2, c3, rfl, hcc3, hs4⟩ := hs4.form
  refine W.enter (n := 76) Try.func51 rfl rfl Sub.refl (by simp) (St.start w) fun R hR => ?_
  unfold tickets_read at hF
  refine W.seqR fun Q1 hQ1 => ?_
  refine WL.q (Y.assign (.pl rfl)) rfl ?_
  refine WL.q (Y.assign (.pl rfl)) rfl ?_
  refine WL.next hQ1 (.cons (i := 0) rfl (.nil)) ?_
  refine W.seqR fun Q2 hQ2 => ?_
  refine WL.step (WO.bsliceC (enc := (eI .i64)) (ys := ([5] : List Int)) Try.underlying23 bz3 (.cons (.pl rfl) (.nil)) rfl (fun _ => rfl) rfl rfl (by decide) (by decide) rfl fun b6 => ?_)
  refine WL.q (Y.move (.pl rfl)) rfl ?_
  obtain ⟨r7, hr7, hF⟩ := bnd hF
  refine WL.step (WO.callM isGo14 (.cons (.pl rfl) (.cons (.pl rfl) (.nil))) rfl (fun wz hw => history_Calls_ok (hr7) wz (SlIn.ofRow (fun _ => rfl) hw (i := 0) rfl) (hs4.mono hw)) ?_)
  rintro ⟨A8, c9⟩ -
  refine WL.q (Y.move (.pl rfl)) rfl ?_
  refine WL.q (Y.extract (.pl rfl) rfl) rfl ?_
  refine WL.q (Y.extract (.pl rfl) rfl) rfl ?_
  refine WL.q (Y.extract (.pl rfl) rfl) rfl ?_
  refine WL.q (Y.assign (.pl rfl)) rfl ?_
  refine WL.q (Y.assign (.pl rfl)) rfl ?_
  refine WL.q (Y.assign (.pl rfl)) rfl ?_
  refine WL.next hQ2 (.cons (i := 4) rfl (.cons (i := 6) rfl (.nil))) ?_
  refine W.seq fun K3 hK3 => ?_
  refine W.seqR fun Q4 hQ4 => ?_
  refine WL.q (Y.move (.pl rfl)) rfl ?_
  refine WL.q (Y.neq (.pl rfl) (.pl rfl)) rfl ?_
  refine WL.next hQ4 (.cons (i := 4) rfl (.cons (i := 6) rfl (.cons (i := 21) rfl (.nil)))) ?_
  refine W.cond (.pl rfl) (fun hC5 => ?_) (fun hC5 => ?_)
  · replace hF := cpos hC5 hF
    refine W.seqR fun Q6 hQ6 => ?_
    refine WL.q (Y.move (.pl rfl)) rfl ?_
    refine WL.q (Y.assign (.pl rfl)) rfl ?_
    refine WL.q (Y.assign (.pl rfl)) rfl ?_
    refine WL.next hQ6 (.cons (i := 2) rfl (.cons (i := 3) rfl (.nil))) ?_
    obtain rfl := Option.some.inj hF
    refine W.retV (fn := Try.f51) (vs := [.pointer none, .int .i64 r7.2.2]) Try.results51 ⟨.tmp rfl, ⟨.tmp rfl, trivial⟩⟩ (fun _ _ h => h) (fun wz hw => ?_)
    exact hR _ _ ⟨(none, none, 0, none, 0, none, 0), rfl, rfl, ((St.nilR (St.nilR (St.nilR (St.nilO (hw.pick [] rfl) 159 (Value.slice none 0 0 :: (Value.slice none 0 0 :: (Value.slice none 0 0 :: [])))) encCall 7 129) (eI .i64) 1 3) (eI .i64) 1 3).pick [3, 2, 1, 0] rfl)⟩
  · replace hF := cneg hC5 hF
    refine W.skip ?_
    refine W.go hK3 (.cons (i := 4) rfl (.nil)) ?_
    refine W.seqR fun Q7 hQ7 => ?_
    refine WL.q (Y.move (.pl rfl)) rfl ?_
    refine WL.q (Y.build (cs := (Value.slice A8 (r7.1).length c9 :: (Value.slice none 0 0 :: (Value.slice none 0 0 :: []))).toArray) shape159 (.cons (.pl rfl) (.nil)) (one_parts ⟨rfl, trivial⟩) rfl) rfl ?_
    refine WL.step (WO.boxA (.pl rfl) rfl fun b10 => ?_)
    refine WL.q (Y.assign (.pl rfl)) rfl ?_
    refine WL.next hQ7 (.cons (i := 4) rfl (.cons (i := 7) rfl (.nil))) ?_
    refine W.seqR fun Q8 hQ8 => ?_
    refine WL.q (Y.assign (.pl rfl)) rfl ?_
    refine WL.next hQ8 (.cons (i := 4) rfl (.cons (i := 7) rfl (.cons (i := 8) rfl (.nil)))) ?_
    refine W.seqR fun Q9 hQ9 => ?_
    refine WL.step (WO.mmake Value.bool rfl fun b11 => ?_)
    refine WL.q (Y.assign (.pl rfl)) rfl ?_
    refine WL.next hQ9 (.cons (i := 4) rfl (.cons (i := 7) rfl (.cons (i := 8) rfl (.cons (i := 9) rfl (.nil))))) ?_
    obtain ⟨o10, hF10, hF⟩ := bnd hF
    refine W.join5 (Em := fun (pending14 : (List Int)) (most15 : Int) (has16 : (List (Int × Bool))) (A12 : Option Addr) (c13 : Nat) => [(8, .int .i64 most15)]) (M := fun pending14 most15 has16 A12 c13 => [cBx b10 159 (Value.slice A8 (r7.1).length c9 :: (Value.slice A12 (pending14).length c13 :: (Value.slice none 0 0 :: []))), cR encCall 7 A8 c9 129 r7.1, cR (eI .i64) 1 A12 c13 3 pending14, cM Value.bool (some b11) has16]) (I := fun pending14 most15 has16 A12 c13 => (pending14, most15, has16) = o10) (.cons (i := 7) rfl (.cons (i := 9) rfl (.nil))) (fun K11 hK11 => ?_) ?_
    · -- up to
      refine W.seqR fun Q12 hQ12 => ?_
      refine WL.q (Y.move (.pl rfl)) rfl ?_
      refine WL.q (Y.len Try.underlying35 (.pl rfl)) rfl ?_
      refine WL.q (Y.move (.pl rfl)) rfl ?_
      refine WL.next hQ12 (.cons (i := 7) rfl (.cons (i := 8) rfl (.cons (i := 9) rfl (.cons (i := 27) rfl (.cons (i := 28) rfl (.cons (i := 29) rfl (.nil))))))) ?_
      refine W.block ?_
      refine W.loop6 (Em := fun (pending19 : (List Int)) (most20 : Int) (has21 : (List (Int × Bool))) (v22 : Int) (A17 : Option Addr) (c18 : Nat) => [(8, .int .i64 most20), (29, .int .i64 v22)]) (M := fun pending19 most20 has21 v22 A17 c18 => [cBx b10 159 (Value.slice A8 (r7.1).length c9 :: (Value.slice A17 (pending19).length c18 :: (Value.slice none 0 0 :: []))), cR encCall 7 A8 c9 129 r7.1, cR (eI .i64) 1 A17 c18 3 pending19, cM Value.bool (some b11) has21]) (I := fun pending19 most20 has21 v22 A17 c18 k13 => iter (tickets_read_L5 N r7) k13 (pending19, most20, has21, v22) = some o10) [] (-1) ([] : List (Int × Bool)) 0 none 0 N (hF10) (.cons rfl (.cons rfl (.nil))) (.cons (i := 7) rfl (.cons (i := 9) rfl (.cons (i := 27) rfl (.cons (i := 28) rfl (.nil))))) (fun wz hw => (St.nilR (hw.pick [1, 2, 0] rfl) (eI .i64) 1 3).pick [1, 2, 0, 3] rfl) (fun pending19 most20 has21 v22 A17 c18 k13 hI K14 hK14 => ?_)
      obtain ⟨k13, t13, rfl, hF13, hN13⟩ := iter_step hI
      refine W.seqR fun Q15 hQ15 => ?_
      refine WL.q (Y.lss (.pl rfl) (.pl rfl)) rfl ?_
      refine WL.next hQ15 (.cons (i := 7) rfl (.cons (i := 8) rfl (.cons (i := 9) rfl (.cons (i := 27) rfl (.cons (i := 28) rfl (.cons (i := 29) rfl (.cons (i := 30) rfl (.nil)))))))) ?_
      refine W.seq fun K16 hK16 => ?_
      refine W.cond (.pl rfl) (fun hC17 => ?_) (fun hC17 => ?_)
      · replace hF13 := cpos hC17 hF13
        refine W.skip ?_
        refine W.go hK16 (.cons (i := 7) rfl (.cons (i := 8) rfl (.cons (i := 9) rfl (.cons (i := 27) rfl (.cons (i := 28) rfl (.cons (i := 29) rfl (.nil))))))) ?_
        refine W.seq fun K18 hK18 => ?_
        refine W.block ?_
        refine W.seqR fun Q19 hQ19 => ?_
        refine WL.q (Y.move (.pl rfl)) rfl ?_
        obtain ⟨x23, hx23, hF13⟩ := bnd hF13
        refine WL.q (Y.rowEl Try.underlying35 cells129 (i := 1) rfl (.pl rfl) rfl (.pl rfl) (ix_lt (hx23))) rfl ?_
        refine WL.q (Y.loadRA (enc := encCall) (ds := (encCall x23)) (a := x23) (idx := v22) (j := 0) Try.underlying129 rfl cells129 lenCall (i := 1) rfl (.pl rfl) (ix_get (hx23)) rfl rfl subW) rfl ?_
        refine WL.step (WO.alloc (cs := (encCall (Call.mk 0 0 0 0 0 0 0)).toArray) zero129 rfl rfl fun b24 => ?_)
        refine WL.q (Y.assign (.pl rfl)) rfl ?_
        refine WL.step (WO.storeBA (ds := (encCall x23)) (cs' := (encCall x23)) cells129 (.pl rfl) (.pl rfl) rfl (oneCall _) (i := 0) rfl (lel (o := 0) (l := 7) (m := 7) (by decide) rfl rfl) (putW rfl) ?_)
        refine WL.next hQ19 (.cons (i := 7) rfl (.cons (i := 8) rfl (.cons (i := 9) rfl (.cons (i := 10) rfl (.cons (i := 11) rfl (.cons (i := 27) rfl (.cons (i := 28) rfl (.cons (i := 29) rfl (.nil))))))))) ?_
        refine W.seqR fun Q20 hQ20 => ?_
        refine WL.q (Y.fieldAddr0 (off := 6) (ft := 3) Try.underlying129 rfl cells3 (.pl rfl)) rfl ?_
        refine WL.q (Y.loadB (v := .int .i64 x23.to_) Try.underlying3 rfl (.pl rfl) (i := 0) rfl (rfl)) rfl ?_
        refine WL.q (Y.eql (.pl rfl) (.pl rfl)) rfl ?_
        refine WL.next hQ20 (.cons (i := 7) rfl (.cons (i := 8) rfl (.cons (i := 9) rfl (.cons (i := 10) rfl (.cons (i := 11) rfl (.cons (i := 27) rfl (.cons (i := 28) rfl (.cons (i := 29) rfl (.cons (i := 36) rfl (.nil)))))))))) ?_
        refine W.cond (.pl rfl) (fun hC21 => ?_) (fun hC21 => ?_)
        · replace hF13 := cpos hC21 hF13
          refine W.reg ?_
          refine WL.q (Y.move (.pl rfl)) rfl ?_
          refine WL.q (Y.move (.pl rfl)) rfl ?_
          refine WL.q (Y.nilCheck (.pl rfl)) rfl ?_
          refine WL.q (Y.fieldAddr0 (off := 1) (ft := 23) Try.underlying159 rfl cells23 (.pl rfl)) rfl ?_
          refine WL.q (Y.loadB (v := .slice A17 (pending19).length c18) Try.underlying23 rfl (.pl rfl) (i := 1) rfl (rfl)) rfl ?_
          refine WL.q (Y.move (.pl rfl)) rfl ?_
          refine WL.step (WO.bsliceC (enc := (eI .i64)) (ys := ([v22] : List Int)) Try.underlying23 bz3 (.cons (.pl rfl) (.nil)) rfl (fun _ => rfl) rfl rfl (by decide) (by decide) rfl fun b25 => ?_)
          obtain ⟨hk28, hF13⟩ := ckh hF13
          refine WL.step (WO.appendC (enc := (eI .i64)) Try.underlying23 ap3 (fun _ => rfl) oneI (.pl rfl) rfl (.pl rfl) (i := 4) rfl (m2 := 0) rfl (hk28) rfl fun A26 c27 => ?_)
          refine WL.q (Y.nilCheck (.pl rfl)) rfl ?_
          refine WL.q (Y.fieldAddr0 (off := 1) (ft := 23) Try.underlying159 rfl cells23 (.pl rfl)) rfl ?_
          refine WL.step (WO.storeB (cs' := (Value.slice A8 (r7.1).length c9 :: (Value.slice A26 ((pending19 ++ ([v22] : List Int))).length c27 :: (Value.slice none 0 0 :: [])))) cells23 (.pl rfl) (.pl rfl) rfl (i := 2) rfl (ltl (m := 3) (by decide) rfl) (rfl) ?_)
          refine WL.nil ?_
          refine W.go hK18 (.cons (i := 7) rfl (.cons (i := 8) rfl (.cons (i := 9) rfl (.cons (i := 27) rfl (.cons (i := 28) rfl (.cons (i := 29) rfl (.nil))))))) ?_
          refine W.reg ?_
          obtain ⟨hk29, hF13⟩ := ckh hF13
          refine WL.q (Y.add (.pl rfl) (.pl rfl) (ok64_lt (hk29))) rfl ?_
          refine WL.q (Y.move (.pl rfl)) rfl ?_
          refine WL.nil ?_
          obtain rfl := Option.some.inj hF13
          exact W.again6 hK14 (pending19 ++ ([v22] : List Int)) most20 has21 (v22 + 1) A26 c27 k13 hN13 (Nat.lt_succ_self _) (.cons rfl (.cons rfl (.nil))) (.cons (i := 7) rfl (.cons (i := 9) rfl (.cons (i := 27) rfl (.cons (i := 28) rfl (.nil))))) (fun wz hw => hw.pick [2, 3, 4, 5] rfl)
        · replace hF13 := cneg hC21 hF13
          refine W.seqR fun Q24 hQ24 => ?_
          refine WL.q (Y.move (.pl rfl)) rfl ?_
          refine WL.q (Y.fieldAddr0 (off := 4) (ft := 3) Try.underlying129 rfl cells3 (.pl rfl)) rfl ?_
          refine WL.q (Y.loadB (v := .int .i64 x23.res) Try.underlying3 rfl (.pl rfl) (i := 0) rfl (rfl)) rfl ?_
          refine WL.step (WO.mset (f := Value.bool) (a := true) Try.underlying160 Try.underlying3 (.pl rfl) (.pl rfl) (.pl rfl) (i := 4) rfl ?_)
          refine WL.next hQ24 (.cons (i := 7) rfl (.cons (i := 8) rfl (.cons (i := 9) rfl (.cons (i := 11) rfl (.cons (i := 27) rfl (.cons (i := 28) rfl (.cons (i := 29) rfl (.nil)))))))) ?_
          refine W.reg ?_
          refine WL.q (Y.move (.pl rfl)) rfl ?_
          refine WL.q (Y.fieldAddr0 (off := 4) (ft := 3) Try.underlying129 rfl cells3 (.pl rfl)) rfl ?_
          refine WL.q (Y.loadB (v := .int .i64 x23.res) Try.underlying3 rfl (.pl rfl) (i := 0) rfl (rfl)) rfl ?_
          refine WL.q (Y.max (.pl rfl) (.pl rfl)) rfl ?_
          refine WL.q (Y.assign (.pl rfl)) rfl ?_
          refine WL.nil ?_
          refine W.go hK18 (.cons (i := 7) rfl (.cons (i := 8) rfl (.cons (i := 9) rfl (.cons (i := 27) rfl (.cons (i := 28) rfl (.cons (i := 29) rfl (.nil))))))) ?_
          refine W.reg ?_
          obtain ⟨hk30, hF13⟩ := ckh hF13
          refine WL.q (Y.add (.pl rfl) (.pl rfl) (ok64_lt (hk30))) rfl ?_
          refine WL.q (Y.move (.pl rfl)) rfl ?_
          refine WL.nil ?_
          obtain rfl := Option.some.inj hF13
          exact W.again6 hK14 pending19 (max most20 x23.res) (mput has21 x23.res true) (v22 + 1) A17 c18 k13 hN13 (Nat.lt_succ_self _) (.cons rfl (.cons rfl (.nil))) (.cons (i := 7) rfl (.cons (i := 9) rfl (.cons (i := 27) rfl (.cons (i := 28) rfl (.nil))))) (fun wz hw => hw.pick [1, 2, 3, 4] rfl)
      · replace hF13 := cneg hC17 hF13
        refine W.exit ?_
        obtain rfl := Option.some.inj hF13
        exact W.joinAt5 hK11 pending19 most20 has21 A17 c18 (einr hN13) (.cons rfl (.nil)) (.cons (i := 7) rfl (.cons (i := 9) rfl (.nil))) (fun wz hw => hw.pick [0, 1, 2, 3] rfl)
    · -- behind
      rintro pending14 most15 has16 A12 c13 rfl
      obtain ⟨o27, hF27, hF⟩ := bnd hF
      refine W.join3 (Em := fun (missing33 : (List Int)) (A31 : Option Addr) (c32 : Nat) => []) (M := fun missing33 A31 c32 => [cBx b10 159 (Value.slice A8 (r7.1).length c9 :: (Value.slice A12 (pending14).length c13 :: (Value.slice A31 (missing33).length c32 :: []))), cR encCall 7 A8 c9 129 r7.1, cR (eI .i64) 1 A12 c13 3 pending14, cR (eI .i64) 1 A31 c32 3 missing33]) (I := fun missing33 A31 c32 => missing33 = o27) (.cons (i := 7) rfl (.nil)) (fun K28 hK28 => ?_) ?_
      · -- up to
        refine W.seqR fun Q29 hQ29 => ?_
        refine WL.q (Y.move (.pl rfl)) rfl ?_
        obtain ⟨hk34, hF27⟩ := ckh hF27
        refine WL.q (Y.add (.pl rfl) (.pl rfl) (ok64_lt (hk34))) rfl ?_
        refine WL.q (Y.move (.pl rfl)) rfl ?_
        refine WL.next hQ29 (.cons (i := 7) rfl (.cons (i := 9) rfl (.cons (i := 56) rfl (.cons (i := 57) rfl (.nil))))) ?_
        refine W.block ?_
        refine W.loop4 (Em := fun (missing37 : (List Int)) (v38 : Int) (A35 : Option Addr) (c36 : Nat) => [(57, .int .i64 v38)]) (M := fun missing37 v38 A35 c36 => [cBx b10 159 (Value.slice A8 (r7.1).length c9 :: (Value.slice A12 (pending14).length c13 :: (Value.slice A35 (missing37).length c36 :: []))), cR encCall 7 A8 c9 129 r7.1, cR (eI .i64) 1 A12 c13 3 pending14, cR (eI .i64) 1 A35 c36 3 missing37, cM Value.bool (some b11) has16]) (I := fun missing37 v38 A35 c36 k30 => iter (tickets_read_L7 N most15 has16) k30 (missing37, v38) = some o27) [] 0 none 0 N (hF27) (.cons rfl (.nil)) (.cons (i := 7) rfl (.cons (i := 9) rfl (.cons (i := 56) rfl (.nil)))) (fun wz hw => (St.nilR (hw.pick [0, 1, 2, 3] rfl) (eI .i64) 1 3).pick [1, 2, 3, 0, 4] rfl) (fun missing37 v38 A35 c36 k30 hI K31 hK31 => ?_)
        obtain ⟨k30, t30, rfl, hF30, hN30⟩ := iter_step hI
        refine W.seqR fun Q32 hQ32 => ?_
        refine WL.q (Y.lss (.pl rfl) (.pl rfl)) rfl ?_
        refine WL.next hQ32 (.cons (i := 7) rfl (.cons (i := 9) rfl (.cons (i := 56) rfl (.cons (i := 57) rfl (.cons (i := 58) rfl (.nil)))))) ?_
        refine W.seq fun K33 hK33 => ?_
        refine W.cond (.pl rfl) (fun hC34 => ?_) (fun hC34 => ?_)
        · replace hF30 := cpos hC34 hF30
          refine W.skip ?_
          refine W.go hK33 (.cons (i := 7) rfl (.cons (i := 9) rfl (.cons (i := 56) rfl (.cons (i := 57) rfl (.nil))))) ?_
          refine W.seq fun K35 hK35 => ?_
          refine W.block ?_
          refine W.seqR fun Q36 hQ36 => ?_
          refine WL.q (Y.move (.pl rfl)) rfl ?_
          refine WL.q (Y.assign (.pl rfl)) rfl ?_
          refine WL.next hQ36 (.cons (i := 7) rfl (.cons (i := 9) rfl (.cons (i := 12) rfl (.cons (i := 56) rfl (.cons (i := 57) rfl (.nil)))))) ?_
          refine W.seqR fun Q37 hQ37 => ?_
          refine WL.q (Y.move (.pl rfl)) rfl ?_
          refine WL.q (Y.move (.pl rfl)) rfl ?_
          refine WL.q (Y.mget (f := Value.bool) (dv := false) Try.underlying160 Try.underlying3 zero4 (.pl rfl) (.pl rfl) (i := 4) rfl) rfl ?_
          refine WL.q (Y.not (.pl rfl)) rfl ?_
          refine WL.next hQ37 (.cons (i := 7) rfl (.cons (i := 9) rfl (.cons (i := 12) rfl (.cons (i := 56) rfl (.cons (i := 57) rfl (.cons (i := 63) rfl (.nil))))))) ?_
          refine W.cond (.pl rfl) (fun hC38 => ?_) (fun hC38 => ?_)
          · replace hF30 := cpos hC38 hF30
            refine W.reg ?_
            refine WL.q (Y.move (.pl rfl)) rfl ?_
            refine WL.q (Y.move (.pl rfl)) rfl ?_
            refine WL.q (Y.nilCheck (.pl rfl)) rfl ?_
            refine WL.q (Y.fieldAddr0 (off := 2) (ft := 23) Try.underlying159 rfl cells23 (.pl rfl)) rfl ?_
            refine WL.q (Y.loadB (v := .slice A35 (missing37).length c36) Try.underlying23 rfl (.pl rfl) (i := 0) rfl (rfl)) rfl ?_
            refine WL.q (Y.move (.pl rfl)) rfl ?_
            refine WL.step (WO.bsliceC (enc := (eI .i64)) (ys := ([v38] : List Int)) Try.underlying23 bz3 (.cons (.pl rfl) (.nil)) rfl (fun _ => rfl) rfl rfl (by decide) (by decide) rfl fun b39 => ?_)
            obtain ⟨hk42, hF30⟩ := ckh hF30
            refine WL.step (WO.appendC (enc := (eI .i64)) Try.underlying23 ap3 (fun _ => rfl) oneI (.pl rfl) rfl (.pl rfl) (i := 4) rfl (m2 := 0) rfl (hk42) rfl fun A40 c41 => ?_)
            refine WL.q (Y.nilCheck (.pl rfl)) rfl ?_
            refine WL.q (Y.fieldAddr0 (off := 2) (ft := 23) Try.underlying159 rfl cells23 (.pl rfl)) rfl ?_
            refine WL.step (WO.storeB (cs' := (Value.slice A8 (r7.1).length c9 :: (Value.slice A12 (pending14).length c13 :: (Value.slice A40 ((missing37 ++ ([v38] : List Int))).length c41 :: [])))) cells23 (.pl rfl) (.pl rfl) rfl (i := 1) rfl (ltl (m := 3) (by decide) rfl) (rfl) ?_)
            refine WL.nil ?_
            refine W.go hK35 (.cons (i := 7) rfl (.cons (i := 9) rfl (.cons (i := 56) rfl (.cons (i := 57) rfl (.nil))))) ?_
            refine W.reg ?_
            obtain ⟨hk43, hF30⟩ := ckh hF30
            refine WL.q (Y.add (.pl rfl) (.pl rfl) (ok64_lt (hk43))) rfl ?_
            refine WL.q (Y.move (.pl rfl)) rfl ?_
            refine WL.nil ?_
            obtain rfl := Option.some.inj hF30
            exact W.again4 hK31 (missing37 ++ ([v38] : List Int)) (v38 + 1) A40 c41 k30 hN30 (Nat.lt_succ_self _) (.cons rfl (.nil)) (.cons (i := 7) rfl (.cons (i := 9) rfl (.cons (i := 56) rfl (.nil)))) (fun wz hw => hw.pick [1, 2, 3, 4, 5] rfl)
          · replace hF30 := cneg hC38 hF30
            refine W.skip ?_
            refine W.go hK35 (.cons (i := 7) rfl (.cons (i := 9) rfl (.cons (i := 56) rfl (.cons (i := 57) rfl (.nil))))) ?_
            refine W.reg ?_
            obtain ⟨hk44, hF30⟩ := ckh hF30
            refine WL.q (Y.add (.pl rfl) (.pl rfl) (ok64_lt (hk44))) rfl ?_
            refine WL.q (Y.move (.pl rfl)) rfl ?_
            refine WL.nil ?_
            obtain rfl := Option.some.inj hF30
            exact W.again4 hK31 missing37 (v38 + 1) A35 c36 k30 hN30 (Nat.lt_succ_self _) (.cons rfl (.nil)) (.cons (i := 7) rfl (.cons (i := 9) rfl (.cons (i := 56) rfl (.nil)))) (fun wz hw => hw.pick [0, 1, 2, 3, 4] rfl)
        · replace hF30 := cneg hC34 hF30
          refine W.exit ?_
          obtain rfl := Option.some.inj hF30
          exact W.joinAt3 hK28 missing37 A35 c36 (einr hN30) (.nil) (.cons (i := 7) rfl (.nil)) (fun wz hw => hw.pick [0, 1, 2, 3] rfl)
      · -- behind
        rintro missing33 A31 c32 rfl
        refine W.seqR fun Q42 hQ42 => ?_
        refine WL.q (Y.move (.pl rfl)) rfl ?_
        refine WL.q (Y.assign (.pl rfl)) rfl ?_
        refine WL.q (Y.assign (.pl rfl)) rfl ?_
        refine WL.next hQ42 (.cons (i := 2) rfl (.cons (i := 3) rfl (.nil))) ?_
        obtain rfl := Option.some.inj hF
        refine W.retV (fn := Try.f51) (vs := [.pointer (some ⟨b10, 0, none⟩), .int .i64 0]) Try.results51 ⟨.tmp rfl, ⟨.tmp rfl, trivial⟩⟩ (fun _ _ h => h) (fun wz hw => ?_)
        exact hR _ _ ⟨((some b10), A8, c9, A12, c13, A31, c32), rfl, rfl, (hw.pick [0, 1, 2, 3] rfl)⟩

def tickets_log_can_1 (N : Nat) (x1 : Call) (calls6 : (List Call)) (pending9 : (List Int)) (missing12 : (List Int)) (a14 : Int) (a16 : Int) : Option Bool :=
  bd ((cond ((!(decide (x1.to_ = (-1)))) == true) (ix calls6 a14) (some Call.z))) fun (x18 : Call) =>
  some (((!(decide (x1.to_ = (-1)))) && (decide (x1.to_ < x18.from_))) && (decide (a16 ≤ x1.res)))

theorem tickets_log_can_1_ok {N : Nat} {x1 : Call} {calls6 : (List Call)} {pending9 : (List Int)} {missing12 : (List Int)} {a14 : Int} {a16 : Int} {b2 : Nat} {b3 : Nat} {A4 : Option Addr} {c5 : Nat} {A7 : Option Addr} {c8 : Nat} {A10 : Option Addr} {c11 : Nat} {b13 : Nat} {b15 : Nat} {res : Bool} (hF : tickets_log_can_1 N x1 calls6 pending9 missing12 a14 a16 = some res) {w0 w : World} {T : List Chunk} (hw : St w0.heap.size w0 ([cBx b2 116 [.pointer (some ⟨b3, 0, none⟩)], cBx b3 159 (Value.slice A4 (calls6).length c5 :: (Value.slice A7 (pending9).length c8 :: (Value.slice A10 (missing12).length c11 :: []))), cR encCall 7 A4 c5 129 calls6, cR (eI .i64) 1 A7 c8 3 pending9, cR (eI .i64) 1 A10 c11 3 missing12, cBx b13 3 [.int .i64 a14], cBx b15 3 [.int .i64 a16]] ++ T) w) :
    Calls Try.prog 98 (List.toArray [.agg (encCall x1).toArray, .pointer (some ⟨b2, 0, none⟩), .pointer (some ⟨b13, 0, none⟩), .pointer (some ⟨b15, 0, none⟩)]) w (fun e w' => ∃ g : Unit, (True) ∧ e = .returned (.bool res) ∧ St w0.heap.size w0 ([cBx b2 116 [.pointer (some ⟨b3, 0, none⟩)], cBx b3 159 (Value.slice A4 (calls6).length c5 :: (Value.slice A7 (pending9).length c8 :: (Value.slice A10 (missing12).length c11 :: []))), cR encCall 7 A4 c5 129 calls6, cR (eI .i64) 1 A7 c8 3 pending9, cR (eI .i64) 1 A10 c11 3 missing12, cBx b13 3 [.int .i64 a14], cBx b15 3 [.int .i64 a16]] ++ T) w') := by
  refine W.enter (n := 28) Try.func98 rfl rfl Sub.refl (by simp) hw fun R hR => ?_
  unfold tickets_log_can_1 at hF
  refine W.seqR fun Q1 hQ1 => ?_
  refine WL.step (WO.boxA (.pl rfl) rfl fun b17 => ?_)
  refine WL.q (Y.assign (.pl rfl)) rfl ?_
  refine WL.next hQ1 (.cons (i := 1) rfl (.cons (i := 2) rfl (.cons (i := 3) rfl (.cons (i := 4) rfl (.nil))))) ?_
  refine W.seqD (by kernel_rfl) (by kernel_rfl) fun R2 hR2 => ?_
  refine WD.q (Y.fieldAddr0 (off := 6) (ft := 3) Try.underlying129 rfl cells3 (.pl rfl)) rfl ?_
  refine WD.q (Y.loadB (v := .int .i64 x1.to_) Try.underlying3 rfl (.pl rfl) (i := 0) rfl (rfl)) rfl ?_
  refine WD.q (Y.neq (.pl rfl) (.pl rfl)) rfl ?_
  refine WD.q (Y.move (.pl rfl)) rfl ?_
  refine WD.g (.pl rfl rfl rfl) (fun hg => Y.fieldAddr0 (off := 6) (ft := 3) Try.underlying129 rfl cells3 (.pl rfl)) rfl ?_
  refine WD.g (.pl rfl rfl rfl) (fun hg => Y.loadB (v := .int .i64 x1.to_) Try.underlying3 rfl (.gd (hg) rfl) (i := 0) rfl (rfl)) rfl ?_
  refine WD.g (.pl rfl rfl rfl) (fun hg => Y.loadB (v := .pointer (some ⟨b3, 0, none⟩)) Try.underlying116 rfl (.pl rfl) (i := 1) rfl (rfl)) rfl ?_
  refine WD.g (.pl rfl rfl rfl) (fun hg => Y.nilCheck (.gd (hg) rfl)) rfl ?_
  refine WD.g (.pl rfl rfl rfl) (fun hg => Y.fieldAddr0 (off := 0) (ft := 35) Try.underlying159 rfl cells35 (.gd (hg) rfl)) rfl ?_
  refine WD.g (.pl rfl rfl rfl) (fun hg => Y.loadB (v := .slice A4 (calls6).length c5) Try.underlying35 rfl (.gd (hg) rfl) (i := 2) rfl (rfl)) rfl ?_
  refine WD.g (.pl rfl rfl rfl) (fun hg => Y.loadB (v := .int .i64 a14) Try.underlying3 rfl (.pl rfl) (i := 6) rfl (rfl)) rfl ?_
  obtain ⟨x18, hx18, hF⟩ := bnd hF
  refine WD.g (.pl rfl rfl rfl) (fun hg => Y.rowEl Try.underlying35 cells129 (i := 3) rfl (.gd (hg) rfl) rfl (.gd (hg) rfl) (ix_lt (gpos hg hx18))) rfl ?_
  refine WD.g (.pl rfl rfl rfl) (fun hg => Y.rowField (off := 5) (ft := 3) Try.underlying129 rfl cells3 (i' := 3) rfl (ix_lt (gpos hg hx18)) (.gd (hg) rfl)) rfl ?_
  refine WD.g (.pl rfl rfl rfl) (fun hg => Y.loadR (enc := encCall) (v := .int .i64 x18.from_) (a := x18) (idx := a14) (j := 5) Try.underlying3 rfl lenCall (i := 3) rfl (.gd (hg) rfl) (ix_get (gpos hg hx18)) rfl rfl) rfl ?_
  refine WD.g (.pl rfl rfl rfl) (fun hg => Y.lss (.gd (hg) rfl) (.gd (hg) rfl)) rfl ?_
  refine WD.q (Y.and (.pl rfl) (fun h2 => .gd (eqt h2) rfl)) rfl ?_
  refine WD.q (Y.move (.pl rfl)) rfl ?_
  refine WD.g (.pl rfl rfl rfl) (fun hg => Y.fieldAddr0 (off := 4) (ft := 3) Try.underlying129 rfl cells3 (.pl rfl)) rfl ?_
  refine WD.g (.pl rfl rfl rfl) (fun hg => Y.loadB (v := .int .i64 x1.res) Try.underlying3 rfl (.gd (hg) rfl) (i := 0) rfl (rfl)) rfl ?_
  refine WD.g (.pl rfl rfl rfl) (fun hg => Y.loadB (v := .int .i64 a16) Try.underlying3 rfl (.pl rfl) (i := 7) rfl (rfl)) rfl ?_
  refine WD.g (.pl rfl rfl rfl) (fun hg => Y.geq (.gd (hg) rfl) (.gd (hg) rfl)) rfl ?_
  refine WD.q (Y.and (.pl rfl) (fun h2 => .gd (eqt h2) rfl)) rfl ?_
  refine WD.q (Y.assign (.pl rfl)) rfl ?_
  refine WD.next hR2 (.cons (i := 5) rfl (.nil)) ?_
  obtain rfl := Option.some.inj hF
  refine W.retV (fn := Try.f98) (vs := [.bool (((!(decide (x1.to_ = (-1)))) && (decide (x1.to_ < x18.from_))) && (decide (a16 ≤ x1.res)))]) Try.results98 ⟨.tmp rfl, trivial⟩ (fun _ _ h => h) (fun wz hw => ?_)
  exact hR _ _ ⟨(), trivial, rfl, (hw.pickK 8 [1, 2, 3, 4, 5, 6, 7] rfl)⟩

def slices_IndexFunc_api_Call_api_Call_L3 (N : Nat) (s3 : (List Call)) (pending8 : (List Int)) (missing11 : (List Int)) (c13 : Int) (c15 : Int) : Int → Option (Int ⊕ (Unit ⊕ Int))
  | v16 =>
    cond (decide (v16 < ((s3).length : Int)))
      (bd (ix s3 v16) fun (x17 : Call) =>
      bd (tickets_log_can_1 N x17 s3 pending8 missing11 c13 c15) fun (r18 : Bool) =>
      cond r18
        (some (.inr (.inr v16)))
        (ck (ok64 (v16 + 1)) <|
        some (.inl (v16 + 1))))
      (some (.inr (.inl ())))

def slices_IndexFunc_api_Call_api_Call (N : Nat) (s3 : (List Call)) (pending8 : (List Int)) (missing11 : (List Int)) (c13 : Int) (c15 : Int) : Option Int :=
  bd (α := (Unit ⊕ Int)) (iter (slices_IndexFunc_api_Call_api_Call_L3 N s3 pending8 missing11 c13 c15) N 0) <|
  Sum.elim (fun _ => 
    some (-1)) (fun p => some p)

theorem slices_IndexFunc_api_Call_api_Call_ok {N : Nat} {s3 : (List Call)} {pending8 : (List Int)} {missing11 : (List Int)} {c13 : Int} {c15 : Int} {A1 : Option Addr} {c2 : Nat} {b4 : Nat} {b5 : Nat} {A6 : Option Addr} {c7 : Nat} {A9 : Option Addr} {c10 : Nat} {b12 : Nat} {b14 : Nat} {res : Int} (hF : slices_IndexFunc_api_Call_api_Call N s3 pending8 missing11 c13 c15 = some res) {w0 w : World} {T : List Chunk} (hw : St w0.heap.size w0 ([cR encCall 7 A1 c2 129 s3, cBx b4 116 [.pointer (some ⟨b5, 0, none⟩)], cBx b5 159 (Value.slice A1 (s3).length c2 :: (Value.slice A6 (pending8).length c7 :: (Value.slice A9 (missing11).length c10 :: []))), cR (eI .i64) 1 A6 c7 3 pending8, cR (eI .i64) 1 A9 c10 3 missing11, cBx b12 3 [.int .i64 c13], cBx b14 3 [.int .i64 c15]] ++ T) w) :
    Calls Try.prog 110 (List.toArray [.slice A1 (s3).length c2, .func (.func 98) #[] #[.pointer (some ⟨b4, 0, none⟩), .pointer (some ⟨b12, 0, none⟩), .pointer (some ⟨b14, 0, none⟩)]]) w (fun e w' => ∃ g : Unit, (True) ∧ e = .returned (.int .i64 res) ∧ St w0.heap.size w0 ([cR encCall 7 A1 c2 129 s3, cBx b4 116 [.pointer (some ⟨b5, 0, none⟩)], cBx b5 159 (Value.slice A1 (s3).length c2 :: (Value.slice A6 (pending8).length c7 :: (Value.slice A9 (missing11).length c10 :: []))), cR (eI .i64) 1 A6 c7 3 pending8, cR (eI .i64) 1 A9 c10 3 missing11, cBx b12 3 [.int .i64 c13], cBx b14 3 [.int .i64 c15]] ++ T) w') := by
  refine W.enter (n := 19) Try.func110 rfl rfl Sub.refl (by simp) hw fun R hR => ?_
  unfold slices_IndexFunc_api_Call_api_Call at hF
  refine W.seqR fun Q1 hQ1 => ?_
  refine WL.q (Y.assign (.pl rfl)) rfl ?_
  refine WL.next hQ1 (.cons (i := 0) rfl (.cons (i := 1) rfl (.nil))) ?_
  obtain ⟨o2, hF2, hF⟩ := bnd hF
  refine W.join0 (Em := []) (M := ([cR encCall 7 A1 c2 129 s3, cBx b4 116 [.pointer (some ⟨b5, 0, none⟩)], cBx b5 159 (Value.slice A1 (s3).length c2 :: (Value.slice A6 (pending8).length c7 :: (Value.slice A9 (missing11).length c10 :: []))), cR (eI .i64) 1 A6 c7 3 pending8, cR (eI .i64) 1 A9 c10 3 missing11, cBx b12 3 [.int .i64 c13], cBx b14 3 [.int .i64 c15]] ++ T)) (I := (.inl ()) = o2) (.nil) (fun K3 hK3 => ?_) ?_
  · -- up to
    refine W.seqR fun Q4 hQ4 => ?_
    refine WL.q (Y.move (.pl rfl)) rfl ?_
    refine WL.q (Y.len Try.underlying35 (.pl rfl)) rfl ?_
    refine WL.q (Y.move (.pl rfl)) rfl ?_
    refine WL.next hQ4 (.cons (i := 0) rfl (.cons (i := 1) rfl (.cons (i := 7) rfl (.cons (i := 8) rfl (.nil))))) ?_
    refine W.block ?_
    refine W.loop1 (Em := fun (v16 : Int) => [(8, .int .i64 v16)]) (M := fun v16 => ([cR encCall 7 A1 c2 129 s3, cBx b4 116 [.pointer (some ⟨b5, 0, none⟩)], cBx b5 159 (Value.slice A1 (s3).length c2 :: (Value.slice A6 (pending8).length c7 :: (Value.slice A9 (missing11).length c10 :: []))), cR (eI .i64) 1 A6 c7 3 pending8, cR (eI .i64) 1 A9 c10 3 missing11, cBx b12 3 [.int .i64 c13], cBx b14 3 [.int .i64 c15]] ++ T)) (I := fun v16 k5 => iter (slices_IndexFunc_api_Call_api_Call_L3 N s3 pending8 missing11 c13 c15) k5 v16 = some o2) 0 N (hF2) (.cons rfl (.nil)) (.cons (i := 0) rfl (.cons (i := 1) rfl (.cons (i := 7) rfl (.nil)))) (fun wz hw => hw.pickK 7 [0, 1, 2, 3, 4, 5, 6] rfl) (fun v16 k5 hI K6 hK6 => ?_)
    obtain ⟨k5, t5, rfl, hF5, hN5⟩ := iter_step hI
    refine W.seqR fun Q7 hQ7 => ?_
    refine WL.q (Y.lss (.pl rfl) (.pl rfl)) rfl ?_
    refine WL.next hQ7 (.cons (i := 0) rfl (.cons (i := 1) rfl (.cons (i := 7) rfl (.cons (i := 8) rfl (.cons (i := 9) rfl (.nil)))))) ?_
    refine W.seq fun K8 hK8 => ?_
    refine W.cond (.pl rfl) (fun hC9 => ?_) (fun hC9 => ?_)
    · replace hF5 := cpos hC9 hF5
      refine W.skip ?_
      refine W.go hK8 (.cons (i := 0) rfl (.cons (i := 1) rfl (.cons (i := 7) rfl (.cons (i := 8) rfl (.nil))))) ?_
      refine W.seq fun K10 hK10 => ?_
      refine W.block ?_
      refine W.seqR fun Q11 hQ11 => ?_
      refine WL.q (Y.move (.pl rfl)) rfl ?_
      refine WL.q (Y.assign (.pl rfl)) rfl ?_
      refine WL.next hQ11 (.cons (i := 0) rfl (.cons (i := 1) rfl (.cons (i := 5) rfl (.cons (i := 7) rfl (.cons (i := 8) rfl (.nil)))))) ?_
      refine W.seqR fun Q12 hQ12 => ?_
      refine WL.q (Y.move (.pl rfl)) rfl ?_
      refine WL.q (Y.move (.pl rfl)) rfl ?_
      refine WL.q (Y.move (.pl rfl)) rfl ?_
      obtain ⟨x17, hx17, hF5⟩ := bnd hF5
      refine WL.q (Y.rowEl Try.underlying35 cells129 (i := 0) rfl (.pl rfl) rfl (.pl rfl) (ix_lt (hx17))) rfl ?_
      refine WL.q (Y.loadRA (enc := encCall) (ds := (encCall x17)) (a := x17) (idx := v16) (j := 0) Try.underlying129 rfl cells129 lenCall (i := 0) rfl (.pl rfl) (ix_get (hx17)) rfl rfl subW) rfl ?_
      obtain ⟨r18, hr18, hF5⟩ := bnd hF5
      refine WL.step (WO.callG (γ := Unit) (first := []) (cap := [.pointer (some ⟨b4, 0, none⟩), .pointer (some ⟨b12, 0, none⟩), .pointer (some ⟨b14, 0, none⟩)]) (fun g => .bool r18) (fun g => ([cBx b4 116 [.pointer (some ⟨b5, 0, none⟩)], cBx b5 159 (Value.slice A1 (s3).length c2 :: (Value.slice A6 (pending8).length c7 :: (Value.slice A9 (missing11).length c10 :: []))), cR encCall 7 A1 c2 129 s3, cR (eI .i64) 1 A6 c7 3 pending8, cR (eI .i64) 1 A9 c10 3 missing11, cBx b12 3 [.int .i64 c13], cBx b14 3 [.int .i64 c15]] ++ T)) (fun g => True) isGo98 (.pl rfl) (.cons (.pl rfl) (.nil)) rfl (fun wz hw => (by have h := tickets_log_can_1_ok (T := ([] ++ T)) (b2 := b4) (b3 := b5) (A4 := A1) (c5 := c2) (A7 := A6) (c8 := c7) (A10 := A9) (c11 := c10) (b13 := b12) (b15 := b14) (hr18) (hw.pickK 7 [1, 2, 0, 3, 4, 5, 6] rfl) ; unfold Calls at h ⊢; intro cs; obtain ⟨e, w2, fr, h1, h2⟩ := h cs; exact ⟨e, w2, fr, h1, h2⟩)) ?_)
      rintro _ -
      refine WL.next hQ12 (.cons (i := 0) rfl (.cons (i := 1) rfl (.cons (i := 5) rfl (.cons (i := 7) rfl (.cons (i := 8) rfl (.cons (i := 16) rfl (.nil))))))) ?_
      refine W.cond (.pl rfl) (fun hC13 => ?_) (fun hC13 => ?_)
      · replace hF5 := cpos hC13 hF5
        refine W.seqR fun Q14 hQ14 => ?_
        refine WL.q (Y.move (.pl rfl)) rfl ?_
        refine WL.q (Y.assign (.pl rfl)) rfl ?_
        refine WL.next hQ14 (.cons (i := 4) rfl (.nil)) ?_
        obtain rfl := Option.some.inj hF5
        obtain rfl := einr hN5
        obtain rfl := Option.some.inj hF
        refine W.retV (fn := Try.f110) (vs := [.int .i64 v16]) Try.results110 ⟨.tmp rfl, trivial⟩ (fun _ _ h => h) (fun wz hw => ?_)
        exact hR _ _ ⟨(), trivial, rfl, (hw.pickK 7 [2, 0, 1, 3, 4, 5, 6] rfl)⟩
      · replace hF5 := cneg hC13 hF5
        refine W.skip ?_
        refine W.go hK10 (.cons (i := 0) rfl (.cons (i := 1) rfl (.cons (i := 7) rfl (.cons (i := 8) rfl (.nil))))) ?_
        refine W.reg ?_
        obtain ⟨hk19, hF5⟩ := ckh hF5
        refine WL.q (Y.add (.pl rfl) (.pl rfl) (ok64_lt (hk19))) rfl ?_
        refine WL.q (Y.move (.pl rfl)) rfl ?_
        refine WL.nil ?_
        obtain rfl := Option.some.inj hF5
        exact W.again1 hK6 (v16 + 1) k5 hN5 (Nat.lt_succ_self _) (.cons rfl (.nil)) (.cons (i := 0) rfl (.cons (i := 1) rfl (.cons (i := 7) rfl (.nil)))) (fun wz hw => hw.pickK 7 [2, 0, 1, 3, 4, 5, 6] rfl)
    · replace hF5 := cneg hC9 hF5
      refine W.exit ?_
      obtain rfl := Option.some.inj hF5
      exact W.joinAt0 hK3  (einr hN5) (.nil) (.nil) (fun wz hw => hw.pickK 7 [0, 1, 2, 3, 4, 5, 6] rfl)
  · -- behind
    rintro  rfl
    refine W.seqR fun Q16 hQ16 => ?_
    refine WL.q (Y.assign (.pl rfl)) rfl ?_
    refine WL.next hQ16 (.cons (i := 4) rfl (.nil)) ?_
    obtain rfl := Option.some.inj hF
    refine W.retV (fn := Try.f110) (vs := [.int .i64 (-1)]) Try.results110 ⟨.tmp rfl, trivial⟩ (fun _ _ h => h) (fun wz hw => ?_)
    exact hR _ _ ⟨(), trivial, rfl, (hw.pickK 7 [0, 1, 2, 3, 4, 5, 6] rfl)⟩

def slices_ContainsFunc_api_Call_api_Call (N : Nat) (s3 : (List Call)) (pending8 : (List Int)) (missing11 : (List Int)) (c13 : Int) (c15 : Int) : Option Bool :=
  bd (slices_IndexFunc_api_Call_api_Call N s3 pending8 missing11 c13 c15) fun (r16 : Int) =>
  some (decide (0 ≤ r16))

theorem slices_ContainsFunc_api_Call_api_Call_ok {N : Nat} {s3 : (List Call)} {pending8 : (List Int)} {missing11 : (List Int)} {c13 : Int} {c15 : Int} {A1 : Option Addr} {c2 : Nat} {b4 : Nat} {b5 : Nat} {A6 : Option Addr} {c7 : Nat} {A9 : Option Addr} {c10 : Nat} {b12 : Nat} {b14 : Nat} {res : Bool} (hF : slices_ContainsFunc_api_Call_api_Call N s3 pending8 missing11 c13 c15 = some res) {w0 w : World} {T : List Chunk} (hw : St w0.heap.size w0 ([cR encCall 7 A1 c2 129 s3, cBx b4 116 [.pointer (some ⟨b5, 0, none⟩)], cBx b5 159 (Value.slice A1 (s3).length c2 :: (Value.slice A6 (pending8).length c7 :: (Value.slice A9 (missing11).length c10 :: []))), cR (eI .i64) 1 A6 c7 3 pending8, cR (eI .i64) 1 A9 c10 3 missing11, cBx b12 3 [.int .i64 c13], cBx b14 3 [.int .i64 c15]] ++ T) w) :
    Calls Try.prog 97 (List.toArray [.slice A1 (s3).length c2, .func (.func 98) #[] #[.pointer (some ⟨b4, 0, none⟩), .pointer (some ⟨b12, 0, none⟩), .pointer (some ⟨b14, 0, none⟩)]]) w (fun e w' => ∃ g : Unit, (True) ∧ e = .returned (.bool res) ∧ St w0.heap.size w0 ([cR encCall 7 A1 c2 129 s3, cBx b4 116 [.pointer (some ⟨b5, 0, none⟩)], cBx b5 159 (Value.slice A1 (s3).length c2 :: (Value.slice A6 (pending8).length c7 :: (Value.slice A9 (missing11).length c10 :: []))), cR (eI .i64) 1 A6 c7 3 pending8, cR (eI .i64) 1 A9 c10 3 missing11, cBx b12 3 [.int .i64 c13], cBx b14 3 [.int .i64 c15]] ++ T) w') := by
  refine W.enter (n := 9) Try.func97 rfl rfl Sub.refl (by simp) hw fun R hR => ?_
  unfold slices_ContainsFunc_api_Call_api_Call at hF
  refine W.seqR fun Q1 hQ1 => ?_
  refine WL.q (Y.assign (.pl rfl)) rfl ?_
  refine WL.next hQ1 (.cons (i := 0) rfl (.cons (i := 1) rfl (.nil))) ?_
  refine W.seqR fun Q2 hQ2 => ?_
  refine WL.q (Y.move (.pl rfl)) rfl ?_
  refine WL.q (Y.move (.pl rfl)) rfl ?_
  obtain ⟨r16, hr16, hF⟩ := bnd hF
  refine WL.step (WO.call (γ := Unit) (fun g => .int .i64 r16) (fun g => ([cR encCall 7 A1 c2 129 s3, cBx b4 116 [.pointer (some ⟨b5, 0, none⟩)], cBx b5 159 (Value.slice A1 (s3).length c2 :: (Value.slice A6 (pending8).length c7 :: (Value.slice A9 (missing11).length c10 :: []))), cR (eI .i64) 1 A6 c7 3 pending8, cR (eI .i64) 1 A9 c10 3 missing11, cBx b12 3 [.int .i64 c13], cBx b14 3 [.int .i64 c15]] ++ T)) (fun g => True) isGo110 (.cons (.pl rfl) (.cons (.pl rfl) (.nil))) rfl (fun wz hw => slices_IndexFunc_api_Call_api_Call_ok (T := ([] ++ T)) (hr16) (hw.pickK 7 [0, 1, 2, 3, 4, 5, 6] rfl) ) ?_)
  rintro _ -
  refine WL.q (Y.geq (.pl rfl) (.pl rfl)) rfl ?_
  refine WL.q (Y.assign (.pl rfl)) rfl ?_
  refine WL.next hQ2 (.cons (i := 4) rfl (.nil)) ?_
  obtain rfl := Option.some.inj hF
  refine W.retV (fn := Try.f97) (vs := [.bool (decide (0 ≤ r16))]) Try.results97 ⟨.tmp rfl, trivial⟩ (fun _ _ h => h) (fun wz hw => ?_)
  exact hR _ _ ⟨(), trivial, rfl, (hw.pickK 7 [0, 1, 2, 3, 4, 5, 6] rfl)⟩

def tickets_log_can (N : Nat) (calls4 : (List Call)) (pending7 : (List Int)) (missing10 : (List Int)) (i11 : Int) (n12 : Int) : Option Bool :=
  bd (slices_ContainsFunc_api_Call_api_Call N calls4 pending7 missing10 i11 n12) fun (r16 : Bool) =>
  some (!r16)

theorem tickets_log_can_ok {N : Nat} {calls4 : (List Call)} {pending7 : (List Int)} {missing10 : (List Int)} {i11 : Int} {n12 : Int} {b1 : Nat} {A2 : Option Addr} {c3 : Nat} {A5 : Option Addr} {c6 : Nat} {A8 : Option Addr} {c9 : Nat} {res : Bool} (hF : tickets_log_can N calls4 pending7 missing10 i11 n12 = some res) {w0 w : World} {T : List Chunk} (hw : St w0.heap.size w0 ([cBx b1 159 (Value.slice A2 (calls4).length c3 :: (Value.slice A5 (pending7).length c6 :: (Value.slice A8 (missing10).length c9 :: []))), cR encCall 7 A2 c3 129 calls4, cR (eI .i64) 1 A5 c6 3 pending7, cR (eI .i64) 1 A8 c9 3 missing10] ++ T) w) :
    Calls Try.prog 72 (List.toArray [.pointer (some ⟨b1, 0, none⟩), .int .i64 i11, .int .i64 n12]) w (fun e w' => ∃ g : Unit, (True) ∧ e = .returned (.bool res) ∧ St w0.heap.size w0 ([cBx b1 159 (Value.slice A2 (calls4).length c3 :: (Value.slice A5 (pending7).length c6 :: (Value.slice A8 (missing10).length c9 :: []))), cR encCall 7 A2 c3 129 calls4, cR (eI .i64) 1 A5 c6 3 pending7, cR (eI .i64) 1 A8 c9 3 missing10] ++ T) w') := by
  refine W.enter (n := 14) Try.func72 rfl rfl Sub.refl (by simp) hw fun R hR => ?_
  unfold tickets_log_can at hF
  refine W.seqR fun Q1 hQ1 => ?_
  refine WL.step (WO.box1 (.pl rfl) rfl rfl fun b13 => ?_)
  refine WL.step (WO.box1 (.pl rfl) rfl rfl fun b14 => ?_)
  refine WL.step (WO.box1 (.pl rfl) rfl rfl fun b15 => ?_)
  refine WL.q (Y.assign (.pl rfl)) rfl ?_
  refine WL.next hQ1 (.cons (i := 3) rfl (.cons (i := 4) rfl (.cons (i := 5) rfl (.nil)))) ?_
  refine W.seqR fun Q2 hQ2 => ?_
  refine WL.q (Y.loadB (v := .pointer (some ⟨b1, 0, none⟩)) Try.underlying116 rfl (.pl rfl) (i := 2) rfl (rfl)) rfl ?_
  refine WL.q (Y.nilCheck (.pl rfl)) rfl ?_
  refine WL.q (Y.fieldAddr0 (off := 0) (ft := 35) Try.underlying159 rfl cells35 (.pl rfl)) rfl ?_
  refine WL.q (Y.loadB (v := .slice A2 (calls4).length c3) Try.underlying35 rfl (.pl rfl) (i := 3) rfl (rfl)) rfl ?_
  refine WL.q (Y.fnC (.cons (.pl rfl) (.cons (.pl rfl) (.cons (.pl rfl) (.nil))))) rfl ?_
  obtain ⟨r16, hr16, hF⟩ := bnd hF
  refine WL.step (WO.call (γ := Unit) (fun g => .bool r16) (fun g => ([cR encCall 7 A2 c3 129 calls4, cBx b13 116 [.pointer (some ⟨b1, 0, none⟩)], cBx b1 159 (Value.slice A2 (calls4).length c3 :: (Value.slice A5 (pending7).length c6 :: (Value.slice A8 (missing10).length c9 :: []))), cR (eI .i64) 1 A5 c6 3 pending7, cR (eI .i64) 1 A8 c9 3 missing10, cBx b14 3 [.int .i64 i11], cBx b15 3 [.int .i64 n12]] ++ T)) (fun g => True) isGo97 (.cons (.pl rfl) (.cons (.pl rfl) (.nil))) rfl (fun wz hw => slices_ContainsFunc_api_Call_api_Call_ok (T := ([] ++ T)) (hr16) (hw.pickK 7 [4, 2, 3, 5, 6, 1, 0] rfl) ) ?_)
  rintro _ -
  refine WL.q (Y.not (.pl rfl)) rfl ?_
  refine WL.q (Y.assign (.pl rfl)) rfl ?_
  refine WL.next hQ2 (.cons (i := 6) rfl (.nil)) ?_
  obtain rfl := Option.some.inj hF
  refine W.retV (fn := Try.f72) (vs := [.bool (!r16)]) Try.results72 ⟨.tmp rfl, trivial⟩ (fun _ _ h => h) (fun wz hw => ?_)
  exact hR _ _ ⟨(), trivial, rfl, (hw.pickK 7 [2, 0, 3, 4] rfl)⟩

def tickets_log_check_L43 (N : Nat) (calls4 : (List Call)) (v12 : Int) (x13 : Call) : Int → Option (Int ⊕ (Unit ⊕ (Int × Int × Int)))
  | v16 =>
    cond (decide (v16 < (((calls4.take v12.toNat)).length : Int)))
      (bd (ix (calls4.take v12.toNat) v16) fun (x17 : Call) =>
      cond (((!(decide (x13.to_ = (-1)))) && (!(decide (x17.to_ = (-1))))) && (decide (x13.res = x17.res)))
        (some (.inr (.inr (2, v12, v16))))
        (ck (ok64 (v16 + 1)) <|
        some (.inl (v16 + 1))))
      (some (.inr (.inl ())))

def tickets_log_check_L41 (N : Nat) (calls4 : (List Call)) : Int → Option (Int ⊕ (Unit ⊕ (Int × Int × Int)))
  | v12 =>
    cond (decide (v12 < ((calls4).length : Int)))
      (bd (α := (Unit ⊕ (Int × Int × Int))) (bd (ix calls4 v12) fun (x13 : Call) =>
        ck (slB (calls4).length 0 v12) <|
        iter (tickets_log_check_L43 N calls4 v12 x13) N 0) <|
      Sum.elim (fun _ => 
        ck (ok64 (v12 + 1)) <|
        some (.inl (v12 + 1))) (fun p => some (.inr (.inr p))))
      (some (.inr (.inl ())))

def tickets_log_check_L57 (N : Nat) (calls4 : (List Call)) (x22 : Call) (v21 : Int) : Int → Option (Int ⊕ (Unit ⊕ (Int × Int × Int)))
  | v24 =>
    cond (decide (v24 < ((calls4).length : Int)))
      (bd (ix calls4 v24) fun (x25 : Call) =>
      cond ((((!(decide (x22.to_ = (-1)))) && (!(decide (x25.to_ = (-1))))) && (decide (x22.to_ < x25.from_))) && (decide (x25.res < x22.res)))
        (some (.inr (.inr (6, v21, v24))))
        (ck (ok64 (v24 + 1)) <|
        some (.inl (v24 + 1))))
      (some (.inr (.inl ())))

def tickets_log_check_L55 (N : Nat) (calls4 : (List Call)) : Int → Option (Int ⊕ (Unit ⊕ (Int × Int × Int)))
  | v21 =>
    cond (decide (v21 < ((calls4).length : Int)))
      (bd (α := (Unit ⊕ (Int × Int × Int))) (bd (ix calls4 v21) fun (x22 : Call) =>
        iter (tickets_log_check_L57 N calls4 x22 v21) N 0) <|
      Sum.elim (fun _ => 
        ck (ok64 (v21 + 1)) <|
        some (.inl (v21 + 1))) (fun p => some (.inr (.inr p))))
      (some (.inr (.inl ())))

def tickets_log_check_L59 (N : Nat) (missing10 : (List Int)) (pending7 : (List Int)) (calls4 : (List Call)) : Int → Option (Int ⊕ (Unit ⊕ (Int × Int × Int)))
  | v29 =>
    cond (decide (v29 < ((missing10).length : Int)))
      (bd (ix missing10 v29) fun (x30 : Int) =>
      bd (α := Bool) (bd ((cond ((decide (((pending7).length : Int) ≤ v29)) == false) (ix pending7 v29) (some 0))) fun (x32 : Int) =>
        cond ((decide (((pending7).length : Int) ≤ v29)) == false)
          (bd (tickets_log_can N calls4 pending7 missing10 x32 x30) fun (r33 : Bool) =>
          some ((decide (((pending7).length : Int) ≤ v29)) || (!r33)))
          (some ((decide (((pending7).length : Int) ≤ v29)) || false))) <|
      fun (v31 : Bool) => 
        cond v31
          (some (.inr (.inr (8, x30, 0))))
          (ck (ok64 (v29 + 1)) <|
          some (.inl (v29 + 1))))
      (some (.inr (.inl ())))

def tickets_log_check (N : Nat) (calls4 : (List Call)) (pending7 : (List Int)) (missing10 : (List Int)) : Option (Int × Int × Int) :=
  bd (α := (Unit ⊕ (Int × Int × Int))) (iter (tickets_log_check_L41 N calls4) N 0) <|
  Sum.elim (fun _ => 
    bd (α := (Unit ⊕ (Int × Int × Int))) (iter (tickets_log_check_L55 N calls4) N 0) <|
    Sum.elim (fun _ => 
      bd (α := (Unit ⊕ (Int × Int × Int))) (iter (tickets_log_check_L59 N missing10 pending7 calls4) N 0) <|
      Sum.elim (fun _ => 
        some (0, 0, 0)) (fun p => some p)) (fun p => some p)) (fun p => some p)

theorem tickets_log_check_ok {N : Nat} {calls4 : (List Call)} {pending7 : (List Int)} {missing10 : (List Int)} {b1 : Nat} {A2 : Option Addr} {c3 : Nat} {A5 : Option Addr} {c6 : Nat} {A8 : Option Addr} {c9 : Nat} {res : (Int × Int × Int)} (hF : tickets_log_check N calls4 pending7 missing10 = some res) {w0 w : World} {T : List Chunk} (hw : St w0.heap.size w0 ([cBx b1 159 (Value.slice A2 (calls4).length c3 :: (Value.slice A5 (pending7).length c6 :: (Value.slice A8 (missing10).length c9 :: []))), cR encCall 7 A2 c3 129 calls4, cR (eI .i64) 1 A5 c6 3 pending7, cR (eI .i64) 1 A8 c9 3 missing10] ++ T) w) :
    Calls Try.prog 52 (List.toArray [.pointer (some ⟨b1, 0, none⟩)]) w (fun e w' => ∃ g : Unit, (True) ∧ e = .returned (.agg (encBad (Bad.mk res.1 res.2.1 res.2.2)).toArray) ∧ St w0.heap.size w0 ([cBx b1 159 (Value.slice A2 (calls4).length c3 :: (Value.slice A5 (pending7).length c6 :: (Value.slice A8 (missing10).length c9 :: []))), cR encCall 7 A2 c3 129 calls4, cR (eI .i64) 1 A5 c6 3 pending7, cR (eI .i64) 1 A8 c9 3 missing10] ++ T) w') := by
  refine W.enter (n := 136) Try.func52 rfl rfl Sub.refl (by simp) hw fun R hR => ?_
  unfold tickets_log_check at hF
  refine W.seqR fun Q1 hQ1 => ?_
  refine WL.step (WO.alloc (cs := (encBad (Bad.mk 0 0 0)).toArray) zero66 rfl rfl fun b11 => ?_)
  refine WL.next hQ1 (.cons (i := 0) rfl (.cons (i := 2) rfl (.nil))) ?_
  obtain ⟨o2, hF2, hF⟩ := bnd hF
  refine W.join0 (Em := []) (M := ([cBx b1 159 (Value.slice A2 (calls4).length c3 :: (Value.slice A5 (pending7).length c6 :: (Value.slice A8 (missing10).length c9 :: []))), cR encCall 7 A2 c3 129 calls4, cR (eI .i64) 1 A5 c6 3 pending7, cR (eI .i64) 1 A8 c9 3 missing10, cBx b11 66 (encBad (Bad.mk 0 0 0))] ++ T)) (I := (.inl ()) = o2) (.cons (i := 0) rfl (.cons (i := 2) rfl (.nil))) (fun K3 hK3 => ?_) ?_
  · -- up to
    refine W.seqR fun Q4 hQ4 => ?_
    refine WL.q (Y.move (.pl rfl)) rfl ?_
    refine WL.q (Y.nilCheck (.pl rfl)) rfl ?_
    refine WL.q (Y.fieldAddr0 (off := 0) (ft := 35) Try.underlying159 rfl cells35 (.pl rfl)) rfl ?_
    refine WL.q (Y.loadB (v := .slice A2 (calls4).length c3) Try.underlying35 rfl (.pl rfl) (i := 1) rfl (rfl)) rfl ?_
    refine WL.q (Y.len Try.underlying35 (.pl rfl)) rfl ?_
    refine WL.q (Y.move (.pl rfl)) rfl ?_
    refine WL.next hQ4 (.cons (i := 0) rfl (.cons (i := 2) rfl (.cons (i := 16) rfl (.cons (i := 17) rfl (.cons (i := 18) rfl (.nil)))))) ?_
    refine W.block ?_
    refine W.loop1 (Em := fun (v12 : Int) => [(18, .int .i64 v12)]) (M := fun v12 => ([cBx b1 159 (Value.slice A2 (calls4).length c3 :: (Value.slice A5 (pending7).length c6 :: (Value.slice A8 (missing10).length c9 :: []))), cR encCall 7 A2 c3 129 calls4, cR (eI .i64) 1 A5 c6 3 pending7, cR (eI .i64) 1 A8 c9 3 missing10, cBx b11 66 (encBad (Bad.mk 0 0 0))] ++ T)) (I := fun v12 k5 => iter (tickets_log_check_L41 N calls4) k5 v12 = some o2) 0 N (hF2) (.cons rfl (.nil)) (.cons (i := 0) rfl (.cons (i := 2) rfl (.cons (i := 16) rfl (.cons (i := 17) rfl (.nil))))) (fun wz hw => hw.pickK 5 [1, 2, 3, 4, 0] rfl) (fun v12 k5 hI K6 hK6 => ?_)
    obtain ⟨k5, t5, rfl, hF5, hN5⟩ := iter_step hI
    refine W.seqR fun Q7 hQ7 => ?_
    refine WL.q (Y.lss (.pl rfl) (.pl rfl)) rfl ?_
    refine WL.next hQ7 (.cons (i := 0) rfl (.cons (i := 2) rfl (.cons (i := 16) rfl (.cons (i := 17) rfl (.cons (i := 18) rfl (.cons (i := 19) rfl (.nil))))))) ?_
    refine W.seq fun K8 hK8 => ?_
    refine W.cond (.pl rfl) (fun hC9 => ?_) (fun hC9 => ?_)
    · replace hF5 := cpos hC9 hF5
      refine W.skip ?_
      refine W.go hK8 (.cons (i := 0) rfl (.cons (i := 2) rfl (.cons (i := 16) rfl (.cons (i := 17) rfl (.cons (i := 18) rfl (.nil)))))) ?_
      obtain ⟨o10, hF10, hF5⟩ := bnd hF5
      refine W.join0 (Em := []) (M := ([cBx b1 159 (Value.slice A2 (calls4).length c3 :: (Value.slice A5 (pending7).length c6 :: (Value.slice A8 (missing10).length c9 :: []))), cR encCall 7 A2 c3 129 calls4, cR (eI .i64) 1 A5 c6 3 pending7, cR (eI .i64) 1 A8 c9 3 missing10, cBx b11 66 (encBad (Bad.mk 0 0 0))] ++ T)) (I := (.inl ()) = o10) (.cons (i := 0) rfl (.cons (i := 2) rfl (.cons (i := 16) rfl (.cons (i := 17) rfl (.cons (i := 18) rfl (.nil)))))) (fun K11 hK11 => ?_) ?_
      · -- up to
        refine W.block ?_
        refine W.seqR fun Q12 hQ12 => ?_
        refine WL.q (Y.move (.pl rfl)) rfl ?_
        obtain ⟨x13, hx13, hF10⟩ := bnd hF10
        refine WL.q (Y.rowEl Try.underlying35 cells129 (i := 1) rfl (.pl rfl) rfl (.pl rfl) (ix_lt (hx13))) rfl ?_
        refine WL.q (Y.loadRA (enc := encCall) (ds := (encCall x13)) (a := x13) (idx := v12) (j := 0) Try.underlying129 rfl cells129 lenCall (i := 1) rfl (.pl rfl) (ix_get (hx13)) rfl rfl subW) rfl ?_
        refine WL.step (WO.alloc (cs := (encCall (Call.mk 0 0 0 0 0 0 0)).toArray) zero129 rfl rfl fun b14 => ?_)
        refine WL.q (Y.assign (.pl rfl)) rfl ?_
        refine WL.step (WO.storeBA (ds := (encCall x13)) (cs' := (encCall x13)) cells129 (.pl rfl) (.pl rfl) rfl (oneCall _) (i := 0) rfl (lel (o := 0) (l := 7) (m := 7) (by decide) rfl rfl) (putW rfl) ?_)
        refine WL.next hQ12 (.cons (i := 0) rfl (.cons (i := 2) rfl (.cons (i := 3) rfl (.cons (i := 4) rfl (.cons (i := 16) rfl (.cons (i := 17) rfl (.cons (i := 18) rfl (.nil)))))))) ?_
        refine W.seqR fun Q13 hQ13 => ?_
        refine WL.q (Y.move (.pl rfl)) rfl ?_
        refine WL.q (Y.nilCheck (.pl rfl)) rfl ?_
        refine WL.q (Y.fieldAddr0 (off := 0) (ft := 35) Try.underlying159 rfl cells35 (.pl rfl)) rfl ?_
        refine WL.q (Y.loadB (v := .slice A2 (calls4).length c3) Try.underlying35 rfl (.pl rfl) (i := 1) rfl (rfl)) rfl ?_
        refine WL.q (Y.move (.pl rfl)) rfl ?_
        obtain ⟨hk15, hF10⟩ := ckh hF10
        refine WL.q (Y.sliceR0 Try.underlying35 cells129 (i := 2) rfl (.pl rfl) rfl (.pl rfl) (hk15)) rfl ?_
        refine WL.q (Y.len Try.underlying35 (.pl rfl)) rfl ?_
        refine WL.q (Y.move (.pl rfl)) rfl ?_
        refine WL.next hQ13 (.cons (i := 0) rfl (.cons (i := 2) rfl (.cons (i := 3) rfl (.cons (i := 4) rfl (.cons (i := 16) rfl (.cons (i := 17) rfl (.cons (i := 18) rfl (.cons (i := 28) rfl (.cons (i := 29) rfl (.cons (i := 30) rfl (.nil))))))))))) ?_
        refine W.block ?_
        refine W.loop1 (Em := fun (v16 : Int) => [(30, .int .i64 v16)]) (M := fun v16 => ([cBx b1 159 (Value.slice A2 (calls4).length c3 :: (Value.slice A5 (pending7).length c6 :: (Value.slice A8 (missing10).length c9 :: []))), cR encCall 7 A2 c3 129 calls4, cR (eI .i64) 1 A5 c6 3 pending7, cR (eI .i64) 1 A8 c9 3 missing10, cBx b11 66 (encBad (Bad.mk 0 0 0)), cBx b14 129 (encCall x13)] ++ T)) (I := fun v16 k14 => iter (tickets_log_check_L43 N calls4 v12 x13) k14 v16 = some o10) 0 N (hF10) (.cons rfl (.nil)) (.cons (i := 0) rfl (.cons (i := 2) rfl (.cons (i := 3) rfl (.cons (i := 4) rfl (.cons (i := 16) rfl (.cons (i := 17) rfl (.cons (i := 18) rfl (.cons (i := 28) rfl (.cons (i := 29) rfl (.nil)))))))))) (fun wz hw => hw.pickK 6 [1, 2, 3, 4, 5, 0] rfl) (fun v16 k14 hI K15 hK15 => ?_)
        obtain ⟨k14, t14, rfl, hF14, hN14⟩ := iter_step hI
        refine W.seqR fun Q16 hQ16 => ?_
        refine WL.q (Y.lss (.pl rfl) (.pl rfl)) rfl ?_
        refine WL.next hQ16 (.cons (i := 0) rfl (.cons (i := 2) rfl (.cons (i := 3) rfl (.cons (i := 4) rfl (.cons (i := 16) rfl (.cons (i := 17) rfl (.cons (i := 18) rfl (.cons (i := 28) rfl (.cons (i := 29) rfl (.cons (i := 30) rfl (.cons (i := 31) rfl (.nil)))))))))))) ?_
        refine W.seq fun K17 hK17 => ?_
        refine W.cond (.pl rfl) (fun hC18 => ?_) (fun hC18 => ?_)
        · replace hF14 := cpos hC18 hF14
          refine W.skip ?_
          refine W.go hK17 (.cons (i := 0) rfl (.cons (i := 2) rfl (.cons (i := 3) rfl (.cons (i := 4) rfl (.cons (i := 16) rfl (.cons (i := 17) rfl (.cons (i := 18) rfl (.cons (i := 28) rfl (.cons (i := 29) rfl (.cons (i := 30) rfl (.nil))))))))))) ?_
          refine W.seq fun K19 hK19 => ?_
          refine W.block ?_
          refine W.seqR fun Q20 hQ20 => ?_
          refine WL.q (Y.move (.pl rfl)) rfl ?_
          obtain ⟨x17, hx17, hF14⟩ := bnd hF14
          refine WL.q (Y.viewEl0 (xs := calls4) Try.underlying35 cells129 (i := 1) rfl (.pl rfl) (.pl rfl) (ix_lt (hx17)) (ix_lt (ix_view0 (hx17))).2) rfl ?_
          refine WL.q (Y.loadRA (enc := encCall) (ds := (encCall x17)) (a := x17) (idx := v16) (j := 0) Try.underlying129 rfl cells129 lenCall (i := 1) rfl (.pl rfl) (ix_get (ix_view0 (hx17))) rfl rfl subW) rfl ?_
          refine WL.step (WO.alloc (cs := (encCall (Call.mk 0 0 0 0 0 0 0)).toArray) zero129 rfl rfl fun b18 => ?_)
          refine WL.q (Y.assign (.pl rfl)) rfl ?_
          refine WL.step (WO.storeBA (ds := (encCall x17)) (cs' := (encCall x17)) cells129 (.pl rfl) (.pl rfl) rfl (oneCall _) (i := 0) rfl (lel (o := 0) (l := 7) (m := 7) (by decide) rfl rfl) (putW rfl) ?_)
          refine WL.next hQ20 (.cons (i := 0) rfl (.cons (i := 2) rfl (.cons (i := 3) rfl (.cons (i := 4) rfl (.cons (i := 5) rfl (.cons (i := 6) rfl (.cons (i := 16) rfl (.cons (i := 17) rfl (.cons (i := 18) rfl (.cons (i := 28) rfl (.cons (i := 29) rfl (.cons (i := 30) rfl (.nil))))))))))))) ?_
          refine W.seqR fun Q21 hQ21 => ?_
          refine WL.q (Y.fieldAddr0 (off := 6) (ft := 3) Try.underlying129 rfl cells3 (.pl rfl)) rfl ?_
          refine WL.q (Y.loadB (v := .int .i64 x13.to_) Try.underlying3 rfl (.pl rfl) (i := 6) rfl (rfl)) rfl ?_
          refine WL.q (Y.neq (.pl rfl) (.pl rfl)) rfl ?_
          refine WL.q (Y.move (.pl rfl)) rfl ?_
          refine WL.g (.pl rfl rfl rfl) (fun hg => Y.fieldAddr0 (off := 6) (ft := 3) Try.underlying129 rfl cells3 (.pl rfl)) rfl ?_
          refine WL.g (.pl rfl rfl rfl) (fun hg => Y.loadB (v := .int .i64 x17.to_) Try.underlying3 rfl (.gd (hg) rfl) (i := 0) rfl (rfl)) rfl ?_
          refine WL.g (.pl rfl rfl rfl) (fun hg => Y.neq (.gd (hg) rfl) (.pl rfl)) rfl ?_
          refine WL.q (Y.and (.pl rfl) (fun h2 => .gd (eqt h2) rfl)) rfl ?_
          refine WL.q (Y.move (.pl rfl)) rfl ?_
          refine WL.g (.pl rfl rfl rfl) (fun hg => Y.fieldAddr0 (off := 4) (ft := 3) Try.underlying129 rfl cells3 (.pl rfl)) rfl ?_
          refine WL.g (.pl rfl rfl rfl) (fun hg => Y.loadB (v := .int .i64 x13.res) Try.underlying3 rfl (.gd (hg) rfl) (i := 6) rfl (rfl)) rfl ?_
          refine WL.g (.pl rfl rfl rfl) (fun hg => Y.fieldAddr0 (off := 4) (ft := 3) Try.underlying129 rfl cells3 (.pl rfl)) rfl ?_
          refine WL.g (.pl rfl rfl rfl) (fun hg => Y.loadB (v := .int .i64 x17.res) Try.underlying3 rfl (.gd (hg) rfl) (i := 0) rfl (rfl)) rfl ?_
          refine WL.g (.pl rfl rfl rfl) (fun hg => Y.eql (.gd (hg) rfl) (.gd (hg) rfl)) rfl ?_
          refine WL.q (Y.and (.pl rfl) (fun h2 => .gd (eqt h2) rfl)) rfl ?_
          refine WL.next hQ21 (.cons (i := 0) rfl (.cons (i := 2) rfl (.cons (i := 3) rfl (.cons (i := 4) rfl (.cons (i := 5) rfl (.cons (i := 16) rfl (.cons (i := 17) rfl (.cons (i := 18) rfl (.cons (i := 28) rfl (.cons (i := 29) rfl (.cons (i := 30) rfl (.cons (i := 49) rfl (.nil))))))))))))) ?_
          refine W.cond (.pl rfl) (fun hC22 => ?_) (fun hC22 => ?_)
          · replace hF14 := cpos hC22 hF14
            refine W.seqR fun Q23 hQ23 => ?_
            refine WL.q (Y.move (.pl rfl)) rfl ?_
            refine WL.q (Y.move (.pl rfl)) rfl ?_
            refine WL.q (Y.build (cs := (encBad (Bad.mk 2 v12 v16)).toArray) shape66 (.cons (.pl rfl) (.cons (.pl rfl) (.cons (.pl rfl) (.nil)))) (one_parts ⟨rfl, ⟨rfl, ⟨rfl, trivial⟩⟩⟩) rfl) rfl ?_
            refine WL.step (WO.storeBA (ds := (encBad (Bad.mk 2 v12 v16))) (cs' := (encBad (Bad.mk 2 v12 v16))) cells66 (.pl rfl) (.pl rfl) rfl (oneBad _) (i := 5) rfl (lel (o := 0) (l := 3) (m := 3) (by decide) rfl rfl) (putW rfl) ?_)
            refine WL.next hQ23 (.cons (i := 2) rfl (.nil)) ?_
            obtain rfl := Option.some.inj hF14
            obtain rfl := einr hN14
            obtain rfl := Option.some.inj hF5
            obtain rfl := einr hN5
            obtain rfl := Option.some.inj hF
            refine W.retV (fn := Try.f52) (vs := [.agg (encBad (Bad.mk 2 v12 v16)).toArray]) Try.results52 ⟨.cellA Try.underlying66 rfl cells66 rfl (i := 5) rfl rfl, trivial⟩ (fun _ _ h => h) (fun wz hw => ?_)
            exact hR _ _ ⟨(), trivial, rfl, (hw.pickK 7 [1, 2, 3, 4] rfl)⟩
          · replace hF14 := cneg hC22 hF14
            refine W.skip ?_
            refine W.go hK19 (.cons (i := 0) rfl (.cons (i := 2) rfl (.cons (i := 3) rfl (.cons (i := 4) rfl (.cons (i := 16) rfl (.cons (i := 17) rfl (.cons (i := 18) rfl (.cons (i := 28) rfl (.cons (i := 29) rfl (.cons (i := 30) rfl (.nil))))))))))) ?_
            refine W.reg ?_
            obtain ⟨hk19, hF14⟩ := ckh hF14
            refine WL.q (Y.add (.pl rfl) (.pl rfl) (ok64_lt (hk19))) rfl ?_
            refine WL.q (Y.move (.pl rfl)) rfl ?_
            refine WL.nil ?_
            obtain rfl := Option.some.inj hF14
            exact W.again1 hK15 (v16 + 1) k14 hN14 (Nat.lt_succ_self _) (.cons rfl (.nil)) (.cons (i := 0) rfl (.cons (i := 2) rfl (.cons (i := 3) rfl (.cons (i := 4) rfl (.cons (i := 16) rfl (.cons (i := 17) rfl (.cons (i := 18) rfl (.cons (i := 28) rfl (.cons (i := 29) rfl (.nil)))))))))) (fun wz hw => hw.pickK 7 [1, 2, 3, 4, 5, 6] rfl)
        · replace hF14 := cneg hC18 hF14
          refine W.exit ?_
          obtain rfl := Option.some.inj hF14
          exact W.joinAt0 hK11  (einr hN14) (.nil) (.cons (i := 0) rfl (.cons (i := 2) rfl (.cons (i := 16) rfl (.cons (i := 17) rfl (.cons (i := 18) rfl (.nil)))))) (fun wz hw => hw.pickK 6 [0, 1, 2, 3, 4] rfl)
      · -- behind
        rintro  rfl
        refine W.reg ?_
        obtain ⟨hk20, hF5⟩ := ckh hF5
        refine WL.q (Y.add (.pl rfl) (.pl rfl) (ok64_lt (hk20))) rfl ?_
        refine WL.q (Y.move (.pl rfl)) rfl ?_
        refine WL.nil ?_
        obtain rfl := Option.some.inj hF5
        exact W.again1 hK6 (v12 + 1) k5 hN5 (Nat.lt_succ_self _) (.cons rfl (.nil)) (.cons (i := 0) rfl (.cons (i := 2) rfl (.cons (i := 16) rfl (.cons (i := 17) rfl (.nil))))) (fun wz hw => hw.pickK 5 [0, 1, 2, 3, 4] rfl)
    · replace hF5 := cneg hC9 hF5
      refine W.exit ?_
      obtain rfl := Option.some.inj hF5
      exact W.joinAt0 hK3  (einr hN5) (.nil) (.cons (i := 0) rfl (.cons (i := 2) rfl (.nil))) (fun wz hw => hw.pickK 5 [0, 1, 2, 3, 4] rfl)
  · -- behind
    rintro  rfl
    obtain ⟨o26, hF26, hF⟩ := bnd hF
    refine W.join0 (Em := []) (M := ([cBx b1 159 (Value.slice A2 (calls4).length c3 :: (Value.slice A5 (pending7).length c6 :: (Value.slice A8 (missing10).length c9 :: []))), cR encCall 7 A2 c3 129 calls4, cR (eI .i64) 1 A5 c6 3 pending7, cR (eI .i64) 1 A8 c9 3 missing10, cBx b11 66 (encBad (Bad.mk 0 0 0))] ++ T)) (I := (.inl ()) = o26) (.cons (i := 0) rfl (.cons (i := 2) rfl (.nil))) (fun K27 hK27 => ?_) ?_
    · -- up to
      refine W.seqR fun Q28 hQ28 => ?_
      refine WL.q (Y.move (.pl rfl)) rfl ?_
      refine WL.q (Y.nilCheck (.pl rfl)) rfl ?_
      refine WL.q (Y.fieldAddr0 (off := 0) (ft := 35) Try.underlying159 rfl cells35 (.pl rfl)) rfl ?_
      refine WL.q (Y.loadB (v := .slice A2 (calls4).length c3) Try.underlying35 rfl (.pl rfl) (i := 0) rfl (rfl)) rfl ?_
      refine WL.q (Y.len Try.underlying35 (.pl rfl)) rfl ?_
      refine WL.q (Y.move (.pl rfl)) rfl ?_
      refine WL.next hQ28 (.cons (i := 0) rfl (.cons (i := 2) rfl (.cons (i := 58) rfl (.cons (i := 59) rfl (.cons (i := 60) rfl (.nil)))))) ?_
      refine W.block ?_
      refine W.loop1 (Em := fun (v21 : Int) => [(60, .int .i64 v21)]) (M := fun v21 => ([cBx b1 159 (Value.slice A2 (calls4).length c3 :: (Value.slice A5 (pending7).length c6 :: (Value.slice A8 (missing10).length c9 :: []))), cR encCall 7 A2 c3 129 calls4, cR (eI .i64) 1 A5 c6 3 pending7, cR (eI .i64) 1 A8 c9 3 missing10, cBx b11 66 (encBad (Bad.mk 0 0 0))] ++ T)) (I := fun v21 k29 => iter (tickets_log_check_L55 N calls4) k29 v21 = some o26) 0 N (hF26) (.cons rfl (.nil)) (.cons (i := 0) rfl (.cons (i := 2) rfl (.cons (i := 58) rfl (.cons (i := 59) rfl (.nil))))) (fun wz hw => hw.pickK 5 [0, 1, 2, 3, 4] rfl) (fun v21 k29 hI K30 hK30 => ?_)
      obtain ⟨k29, t29, rfl, hF29, hN29⟩ := iter_step hI
      refine W.seqR fun Q31 hQ31 => ?_
      refine WL.q (Y.lss (.pl rfl) (.pl rfl)) rfl ?_
      refine WL.next hQ31 (.cons (i := 0) rfl (.cons (i := 2) rfl (.cons (i := 58) rfl (.cons (i := 59) rfl (.cons (i := 60) rfl (.cons (i := 61) rfl (.nil))))))) ?_
      refine W.seq fun K32 hK32 => ?_
      refine W.cond (.pl rfl) (fun hC33 => ?_) (fun hC33 => ?_)
      · replace hF29 := cpos hC33 hF29
        refine W.skip ?_
        refine W.go hK32 (.cons (i := 0) rfl (.cons (i := 2) rfl (.cons (i := 58) rfl (.cons (i := 59) rfl (.cons (i := 60) rfl (.nil)))))) ?_
        obtain ⟨o34, hF34, hF29⟩ := bnd hF29
        refine W.join0 (Em := []) (M := ([cBx b1 159 (Value.slice A2 (calls4).length c3 :: (Value.slice A5 (pending7).length c6 :: (Value.slice A8 (missing10).length c9 :: []))), cR encCall 7 A2 c3 129 calls4, cR (eI .i64) 1 A5 c6 3 pending7, cR (eI .i64) 1 A8 c9 3 missing10, cBx b11 66 (encBad (Bad.mk 0 0 0))] ++ T)) (I := (.inl ()) = o34) (.cons (i := 0) rfl (.cons (i := 2) rfl (.cons (i := 58) rfl (.cons (i := 59) rfl (.cons (i := 60) rfl (.nil)))))) (fun K35 hK35 => ?_) ?_
        · -- up to
          refine W.block ?_
          refine W.seqR fun Q36 hQ36 => ?_
          refine WL.q (Y.move (.pl rfl)) rfl ?_
          obtain ⟨x22, hx22, hF34⟩ := bnd hF34
          refine WL.q (Y.rowEl Try.underlying35 cells129 (i := 1) rfl (.pl rfl) rfl (.pl rfl) (ix_lt (hx22))) rfl ?_
          refine WL.q (Y.loadRA (enc := encCall) (ds := (encCall x22)) (a := x22) (idx := v21) (j := 0) Try.underlying129 rfl cells129 lenCall (i := 1) rfl (.pl rfl) (ix_get (hx22)) rfl rfl subW) rfl ?_
          refine WL.step (WO.alloc (cs := (encCall (Call.mk 0 0 0 0 0 0 0)).toArray) zero129 rfl rfl fun b23 => ?_)
          refine WL.q (Y.assign (.pl rfl)) rfl ?_
          refine WL.step (WO.storeBA (ds := (encCall x22)) (cs' := (encCall x22)) cells129 (.pl rfl) (.pl rfl) rfl (oneCall _) (i := 0) rfl (lel (o := 0) (l := 7) (m := 7) (by decide) rfl rfl) (putW rfl) ?_)
          refine WL.next hQ36 (.cons (i := 0) rfl (.cons (i := 2) rfl (.cons (i := 7) rfl (.cons (i := 8) rfl (.cons (i := 58) rfl (.cons (i := 59) rfl (.cons (i := 60) rfl (.nil)))))))) ?_
          refine W.seqR fun Q37 hQ37 => ?_
          refine WL.q (Y.move (.pl rfl)) rfl ?_
          refine WL.q (Y.nilCheck (.pl rfl)) rfl ?_
          refine WL.q (Y.fieldAddr0 (off := 0) (ft := 35) Try.underlying159 rfl cells35 (.pl rfl)) rfl ?_
          refine WL.q (Y.loadB (v := .slice A2 (calls4).length c3) Try.underlying35 rfl (.pl rfl) (i := 1) rfl (rfl)) rfl ?_
          refine WL.q (Y.len Try.underlying35 (.pl rfl)) rfl ?_
          refine WL.q (Y.move (.pl rfl)) rfl ?_
          refine WL.next hQ37 (.cons (i := 0) rfl (.cons (i := 2) rfl (.cons (i := 7) rfl (.cons (i := 8) rfl (.cons (i := 58) rfl (.cons (i := 59) rfl (.cons (i := 60) rfl (.cons (i := 68) rfl (.cons (i := 69) rfl (.cons (i := 70) rfl (.nil))))))))))) ?_
          refine W.block ?_
          refine W.loop1 (Em := fun (v24 : Int) => [(70, .int .i64 v24)]) (M := fun v24 => ([cBx b1 159 (Value.slice A2 (calls4).length c3 :: (Value.slice A5 (pending7).length c6 :: (Value.slice A8 (missing10).length c9 :: []))), cR encCall 7 A2 c3 129 calls4, cR (eI .i64) 1 A5 c6 3 pending7, cR (eI .i64) 1 A8 c9 3 missing10, cBx b11 66 (encBad (Bad.mk 0 0 0)), cBx b23 129 (encCall x22)] ++ T)) (I := fun v24 k38 => iter (tickets_log_check_L57 N calls4 x22 v21) k38 v24 = some o34) 0 N (hF34) (.cons rfl (.nil)) (.cons (i := 0) rfl (.cons (i := 2) rfl (.cons (i := 7) rfl (.cons (i := 8) rfl (.cons (i := 58) rfl (.cons (i := 59) rfl (.cons (i := 60) rfl (.cons (i := 68) rfl (.cons (i := 69) rfl (.nil)))))))))) (fun wz hw => hw.pickK 6 [1, 2, 3, 4, 5, 0] rfl) (fun v24 k38 hI K39 hK39 => ?_)
          obtain ⟨k38, t38, rfl, hF38, hN38⟩ := iter_step hI
          refine W.seqR fun Q40 hQ40 => ?_
          refine WL.q (Y.lss (.pl rfl) (.pl rfl)) rfl ?_
          refine WL.next hQ40 (.cons (i := 0) rfl (.cons (i := 2) rfl (.cons (i := 7) rfl (.cons (i := 8) rfl (.cons (i := 58) rfl (.cons (i := 59) rfl (.cons (i := 60) rfl (.cons (i := 68) rfl (.cons (i := 69) rfl (.cons (i := 70) rfl (.cons (i := 71) rfl (.nil)))))))))))) ?_
          refine W.seq fun K41 hK41 => ?_
          refine W.cond (.pl rfl) (fun hC42 => ?_) (fun hC42 => ?_)
          · replace hF38 := cpos hC42 hF38
            refine W.skip ?_
            refine W.go hK41 (.cons (i := 0) rfl (.cons (i := 2) rfl (.cons (i := 7) rfl (.cons (i := 8) rfl (.cons (i := 58) rfl (.cons (i := 59) rfl (.cons (i := 60) rfl (.cons (i := 68) rfl (.cons (i := 69) rfl (.cons (i := 70) rfl (.nil))))))))))) ?_
            refine W.seq fun K43 hK43 => ?_
            refine W.block ?_
            refine W.seqR fun Q44 hQ44 => ?_
            refine WL.q (Y.move (.pl rfl)) rfl ?_
            obtain ⟨x25, hx25, hF38⟩ := bnd hF38
            refine WL.q (Y.rowEl Try.underlying35 cells129 (i := 1) rfl (.pl rfl) rfl (.pl rfl) (ix_lt (hx25))) rfl ?_
            refine WL.q (Y.loadRA (enc := encCall) (ds := (encCall x25)) (a := x25) (idx := v24) (j := 0) Try.underlying129 rfl cells129 lenCall (i := 1) rfl (.pl rfl) (ix_get (hx25)) rfl rfl subW) rfl ?_
            refine WL.step (WO.alloc (cs := (encCall (Call.mk 0 0 0 0 0 0 0)).toArray) zero129 rfl rfl fun b26 => ?_)
            refine WL.q (Y.assign (.pl rfl)) rfl ?_
            refine WL.step (WO.storeBA (ds := (encCall x25)) (cs' := (encCall x25)) cells129 (.pl rfl) (.pl rfl) rfl (oneCall _) (i := 0) rfl (lel (o := 0) (l := 7) (m := 7) (by decide) rfl rfl) (putW rfl) ?_)
            refine WL.next hQ44 (.cons (i := 0) rfl (.cons (i := 2) rfl (.cons (i := 7) rfl (.cons (i := 8) rfl (.cons (i := 9) rfl (.cons (i := 10) rfl (.cons (i := 58) rfl (.cons (i := 59) rfl (.cons (i := 60) rfl (.cons (i := 68) rfl (.cons (i := 69) rfl (.cons (i := 70) rfl (.nil))))))))))))) ?_
            refine W.seqR fun Q45 hQ45 => ?_
            refine WL.q (Y.fieldAddr0 (off := 6) (ft := 3) Try.underlying129 rfl cells3 (.pl rfl)) rfl ?_
            refine WL.q (Y.loadB (v := .int .i64 x22.to_) Try.underlying3 rfl (.pl rfl) (i := 6) rfl (rfl)) rfl ?_
            refine WL.q (Y.neq (.pl rfl) (.pl rfl)) rfl ?_
            refine WL.q (Y.move (.pl rfl)) rfl ?_
            refine WL.g (.pl rfl rfl rfl) (fun hg => Y.fieldAddr0 (off := 6) (ft := 3) Try.underlying129 rfl cells3 (.pl rfl)) rfl ?_
            refine WL.g (.pl rfl rfl rfl) (fun hg => Y.loadB (v := .int .i64 x25.to_) Try.underlying3 rfl (.gd (hg) rfl) (i := 0) rfl (rfl)) rfl ?_
            refine WL.g (.pl rfl rfl rfl) (fun hg => Y.neq (.gd (hg) rfl) (.pl rfl)) rfl ?_
            refine WL.q (Y.and (.pl rfl) (fun h2 => .gd (eqt h2) rfl)) rfl ?_
            refine WL.q (Y.move (.pl rfl)) rfl ?_
            refine WL.g (.pl rfl rfl rfl) (fun hg => Y.fieldAddr0 (off := 6) (ft := 3) Try.underlying129 rfl cells3 (.pl rfl)) rfl ?_
            refine WL.g (.pl rfl rfl rfl) (fun hg => Y.loadB (v := .int .i64 x22.to_) Try.underlying3 rfl (.gd (hg) rfl) (i := 6) rfl (rfl)) rfl ?_
            refine WL.g (.pl rfl rfl rfl) (fun hg => Y.fieldAddr0 (off := 5) (ft := 3) Try.underlying129 rfl cells3 (.pl rfl)) rfl ?_
            refine WL.g (.pl rfl rfl rfl) (fun hg => Y.loadB (v := .int .i64 x25.from_) Try.underlying3 rfl (.gd (hg) rfl) (i := 0) rfl (rfl)) rfl ?_
            refine WL.g (.pl rfl rfl rfl) (fun hg => Y.lss (.gd (hg) rfl) (.gd (hg) rfl)) rfl ?_
            refine WL.q (Y.and (.pl rfl) (fun h2 => .gd (eqt h2) rfl)) rfl ?_
            refine WL.q (Y.move (.pl rfl)) rfl ?_
            refine WL.g (.pl rfl rfl rfl) (fun hg => Y.fieldAddr0 (off := 4) (ft := 3) Try.underlying129 rfl cells3 (.pl rfl)) rfl ?_
            refine WL.g (.pl rfl rfl rfl) (fun hg => Y.loadB (v := .int .i64 x22.res) Try.underlying3 rfl (.gd (hg) rfl) (i := 6) rfl (rfl)) rfl ?_
            refine WL.g (.pl rfl rfl rfl) (fun hg => Y.fieldAddr0 (off := 4) (ft := 3) Try.underlying129 rfl cells3 (.pl rfl)) rfl ?_
            refine WL.g (.pl rfl rfl rfl) (fun hg => Y.loadB (v := .int .i64 x25.res) Try.underlying3 rfl (.gd (hg) rfl) (i := 0) rfl (rfl)) rfl ?_
            refine WL.g (.pl rfl rfl rfl) (fun hg => Y.gtr (.gd (hg) rfl) (.gd (hg) rfl)) rfl ?_
            refine WL.q (Y.and (.pl rfl) (fun h2 => .gd (eqt h2) rfl)) rfl ?_
            refine WL.next hQ45 (.cons (i := 0) rfl (.cons (i := 2) rfl (.cons (i := 7) rfl (.cons (i := 8) rfl (.cons (i := 9) rfl (.cons (i := 58) rfl (.cons (i := 59) rfl (.cons (i := 60) rfl (.cons (i := 68) rfl (.cons (i := 69) rfl (.cons (i := 70) rfl (.cons (i := 96) rfl (.nil))))))))))))) ?_
            refine W.cond (.pl rfl) (fun hC46 => ?_) (fun hC46 => ?_)
            · replace hF38 := cpos hC46 hF38
              refine W.seqR fun Q47 hQ47 => ?_
              refine WL.q (Y.move (.pl rfl)) rfl ?_
              refine WL.q (Y.move (.pl rfl)) rfl ?_
              refine WL.q (Y.build (cs := (encBad (Bad.mk 6 v21 v24)).toArray) shape66 (.cons (.pl rfl) (.cons (.pl rfl) (.cons (.pl rfl) (.nil)))) (one_parts ⟨rfl, ⟨rfl, ⟨rfl, trivial⟩⟩⟩) rfl) rfl ?_
              refine WL.step (WO.storeBA (ds := (encBad (Bad.mk 6 v21 v24))) (cs' := (encBad (Bad.mk 6 v21 v24))) cells66 (.pl rfl) (.pl rfl) rfl (oneBad _) (i := 5) rfl (lel (o := 0) (l := 3) (m := 3) (by decide) rfl rfl) (putW rfl) ?_)
              refine WL.next hQ47 (.cons (i := 2) rfl (.nil)) ?_
              obtain rfl := Option.some.inj hF38
              obtain rfl := einr hN38
              obtain rfl := Option.some.inj hF29
              obtain rfl := einr hN29
              obtain rfl := Option.some.inj hF
              refine W.retV (fn := Try.f52) (vs := [.agg (encBad (Bad.mk 6 v21 v24)).toArray]) Try.results52 ⟨.cellA Try.underlying66 rfl cells66 rfl (i := 5) rfl rfl, trivial⟩ (fun _ _ h => h) (fun wz hw => ?_)
              exact hR _ _ ⟨(), trivial, rfl, (hw.pickK 7 [1, 2, 3, 4] rfl)⟩
            · replace hF38 := cneg hC46 hF38
              refine W.skip ?_
              refine W.go hK43 (.cons (i := 0) rfl (.cons (i := 2) rfl (.cons (i := 7) rfl (.cons (i := 8) rfl (.cons (i := 58) rfl (.cons (i := 59) rfl (.cons (i := 60) rfl (.cons (i := 68) rfl (.cons (i := 69) rfl (.cons (i := 70) rfl (.nil))))))))))) ?_
              refine W.reg ?_
              obtain ⟨hk27, hF38⟩ := ckh hF38
              refine WL.q (Y.add (.pl rfl) (.pl rfl) (ok64_lt (hk27))) rfl ?_
              refine WL.q (Y.move (.pl rfl)) rfl ?_
              refine WL.nil ?_
              obtain rfl := Option.some.inj hF38
              exact W.again1 hK39 (v24 + 1) k38 hN38 (Nat.lt_succ_self _) (.cons rfl (.nil)) (.cons (i := 0) rfl (.cons (i := 2) rfl (.cons (i := 7) rfl (.cons (i := 8) rfl (.cons (i := 58) rfl (.cons (i := 59) rfl (.cons (i := 60) rfl (.cons (i := 68) rfl (.cons (i := 69) rfl (.nil)))))))))) (fun wz hw => hw.pickK 7 [1, 2, 3, 4, 5, 6] rfl)
          · replace hF38 := cneg hC42 hF38
            refine W.exit ?_
            obtain rfl := Option.some.inj hF38
            exact W.joinAt0 hK35  (einr hN38) (.nil) (.cons (i := 0) rfl (.cons (i := 2) rfl (.cons (i := 58) rfl (.cons (i := 59) rfl (.cons (i := 60) rfl (.nil)))))) (fun wz hw => hw.pickK 6 [0, 1, 2, 3, 4] rfl)
        · -- behind
          rintro  rfl
          refine W.reg ?_
          obtain ⟨hk28, hF29⟩ := ckh hF29
          refine WL.q (Y.add (.pl rfl) (.pl rfl) (ok64_lt (hk28))) rfl ?_
          refine WL.q (Y.move (.pl rfl)) rfl ?_
          refine WL.nil ?_
          obtain rfl := Option.some.inj hF29
          exact W.again1 hK30 (v21 + 1) k29 hN29 (Nat.lt_succ_self _) (.cons rfl (.nil)) (.cons (i := 0) rfl (.cons (i := 2) rfl (.cons (i := 58) rfl (.cons (i := 59) rfl (.nil))))) (fun wz hw => hw.pickK 5 [0, 1, 2, 3, 4] rfl)
      · replace hF29 := cneg hC33 hF29
        refine W.exit ?_
        obtain rfl := Option.some.inj hF29
        exact W.joinAt0 hK27  (einr hN29) (.nil) (.cons (i := 0) rfl (.cons (i := 2) rfl (.nil))) (fun wz hw => hw.pickK 5 [0, 1, 2, 3, 4] rfl)
    · -- behind
      rintro  rfl
      obtain ⟨o50, hF50, hF⟩ := bnd hF
      refine W.join0 (Em := []) (M := ([cBx b1 159 (Value.slice A2 (calls4).length c3 :: (Value.slice A5 (pending7).length c6 :: (Value.slice A8 (missing10).length c9 :: []))), cR encCall 7 A2 c3 129 calls4, cR (eI .i64) 1 A5 c6 3 pending7, cR (eI .i64) 1 A8 c9 3 missing10, cBx b11 66 (encBad (Bad.mk 0 0 0))] ++ T)) (I := (.inl ()) = o50) (.cons (i := 2) rfl (.nil)) (fun K51 hK51 => ?_) ?_
      · -- up to
        refine W.seqR fun Q52 hQ52 => ?_
        refine WL.q (Y.move (.pl rfl)) rfl ?_
        refine WL.q (Y.nilCheck (.pl rfl)) rfl ?_
        refine WL.q (Y.fieldAddr0 (off := 2) (ft := 23) Try.underlying159 rfl cells23 (.pl rfl)) rfl ?_
        refine WL.q (Y.loadB (v := .slice A8 (missing10).length c9) Try.underlying23 rfl (.pl rfl) (i := 0) rfl (rfl)) rfl ?_
        refine WL.q (Y.len Try.underlying23 (.pl rfl)) rfl ?_
        refine WL.q (Y.move (.pl rfl)) rfl ?_
        refine WL.next hQ52 (.cons (i := 0) rfl (.cons (i := 2) rfl (.cons (i := 105) rfl (.cons (i := 106) rfl (.cons (i := 107) rfl (.nil)))))) ?_
        refine W.block ?_
        refine W.loop1 (Em := fun (v29 : Int) => [(107, .int .i64 v29)]) (M := fun v29 => ([cBx b1 159 (Value.slice A2 (calls4).length c3 :: (Value.slice A5 (pending7).length c6 :: (Value.slice A8 (missing10).length c9 :: []))), cR encCall 7 A2 c3 129 calls4, cR (eI .i64) 1 A5 c6 3 pending7, cR (eI .i64) 1 A8 c9 3 missing10, cBx b11 66 (encBad (Bad.mk 0 0 0))] ++ T)) (I := fun v29 k53 => iter (tickets_log_check_L59 N missing10 pending7 calls4) k53 v29 = some o50) 0 N (hF50) (.cons rfl (.nil)) (.cons (i := 0) rfl (.cons (i := 2) rfl (.cons (i := 105) rfl (.cons (i := 106) rfl (.nil))))) (fun wz hw => hw.pickK 5 [0, 1, 2, 3, 4] rfl) (fun v29 k53 hI K54 hK54 => ?_)
        obtain ⟨k53, t53, rfl, hF53, hN53⟩ := iter_step hI
        refine W.seqR fun Q55 hQ55 => ?_
        refine WL.q (Y.lss (.pl rfl) (.pl rfl)) rfl ?_
        refine WL.next hQ55 (.cons (i := 0) rfl (.cons (i := 2) rfl (.cons (i := 105) rfl (.cons (i := 106) rfl (.cons (i := 107) rfl (.cons (i := 108) rfl (.nil))))))) ?_
        refine W.seq fun K56 hK56 => ?_
        refine W.cond (.pl rfl) (fun hC57 => ?_) (fun hC57 => ?_)
        · replace hF53 := cpos hC57 hF53
          refine W.skip ?_
          refine W.go hK56 (.cons (i := 0) rfl (.cons (i := 2) rfl (.cons (i := 105) rfl (.cons (i := 106) rfl (.cons (i := 107) rfl (.nil)))))) ?_
          refine W.seq fun K58 hK58 => ?_
          refine W.block ?_
          refine W.seqR fun Q59 hQ59 => ?_
          refine WL.q (Y.move (.pl rfl)) rfl ?_
          obtain ⟨x30, hx30, hF53⟩ := bnd hF53
          refine WL.q (Y.rowEl Try.underlying23 cells3 (i := 3) rfl (.pl rfl) rfl (.pl rfl) (ix_lt (hx30))) rfl ?_
          refine WL.q (Y.loadR (enc := (eI .i64)) (v := .int .i64 x30) (a := x30) (idx := v29) (j := 0) Try.underlying3 rfl (fun _ => rfl) (i := 3) rfl (.pl rfl) (ix_get (hx30)) rfl rfl) rfl ?_
          refine WL.q (Y.assign (.pl rfl)) rfl ?_
          refine WL.q (Y.assign (.pl rfl)) rfl ?_
          refine WL.next hQ59 (.cons (i := 0) rfl (.cons (i := 2) rfl (.cons (i := 11) rfl (.cons (i := 12) rfl (.cons (i := 105) rfl (.cons (i := 106) rfl (.cons (i := 107) rfl (.nil)))))))) ?_
          obtain ⟨o60, hF60, hF53⟩ := bnd hF53
          refine W.join1 (Em := fun (v31 : Bool) => [(131, .bool v31)]) (M := fun v31 => ([cBx b1 159 (Value.slice A2 (calls4).length c3 :: (Value.slice A5 (pending7).length c6 :: (Value.slice A8 (missing10).length c9 :: []))), cR encCall 7 A2 c3 129 calls4, cR (eI .i64) 1 A5 c6 3 pending7, cR (eI .i64) 1 A8 c9 3 missing10, cBx b11 66 (encBad (Bad.mk 0 0 0))] ++ T)) (I := fun v31 => v31 = o60) (.cons (i := 0) rfl (.cons (i := 2) rfl (.cons (i := 12) rfl (.cons (i := 105) rfl (.cons (i := 106) rfl (.cons (i := 107) rfl (.nil))))))) (fun K61 hK61 => ?_) ?_
          · -- up to
            refine W.reg ?_
            refine WL.q (Y.move (.pl rfl)) rfl ?_
            refine WL.q (Y.move (.pl rfl)) rfl ?_
            refine WL.q (Y.nilCheck (.pl rfl)) rfl ?_
            refine WL.q (Y.fieldAddr0 (off := 1) (ft := 23) Try.underlying159 rfl cells23 (.pl rfl)) rfl ?_
            refine WL.q (Y.loadB (v := .slice A5 (pending7).length c6) Try.underlying23 rfl (.pl rfl) (i := 0) rfl (rfl)) rfl ?_
            refine WL.q (Y.len Try.underlying23 (.pl rfl)) rfl ?_
            refine WL.q (Y.geq (.pl rfl) (.pl rfl)) rfl ?_
            refine WL.q (Y.move (.pl rfl)) rfl ?_
            refine WL.g (.pl rfl rfl rfl) (fun hg => Y.move (.pl rfl)) rfl ?_
            refine WL.g (.pl rfl rfl rfl) (fun hg => Y.move (.pl rfl)) rfl ?_
            refine WL.g (.pl rfl rfl rfl) (fun hg => Y.nilCheck (.gd (hg) rfl)) rfl ?_
            refine WL.g (.pl rfl rfl rfl) (fun hg => Y.fieldAddr0 (off := 1) (ft := 23) Try.underlying159 rfl cells23 (.gd (hg) rfl)) rfl ?_
            refine WL.g (.pl rfl rfl rfl) (fun hg => Y.loadB (v := .slice A5 (pending7).length c6) Try.underlying23 rfl (.gd (hg) rfl) (i := 0) rfl (rfl)) rfl ?_
            refine WL.g (.pl rfl rfl rfl) (fun hg => Y.move (.pl rfl)) rfl ?_
            obtain ⟨x32, hx32, hF60⟩ := bnd hF60
            refine WL.g (.pl rfl rfl rfl) (fun hg => Y.rowEl Try.underlying23 cells3 (i := 2) rfl (.gd (hg) rfl) rfl (.gd (hg) rfl) (ix_lt (gpos hg hx32))) rfl ?_
            refine WL.g (.pl rfl rfl rfl) (fun hg => Y.loadR (enc := (eI .i64)) (v := .int .i64 x32) (a := x32) (idx := v29) (j := 0) Try.underlying3 rfl (fun _ => rfl) (i := 2) rfl (.gd (hg) rfl) (ix_get (gpos hg hx32)) rfl rfl) rfl ?_
            refine WL.g (.pl rfl rfl rfl) (fun hg => Y.move (.pl rfl)) rfl ?_
            refine bsplit ((decide (((pending7).length : Int) ≤ v29)) == false) (fun hg62 => ?_) (fun hg62 => ?_)
            · replace hF60 := cpos hg62 hF60
              refine WL.gd (.pl rfl rfl rfl) (hg62) ?_
              obtain ⟨r33, hr33, hF60⟩ := bnd hF60
              refine WL.step (WO.call (γ := Unit) (fun g => .bool r33) (fun g => ([cBx b1 159 (Value.slice A2 (calls4).length c3 :: (Value.slice A5 (pending7).length c6 :: (Value.slice A8 (missing10).length c9 :: []))), cR encCall 7 A2 c3 129 calls4, cR (eI .i64) 1 A5 c6 3 pending7, cR (eI .i64) 1 A8 c9 3 missing10, cBx b11 66 (encBad (Bad.mk 0 0 0))] ++ T)) (fun g => True) isGo72 (.cons (.gd (hg62) rfl) (.cons (.gd (hg62) rfl) (.cons (.gd (hg62) rfl) (.nil)))) rfl (fun wz hw => tickets_log_can_ok (T := ([cBx b11 66 (encBad (Bad.mk 0 0 0))] ++ T)) (hr33) (hw.pickK 5 [0, 1, 2, 3, 4] rfl) ) ?_)
              rintro _ -
              refine WL.gd (.pl rfl rfl rfl) (hg62) ?_
              refine WL.q (Y.not (.pl rfl)) rfl ?_
              refine WL.q (Y.or (.pl rfl) (fun _ => .pl rfl)) rfl ?_
              refine WL.nil ?_
              exact W.joinAt1 hK61 ((decide (((pending7).length : Int) ≤ v29)) || (!r33)) (Option.some.inj hF60) (.cons rfl (.nil)) (.cons (i := 0) rfl (.cons (i := 2) rfl (.cons (i := 12) rfl (.cons (i := 105) rfl (.cons (i := 106) rfl (.cons (i := 107) rfl (.nil))))))) (fun wz hw => hw.pickK 5 [0, 1, 2, 3, 4] rfl)
            · replace hF60 := cneg hg62 hF60
              refine WL.gn (.pl rfl rfl rfl) hg62 rfl ?_
              refine WL.gn (.pl rfl rfl rfl) hg62 rfl ?_
              refine WL.q (Y.or (b := false) (.pl rfl) (fun h2 => (gabsO hg62 h2).elim)) rfl ?_
              refine WL.nil ?_
              exact W.joinAt1 hK61 ((decide (((pending7).length : Int) ≤ v29)) || false) (Option.some.inj hF60) (.cons rfl (.nil)) (.cons (i := 0) rfl (.cons (i := 2) rfl (.cons (i := 12) rfl (.cons (i := 105) rfl (.cons (i := 106) rfl (.cons (i := 107) rfl (.nil))))))) (fun wz hw => hw.pickK 5 [0, 1, 2, 3, 4] rfl)
          · -- behind
            rintro v31 rfl
            refine W.cond (.pl rfl) (fun hC63 => ?_) (fun hC63 => ?_)
            · replace hF53 := cpos hC63 hF53
              refine W.seqR fun Q64 hQ64 => ?_
              refine WL.q (Y.move (.pl rfl)) rfl ?_
              refine WL.q (Y.build (cs := (encBad (Bad.mk 8 x30 0)).toArray) shape66 (.cons (.pl rfl) (.cons (.pl rfl) (.nil))) (one_parts ⟨rfl, ⟨rfl, trivial⟩⟩) rfl) rfl ?_
              refine WL.step (WO.storeBA (ds := (encBad (Bad.mk 8 x30 0))) (cs' := (encBad (Bad.mk 8 x30 0))) cells66 (.pl rfl) (.pl rfl) rfl (oneBad _) (i := 4) rfl (lel (o := 0) (l := 3) (m := 3) (by decide) rfl rfl) (putW rfl) ?_)
              refine WL.next hQ64 (.cons (i := 2) rfl (.nil)) ?_
              obtain rfl := Option.some.inj hF53
              obtain rfl := einr hN53
              obtain rfl := Option.some.inj hF
              refine W.retV (fn := Try.f52) (vs := [.agg (encBad (Bad.mk 8 x30 0)).toArray]) Try.results52 ⟨.cellA Try.underlying66 rfl cells66 rfl (i := 4) rfl rfl, trivial⟩ (fun _ _ h => h) (fun wz hw => ?_)
              exact hR _ _ ⟨(), trivial, rfl, (hw.pickK 5 [0, 1, 2, 3] rfl)⟩
            · replace hF53 := cneg hC63 hF53
              refine W.skip ?_
              refine W.go hK58 (.cons (i := 0) rfl (.cons (i := 2) rfl (.cons (i := 105) rfl (.cons (i := 106) rfl (.cons (i := 107) rfl (.nil)))))) ?_
              refine W.reg ?_
              obtain ⟨hk34, hF53⟩ := ckh hF53
              refine WL.q (Y.add (.pl rfl) (.pl rfl) (ok64_lt (hk34))) rfl ?_
              refine WL.q (Y.move (.pl rfl)) rfl ?_
              refine WL.nil ?_
              obtain rfl := Option.some.inj hF53
              exact W.again1 hK54 (v29 + 1) k53 hN53 (Nat.lt_succ_self _) (.cons rfl (.nil)) (.cons (i := 0) rfl (.cons (i := 2) rfl (.cons (i := 105) rfl (.cons (i := 106) rfl (.nil))))) (fun wz hw => hw.pickK 5 [0, 1, 2, 3, 4] rfl)
        · replace hF53 := cneg hC57 hF53
          refine W.exit ?_
          obtain rfl := Option.some.inj hF53
          exact W.joinAt0 hK51  (einr hN53) (.nil) (.cons (i := 2) rfl (.nil)) (fun wz hw => hw.pickK 5 [0, 1, 2, 3, 4] rfl)
      · -- behind
        rintro  rfl
        refine W.seqR fun Q66 hQ66 => ?_
        refine WL.q (Y.build (cs := (encBad (Bad.mk 0 0 0)).toArray) shape66 (.nil) (one_parts trivial) rfl) rfl ?_
        refine WL.step (WO.storeBA (ds := (encBad (Bad.mk 0 0 0))) (cs' := (encBad (Bad.mk 0 0 0))) cells66 (.pl rfl) (.pl rfl) rfl (oneBad _) (i := 4) rfl (lel (o := 0) (l := 3) (m := 3) (by decide) rfl rfl) (putW rfl) ?_)
        refine WL.next hQ66 (.cons (i := 2) rfl (.nil)) ?_
        obtain rfl := Option.some.inj hF
        refine W.retV (fn := Try.f52) (vs := [.agg (encBad (Bad.mk 0 0 0)).toArray]) Try.results52 ⟨.cellA Try.underlying66 rfl cells66 rfl (i := 4) rfl rfl, trivial⟩ (fun _ _ h => h) (fun wz hw => ?_)
        exact hR _ _ ⟨(), trivial, rfl, (hw.pickK 5 [0, 1, 2, 3] rfl)⟩

def tickets_Check (N : Nat) (l1 : (List Event)) : Option (Bool × Int × Int × Int × Int) :=
  bd (tickets_read N l1) fun (r7 : (Bool × (List Call) × (List Int) × (List Int) × Int)) =>
  cond (!(decide (r7.2.2.2.2 = 0)))
    (some (false, 0, 0, 0, r7.2.2.2.2))
    (ck (r7.1) <|
    bd (tickets_log_check N r7.2.1 r7.2.2.1 r7.2.2.2.1) fun (r18 : (Int × Int × Int)) =>
    some ((decide (r18.1 = 0)), r18.1, r18.2.1, r18.2.2, 0))

theorem tickets_Check_ok {N : Nat} {l1 : (List Event)} {res : (Bool × Int × Int × Int × Int)} (hF : tickets_Check N l1 = some res) (w : World) {v5 : Value} (hs4 : SlIn encEvent 4 w v5 l1) :
    Pure Try.prog 28 [v5] w (.tuple #[.bool res.1, .agg (encBad (Bad.mk res.2.1 res.2.2.1 res.2.2.2.1)).toArray, .int .i64 res.2.2.2.2]) := by
  obtain ⟨A2, c3, rfl, hcc3, hs4⟩ := hs4.form
  refine W.enter (n := 23) Try.func28 rfl rfl Sub.refl (by simp) (St.start w) fun R hR => ?_
  unfold tickets_Check at hF
  refine W.seqR fun Q1 hQ1 => ?_
  refine WL.q (Y.assign (.pl rfl)) rfl ?_
  refine WL.step (WO.alloc (cs := (encBad (Bad.mk 0 0 0)).toArray) zero66 rfl rfl fun b6 => ?_)
  refine WL.q (Y.assign (.pl rfl)) rfl ?_
  refine WL.next hQ1 (.cons (i := 0) rfl (.cons (i := 3) rfl (.nil))) ?_
  refine W.seqR fun Q2 hQ2 => ?_
  refine WL.q (Y.move (.pl rfl)) rfl ?_
  obtain ⟨r7, hr7, hF⟩ := bnd hF
  refine WL.step (WO.callM isGo51 (.cons (.pl rfl) (.nil)) rfl (fun wz hw => tickets_read_ok (hr7) wz (hs4.mono hw)) ?_)
  rintro ⟨b8, A9, c10, A11, c12, A13, c14⟩ hl15
  refine WL.q (Y.move (.pl rfl)) rfl ?_
  refine WL.q (Y.extract (.pl rfl) rfl) rfl ?_
  refine WL.q (Y.extract (.pl rfl) rfl) rfl ?_
  refine WL.q (Y.assign (.pl rfl)) rfl ?_
  refine WL.q (Y.assign (.pl rfl)) rfl ?_
  refine WL.next hQ2 (.cons (i := 3) rfl (.cons (i := 5) rfl (.cons (i := 6) rfl (.nil)))) ?_
  refine W.seq fun K3 hK3 => ?_
  refine W.seqR fun Q4 hQ4 => ?_
  refine WL.q (Y.move (.pl rfl)) rfl ?_
  refine WL.q (Y.neq (.pl rfl) (.pl rfl)) rfl ?_
  refine WL.next hQ4 (.cons (i := 3) rfl (.cons (i := 5) rfl (.cons (i := 6) rfl (.cons (i := 14) rfl (.nil))))) ?_
  refine W.cond (.pl rfl) (fun hC5 => ?_) (fun hC5 => ?_)
  · replace hF := cpos hC5 hF
    refine W.seqR fun Q6 hQ6 => ?_
    refine WL.q (Y.build (cs := (encBad (Bad.mk 0 0 0)).toArray) shape66 (.nil) (one_parts trivial) rfl) rfl ?_
    refine WL.q (Y.move (.pl rfl)) rfl ?_
    refine WL.q (Y.assign (.pl rfl)) rfl ?_
    refine WL.step (WO.storeBA (ds := (encBad (Bad.mk 0 0 0))) (cs' := (encBad (Bad.mk 0 0 0))) cells66 (.pl rfl) (.pl rfl) rfl (oneBad _) (i := 4) rfl (lel (o := 0) (l := 3) (m := 3) (by decide) rfl rfl) (putW rfl) ?_)
    refine WL.q (Y.assign (.pl rfl)) rfl ?_
    refine WL.next hQ6 (.cons (i := 2) rfl (.cons (i := 3) rfl (.cons (i := 4) rfl (.nil)))) ?_
    obtain rfl := Option.some.inj hF
    refine W.retV (fn := Try.f28) (vs := [.bool false, .agg (encBad (Bad.mk 0 0 0)).toArray, .int .i64 r7.2.2.2.2]) Try.results28 ⟨.tmp rfl, ⟨.cellA Try.underlying66 rfl cells66 rfl (i := 4) rfl rfl, ⟨.tmp rfl, trivial⟩⟩⟩ (fun _ _ h => h) (fun wz hw => ?_)
    exact hR _ _ ⟨rfl, (hw.pick [] rfl)⟩
  · replace hF := cneg hC5 hF
    refine W.skip ?_
    refine W.go hK3 (.cons (i := 3) rfl (.cons (i := 5) rfl (.nil))) ?_
    obtain ⟨hk16, hF⟩ := ckh hF
    obtain ⟨b17, rfl⟩ := Option.isSome_iff_exists.1 (hl15.symm.trans hk16)
    refine W.seqR fun Q7 hQ7 => ?_
    refine WL.q (Y.move (.pl rfl)) rfl ?_
    obtain ⟨r18, hr18, hF⟩ := bnd hF
    refine WL.step (WO.call (γ := Unit) (fun g => .agg (encBad (Bad.mk r18.1 r18.2.1 r18.2.2)).toArray) (fun g => [cBx b17 159 (Value.slice A9 (r7.2.1).length c10 :: (Value.slice A11 (r7.2.2.1).length c12 :: (Value.slice A13 (r7.2.2.2.1).length c14 :: []))), cR encCall 7 A9 c10 129 r7.2.1, cR (eI .i64) 1 A11 c12 3 r7.2.2.1, cR (eI .i64) 1 A13 c14 3 r7.2.2.2.1, cBx b6 66 (encBad (Bad.mk 0 0 0))]) (fun g => True) isGo52 (.cons (.pl rfl) (.nil)) rfl (fun wz hw => tickets_log_check_ok (T := [cBx b6 66 (encBad (Bad.mk 0 0 0))]) (hr18) (hw.pick [0, 1, 2, 3, 4] rfl) ) ?_)
    rintro _ -
    refine WL.step (WO.alloc (cs := (encBad (Bad.mk 0 0 0)).toArray) zero66 rfl rfl fun b19 => ?_)
    refine WL.step (WO.storeBA (ds := (encBad (Bad.mk r18.1 r18.2.1 r18.2.2))) (cs' := (encBad (Bad.mk r18.1 r18.2.1 r18.2.2))) cells66 (.pl rfl) (.pl rfl) rfl (oneBad _) (i := 0) rfl (lel (o := 0) (l := 3) (m := 3) (by decide) rfl rfl) (putW rfl) ?_)
    refine WL.next hQ7 (.cons (i := 3) rfl (.cons (i := 7) rfl (.nil))) ?_
    refine W.seqT 5 (by kernel_rfl) (by kernel_rfl) fun Q8 hQ8 => ?_
    refine WS.q (Y.fieldAddr0 (off := 0) (ft := 3) Try.underlying66 rfl cells3 (.pl rfl)) rfl ?_
    refine WS.q (Y.loadB (v := .int .i64 r18.1) Try.underlying3 rfl (.pl rfl) (i := 0) rfl (rfl)) rfl ?_
    refine WS.q (Y.eql (.pl rfl) (.pl rfl)) rfl ?_
    refine WS.q (Y.loadBA (ds := (encBad (Bad.mk r18.1 r18.2.1 r18.2.2))) Try.underlying66 rfl cells66 (.pl rfl) (i := 0) rfl rfl subW) rfl ?_
    refine WS.q (Y.assign (.pl rfl)) rfl ?_
    refine WS.tail ?_
    refine WL.step (WO.storeBA (ds := (encBad (Bad.mk r18.1 r18.2.1 r18.2.2))) (cs' := (encBad (Bad.mk r18.1 r18.2.1 r18.2.2))) cells66 (.pl rfl) (.pl rfl) rfl (oneBad _) (i := 5) rfl (lel (o := 0) (l := 3) (m := 3) (by decide) rfl rfl) (putW rfl) ?_)
    refine WL.q (Y.assign (.pl rfl)) rfl ?_
    refine WL.next hQ8 (.cons (i := 2) rfl (.cons (i := 3) rfl (.cons (i := 4) rfl (.nil)))) ?_
    obtain rfl := Option.some.inj hF
    refine W.retV (fn := Try.f28) (vs := [.bool (decide (r18.1 = 0)), .agg (encBad (Bad.mk r18.1 r18.2.1 r18.2.2)).toArray, .int .i64 0]) Try.results28 ⟨.tmp rfl, ⟨.cellA Try.underlying66 rfl cells66 rfl (i := 5) rfl rfl, ⟨.tmp rfl, trivial⟩⟩⟩ (fun _ _ h => h) (fun wz hw => ?_)
    exact hR _ _ ⟨rfl, (hw.pick [] rfl)⟩

end Go.Proofs.Ytkmmagekepoapaa
