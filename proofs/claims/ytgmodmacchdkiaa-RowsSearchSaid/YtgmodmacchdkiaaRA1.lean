/- Rows: what their code computes, and the walks; sorts of few. -/
import Derived.Test.YtgmodmacchdkiaaChecked
import Derived.Test.YtgmodmacchdkiaaOpt
import Derived.Test.YtgmodmacchdkiaaShelf
import Derived.Test.YtgmodmacchdkiaaStrMap
set_option linter.unusedVariables false
set_option linter.unusedSimpArgs false
set_option linter.unusedSectionVars false
set_option maxRecDepth 100000
namespace Go.Proofs.Ytgmodmacchdkiaa
open Go.RowKit
structure Event where
  who : Int
  thing : Int
  kind : Int
  value : Int
deriving DecidableEq
def Event.z : Event := ⟨0, 0, 0, 0⟩
def encEvent (x : Event) : List Value := (Value.int .i64 x.who :: (Value.int .i64 x.thing :: (Value.int .i64 x.kind :: (Value.int .i64 x.value :: []))))
theorem lenEvent (x : Event) : (encEvent x).length = 4 := rfl
theorem eqEvent (x y : Event) : eqCells [true, true, true, true] (encEvent x) (encEvent y) = some (decide (x = y)) := by
  cases x; cases y; simp [encEvent, eqCells, Event.mk.injEq, Bool.beq_eq_decide_eq]
theorem oneEvent : ∀ x, ∀ v ∈ encEvent x, v.oneCell' = true := fun x => (one_cons rfl (one_cons rfl (one_cons rfl (one_cons rfl one_nil))))
structure Call where
  who : Int
  thing : Int
  kind : Int
  arg : Int
  res : Int
  from_ : Int
  to_ : Int
deriving DecidableEq
def Call.z : Call := ⟨0, 0, 0, 0, 0, 0, 0⟩
def encCall (x : Call) : List Value := (Value.int .i64 x.who :: (Value.int .i64 x.thing :: (Value.int .i64 x.kind :: (Value.int .i64 x.arg :: (Value.int .i64 x.res :: (Value.int .i64 x.from_ :: (Value.int .i64 x.to_ :: [])))))))
theorem lenCall (x : Call) : (encCall x).length = 7 := rfl
theorem eqCall (x y : Call) : eqCells [true, true, true, true, true, true, true] (encCall x) (encCall y) = some (decide (x = y)) := by
  cases x; cases y; simp [encCall, eqCells, Call.mk.injEq, Bool.beq_eq_decide_eq]
theorem oneCall : ∀ x, ∀ v ∈ encCall x, v.oneCell' = true := fun x => (one_cons rfl (one_cons rfl (one_cons rfl (one_cons rfl (one_cons rfl (one_cons rfl (one_cons rfl one_nil)))))))
structure RowsValue where
  n : Int
  enq : Int
  deq : Int
deriving DecidableEq
def RowsValue.z : RowsValue := ⟨0, 0, 0⟩
def encRowsValue (x : RowsValue) : List Value := (Value.int .i64 x.n :: (Value.int .i64 x.enq :: (Value.int .i64 x.deq :: [])))
theorem lenRowsValue (x : RowsValue) : (encRowsValue x).length = 3 := rfl
theorem eqRowsValue (x y : RowsValue) : eqCells [true, true, true] (encRowsValue x) (encRowsValue y) = some (decide (x = y)) := by
  cases x; cases y; simp [encRowsValue, eqCells, RowsValue.mk.injEq, Bool.beq_eq_decide_eq]
theorem oneRowsValue : ∀ x, ∀ v ∈ encRowsValue x, v.oneCell' = true := fun x => (one_cons rfl (one_cons rfl (one_cons rfl one_nil)))
theorem cells3 : Try.prog.cellsOf 3 = 0 + 1 := by kernel_rfl
theorem cells23 : Try.prog.cellsOf 23 = 0 + 1 := by kernel_rfl
theorem cells31 : Try.prog.cellsOf 31 = 3 + 1 := by kernel_rfl
theorem cells35 : Try.prog.cellsOf 35 = 0 + 1 := by kernel_rfl
theorem cells64 : Try.prog.cellsOf 64 = 6 + 1 := by kernel_rfl
theorem cells91 : Try.prog.cellsOf 91 = 7 + 1 := by kernel_rfl
theorem cells143 : Try.prog.cellsOf 143 = 0 + 1 := by kernel_rfl
theorem cells149 : Try.prog.cellsOf 149 = 2 + 1 := by kernel_rfl
theorem isGo17 : IsGo Try.prog 17 := ⟨_, Try.func17, by kernel_rfl, rfl⟩
theorem isGo37 : IsGo Try.prog 37 := ⟨_, Try.func37, by kernel_rfl, rfl⟩
theorem isGo38 : IsGo Try.prog 38 := ⟨_, Try.func38, by kernel_rfl, rfl⟩
theorem isGo64 : IsGo Try.prog 64 := ⟨_, Try.func64, by kernel_rfl, rfl⟩
theorem isGo65 : IsGo Try.prog 65 := ⟨_, Try.func65, by kernel_rfl, rfl⟩
theorem isGo67 : IsGo Try.prog 67 := ⟨_, Try.func67, by kernel_rfl, rfl⟩
theorem isGo68 : IsGo Try.prog 68 := ⟨_, Try.func68, by kernel_rfl, rfl⟩
theorem isGo69 : IsGo Try.prog 69 := ⟨_, Try.func69, by kernel_rfl, rfl⟩
theorem isGo75 : IsGo Try.prog 75 := ⟨_, Try.func75, by kernel_rfl, rfl⟩
theorem isGo76 : IsGo Try.prog 76 := ⟨_, Try.func76, by kernel_rfl, rfl⟩
theorem isGo77 : IsGo Try.prog 77 := ⟨_, Try.func77, by kernel_rfl, rfl⟩
theorem isGo90 : IsGo Try.prog 90 := ⟨_, Try.func90, by kernel_rfl, rfl⟩
theorem isGo96 : IsGo Try.prog 96 := ⟨_, Try.func96, by kernel_rfl, rfl⟩
theorem isGo101 : IsGo Try.prog 101 := ⟨_, Try.func101, by kernel_rfl, rfl⟩
theorem isGo102 : IsGo Try.prog 102 := ⟨_, Try.func102, by kernel_rfl, rfl⟩
theorem isGo103 : IsGo Try.prog 103 := ⟨_, Try.func103, by kernel_rfl, rfl⟩
theorem isGo104 : IsGo Try.prog 104 := ⟨_, Try.func104, by kernel_rfl, rfl⟩
theorem isGo117 : IsGo Try.prog 117 := ⟨_, Try.func117, by kernel_rfl, rfl⟩
theorem isGo125 : IsGo Try.prog 125 := ⟨_, Try.func125, by kernel_rfl, rfl⟩
theorem isGo126 : IsGo Try.prog 126 := ⟨_, Try.func126, by kernel_rfl, rfl⟩
theorem zero31 : ∃ i, Try.prog.info? 31 = some i ∧ i.zero = some (Value.agg #[(Value.int .i64 0), (Value.int .i64 0), (Value.int .i64 0), (Value.int .i64 0)]) := ⟨_, rfl, by kernel_rfl⟩
theorem zero64 : ∃ i, Try.prog.info? 64 = some i ∧ i.zero = some (Value.agg #[(Value.int .i64 0), (Value.int .i64 0), (Value.int .i64 0), (Value.int .i64 0), (Value.int .i64 0), (Value.int .i64 0), (Value.int .i64 0)]) := ⟨_, rfl, by kernel_rfl⟩
theorem bz3 : ∃ i, Try.prog.info? 3 = some i ∧ i.zero = some (Value.int .i64 0) ∧ i.size = 1 := ⟨_, rfl, by kernel_rfl, by kernel_rfl⟩
theorem bz64 : ∃ i, Try.prog.info? 64 = some i ∧ i.zero = some (Value.agg #[(Value.int .i64 0), (Value.int .i64 0), (Value.int .i64 0), (Value.int .i64 0), (Value.int .i64 0), (Value.int .i64 0), (Value.int .i64 0)]) ∧ i.size = 7 := ⟨_, rfl, by kernel_rfl, by kernel_rfl⟩
theorem bz149 : ∃ i, Try.prog.info? 149 = some i ∧ i.zero = some (Value.agg #[(Value.int .i64 0), (Value.int .i64 0), (Value.int .i64 0)]) ∧ i.size = 3 := ⟨_, rfl, by kernel_rfl, by kernel_rfl⟩
theorem ap64 : ∃ i z, Try.prog.info? 64 = some i ∧ i.zero = some z ∧ i.size = 7 ∧ i.bytes = 56 ∧ z.cells.size = 7 ∧ 0 < 7 := ⟨_, (Value.agg #[(Value.int .i64 0), (Value.int .i64 0), (Value.int .i64 0), (Value.int .i64 0), (Value.int .i64 0), (Value.int .i64 0), (Value.int .i64 0)]), rfl, by kernel_rfl, by kernel_rfl, by kernel_rfl, by kernel_rfl, by decide⟩
theorem ap149 : ∃ i z, Try.prog.info? 149 = some i ∧ i.zero = some z ∧ i.size = 3 ∧ i.bytes = 24 ∧ z.cells.size = 3 ∧ 0 < 3 := ⟨_, (Value.agg #[(Value.int .i64 0), (Value.int .i64 0), (Value.int .i64 0)]), rfl, by kernel_rfl, by kernel_rfl, by kernel_rfl, by kernel_rfl, by decide⟩
theorem shape64 : Shape Try.prog 64 [(0, 1), (1, 1), (2, 1), (3, 1), (4, 1), (5, 1), (6, 1)] #[(Value.int .i64 0), (Value.int .i64 0), (Value.int .i64 0), (Value.int .i64 0), (Value.int .i64 0), (Value.int .i64 0), (Value.int .i64 0)] := ⟨_, _, Value.agg #[(Value.int .i64 0), (Value.int .i64 0), (Value.int .i64 0), (Value.int .i64 0), (Value.int .i64 0), (Value.int .i64 0), (Value.int .i64 0)], Try.underlying64, rfl, by kernel_rfl, rfl, by kernel_rfl, by decide⟩
theorem shape93 : Shape Try.prog 93 [(0, 1), (1, 1), (2, 8)] #[(Value.slice none 0 0), (Value.slice none 0 0), (Value.int .i64 0), (Value.int .i64 0), (Value.int .i64 0), (Value.int .i64 0), (Value.int .i64 0), (Value.int .i64 0), (Value.int .i64 0), (Value.int .i64 0)] := ⟨_, _, Value.agg #[(Value.slice none 0 0), (Value.slice none 0 0), (Value.int .i64 0), (Value.int .i64 0), (Value.int .i64 0), (Value.int .i64 0), (Value.int .i64 0), (Value.int .i64 0), (Value.int .i64 0), (Value.int .i64 0)], Try.underlying93, rfl, by kernel_rfl, rfl, by kernel_rfl, by decide⟩
theorem shape145 : Shape Try.prog 145 [(0, 1), (1, 1)] #[(Value.slice none 0 0), (Value.slice none 0 0)] := ⟨_, _, Value.agg #[(Value.slice none 0 0), (Value.slice none 0 0)], Try.underlying145, rfl, by kernel_rfl, rfl, by kernel_rfl, by decide⟩
theorem shape149 : Shape Try.prog 149 [(0, 1), (1, 1), (2, 1)] #[(Value.int .i64 0), (Value.int .i64 0), (Value.int .i64 0)] := ⟨_, _, Value.agg #[(Value.int .i64 0), (Value.int .i64 0), (Value.int .i64 0)], Try.underlying149, rfl, by kernel_rfl, rfl, by kernel_rfl, by decide⟩
def history_Types_1 (N : Nat) (t1 : Int) : Option Unit :=
  some ()

theorem history_Types_1_ok {N : Nat} {t1 : Int} {res : Unit} (hF : history_Types_1 N t1 = some res) (w : World) :
    Pure Try.prog 67 [.int .i64 t1] w (.bool ((decide (t1 < 1)) || (decide (5 < t1)))) := by
  refine W.enter (n := 9) Try.func67 rfl rfl Sub.refl (by simp) (St.start w) fun R hR => ?_
  unfold history_Types_1 at hF
  refine W.seqR fun Q1 hQ1 => ?_
  refine WL.q (Y.assign (.pl rfl)) rfl ?_
  refine WL.next hQ1 (.cons (i := 0) rfl (.nil)) ?_
  refine W.seqR fun Q2 hQ2 => ?_
  refine WL.q (Y.move (.pl rfl)) rfl ?_
  refine WL.q (Y.lss (.pl rfl) (.pl rfl)) rfl ?_
  refine WL.q (Y.move (.pl rfl)) rfl ?_
  refine WL.g (.pl rfl rfl rfl) (fun hg => Y.move (.pl rfl)) rfl ?_
  refine WL.g (.pl rfl rfl rfl) (fun hg => Y.gtr (.gd (hg) rfl) (.pl rfl)) rfl ?_
  refine WL.q (Y.or (.pl rfl) (fun h2 => .gd (eqf h2) rfl)) rfl ?_
  refine WL.q (Y.assign (.pl rfl)) rfl ?_
  refine WL.next hQ2 (.cons (i := 2) rfl (.nil)) ?_
  obtain rfl := Option.some.inj hF
  refine W.retV (fn := Try.f67) (vs := [.bool ((decide (t1 < 1)) || (decide (5 < t1)))]) Try.results67 ⟨.tmp rfl, trivial⟩ (fun _ _ h => h) (fun wz hw => ?_)
  exact hR _ _ ⟨rfl, (hw.pick [] rfl)⟩

def slices_IndexFunc_int_int_L3 (N : Nat) (s1 : (List Int)) : Int → Option (Int ⊕ (Unit ⊕ Int))
  | v6 =>
    cond (decide (v6 < ((s1).length : Int)))
      (bd (ix s1 v6) fun (x7 : Int) =>
      bd (history_Types_1 N x7) fun (r8 : Unit) =>
      cond ((decide (x7 < 1)) || (decide (5 < x7)))
        (some (.inr (.inr v6)))
        (ck (ok64 (v6 + 1)) <|
        some (.inl (v6 + 1))))
      (some (.inr (.inl ())))

def slices_IndexFunc_int_int (N : Nat) (s1 : (List Int)) : Option Int :=
  bd (α := (Unit ⊕ Int)) (iter (slices_IndexFunc_int_int_L3 N s1) N 0) <|
  Sum.elim (fun _ => 
    some (-1)) (fun p => some p)

theorem slices_IndexFunc_int_int_ok {N : Nat} {s1 : (List Int)} {res : Int} (hF : slices_IndexFunc_int_int N s1 = some res) (w : World) {v5 : Value} (hs4 : SlIn (eI .i64) 1 w v5 s1) :
    Pure Try.prog 96 [v5, .func (.func 67) #[] #[]] w (.int .i64 res) := by
  obtain ⟨A2, c3, rfl, hcc3, hs4⟩ := hs4.form
  refine W.enter (n := 19) Try.func96 rfl rfl Sub.refl (by simp) (St.start w) fun R hR => ?_
  unfold slices_IndexFunc_int_int at hF
  refine W.seqR fun Q1 hQ1 => ?_
  refine WL.q (Y.assign (.pl rfl)) rfl ?_
  refine WL.next hQ1 (.cons (i := 0) rfl (.cons (i := 1) rfl (.nil))) ?_
  obtain ⟨o2, hF2, hF⟩ := bnd hF
  refine W.join0 (Em := []) (M := []) (I := (.inl ()) = o2) (.nil) (fun K3 hK3 => ?_) ?_
  · -- up to
    refine W.seqR fun Q4 hQ4 => ?_
    refine WL.q (Y.move (.pl rfl)) rfl ?_
    refine WL.q (Y.len Try.underlying23 (.pl rfl)) rfl ?_
    refine WL.q (Y.move (.pl rfl)) rfl ?_
    refine WL.next hQ4 (.cons (i := 0) rfl (.cons (i := 1) rfl (.cons (i := 7) rfl (.cons (i := 8) rfl (.nil))))) ?_
    refine W.block ?_
    refine W.loop1 (Em := fun (v6 : Int) => [(8, .int .i64 v6)]) (M := fun v6 => []) (I := fun v6 k5 => iter (slices_IndexFunc_int_int_L3 N s1) k5 v6 = some o2) 0 N (hF2) (.cons rfl (.nil)) (.cons (i := 0) rfl (.cons (i := 1) rfl (.cons (i := 7) rfl (.nil)))) (fun wz hw => hw.pick [] rfl) (fun v6 k5 hI K6 hK6 => ?_)
    obtain ⟨k5, t5, rfl, hF5, hN5⟩ := iter_step hI
    refine W.seqR fun Q7 hQ7 => ?_
    refine WL.q (Y.lss (.pl rfl) (.pl rfl)) rfl ?_
    refine WL.next hQ7 (.cons (i := 0) rfl (.cons (i := 1) rfl (.cons (i := 7) rfl (.cons (i := 8) rfl (.cons (i := 9) rfl (.nil)))))) ?_
    refine W.seq fun K8 hK8 => ?_
    refine W.cond (.pl rfl) (fun hC9 => ?_) (fun hC9 => ?_)
    · replace hF5 := cpos hC9 hF5
      refine W.skip ?_
      refine W.go hK8 (.cons (i := 0) rfl (.cons (i := 1) rfl (.cons (i := 7) rfl (.cons (i := 8) rfl (.nil))))) ?_
      refine W.seq fun K10 hK10 => ?_
      refine W.block ?_
      refine W.seqR fun Q11 hQ11 => ?_
      refine WL.q (Y.move (.pl rfl)) rfl ?_
      refine WL.q (Y.assign (.pl rfl)) rfl ?_
      refine WL.next hQ11 (.cons (i := 0) rfl (.cons (i := 1) rfl (.cons (i := 5) rfl (.cons (i := 7) rfl (.cons (i := 8) rfl (.nil)))))) ?_
      refine W.seqR fun Q12 hQ12 => ?_
      refine WL.q (Y.move (.pl rfl)) rfl ?_
      refine WL.q (Y.move (.pl rfl)) rfl ?_
      refine WL.q (Y.move (.pl rfl)) rfl ?_
      obtain ⟨x7, hx7, hF5⟩ := bnd hF5
      refine WL.q (Y.slEl Try.underlying23 cells3 hs4 (.pl rfl) (.pl rfl) (ix_lt (hx7))) rfl ?_
      refine WL.q (Y.loadS (enc := (eI .i64)) (v := .int .i64 x7) (j := 0) Try.underlying3 rfl hs4 (.pl rfl) (hx7) rfl rfl) rfl ?_
      obtain ⟨r8, hr8, hF5⟩ := bnd hF5
      refine WL.step (WO.callG (γ := Unit) (first := []) (cap := []) (fun g => .bool ((decide (x7 < 1)) || (decide (5 < x7)))) (fun g => []) (fun g => True) isGo67 (.pl rfl) (.cons (.pl rfl) (.nil)) rfl (fun wz hw => (history_Types_1_ok (hr8) wz ).calls hw) ?_)
      rintro _ -
      refine WL.next hQ12 (.cons (i := 0) rfl (.cons (i := 1) rfl (.cons (i := 5) rfl (.cons (i := 7) rfl (.cons (i := 8) rfl (.cons (i := 16) rfl (.nil))))))) ?_
      refine W.cond (.pl rfl) (fun hC13 => ?_) (fun hC13 => ?_)
      · replace hF5 := cpos hC13 hF5
        refine W.seqR fun Q14 hQ14 => ?_
        refine WL.q (Y.move (.pl rfl)) rfl ?_
        refine WL.q (Y.assign (.pl rfl)) rfl ?_
        refine WL.next hQ14 (.cons (i := 4) rfl (.nil)) ?_
        obtain rfl := Option.some.inj hF5
        obtain rfl := einr hN5
        obtain rfl := Option.some.inj hF
        refine W.retV (fn := Try.f96) (vs := [.int .i64 v6]) Try.results96 ⟨.tmp rfl, trivial⟩ (fun _ _ h => h) (fun wz hw => ?_)
        exact hR _ _ ⟨rfl, (hw.pick [] rfl)⟩
      · replace hF5 := cneg hC13 hF5
        refine W.skip ?_
        refine W.go hK10 (.cons (i := 0) rfl (.cons (i := 1) rfl (.cons (i := 7) rfl (.cons (i := 8) rfl (.nil))))) ?_
        refine W.reg ?_
        obtain ⟨hk9, hF5⟩ := ckh hF5
        refine WL.q (Y.add (.pl rfl) (.pl rfl) (ok64_lt (hk9))) rfl ?_
        refine WL.q (Y.move (.pl rfl)) rfl ?_
        refine WL.nil ?_
        obtain rfl := Option.some.inj hF5
        exact W.again1 hK6 (v6 + 1) k5 hN5 (Nat.lt_succ_self _) (.cons rfl (.nil)) (.cons (i := 0) rfl (.cons (i := 1) rfl (.cons (i := 7) rfl (.nil)))) (fun wz hw => hw.pick [] rfl)
    · replace hF5 := cneg hC9 hF5
      refine W.exit ?_
      obtain rfl := Option.some.inj hF5
      exact W.joinAt0 hK3  (einr hN5) (.nil) (.nil) (fun wz hw => hw.pick [] rfl)
  · -- behind
    rintro  rfl
    refine W.seqR fun Q16 hQ16 => ?_
    refine WL.q (Y.assign (.pl rfl)) rfl ?_
    refine WL.next hQ16 (.cons (i := 4) rfl (.nil)) ?_
    obtain rfl := Option.some.inj hF
    refine W.retV (fn := Try.f96) (vs := [.int .i64 (-1)]) Try.results96 ⟨.tmp rfl, trivial⟩ (fun _ _ h => h) (fun wz hw => ?_)
    exact hR _ _ ⟨rfl, (hw.pick [] rfl)⟩

def slices_ContainsFunc_int_int (N : Nat) (s1 : (List Int)) : Option Bool :=
  bd (slices_IndexFunc_int_int N s1) fun (r6 : Int) =>
  some (decide (0 ≤ r6))

theorem slices_ContainsFunc_int_int_ok {N : Nat} {s1 : (List Int)} {res : Bool} (hF : slices_ContainsFunc_int_int N s1 = some res) (w : World) {v5 : Value} (hs4 : SlIn (eI .i64) 1 w v5 s1) :
    Pure Try.prog 68 [v5, .func (.func 67) #[] #[]] w (.bool res) := by
  obtain ⟨A2, c3, rfl, hcc3, hs4⟩ := hs4.form
  refine W.enter (n := 9) Try.func68 rfl rfl Sub.refl (by simp) (St.start w) fun R hR => ?_
  unfold slices_ContainsFunc_int_int at hF
  refine W.seqR fun Q1 hQ1 => ?_
  refine WL.q (Y.assign (.pl rfl)) rfl ?_
  refine WL.next hQ1 (.cons (i := 0) rfl (.cons (i := 1) rfl (.nil))) ?_
  refine W.seqR fun Q2 hQ2 => ?_
  refine WL.q (Y.move (.pl rfl)) rfl ?_
  refine WL.q (Y.move (.pl rfl)) rfl ?_
  obtain ⟨r6, hr6, hF⟩ := bnd hF
  refine WL.step (WO.callP isGo96 (.cons (.pl rfl) (.cons (.pl rfl) (.nil))) rfl (fun wz hw => slices_IndexFunc_int_int_ok (hr6) wz (hs4.mono hw)) ?_)
  refine WL.q (Y.geq (.pl rfl) (.pl rfl)) rfl ?_
  refine WL.q (Y.assign (.pl rfl)) rfl ?_
  refine WL.next hQ2 (.cons (i := 4) rfl (.nil)) ?_
  obtain rfl := Option.some.inj hF
  refine W.retV (fn := Try.f68) (vs := [.bool (decide (0 ≤ r6))]) Try.results68 ⟨.tmp rfl, trivial⟩ (fun _ _ h => h) (fun wz hw => ?_)
  exact hR _ _ ⟨rfl, (hw.pick [] rfl)⟩

def history_Types (N : Nat) (types1 : (List Int)) : Option Int :=
  bd ((cond (((decide (((types1).length : Int) < 1)) || (decide (4 < ((types1).length : Int)))) == false) (slices_ContainsFunc_int_int N types1) (some false))) fun (r6 : Bool) =>
  cond (((decide (((types1).length : Int) < 1)) || (decide (4 < ((types1).length : Int)))) || r6)
    (some 1)
    (some 0)

theorem history_Types_ok {N : Nat} {types1 : (List Int)} {res : Int} (hF : history_Types N types1 = some res) (w : World) {v5 : Value} (hs4 : SlIn (eI .i64) 1 w v5 types1) :
    Pure Try.prog 37 [v5] w (.int .i64 res) := by
  obtain ⟨A2, c3, rfl, hcc3, hs4⟩ := hs4.form
  refine W.enter (n := 17) Try.func37 rfl rfl Sub.refl (by simp) (St.start w) fun R hR => ?_
  unfold history_Types at hF
  refine W.seqR fun Q1 hQ1 => ?_
  refine WL.q (Y.assign (.pl rfl)) rfl ?_
  refine WL.next hQ1 (.cons (i := 0) rfl (.nil)) ?_
  refine W.seqR fun Q2 hQ2 => ?_
  refine WL.q (Y.assign (.pl rfl)) rfl ?_
  refine WL.next hQ2 (.cons (i := 0) rfl (.cons (i := 3) rfl (.nil))) ?_
  refine W.seq fun K3 hK3 => ?_
  refine W.seqR fun Q4 hQ4 => ?_
  refine WL.q (Y.move (.pl rfl)) rfl ?_
  refine WL.q (Y.len Try.underlying23 (.pl rfl)) rfl ?_
  refine WL.q (Y.lss (.pl rfl) (.pl rfl)) rfl ?_
  refine WL.q (Y.move (.pl rfl)) rfl ?_
  refine WL.g (.pl rfl rfl rfl) (fun hg => Y.move (.pl rfl)) rfl ?_
  refine WL.g (.pl rfl rfl rfl) (fun hg => Y.len Try.underlying23 (.gd (hg) rfl)) rfl ?_
  refine WL.g (.pl rfl rfl rfl) (fun hg => Y.gtr (.gd (hg) rfl) (.pl rfl)) rfl ?_
  refine WL.q (Y.or (.pl rfl) (fun h2 => .gd (eqf h2) rfl)) rfl ?_
  refine WL.q (Y.move (.pl rfl)) rfl ?_
  refine WL.g (.pl rfl rfl rfl) (fun hg => Y.move (.pl rfl)) rfl ?_
  refine WL.g (.pl rfl rfl rfl) (fun hg => Y.move (.pl rfl)) rfl ?_
  obtain ⟨r6, hr6, hF⟩ := bnd hF
  refine WL.gP (.pl rfl rfl rfl) isGo68 (fun hg => (.cons (.gd (hg) rfl) (.cons (.gd (hg) rfl) (.nil)))) rfl (fun hg wz hw => slices_ContainsFunc_int_int_ok (gpos hg hr6) wz (hs4.mono hw)) ?_
  refine WL.q (Y.or (.pl rfl) (fun h2 => .gd (eqf h2) rfl)) rfl ?_
  refine WL.next hQ4 (.cons (i := 16) rfl (.nil)) ?_
  refine W.cond (.pl rfl) (fun hC5 => ?_) (fun hC5 => ?_)
  · replace hF := cpos hC5 hF
    refine W.seqR fun Q6 hQ6 => ?_
    refine WL.q (Y.assign (.pl rfl)) rfl ?_
    refine WL.next hQ6 (.cons (i := 2) rfl (.nil)) ?_
    obtain rfl := Option.some.inj hF
    refine W.retV (fn := Try.f37) (vs := [.int .i64 1]) Try.results37 ⟨.tmp rfl, trivial⟩ (fun _ _ h => h) (fun wz hw => ?_)
    exact hR _ _ ⟨rfl, (hw.pick [] rfl)⟩
  · replace hF := cneg hC5 hF
    refine W.skip ?_
    refine W.go hK3 (.nil) ?_
    refine W.seqR fun Q7 hQ7 => ?_
    refine WL.q (Y.assign (.pl rfl)) rfl ?_
    refine WL.next hQ7 (.cons (i := 2) rfl (.nil)) ?_
    obtain rfl := Option.some.inj hF
    refine W.retV (fn := Try.f37) (vs := [.int .i64 0]) Try.results37 ⟨.tmp rfl, trivial⟩ (fun _ _ h => h) (fun wz hw => ?_)
    exact hR _ _ ⟨rfl, (hw.pick [] rfl)⟩

def history_typeOf (N : Nat) (kind1 : Int) : Option Int :=
  bd (α := Bool) (cond (decide (kind1 = 1))
      (some (decide (kind1 = 1)))
      (some (decide (kind1 = 2)))) <|
  fun (v2 : Bool) => 
    cond v2
      (some 1)
      (bd (α := Bool) (cond (decide (kind1 = 3))
          (some (decide (kind1 = 3)))
          (some (decide (kind1 = 4)))) <|
      fun (v3 : Bool) => 
        cond v3
          (some 2)
          (bd (α := Bool) (cond (decide (kind1 = 5))
              (some (decide (kind1 = 5)))
              (some (decide (kind1 = 6)))) <|
          fun (v4 : Bool) => 
            cond v4
              (some 3)
              (bd (α := Bool) (cond (decide (kind1 = 7))
                  (some (decide (kind1 = 7)))
                  (cond (decide (kind1 = 8))
                    (some (decide (kind1 = 8)))
                    (some (decide (kind1 = 9))))) <|
              fun (v5 : Bool) => 
                cond v5
                  (some 4)
                  (cond (decide (kind1 = 10))
                    (some 5)
                    (some 0)))))

theorem history_typeOf_ok {N : Nat} {kind1 : Int} {res : Int} (hF : history_typeOf N kind1 = some res) (w : World) :
    Pure Try.prog 90 [.int .i64 kind1] w (.int .i64 res) := by
  refine W.enter (n := 19) Try.func90 rfl rfl Sub.refl (by simp) (St.start w) fun R hR => ?_
  unfold history_typeOf at hF
  refine W.seqR fun Q1 hQ1 => ?_
  refine WL.q (Y.assign (.pl rfl)) rfl ?_
  refine WL.next hQ1 (.cons (i := 0) rfl (.nil)) ?_
  refine W.seq fun K2 hK2 => ?_
  refine W.seqR fun Q3 hQ3 => ?_
  refine WL.q (Y.move (.pl rfl)) rfl ?_
  refine WL.next hQ3 (.cons (i := 3) rfl (.nil)) ?_
  refine W.block ?_
  obtain ⟨o4, hF4, hF⟩ := bnd hF
  refine W.join1 (Em := fun (v2 : Bool) => [(4, .bool v2)]) (M := fun v2 => []) (I := fun v2 => v2 = o4) (.cons (i := 3) rfl (.nil)) (fun K5 hK5 => ?_) ?_
  · -- up to
    refine W.seqR fun Q6 hQ6 => ?_
    refine WL.q (Y.eql (.pl rfl) (.pl rfl)) rfl ?_
    refine WL.q (Y.assign (.pl rfl)) rfl ?_
    refine WL.next hQ6 (.cons (i := 3) rfl (.cons (i := 4) rfl (.nil))) ?_
    refine W.cond (.pl rfl) (fun hC7 => ?_) (fun hC7 => ?_)
    · replace hF4 := cpos hC7 hF4
      refine W.skip ?_
      exact W.joinAt1 hK5 (decide (kind1 = 1)) (Option.some.inj hF4) (.cons rfl (.nil)) (.cons (i := 3) rfl (.nil)) (fun wz hw => hw.pick [] rfl)
    · replace hF4 := cneg hC7 hF4
      refine W.reg ?_
      refine WL.q (Y.eql (.pl rfl) (.pl rfl)) rfl ?_
      refine WL.q (Y.assign (.pl rfl)) rfl ?_
      refine WL.nil ?_
      exact W.joinAt1 hK5 (decide (kind1 = 2)) (Option.some.inj hF4) (.cons rfl (.nil)) (.cons (i := 3) rfl (.nil)) (fun wz hw => hw.pick [] rfl)
  · -- behind
    rintro v2 rfl
    refine W.cond (.pl rfl) (fun hC9 => ?_) (fun hC9 => ?_)
    · replace hF := cpos hC9 hF
      refine W.seqR fun Q10 hQ10 => ?_
      refine WL.q (Y.assign (.pl rfl)) rfl ?_
      refine WL.next hQ10 (.cons (i := 2) rfl (.nil)) ?_
      obtain rfl := Option.some.inj hF
      refine W.retV (fn := Try.f90) (vs := [.int .i64 1]) Try.results90 ⟨.tmp rfl, trivial⟩ (fun _ _ h => h) (fun wz hw => ?_)
      exact hR _ _ ⟨rfl, (hw.pick [] rfl)⟩
    · replace hF := cneg hC9 hF
      obtain ⟨o11, hF11, hF⟩ := bnd hF
      refine W.join1 (Em := fun (v3 : Bool) => [(7, .bool v3)]) (M := fun v3 => []) (I := fun v3 => v3 = o11) (.cons (i := 3) rfl (.nil)) (fun K12 hK12 => ?_) ?_
      · -- up to
        refine W.seqR fun Q13 hQ13 => ?_
        refine WL.q (Y.eql (.pl rfl) (.pl rfl)) rfl ?_
        refine WL.q (Y.assign (.pl rfl)) rfl ?_
        refine WL.next hQ13 (.cons (i := 3) rfl (.cons (i := 7) rfl (.nil))) ?_
        refine W.cond (.pl rfl) (fun hC14 => ?_) (fun hC14 => ?_)
        · replace hF11 := cpos hC14 hF11
          refine W.skip ?_
          exact W.joinAt1 hK12 (decide (kind1 = 3)) (Option.some.inj hF11) (.cons rfl (.nil)) (.cons (i := 3) rfl (.nil)) (fun wz hw => hw.pick [] rfl)
        · replace hF11 := cneg hC14 hF11
          refine W.reg ?_
          refine WL.q (Y.eql (.pl rfl) (.pl rfl)) rfl ?_
          refine WL.q (Y.assign (.pl rfl)) rfl ?_
          refine WL.nil ?_
          exact W.joinAt1 hK12 (decide (kind1 = 4)) (Option.some.inj hF11) (.cons rfl (.nil)) (.cons (i := 3) rfl (.nil)) (fun wz hw => hw.pick [] rfl)
      · -- behind
        rintro v3 rfl
        refine W.cond (.pl rfl) (fun hC16 => ?_) (fun hC16 => ?_)
        · replace hF := cpos hC16 hF
          refine W.seqR fun Q17 hQ17 => ?_
          refine WL.q (Y.assign (.pl rfl)) rfl ?_
          refine WL.next hQ17 (.cons (i := 2) rfl (.nil)) ?_
          obtain rfl := Option.some.inj hF
          refine W.retV (fn := Try.f90) (vs := [.int .i64 2]) Try.results90 ⟨.tmp rfl, trivial⟩ (fun _ _ h => h) (fun wz hw => ?_)
          exact hR _ _ ⟨rfl, (hw.pick [] rfl)⟩
        · replace hF := cneg hC16 hF
          obtain ⟨o18, hF18, hF⟩ := bnd hF
          refine W.join1 (Em := fun (v4 : Bool) => [(10, .bool v4)]) (M := fun v4 => []) (I := fun v4 => v4 = o18) (.cons (i := 3) rfl (.nil)) (fun K19 hK19 => ?_) ?_
          · -- up to
            refine W.seqR fun Q20 hQ20 => ?_
            refine WL.q (Y.eql (.pl rfl) (.pl rfl)) rfl ?_
            refine WL.q (Y.assign (.pl rfl)) rfl ?_
            refine WL.next hQ20 (.cons (i := 3) rfl (.cons (i := 10) rfl (.nil))) ?_
            refine W.cond (.pl rfl) (fun hC21 => ?_) (fun hC21 => ?_)
            · replace hF18 := cpos hC21 hF18
              refine W.skip ?_
              exact W.joinAt1 hK19 (decide (kind1 = 5)) (Option.some.inj hF18) (.cons rfl (.nil)) (.cons (i := 3) rfl (.nil)) (fun wz hw => hw.pick [] rfl)
            · replace hF18 := cneg hC21 hF18
              refine W.reg ?_
              refine WL.q (Y.eql (.pl rfl) (.pl rfl)) rfl ?_
              refine WL.q (Y.assign (.pl rfl)) rfl ?_
              refine WL.nil ?_
              exact W.joinAt1 hK19 (decide (kind1 = 6)) (Option.some.inj hF18) (.cons rfl (.nil)) (.cons (i := 3) rfl (.nil)) (fun wz hw => hw.pick [] rfl)
          · -- behind
            rintro v4 rfl
            refine W.cond (.pl rfl) (fun hC23 => ?_) (fun hC23 => ?_)
            · replace hF := cpos hC23 hF
              refine W.seqR fun Q24 hQ24 => ?_
              refine WL.q (Y.assign (.pl rfl)) rfl ?_
              refine WL.next hQ24 (.cons (i := 2) rfl (.nil)) ?_
              obtain rfl := Option.some.inj hF
              refine W.retV (fn := Try.f90) (vs := [.int .i64 3]) Try.results90 ⟨.tmp rfl, trivial⟩ (fun _ _ h => h) (fun wz hw => ?_)
              exact hR _ _ ⟨rfl, (hw.pick [] rfl)⟩
            · replace hF := cneg hC23 hF
              obtain ⟨o25, hF25, hF⟩ := bnd hF
              refine W.join1 (Em := fun (v5 : Bool) => [(13, .bool v5)]) (M := fun v5 => []) (I := fun v5 => v5 = o25) (.cons (i := 3) rfl (.nil)) (fun K26 hK26 => ?_) ?_
              · -- up to
                refine W.seqR fun Q27 hQ27 => ?_
                refine WL.q (Y.eql (.pl rfl) (.pl rfl)) rfl ?_
                refine WL.q (Y.assign (.pl rfl)) rfl ?_
                refine WL.next hQ27 (.cons (i := 3) rfl (.cons (i := 13) rfl (.nil))) ?_
                refine W.cond (.pl rfl) (fun hC28 => ?_) (fun hC28 => ?_)
                · replace hF25 := cpos hC28 hF25
                  refine W.skip ?_
                  exact W.joinAt1 hK26 (decide (kind1 = 7)) (Option.some.inj hF25) (.cons rfl (.nil)) (.cons (i := 3) rfl (.nil)) (fun wz hw => hw.pick [] rfl)
                · replace hF25 := cneg hC28 hF25
                  refine W.seqR fun Q29 hQ29 => ?_
                  refine WL.q (Y.eql (.pl rfl) (.pl rfl)) rfl ?_
                  refine WL.q (Y.assign (.pl rfl)) rfl ?_
                  refine WL.next hQ29 (.cons (i := 3) rfl (.cons (i := 13) rfl (.nil))) ?_
                  refine W.cond (.pl rfl) (fun hC30 => ?_) (fun hC30 => ?_)
                  · replace hF25 := cpos hC30 hF25
                    refine W.skip ?_
                    exact W.joinAt1 hK26 (decide (kind1 = 8)) (Option.some.inj hF25) (.cons rfl (.nil)) (.cons (i := 3) rfl (.nil)) (fun wz hw => hw.pick [] rfl)
                  · replace hF25 := cneg hC30 hF25
                    refine W.reg ?_
                    refine WL.q (Y.eql (.pl rfl) (.pl rfl)) rfl ?_
                    refine WL.q (Y.assign (.pl rfl)) rfl ?_
                    refine WL.nil ?_
                    exact W.joinAt1 hK26 (decide (kind1 = 9)) (Option.some.inj hF25) (.cons rfl (.nil)) (.cons (i := 3) rfl (.nil)) (fun wz hw => hw.pick [] rfl)
              · -- behind
                rintro v5 rfl
                refine W.cond (.pl rfl) (fun hC32 => ?_) (fun hC32 => ?_)
                · replace hF := cpos hC32 hF
                  refine W.seqR fun Q33 hQ33 => ?_
                  refine WL.q (Y.assign (.pl rfl)) rfl ?_
                  refine WL.next hQ33 (.cons (i := 2) rfl (.nil)) ?_
                  obtain rfl := Option.some.inj hF
                  refine W.retV (fn := Try.f90) (vs := [.int .i64 4]) Try.results90 ⟨.tmp rfl, trivial⟩ (fun _ _ h => h) (fun wz hw => ?_)
                  exact hR _ _ ⟨rfl, (hw.pick [] rfl)⟩
                · replace hF := cneg hC32 hF
                  refine W.seqR fun Q34 hQ34 => ?_
                  refine WL.q (Y.eql (.pl rfl) (.pl rfl)) rfl ?_
                  refine WL.q (Y.assign (.pl rfl)) rfl ?_
                  refine WL.next hQ34 (.cons (i := 17) rfl (.nil)) ?_
                  refine W.cond (.pl rfl) (fun hC35 => ?_) (fun hC35 => ?_)
                  · replace hF := cpos hC35 hF
                    refine W.seqR fun Q36 hQ36 => ?_
                    refine WL.q (Y.assign (.pl rfl)) rfl ?_
                    refine WL.next hQ36 (.cons (i := 2) rfl (.nil)) ?_
                    obtain rfl := Option.some.inj hF
                    refine W.retV (fn := Try.f90) (vs := [.int .i64 5]) Try.results90 ⟨.tmp rfl, trivial⟩ (fun _ _ h => h) (fun wz hw => ?_)
                    exact hR _ _ ⟨rfl, (hw.pick [] rfl)⟩
                  · replace hF := cneg hC35 hF
                    refine W.skip ?_
                    refine W.go hK2 (.nil) ?_
                    refine W.seqR fun Q37 hQ37 => ?_
                    refine WL.q (Y.assign (.pl rfl)) rfl ?_
                    refine WL.next hQ37 (.cons (i := 2) rfl (.nil)) ?_
                    obtain rfl := Option.some.inj hF
                    refine W.retV (fn := Try.f90) (vs := [.int .i64 0]) Try.results90 ⟨.tmp rfl, trivial⟩ (fun _ _ h => h) (fun wz hw => ?_)
                    exact hR _ _ ⟨rfl, (hw.pick [] rfl)⟩

def history_Fits (N : Nat) (typ1 : Int) (kind2 : Int) : Option Bool :=
  bd ((cond ((!(decide (typ1 = 0))) == true) (history_typeOf N kind2) (some 0))) fun (r3 : Int) =>
  some ((!(decide (typ1 = 0))) && (decide (r3 = typ1)))

theorem history_Fits_ok {N : Nat} {typ1 : Int} {kind2 : Int} {res : Bool} (hF : history_Fits N typ1 kind2 = some res) (w : World) :
    Pure Try.prog 64 [.int .i64 typ1, .int .i64 kind2] w (.bool res) := by
  refine W.enter (n := 13) Try.func64 rfl rfl Sub.refl (by simp) (St.start w) fun R hR => ?_
  unfold history_Fits at hF
  refine W.seqR fun Q1 hQ1 => ?_
  refine WL.q (Y.assign (.pl rfl)) rfl ?_
  refine WL.next hQ1 (.cons (i := 0) rfl (.cons (i := 1) rfl (.nil))) ?_
  refine W.seqR fun Q2 hQ2 => ?_
  refine WL.q (Y.move (.pl rfl)) rfl ?_
  refine WL.q (Y.neq (.pl rfl) (.pl rfl)) rfl ?_
  refine WL.q (Y.move (.pl rfl)) rfl ?_
  refine WL.g (.pl rfl rfl rfl) (fun hg => Y.move (.pl rfl)) rfl ?_
  obtain ⟨r3, hr3, hF⟩ := bnd hF
  refine WL.gP (.pl rfl rfl rfl) isGo90 (fun hg => (.cons (.gd (hg) rfl) (.nil))) rfl (fun hg wz hw => history_typeOf_ok (gpos hg hr3) wz ) ?_
  refine WL.g (.pl rfl rfl rfl) (fun hg => Y.move (.pl rfl)) rfl ?_
  refine WL.g (.pl rfl rfl rfl) (fun hg => Y.eql (.gd (hg) rfl) (.gd (hg) rfl)) rfl ?_
  refine WL.q (Y.and (.pl rfl) (fun h2 => .gd (eqt h2) rfl)) rfl ?_
  refine WL.q (Y.assign (.pl rfl)) rfl ?_
  refine WL.next hQ2 (.cons (i := 4) rfl (.nil)) ?_
  obtain rfl := Option.some.inj hF
  refine W.retV (fn := Try.f64) (vs := [.bool ((!(decide (typ1 = 0))) && (decide (r3 = typ1)))]) Try.results64 ⟨.tmp rfl, trivial⟩ (fun _ _ h => h) (fun wz hw => ?_)
  exact hR _ _ ⟨rfl, (hw.pick [] rfl)⟩

def history_Argument (N : Nat) (kind1 : Int) (n2 : Int) : Option Bool :=
  bd (α := (Unit ⊕ Bool)) (cond (decide (kind1 = 2))
      (cond (decide (kind1 = 2))
        (some (.inr (decide (n2 = 0))))
        (some (.inl ())))
      (cond (decide (kind1 = 4))
        (cond (decide (kind1 = 4))
          (some (.inr (decide (n2 = 0))))
          (some (.inl ())))
        (cond (decide (kind1 = 6))
          (cond (decide (kind1 = 6))
            (some (.inr (decide (n2 = 0))))
            (some (.inl ())))
          (cond (decide (kind1 = 10))
            (some (.inr (decide (n2 = 0))))
            (some (.inl ())))))) <|
  Sum.elim (fun _ => 
    some ((decide (1 ≤ n2)) && (decide (n2 ≤ 1000)))) (fun p => some p)

theorem history_Argument_ok {N : Nat} {kind1 : Int} {n2 : Int} {res : Bool} (hF : history_Argument N kind1 n2 = some res) (w : World) :
    Pure Try.prog 65 [.int .i64 kind1, .int .i64 n2] w (.bool res) := by
  refine W.enter (n := 19) Try.func65 rfl rfl Sub.refl (by simp) (St.start w) fun R hR => ?_
  unfold history_Argument at hF
  refine W.seqR fun Q1 hQ1 => ?_
  refine WL.q (Y.assign (.pl rfl)) rfl ?_
  refine WL.next hQ1 (.cons (i := 0) rfl (.cons (i := 1) rfl (.nil))) ?_
  obtain ⟨o2, hF2, hF⟩ := bnd hF
  refine W.join0 (Em := []) (M := []) (I := (.inl ()) = o2) (.cons (i := 1) rfl (.nil)) (fun K3 hK3 => ?_) ?_
  · -- up to
    refine W.seqR fun Q4 hQ4 => ?_
    refine WL.q (Y.move (.pl rfl)) rfl ?_
    refine WL.next hQ4 (.cons (i := 1) rfl (.cons (i := 5) rfl (.nil))) ?_
    refine W.block ?_
    refine W.seq fun K5 hK5 => ?_
    refine W.seqR fun Q6 hQ6 => ?_
    refine WL.q (Y.eql (.pl rfl) (.pl rfl)) rfl ?_
    refine WL.q (Y.assign (.pl rfl)) rfl ?_
    refine WL.next hQ6 (.cons (i := 1) rfl (.cons (i := 5) rfl (.cons (i := 6) rfl (.nil)))) ?_
    refine W.cond (.pl rfl) (fun hC7 => ?_) (fun hC7 => ?_)
    · replace hF2 := cpos hC7 hF2
      refine W.skip ?_
      refine W.go hK5 (.cons (i := 1) rfl (.cons (i := 6) rfl (.nil))) ?_
      refine W.cond (.pl rfl) (fun hC8 => ?_) (fun hC8 => ?_)
      · replace hF2 := cpos hC8 hF2
        refine W.seqR fun Q9 hQ9 => ?_
        refine WL.q (Y.move (.pl rfl)) rfl ?_
        refine WL.q (Y.eql (.pl rfl) (.pl rfl)) rfl ?_
        refine WL.q (Y.assign (.pl rfl)) rfl ?_
        refine WL.next hQ9 (.cons (i := 4) rfl (.nil)) ?_
        obtain rfl := Option.some.inj hF2
        obtain rfl := Option.some.inj hF
        refine W.retV (fn := Try.f65) (vs := [.bool (decide (n2 = 0))]) Try.results65 ⟨.tmp rfl, trivial⟩ (fun _ _ h => h) (fun wz hw => ?_)
        exact hR _ _ ⟨rfl, (hw.pick [] rfl)⟩
      · replace hF2 := cneg hC8 hF2
        refine W.skip ?_
        exact W.joinAt0 hK3  (Option.some.inj hF2) (.nil) (.cons (i := 1) rfl (.nil)) (fun wz hw => hw.pick [] rfl)
    · replace hF2 := cneg hC7 hF2
      refine W.seqR fun Q10 hQ10 => ?_
      refine WL.q (Y.eql (.pl rfl) (.pl rfl)) rfl ?_
      refine WL.q (Y.assign (.pl rfl)) rfl ?_
      refine WL.next hQ10 (.cons (i := 1) rfl (.cons (i := 5) rfl (.cons (i := 6) rfl (.nil)))) ?_
      refine W.cond (.pl rfl) (fun hC11 => ?_) (fun hC11 => ?_)
      · replace hF2 := cpos hC11 hF2
        refine W.skip ?_
        refine W.go hK5 (.cons (i := 1) rfl (.cons (i := 6) rfl (.nil))) ?_
        refine W.cond (.pl rfl) (fun hC12 => ?_) (fun hC12 => ?_)
        · replace hF2 := cpos hC12 hF2
          refine W.seqR fun Q13 hQ13 => ?_
          refine WL.q (Y.move (.pl rfl)) rfl ?_
          refine WL.q (Y.eql (.pl rfl) (.pl rfl)) rfl ?_
          refine WL.q (Y.assign (.pl rfl)) rfl ?_
          refine WL.next hQ13 (.cons (i := 4) rfl (.nil)) ?_
          obtain rfl := Option.some.inj hF2
          obtain rfl := Option.some.inj hF
          refine W.retV (fn := Try.f65) (vs := [.bool (decide (n2 = 0))]) Try.results65 ⟨.tmp rfl, trivial⟩ (fun _ _ h => h) (fun wz hw => ?_)
          exact hR _ _ ⟨rfl, (hw.pick [] rfl)⟩
        · replace hF2 := cneg hC12 hF2
          refine W.skip ?_
          exact W.joinAt0 hK3  (Option.some.inj hF2) (.nil) (.cons (i := 1) rfl (.nil)) (fun wz hw => hw.pick [] rfl)
      · replace hF2 := cneg hC11 hF2
        refine W.seqR fun Q14 hQ14 => ?_
        refine WL.q (Y.eql (.pl rfl) (.pl rfl)) rfl ?_
        refine WL.q (Y.assign (.pl rfl)) rfl ?_
        refine WL.next hQ14 (.cons (i := 1) rfl (.cons (i := 5) rfl (.cons (i := 6) rfl (.nil)))) ?_
        refine W.cond (.pl rfl) (fun hC15 => ?_) (fun hC15 => ?_)
        · replace hF2 := cpos hC15 hF2
          refine W.skip ?_
          refine W.go hK5 (.cons (i := 1) rfl (.cons (i := 6) rfl (.nil))) ?_
          refine W.cond (.pl rfl) (fun hC16 => ?_) (fun hC16 => ?_)
          · replace hF2 := cpos hC16 hF2
            refine W.seqR fun Q17 hQ17 => ?_
            refine WL.q (Y.move (.pl rfl)) rfl ?_
            refine WL.q (Y.eql (.pl rfl) (.pl rfl)) rfl ?_
            refine WL.q (Y.assign (.pl rfl)) rfl ?_
            refine WL.next hQ17 (.cons (i := 4) rfl (.nil)) ?_
            obtain rfl := Option.some.inj hF2
            obtain rfl := Option.some.inj hF
            refine W.retV (fn := Try.f65) (vs := [.bool (decide (n2 = 0))]) Try.results65 ⟨.tmp rfl, trivial⟩ (fun _ _ h => h) (fun wz hw => ?_)
            exact hR _ _ ⟨rfl, (hw.pick [] rfl)⟩
          · replace hF2 := cneg hC16 hF2
            refine W.skip ?_
            exact W.joinAt0 hK3  (Option.some.inj hF2) (.nil) (.cons (i := 1) rfl (.nil)) (fun wz hw => hw.pick [] rfl)
        · replace hF2 := cneg hC15 hF2
          refine W.reg ?_
          refine WL.q (Y.eql (.pl rfl) (.pl rfl)) rfl ?_
          refine WL.q (Y.assign (.pl rfl)) rfl ?_
          refine WL.nil ?_
          refine W.go hK5 (.cons (i := 1) rfl (.cons (i := 6) rfl (.nil))) ?_
          refine W.cond (.pl rfl) (fun hC19 => ?_) (fun hC19 => ?_)
          · replace hF2 := cpos hC19 hF2
            refine W.seqR fun Q20 hQ20 => ?_
            refine WL.q (Y.move (.pl rfl)) rfl ?_
            refine WL.q (Y.eql (.pl rfl) (.pl rfl)) rfl ?_
            refine WL.q (Y.assign (.pl rfl)) rfl ?_
            refine WL.next hQ20 (.cons (i := 4) rfl (.nil)) ?_
            obtain rfl := Option.some.inj hF2
            obtain rfl := Option.some.inj hF
            refine W.retV (fn := Try.f65) (vs := [.bool (decide (n2 = 0))]) Try.results65 ⟨.tmp rfl, trivial⟩ (fun _ _ h => h) (fun wz hw => ?_)
            exact hR _ _ ⟨rfl, (hw.pick [] rfl)⟩
          · replace hF2 := cneg hC19 hF2
            refine W.skip ?_
            exact W.joinAt0 hK3  (Option.some.inj hF2) (.nil) (.cons (i := 1) rfl (.nil)) (fun wz hw => hw.pick [] rfl)
  · -- behind
    rintro  rfl
    refine W.seqR fun Q21 hQ21 => ?_
    refine WL.q (Y.move (.pl rfl)) rfl ?_
    refine WL.q (Y.geq (.pl rfl) (.pl rfl)) rfl ?_
    refine WL.q (Y.move (.pl rfl)) rfl ?_
    refine WL.g (.pl rfl rfl rfl) (fun hg => Y.move (.pl rfl)) rfl ?_
    refine WL.g (.pl rfl rfl rfl) (fun hg => Y.leq (.gd (hg) rfl) (.pl rfl)) rfl ?_
    refine WL.q (Y.and (.pl rfl) (fun h2 => .gd (eqt h2) rfl)) rfl ?_
    refine WL.q (Y.assign (.pl rfl)) rfl ?_
    refine WL.next hQ21 (.cons (i := 4) rfl (.nil)) ?_
    obtain rfl := Option.some.inj hF
    refine W.retV (fn := Try.f65) (vs := [.bool ((decide (1 ≤ n2)) && (decide (n2 ≤ 1000)))]) Try.results65 ⟨.tmp rfl, trivial⟩ (fun _ _ h => h) (fun wz hw => ?_)
    exact hR _ _ ⟨rfl, (hw.pick [] rfl)⟩

def history_result (N : Nat) (kind1 : Int) (n2 : Int) : Option Bool :=
  bd (α := Bool) (cond (decide (kind1 = 2))
      (some (decide (kind1 = 2)))
      (some (decide (kind1 = 10)))) <|
  fun (v3 : Bool) => 
    cond v3
      (some ((decide (0 ≤ n2)) && (decide (n2 ≤ 1000))))
      (bd (α := Bool) (cond (decide (kind1 = 4))
          (some (decide (kind1 = 4)))
          (some (decide (kind1 = 6)))) <|
      fun (v4 : Bool) => 
        cond v4
          (some ((decide (n2 = (-1))) || ((decide (1 ≤ n2)) && (decide (n2 ≤ 1000)))))
          (bd (α := Bool) (cond (decide (kind1 = 7))
              (some (decide (kind1 = 7)))
              (cond (decide (kind1 = 8))
                (some (decide (kind1 = 8)))
                (some (decide (kind1 = 9))))) <|
          fun (v5 : Bool) => 
            cond v5
              (some ((decide (n2 = 0)) || (decide (n2 = 1))))
              (some (decide (n2 = 0)))))

theorem history_result_ok {N : Nat} {kind1 : Int} {n2 : Int} {res : Bool} (hF : history_result N kind1 n2 = some res) (w : World) :
    Pure Try.prog 69 [.int .i64 kind1, .int .i64 n2] w (.bool res) := by
  refine W.enter (n := 40) Try.func69 rfl rfl Sub.refl (by simp) (St.start w) fun R hR => ?_
  unfold history_result at hF
  refine W.seqR fun Q1 hQ1 => ?_
  refine WL.q (Y.assign (.pl rfl)) rfl ?_
  refine WL.next hQ1 (.cons (i := 0) rfl (.cons (i := 1) rfl (.nil))) ?_
  refine W.seq fun K2 hK2 => ?_
  refine W.seqR fun Q3 hQ3 => ?_
  refine WL.q (Y.move (.pl rfl)) rfl ?_
  refine WL.next hQ3 (.cons (i := 1) rfl (.cons (i := 5) rfl (.nil))) ?_
  refine W.block ?_
  obtain ⟨o4, hF4, hF⟩ := bnd hF
  refine W.join1 (Em := fun (v3 : Bool) => [(6, .bool v3)]) (M := fun v3 => []) (I := fun v3 => v3 = o4) (.cons (i := 1) rfl (.cons (i := 5) rfl (.nil))) (fun K5 hK5 => ?_) ?_
  · -- up to
    refine W.seqR fun Q6 hQ6 => ?_
    refine WL.q (Y.eql (.pl rfl) (.pl rfl)) rfl ?_
    refine WL.q (Y.assign (.pl rfl)) rfl ?_
    refine WL.next hQ6 (.cons (i := 1) rfl (.cons (i := 5) rfl (.cons (i := 6) rfl (.nil)))) ?_
    refine W.cond (.pl rfl) (fun hC7 => ?_) (fun hC7 => ?_)
    · replace hF4 := cpos hC7 hF4
      refine W.skip ?_
      exact W.joinAt1 hK5 (decide (kind1 = 2)) (Option.some.inj hF4) (.cons rfl (.nil)) (.cons (i := 1) rfl (.cons (i := 5) rfl (.nil))) (fun wz hw => hw.pick [] rfl)
    · replace hF4 := cneg hC7 hF4
      refine W.reg ?_
      refine WL.q (Y.eql (.pl rfl) (.pl rfl)) rfl ?_
      refine WL.q (Y.assign (.pl rfl)) rfl ?_
      refine WL.nil ?_
      exact W.joinAt1 hK5 (decide (kind1 = 10)) (Option.some.inj hF4) (.cons rfl (.nil)) (.cons (i := 1) rfl (.cons (i := 5) rfl (.nil))) (fun wz hw => hw.pick [] rfl)
  · -- behind
    rintro v3 rfl
    refine W.cond (.pl rfl) (fun hC9 => ?_) (fun hC9 => ?_)
    · replace hF := cpos hC9 hF
      refine W.seqR fun Q10 hQ10 => ?_
      refine WL.q (Y.move (.pl rfl)) rfl ?_
      refine WL.q (Y.geq (.pl rfl) (.pl rfl)) rfl ?_
      refine WL.q (Y.move (.pl rfl)) rfl ?_
      refine WL.g (.pl rfl rfl rfl) (fun hg => Y.move (.pl rfl)) rfl ?_
      refine WL.g (.pl rfl rfl rfl) (fun hg => Y.leq (.gd (hg) rfl) (.pl rfl)) rfl ?_
      refine WL.q (Y.and (.pl rfl) (fun h2 => .gd (eqt h2) rfl)) rfl ?_
      refine WL.q (Y.assign (.pl rfl)) rfl ?_
      refine WL.next hQ10 (.cons (i := 4) rfl (.nil)) ?_
      obtain rfl := Option.some.inj hF
      refine W.retV (fn := Try.f69) (vs := [.bool ((decide (0 ≤ n2)) && (decide (n2 ≤ 1000)))]) Try.results69 ⟨.tmp rfl, trivial⟩ (fun _ _ h => h) (fun wz hw => ?_)
      exact hR _ _ ⟨rfl, (hw.pick [] rfl)⟩
    · replace hF := cneg hC9 hF
      obtain ⟨o11, hF11, hF⟩ := bnd hF
      refine W.join1 (Em := fun (v4 : Bool) => [(15, .bool v4)]) (M := fun v4 => []) (I := fun v4 => v4 = o11) (.cons (i := 1) rfl (.cons (i := 5) rfl (.nil))) (fun K12 hK12 => ?_) ?_
      · -- up to
        refine W.seqR fun Q13 hQ13 => ?_
        refine WL.q (Y.eql (.pl rfl) (.pl rfl)) rfl ?_
        refine WL.q (Y.assign (.pl rfl)) rfl ?_
        refine WL.next hQ13 (.cons (i := 1) rfl (.cons (i := 5) rfl (.cons (i := 15) rfl (.nil)))) ?_
        refine W.cond (.pl rfl) (fun hC14 => ?_) (fun hC14 => ?_)
        · replace hF11 := cpos hC14 hF11
          refine W.skip ?_
          exact W.joinAt1 hK12 (decide (kind1 = 4)) (Option.some.inj hF11) (.cons rfl (.nil)) (.cons (i := 1) rfl (.cons (i := 5) rfl (.nil))) (fun wz hw => hw.pick [] rfl)
        · replace hF11 := cneg hC14 hF11
          refine W.reg ?_
          refine WL.q (Y.eql (.pl rfl) (.pl rfl)) rfl ?_
          refine WL.q (Y.assign (.pl rfl)) rfl ?_
          refine WL.nil ?_
          exact W.joinAt1 hK12 (decide (kind1 = 6)) (Option.some.inj hF11) (.cons rfl (.nil)) (.cons (i := 1) rfl (.cons (i := 5) rfl (.nil))) (fun wz hw => hw.pick [] rfl)
      · -- behind
        rintro v4 rfl
        refine W.cond (.pl rfl) (fun hC16 => ?_) (fun hC16 => ?_)
        · replace hF := cpos hC16 hF
          refine W.seqR fun Q17 hQ17 => ?_
          refine WL.q (Y.move (.pl rfl)) rfl ?_
          refine WL.q (Y.eql (.pl rfl) (.pl rfl)) rfl ?_
          refine WL.q (Y.move (.pl rfl)) rfl ?_
          refine WL.g (.pl rfl rfl rfl) (fun hg => Y.move (.pl rfl)) rfl ?_
          refine WL.g (.pl rfl rfl rfl) (fun hg => Y.geq (.gd (hg) rfl) (.pl rfl)) rfl ?_
          refine WL.g (.pl rfl rfl rfl) (fun hg => Y.move (.gd (hg) rfl)) rfl ?_
          refine WL.g (.gd rfl rfl rfl) (fun hg => Y.move (.pl rfl)) rfl ?_
          refine WL.g (.gd rfl rfl rfl) (fun hg => Y.leq (.gd (hg) rfl) (.pl rfl)) rfl ?_
          refine WL.g (.pl rfl rfl rfl) (fun hg => Y.and (.gd (hg) rfl) (fun h2 => .gd (band hg (eqt h2)) rfl)) rfl ?_
          refine WL.q (Y.or (.pl rfl) (fun h2 => .gd (eqf h2) rfl)) rfl ?_
          refine WL.q (Y.assign (.pl rfl)) rfl ?_
          refine WL.next hQ17 (.cons (i := 4) rfl (.nil)) ?_
          obtain rfl := Option.some.inj hF
          refine W.retV (fn := Try.f69) (vs := [.bool ((decide (n2 = (-1))) || ((decide (1 ≤ n2)) && (decide (n2 ≤ 1000))))]) Try.results69 ⟨.tmp rfl, trivial⟩ (fun _ _ h => h) (fun wz hw => ?_)
          exact hR _ _ ⟨rfl, (hw.pick [] rfl)⟩
        · replace hF := cneg hC16 hF
          obtain ⟨o18, hF18, hF⟩ := bnd hF
          refine W.join1 (Em := fun (v5 : Bool) => [(28, .bool v5)]) (M := fun v5 => []) (I := fun v5 => v5 = o18) (.cons (i := 1) rfl (.nil)) (fun K19 hK19 => ?_) ?_
          · -- up to
            refine W.seqR fun Q20 hQ20 => ?_
            refine WL.q (Y.eql (.pl rfl) (.pl rfl)) rfl ?_
            refine WL.q (Y.assign (.pl rfl)) rfl ?_
            refine WL.next hQ20 (.cons (i := 1) rfl (.cons (i := 5) rfl (.cons (i := 28) rfl (.nil)))) ?_
            refine W.cond (.pl rfl) (fun hC21 => ?_) (fun hC21 => ?_)
            · replace hF18 := cpos hC21 hF18
              refine W.skip ?_
              exact W.joinAt1 hK19 (decide (kind1 = 7)) (Option.some.inj hF18) (.cons rfl (.nil)) (.cons (i := 1) rfl (.nil)) (fun wz hw => hw.pick [] rfl)
            · replace hF18 := cneg hC21 hF18
              refine W.seqR fun Q22 hQ22 => ?_
              refine WL.q (Y.eql (.pl rfl) (.pl rfl)) rfl ?_
              refine WL.q (Y.assign (.pl rfl)) rfl ?_
              refine WL.next hQ22 (.cons (i := 1) rfl (.cons (i := 5) rfl (.cons (i := 28) rfl (.nil)))) ?_
              refine W.cond (.pl rfl) (fun hC23 => ?_) (fun hC23 => ?_)
              · replace hF18 := cpos hC23 hF18
                refine W.skip ?_
                exact W.joinAt1 hK19 (decide (kind1 = 8)) (Option.some.inj hF18) (.cons rfl (.nil)) (.cons (i := 1) rfl (.nil)) (fun wz hw => hw.pick [] rfl)
              · replace hF18 := cneg hC23 hF18
                refine W.reg ?_
                refine WL.q (Y.eql (.pl rfl) (.pl rfl)) rfl ?_
                refine WL.q (Y.assign (.pl rfl)) rfl ?_
                refine WL.nil ?_
                exact W.joinAt1 hK19 (decide (kind1 = 9)) (Option.some.inj hF18) (.cons rfl (.nil)) (.cons (i := 1) rfl (.nil)) (fun wz hw => hw.pick [] rfl)
          · -- behind
            rintro v5 rfl
            refine W.cond (.pl rfl) (fun hC25 => ?_) (fun hC25 => ?_)
            · replace hF := cpos hC25 hF
              refine W.seqR fun Q26 hQ26 => ?_
              refine WL.q (Y.move (.pl rfl)) rfl ?_
              refine WL.q (Y.eql (.pl rfl) (.pl rfl)) rfl ?_
              refine WL.q (Y.move (.pl rfl)) rfl ?_
              refine WL.g (.pl rfl rfl rfl) (fun hg => Y.move (.pl rfl)) rfl ?_
              refine WL.g (.pl rfl rfl rfl) (fun hg => Y.eql (.gd (hg) rfl) (.pl rfl)) rfl ?_
              refine WL.q (Y.or (.pl rfl) (fun h2 => .gd (eqf h2) rfl)) rfl ?_
              refine WL.q (Y.assign (.pl rfl)) rfl ?_
              refine WL.next hQ26 (.cons (i := 4) rfl (.nil)) ?_
              obtain rfl := Option.some.inj hF
              refine W.retV (fn := Try.f69) (vs := [.bool ((decide (n2 = 0)) || (decide (n2 = 1)))]) Try.results69 ⟨.tmp rfl, trivial⟩ (fun _ _ h => h) (fun wz hw => ?_)
              exact hR _ _ ⟨rfl, (hw.pick [] rfl)⟩
            · replace hF := cneg hC25 hF
              refine W.skip ?_
              refine W.go hK2 (.cons (i := 1) rfl (.nil)) ?_
              refine W.seqR fun Q27 hQ27 => ?_
              refine WL.q (Y.move (.pl rfl)) rfl ?_
              refine WL.q (Y.eql (.pl rfl) (.pl rfl)) rfl ?_
              refine WL.q (Y.assign (.pl rfl)) rfl ?_
              refine WL.next hQ27 (.cons (i := 4) rfl (.nil)) ?_
              obtain rfl := Option.some.inj hF
              refine W.retV (fn := Try.f69) (vs := [.bool (decide (n2 = 0))]) Try.results69 ⟨.tmp rfl, trivial⟩ (fun _ _ h => h) (fun wz hw => ?_)
              exact hR _ _ ⟨rfl, (hw.pick [] rfl)⟩

def history_reader_event (N : Nat) (types2 : (List Int)) (out8 : (List Call)) (open9 : (List Int)) (i10 : Int) (v11 : Event) : Option ((List Call) × (List Int) × Int) :=
  cond ((((decide (v11.who < 0)) || (decide (8 ≤ v11.who))) || (decide (v11.thing < 0))) || (decide (((types2).length : Int) ≤ v11.thing)))
    (some (out8, open9, 3))
    (bd (ax 8 0 open9 v11.who) fun (x13 : Int) =>
    cond (!(decide (v11.kind = 0)))
      (bd (ix types2 v11.thing) fun (x14 : Int) =>
      bd (history_Fits N x14 v11.kind) fun (r15 : Bool) =>
      bd ((cond ((!r15) == false) (history_Argument N v11.kind v11.value) (some false))) fun (r16 : Bool) =>
      cond ((!r15) || (!r16))
        (some (out8, open9, 3))
        (cond (decide (0 < x13))
          (some (out8, open9, 5))
          (ck (limB 56 ((out8).length + (([(Call.mk v11.who v11.thing v11.kind v11.value 0 i10 (-1))] : List Call)).length)) <|
          bd (ax 8 0 open9 v11.who) fun (x21 : Int) =>
          some ((out8 ++ ([(Call.mk v11.who v11.thing v11.kind v11.value 0 i10 (-1))] : List Call)), (setA 8 0 open9 v11.who (((out8 ++ ([(Call.mk v11.who v11.thing v11.kind v11.value 0 i10 (-1))] : List Call))).length : Int)), 0))))
      (cond (decide (x13 = 0))
        (some (out8, open9, 4))
        (ck (ok64 (x13 - 1)) <|
        bd (ix out8 (x13 - 1)) fun (x23 : Call) =>
        bd ((cond ((!(decide (x23.thing = v11.thing))) == false) (history_result N x23.kind v11.value) (some false))) fun (r24 : Bool) =>
        cond ((!(decide (x23.thing = v11.thing))) || (!r24))
          (some (out8, open9, 3))
          (bd (ax 8 0 open9 v11.who) fun (x25 : Int) =>
          some ((out8.set (x13 - 1).toNat (Call.mk x23.who x23.thing x23.kind x23.arg v11.value x23.from_ i10)), (setA 8 0 open9 v11.who 0), 0)))))

theorem history_reader_event_ok {N : Nat} {types2 : (List Int)} {out8 : (List Call)} {open9 : (List Int)} {i10 : Int} {v11 : Event} {b1 : Nat} {A3 : Option Addr} {c4 : Nat} {A6 : Option Addr} {c7 : Nat} {res : ((List Call) × (List Int) × Int)} (hF : history_reader_event N types2 out8 open9 i10 v11 = some res) {w0 w : World} {T : List Chunk} (hw : St w0.heap.size w0 ([cBx b1 93 (Value.slice A3 (types2).length c4 :: (Value.slice A6 (out8).length c7 :: (((encA 8 (eI .i64) 0) open9) ++ []))), cR encCall 7 A6 c7 64 out8] ++ T) w) (hs5 : SlIn (eI .i64) 1 w0 (.slice A3 (types2).length c4) types2) :
    Calls Try.prog 38 (List.toArray [.pointer (some ⟨b1, 0, none⟩), .int .i64 i10, .agg (encEvent v11).toArray]) w (fun e w' => ∃ g : (Option Addr × Nat), (True) ∧ e = .returned (.int .i64 res.2.2) ∧ St w0.heap.size w0 ([cBx b1 93 (Value.slice A3 (types2).length c4 :: (Value.slice g.1 (res.1).length g.2 :: (((encA 8 (eI .i64) 0) res.2.1) ++ []))), cR encCall 7 g.1 g.2 64 res.1] ++ T) w') := by
  refine W.enter (n := 137) Try.func38 rfl rfl Sub.refl (by simp) hw fun R hR => ?_
  unfold history_reader_event at hF
  refine W.seqR fun Q1 hQ1 => ?_
  refine WL.step (WO.boxA (.pl rfl) rfl fun b12 => ?_)
  refine WL.q (Y.assign (.pl rfl)) rfl ?_
  refine WL.next hQ1 (.cons (i := 0) rfl (.cons (i := 1) rfl (.cons (i := 5) rfl (.nil)))) ?_
  refine W.seq fun K2 hK2 => ?_
  refine W.seqD (by kernel_rfl) (by kernel_rfl) fun R3 hR3 => ?_
  refine WD.q (Y.fieldAddr0 (off := 0) (ft := 3) Try.underlying31 rfl cells3 (.pl rfl)) rfl ?_
  refine WD.q (Y.loadB (v := .int .i64 v11.who) Try.underlying3 rfl (.pl rfl) (i := 0) rfl (rfl)) rfl ?_
  refine WD.q (Y.lss (.pl rfl) (.pl rfl)) rfl ?_
  refine WD.q (Y.move (.pl rfl)) rfl ?_
  refine WD.g (.pl rfl rfl rfl) (fun hg => Y.fieldAddr0 (off := 0) (ft := 3) Try.underlying31 rfl cells3 (.pl rfl)) rfl ?_
  refine WD.g (.pl rfl rfl rfl) (fun hg => Y.loadB (v := .int .i64 v11.who) Try.underlying3 rfl (.gd (hg) rfl) (i := 0) rfl (rfl)) rfl ?_
  refine WD.g (.pl rfl rfl rfl) (fun hg => Y.geq (.gd (hg) rfl) (.pl rfl)) rfl ?_
  refine WD.q (Y.or (.pl rfl) (fun h2 => .gd (eqf h2) rfl)) rfl ?_
  refine WD.q (Y.move (.pl rfl)) rfl ?_
  refine WD.g (.pl rfl rfl rfl) (fun hg => Y.fieldAddr0 (off := 1) (ft := 3) Try.underlying31 rfl cells3 (.pl rfl)) rfl ?_
  refine WD.g (.pl rfl rfl rfl) (fun hg => Y.loadB (v := .int .i64 v11.thing) Try.underlying3 rfl (.gd (hg) rfl) (i := 0) rfl (rfl)) rfl ?_
  refine WD.g (.pl rfl rfl rfl) (fun hg => Y.lss (.gd (hg) rfl) (.pl rfl)) rfl ?_
  refine WD.q (Y.or (.pl rfl) (fun h2 => .gd (eqf h2) rfl)) rfl ?_
  refine WD.q (Y.move (.pl rfl)) rfl ?_
  refine WD.g (.pl rfl rfl rfl) (fun hg => Y.fieldAddr0 (off := 1) (ft := 3) Try.underlying31 rfl cells3 (.pl rfl)) rfl ?_
  refine WD.g (.pl rfl rfl rfl) (fun hg => Y.loadB (v := .int .i64 v11.thing) Try.underlying3 rfl (.gd (hg) rfl) (i := 0) rfl (rfl)) rfl ?_
  refine WD.g (.pl rfl rfl rfl) (fun hg => Y.move (.pl rfl)) rfl ?_
  refine WD.g (.pl rfl rfl rfl) (fun hg => Y.nilCheck (.gd (hg) rfl)) rfl ?_
  refine WD.g (.pl rfl rfl rfl) (fun hg => Y.fieldAddr0 (off := 0) (ft := 23) Try.underlying93 rfl cells23 (.gd (hg) rfl)) rfl ?_
  refine WD.g (.pl rfl rfl rfl) (fun hg => Y.loadB (v := .slice A3 (types2).length c4) Try.underlying23 rfl (.gd (hg) rfl) (i := 1) rfl (rfl)) rfl ?_
  refine WD.g (.pl rfl rfl rfl) (fun hg => Y.len Try.underlying23 (.gd (hg) rfl)) rfl ?_
  refine WD.g (.pl rfl rfl rfl) (fun hg => Y.geq (.gd (hg) rfl) (.gd (hg) rfl)) rfl ?_
  refine WD.q (Y.or (.pl rfl) (fun h2 => .gd (eqf h2) rfl)) rfl ?_
  refine WD.next hR3 (.cons (i := 0) rfl (.cons (i := 1) rfl (.cons (i := 5) rfl (.cons (i := 31) rfl (.nil))))) ?_
  refine W.cond (.pl rfl) (fun hC4 => ?_) (fun hC4 => ?_)
  · replace hF := cpos hC4 hF
    refine W.seqR fun Q5 hQ5 => ?_
    refine WL.q (Y.assign (.pl rfl)) rfl ?_
    refine WL.next hQ5 (.cons (i := 6) rfl (.nil)) ?_
    obtain rfl := Option.some.inj hF
    refine W.retV (fn := Try.f38) (vs := [.int .i64 3]) Try.results38 ⟨.tmp rfl, trivial⟩ (fun _ _ h => h) (fun wz hw => ?_)
    exact hR _ _ ⟨(A6, c7), trivial, rfl, (hw.pickK 3 [1, 2] rfl)⟩
  · replace hF := cneg hC4 hF
    refine W.skip ?_
    refine W.go hK2 (.cons (i := 0) rfl (.cons (i := 1) rfl (.cons (i := 5) rfl (.nil)))) ?_
    refine W.seqD (by kernel_rfl) (by kernel_rfl) fun R6 hR6 => ?_
    refine WD.q (Y.move (.pl rfl)) rfl ?_
    refine WD.q (Y.fieldAddr0 (off := 0) (ft := 3) Try.underlying31 rfl cells3 (.pl rfl)) rfl ?_
    refine WD.q (Y.loadB (v := .int .i64 v11.who) Try.underlying3 rfl (.pl rfl) (i := 0) rfl (rfl)) rfl ?_
    refine WD.q (Y.nilCheck (.pl rfl)) rfl ?_
    refine WD.q (Y.fieldAddr0 (off := 2) (ft := 91) Try.underlying93 rfl cells91 (.pl rfl)) rfl ?_
    obtain ⟨x13, hx13, hF⟩ := bnd hF
    refine WD.q (Y.arrZ Try.underlying91 cells3 (.pl rfl) (.pl rfl) (ax_lt (hx13))) rfl ?_
    refine WD.q (Y.loadB (v := .int .i64 x13) Try.underlying3 rfl (.pl rfl) (i := 1) rfl (cellsA (pre := (Value.slice A3 (types2).length c4 :: (Value.slice A6 (out8).length c7 :: []))) (off := 2) (post := []) (a := open9) (enc := (eI .i64)) (d := 0) (n := 8) (sz := 1) (j := 0) (fun _ => rfl) rfl (ax_nat (hx13)) (ax_get (hx13)) rfl)) rfl ?_
    refine WD.q (Y.assign (.pl rfl)) rfl ?_
    refine WD.next hR6 (.cons (i := 0) rfl (.cons (i := 1) rfl (.cons (i := 5) rfl (.cons (i := 7) rfl (.nil))))) ?_
    refine W.seq fun K7 hK7 => ?_
    refine W.seqR fun Q8 hQ8 => ?_
    refine WL.q (Y.fieldAddr0 (off := 2) (ft := 3) Try.underlying31 rfl cells3 (.pl rfl)) rfl ?_
    refine WL.q (Y.loadB (v := .int .i64 v11.kind) Try.underlying3 rfl (.pl rfl) (i := 0) rfl (rfl)) rfl ?_
    refine WL.q (Y.neq (.pl rfl) (.pl rfl)) rfl ?_
    refine WL.next hQ8 (.cons (i := 0) rfl (.cons (i := 1) rfl (.cons (i := 5) rfl (.cons (i := 7) rfl (.cons (i := 41) rfl (.nil)))))) ?_
    refine W.cond (.pl rfl) (fun hC9 => ?_) (fun hC9 => ?_)
    · replace hF := cpos hC9 hF
      refine W.seq fun K10 hK10 => ?_
      refine W.block ?_
      refine W.seqD (by kernel_rfl) (by kernel_rfl) fun R11 hR11 => ?_
      refine WD.q (Y.move (.pl rfl)) rfl ?_
      refine WD.q (Y.nilCheck (.pl rfl)) rfl ?_
      refine WD.q (Y.fieldAddr0 (off := 0) (ft := 23) Try.underlying93 rfl cells23 (.pl rfl)) rfl ?_
      refine WD.q (Y.loadB (v := .slice A3 (types2).length c4) Try.underlying23 rfl (.pl rfl) (i := 1) rfl (rfl)) rfl ?_
      refine WD.q (Y.fieldAddr0 (off := 1) (ft := 3) Try.underlying31 rfl cells3 (.pl rfl)) rfl ?_
      refine WD.q (Y.loadB (v := .int .i64 v11.thing) Try.underlying3 rfl (.pl rfl) (i := 0) rfl (rfl)) rfl ?_
      obtain ⟨x14, hx14, hF⟩ := bnd hF
      refine WD.q (Y.slEl Try.underlying23 cells3 hs5 (.pl rfl) (.pl rfl) (ix_lt (hx14))) rfl ?_
      refine WD.q (Y.loadS (enc := (eI .i64)) (v := .int .i64 x14) (j := 0) Try.underlying3 rfl hs5 (.pl rfl) (hx14) rfl rfl) rfl ?_
      refine WD.q (Y.fieldAddr0 (off := 2) (ft := 3) Try.underlying31 rfl cells3 (.pl rfl)) rfl ?_
      refine WD.q (Y.loadB (v := .int .i64 v11.kind) Try.underlying3 rfl (.pl rfl) (i := 0) rfl (rfl)) rfl ?_
      obtain ⟨r15, hr15, hF⟩ := bnd hF
      refine WD.callP isGo64 (.cons (.pl rfl) (.cons (.pl rfl) (.nil))) rfl (fun wz hw => history_Fits_ok (hr15) wz ) ?_
      refine WD.q (Y.not (.pl rfl)) rfl ?_
      refine WD.q (Y.move (.pl rfl)) rfl ?_
      refine WD.g (.pl rfl rfl rfl) (fun hg => Y.fieldAddr0 (off := 2) (ft := 3) Try.underlying31 rfl cells3 (.pl rfl)) rfl ?_
      refine WD.g (.pl rfl rfl rfl) (fun hg => Y.loadB (v := .int .i64 v11.kind) Try.underlying3 rfl (.gd (hg) rfl) (i := 0) rfl (rfl)) rfl ?_
      refine WD.g (.pl rfl rfl rfl) (fun hg => Y.fieldAddr0 (off := 3) (ft := 3) Try.underlying31 rfl cells3 (.pl rfl)) rfl ?_
      refine WD.g (.pl rfl rfl rfl) (fun hg => Y.loadB (v := .int .i64 v11.value) Try.underlying3 rfl (.gd (hg) rfl) (i := 0) rfl (rfl)) rfl ?_
      obtain ⟨r16, hr16, hF⟩ := bnd hF
      refine WD.gP (.pl rfl rfl rfl) isGo65 (fun hg => (.cons (.gd (hg) rfl) (.cons (.gd (hg) rfl) (.nil)))) rfl (fun hg wz hw => history_Argument_ok (gpos hg hr16) wz ) ?_
      refine WD.g (.pl rfl rfl rfl) (fun hg => Y.not (.gd (hg) rfl)) rfl ?_
      refine WD.q (Y.or (.pl rfl) (fun h2 => .gd (eqf h2) rfl)) rfl ?_
      refine WD.q (Y.assign (.pl rfl)) rfl ?_
      refine WD.next hR11 (.cons (i := 0) rfl (.cons (i := 1) rfl (.cons (i := 5) rfl (.cons (i := 7) rfl (.cons (i := 42) rfl (.nil)))))) ?_
      refine W.cond (.pl rfl) (fun hC12 => ?_) (fun hC12 => ?_)
      · replace hF := cpos hC12 hF
        refine W.seqR fun Q13 hQ13 => ?_
        refine WL.q (Y.assign (.pl rfl)) rfl ?_
        refine WL.next hQ13 (.cons (i := 6) rfl (.nil)) ?_
        obtain rfl := Option.some.inj hF
        refine W.retV (fn := Try.f38) (vs := [.int .i64 3]) Try.results38 ⟨.tmp rfl, trivial⟩ (fun _ _ h => h) (fun wz hw => ?_)
        exact hR _ _ ⟨(A6, c7), trivial, rfl, (hw.pickK 3 [1, 2] rfl)⟩
      · replace hF := cneg hC12 hF
        refine W.seqR fun Q14 hQ14 => ?_
        refine WL.q (Y.move (.pl rfl)) rfl ?_
        refine WL.q (Y.gtr (.pl rfl) (.pl rfl)) rfl ?_
        refine WL.q (Y.assign (.pl rfl)) rfl ?_
        refine WL.next hQ14 (.cons (i := 0) rfl (.cons (i := 1) rfl (.cons (i := 5) rfl (.cons (i := 63) rfl (.nil))))) ?_
        refine W.cond (.pl rfl) (fun hC15 => ?_) (fun hC15 => ?_)
        · replace hF := cpos hC15 hF
          refine W.seqR fun Q16 hQ16 => ?_
          refine WL.q (Y.assign (.pl rfl)) rfl ?_
          refine WL.next hQ16 (.cons (i := 6) rfl (.nil)) ?_
          obtain rfl := Option.some.inj hF
          refine W.retV (fn := Try.f38) (vs := [.int .i64 5]) Try.results38 ⟨.tmp rfl, trivial⟩ (fun _ _ h => h) (fun wz hw => ?_)
          exact hR _ _ ⟨(A6, c7), trivial, rfl, (hw.pickK 3 [1, 2] rfl)⟩
        · replace hF := cneg hC15 hF
          refine W.skip ?_
          refine W.go hK10 (.cons (i := 0) rfl (.cons (i := 1) rfl (.cons (i := 5) rfl (.nil)))) ?_
          refine W.seqX 16 (by kernel_rfl) fun K17 hK17 => ?_
          refine WX.pure 0 #[true, false, false, false, false, false, false, false, false, false, false, false, false, false, false, false, false, false, false, false] rfl (by kernel_rfl) (fun _ _ => Y.move (.pl rfl)) rfl ?_
          refine WX.pure 1 #[true, true, false, false, false, false, false, false, false, false, false, false, false, false, false, false, false, false, false, false] rfl (by kernel_rfl) (fun _ _ => Y.move (.pl rfl)) rfl ?_
          refine WX.pure 2 #[true, true, true, false, false, false, false, false, false, false, false, false, false, false, false, false, false, false, false, false] rfl (by kernel_rfl) (fun _ _ => Y.nilCheck (.pl rfl)) rfl ?_
          refine WX.pure 3 #[true, true, true, true, false, false, false, false, false, false, false, false, false, false, false, false, false, false, false, false] rfl (by kernel_rfl) (fun _ _ => Y.fieldAddr0 (off := 1) (ft := 35) Try.underlying93 rfl cells35 (.pl rfl)) rfl ?_
          refine WX.take 4 #[true, true, true, true, true, false, false, false, false, false, false, false, false, false, false, false, false, false, false, false] (fun wz hw => St.tail [] hw) rfl (by kernel_rfl) (Y.loadB (v := .slice A6 (out8).length c7) Try.underlying35 rfl (.pl rfl) (i := 1) rfl (rfl)) rfl ?_
          refine WX.pure 5 #[true, true, true, true, true, true, false, false, false, false, false, false, false, false, false, false, false, false, false, false] rfl (by kernel_rfl) (fun _ _ => Y.fieldAddr0 (off := 0) (ft := 3) Try.underlying31 rfl cells3 (.pl rfl)) rfl ?_
          refine WX.take 6 #[true, true, true, true, true, true, true, false, false, false, false, false, false, false, false, false, false, false, false, false] (fun wz hw => St.tail [] hw) rfl (by kernel_rfl) (Y.loadB (v := .int .i64 v11.who) Try.underlying3 rfl (.pl rfl) (i := 0) rfl (rfl)) rfl ?_
          refine WX.pure 7 #[true, true, true, true, true, true, true, true, false, false, false, false, false, false, false, false, false, false, false, false] rfl (by kernel_rfl) (fun _ _ => Y.fieldAddr0 (off := 1) (ft := 3) Try.underlying31 rfl cells3 (.pl rfl)) rfl ?_
          refine WX.take 8 #[true, true, true, true, true, true, true, true, true, false, false, false, false, false, false, false, false, false, false, false] (fun wz hw => St.tail [] hw) rfl (by kernel_rfl) (Y.loadB (v := .int .i64 v11.thing) Try.underlying3 rfl (.pl rfl) (i := 0) rfl (rfl)) rfl ?_
          refine WX.pure 9 #[true, true, true, true, true, true, true, true, true, true, false, false, false, false, false, false, false, false, false, false] rfl (by kernel_rfl) (fun _ _ => Y.fieldAddr0 (off := 2) (ft := 3) Try.underlying31 rfl cells3 (.pl rfl)) rfl ?_
          refine WX.take 10 #[true, true, true, true, true, true, true, true, true, true, true, false, false, false, false, false, false, false, false, false] (fun wz hw => St.tail [] hw) rfl (by kernel_rfl) (Y.loadB (v := .int .i64 v11.kind) Try.underlying3 rfl (.pl rfl) (i := 0) rfl (rfl)) rfl ?_
          refine WX.pure 11 #[true, true, true, true, true, true, true, true, true, true, true, true, false, false, false, false, false, false, false, false] rfl (by kernel_rfl) (fun _ _ => Y.fieldAddr0 (off := 3) (ft := 3) Try.underlying31 rfl cells3 (.pl rfl)) rfl ?_
          refine WX.take 12 #[true, true, true, true, true, true, true, true, true, true, true, true, true, false, false, false, false, false, false, false] (fun wz hw => St.tail [] hw) rfl (by kernel_rfl) (Y.loadB (v := .int .i64 v11.value) Try.underlying3 rfl (.pl rfl) (i := 0) rfl (rfl)) rfl ?_
          refine WX.pure 13 #[true, true, true, true, true, true, true, true, true, true, true, true, true, true, false, false, false, false, false, false] rfl (by kernel_rfl) (fun _ _ => Y.move (.pl rfl)) rfl ?_
          refine WX.pure 14 #[true, true, true, true, true, true, true, true, true, true, true, true, true, true, true, false, false, false, false, false] rfl (by kernel_rfl) (fun _ _ => Y.build (cs := (encCall (Call.mk v11.who v11.thing v11.kind v11.value 0 i10 (-1))).toArray) shape64 (.cons (.pl rfl) (.cons (.pl rfl) (.cons (.pl rfl) (.cons (.pl rfl) (.cons (.pl rfl) (.cons (.pl rfl) (.nil))))))) (one_parts ⟨rfl, ⟨rfl, ⟨rfl, ⟨rfl, ⟨rfl, ⟨rfl, trivial⟩⟩⟩⟩⟩⟩) rfl) rfl ?_
          refine WX.one 15 #[true, true, true, true, true, true, true, true, true, true, true, true, true, true, true, true, false, false, false, false] (fun wz hw => St.tail [] hw) rfl (by kernel_rfl) (WO.bsliceC (enc := encCall) (ys := ([(Call.mk v11.who v11.thing v11.kind v11.value 0 i10 (-1))] : List Call)) Try.underlying35 bz64 (.cons (.pl rfl) (.nil)) rfl lenCall rfl rfl (by decide) (by decide) rfl fun b17 => ?_)
          obtain ⟨hk20, hF⟩ := ckh hF
          refine WX.stop #[true, true, true, true, true, true, true, true, true, true, true, true, true, true, true, true, true, false, false, false] (fun wz hw => St.tail [_] hw) rfl (by kernel_rfl) (WO.appendC (enc := encCall) Try.underlying35 ap64 lenCall oneCall (.pl rfl) rfl (.pl rfl) (i := 3) rfl (m2 := 0) rfl (hk20) rfl fun A18 c19 => ?_)
          refine WA.take 17 #[true, true, true, true, true, true, true, true, true, true, true, true, true, true, true, true, true, true, false, false] rfl (by kernel_rfl) (fun _ _ => Y.nilCheck (.pl rfl)) rfl ?_
          refine WA.take 18 #[true, true, true, true, true, true, true, true, true, true, true, true, true, true, true, true, true, true, true, false] rfl (by kernel_rfl) (fun _ _ => Y.fieldAddr0 (off := 1) (ft := 35) Try.underlying93 rfl cells35 (.pl rfl)) rfl ?_
          refine WA.branch [19] (by kernel_rfl) ⟨?_, trivial⟩
          refine WI.step #[true, true, true, true, true, true, true, true, true, true, true, true, true, true, true, true, true, true, true, true] rfl rfl (WO.storeB (cs' := (Value.slice A3 (types2).length c4 :: (Value.slice A18 ((out8 ++ ([(Call.mk v11.who v11.thing v11.kind v11.value 0 i10 (-1))] : List Call))).length c19 :: (((encA 8 (eI .i64) 0) open9) ++ [])))) cells35 (.pl rfl) (.pl rfl) rfl (i := 2) rfl (ltl (m := 10) (by decide) rfl) (rfl) ?_)
          refine WA.done (by kernel_rfl) ?_
          refine KK.next hK17 (.cons (i := 0) rfl (.cons (i := 5) rfl (.nil))) ?_
          refine W.seqT 11 (by kernel_rfl) (by kernel_rfl) fun Q18 hQ18 => ?_
          refine WS.q (Y.move (.pl rfl)) rfl ?_
          refine WS.q (Y.fieldAddr0 (off := 0) (ft := 3) Try.underlying31 rfl cells3 (.pl rfl)) rfl ?_
          refine WS.q (Y.loadB (v := .int .i64 v11.who) Try.underlying3 rfl (.pl rfl) (i := 1) rfl (rfl)) rfl ?_
          refine WS.q (Y.move (.pl rfl)) rfl ?_
          refine WS.q (Y.nilCheck (.pl rfl)) rfl ?_
          refine WS.q (Y.fieldAddr0 (off := 1) (ft := 35) Try.underlying93 rfl cells35 (.pl rfl)) rfl ?_
          refine WS.q (Y.loadB (v := .slice A18 ((out8 ++ ([(Call.mk v11.who v11.thing v11.kind v11.value 0 i10 (-1))] : List Call))).length c19) Try.underlying35 rfl (.pl rfl) (i := 2) rfl (rfl)) rfl ?_
          refine WS.q (Y.len Try.underlying35 (.pl rfl)) rfl ?_
          refine WS.q (Y.nilCheck (.pl rfl)) rfl ?_
          refine WS.q (Y.fieldAddr0 (off := 2) (ft := 91) Try.underlying93 rfl cells91 (.pl rfl)) rfl ?_
          obtain ⟨x21, hx21, hF⟩ := bnd hF
          refine WS.q (Y.arrZ Try.underlying91 cells3 (.pl rfl) (.pl rfl) (ax_lt (hx21))) rfl ?_
          refine WS.tail ?_
          refine WL.step (WO.storeB (cs' := (Value.slice A3 (types2).length c4 :: (Value.slice A18 ((out8 ++ ([(Call.mk v11.who v11.thing v11.kind v11.value 0 i10 (-1))] : List Call))).length c19 :: (((encA 8 (eI .i64) 0) (setA 8 0 open9 v11.who (((out8 ++ ([(Call.mk v11.who v11.thing v11.kind v11.value 0 i10 (-1))] : List Call))).length : Int))) ++ [])))) cells3 (.pl rfl) (.pl rfl) rfl (i := 2) rfl (ltl (m := 10) (offlt (off := 2) (sz := 1) (j := 0) (ax_nat (hx21)) (by decide)) rfl) (cellsSet (pre := (Value.slice A3 (types2).length c4 :: (Value.slice A18 ((out8 ++ ([(Call.mk v11.who v11.thing v11.kind v11.value 0 i10 (-1))] : List Call))).length c19 :: []))) (off := 2) (post := []) (a := open9) (enc := (eI .i64)) (d := 0) (n := 8) (sz := 1) (j := 0) (x := x21) (x' := (((out8 ++ ([(Call.mk v11.who v11.thing v11.kind v11.value 0 i10 (-1))] : List Call))).length : Int)) (fun _ => rfl) rfl (ax_lt (hx21)) (ax_get (hx21)) (by decide) rfl rfl) ?_)
          refine WL.next hQ18 (.nil) ?_
          refine W.seqR fun Q19 hQ19 => ?_
          refine WL.q (Y.assign (.pl rfl)) rfl ?_
          refine WL.next hQ19 (.cons (i := 6) rfl (.nil)) ?_
          obtain rfl := Option.some.inj hF
          refine W.retV (fn := Try.f38) (vs := [.int .i64 0]) Try.results38 ⟨.tmp rfl, trivial⟩ (fun _ _ h => h) (fun wz hw => ?_)
          exact hR _ _ ⟨(A18, c19), trivial, rfl, (hw.pickK 4 [2, 3] rfl)⟩
    · replace hF := cneg hC9 hF
      refine W.skip ?_
      refine W.go hK7 (.cons (i := 0) rfl (.cons (i := 1) rfl (.cons (i := 5) rfl (.cons (i := 7) rfl (.nil))))) ?_
      refine W.seq fun K20 hK20 => ?_
      refine W.seqR fun Q21 hQ21 => ?_
      refine WL.q (Y.move (.pl rfl)) rfl ?_
      refine WL.q (Y.eql (.pl rfl) (.pl rfl)) rfl ?_
      refine WL.next hQ21 (.cons (i := 0) rfl (.cons (i := 1) rfl (.cons (i := 5) rfl (.cons (i := 7) rfl (.cons (i := 97) rfl (.nil)))))) ?_
      refine W.cond (.pl rfl) (fun hC22 => ?_) (fun hC22 => ?_)
      · replace hF := cpos hC22 hF
        refine W.seqR fun Q23 hQ23 => ?_
        refine WL.q (Y.assign (.pl rfl)) rfl ?_
        refine WL.next hQ23 (.cons (i := 6) rfl (.nil)) ?_
        obtain rfl := Option.some.inj hF
        refine W.retV (fn := Try.f38) (vs := [.int .i64 4]) Try.results38 ⟨.tmp rfl, trivial⟩ (fun _ _ h => h) (fun wz hw => ?_)
        exact hR _ _ ⟨(A6, c7), trivial, rfl, (hw.pickK 3 [1, 2] rfl)⟩
      · replace hF := cneg hC22 hF
        refine W.skip ?_
        refine W.go hK20 (.cons (i := 0) rfl (.cons (i := 1) rfl (.cons (i := 5) rfl (.cons (i := 7) rfl (.nil))))) ?_
        refine W.seqR fun Q24 hQ24 => ?_
        refine WL.q (Y.move (.pl rfl)) rfl ?_
        refine WL.q (Y.nilCheck (.pl rfl)) rfl ?_
        refine WL.q (Y.fieldAddr0 (off := 1) (ft := 35) Try.underlying93 rfl cells35 (.pl rfl)) rfl ?_
        refine WL.q (Y.loadB (v := .slice A6 (out8).length c7) Try.underlying35 rfl (.pl rfl) (i := 1) rfl (rfl)) rfl ?_
        refine WL.q (Y.move (.pl rfl)) rfl ?_
        obtain ⟨hk22, hF⟩ := ckh hF
        refine WL.q (Y.sub (.pl rfl) (.pl rfl) (ok64_lt (hk22))) rfl ?_
        obtain ⟨x23, hx23, hF⟩ := bnd hF
        refine WL.q (Y.rowEl Try.underlying35 cells64 (i := 2) rfl (.pl rfl) rfl (.pl rfl) (ix_lt (hx23))) rfl ?_
        refine WL.q (Y.assign (.pl rfl)) rfl ?_
        refine WL.next hQ24 (.cons (i := 0) rfl (.cons (i := 1) rfl (.cons (i := 5) rfl (.cons (i := 8) rfl (.nil))))) ?_
        refine W.seq fun K25 hK25 => ?_
        refine W.seqD (by kernel_rfl) (by kernel_rfl) fun R26 hR26 => ?_
        refine WD.q (Y.move (.pl rfl)) rfl ?_
        refine WD.q (Y.nilCheck (.pl rfl)) rfl ?_
        refine WD.q (Y.rowField (off := 1) (ft := 3) Try.underlying64 rfl cells3 (i' := 2) rfl (ix_lt (hx23)) (.pl rfl)) rfl ?_
        refine WD.q (Y.loadR (enc := encCall) (v := .int .i64 x23.thing) (a := x23) (idx := (x13 - 1)) (j := 1) Try.underlying3 rfl lenCall (i := 2) rfl (.pl rfl) (ix_get (hx23)) rfl rfl) rfl ?_
        refine WD.q (Y.fieldAddr0 (off := 1) (ft := 3) Try.underlying31 rfl cells3 (.pl rfl)) rfl ?_
        refine WD.q (Y.loadB (v := .int .i64 v11.thing) Try.underlying3 rfl (.pl rfl) (i := 0) rfl (rfl)) rfl ?_
        refine WD.q (Y.neq (.pl rfl) (.pl rfl)) rfl ?_
        refine WD.q (Y.move (.pl rfl)) rfl ?_
        refine WD.g (.pl rfl rfl rfl) (fun hg => Y.move (.pl rfl)) rfl ?_
        refine WD.g (.pl rfl rfl rfl) (fun hg => Y.nilCheck (.gd (hg) rfl)) rfl ?_
        refine WD.g (.pl rfl rfl rfl) (fun hg => Y.rowField (off := 2) (ft := 3) Try.underlying64 rfl cells3 (i' := 2) rfl (ix_lt (hx23)) (.gd (hg) rfl)) rfl ?_
        refine WD.g (.pl rfl rfl rfl) (fun hg => Y.loadR (enc := encCall) (v := .int .i64 x23.kind) (a := x23) (idx := (x13 - 1)) (j := 2) Try.underlying3 rfl lenCall (i := 2) rfl (.gd (hg) rfl) (ix_get (hx23)) rfl rfl) rfl ?_
        refine WD.g (.pl rfl rfl rfl) (fun hg => Y.fieldAddr0 (off := 3) (ft := 3) Try.underlying31 rfl cells3 (.pl rfl)) rfl ?_
        refine WD.g (.pl rfl rfl rfl) (fun hg => Y.loadB (v := .int .i64 v11.value) Try.underlying3 rfl (.gd (hg) rfl) (i := 0) rfl (rfl)) rfl ?_
        obtain ⟨r24, hr24, hF⟩ := bnd hF
        refine WD.gP (.pl rfl rfl rfl) isGo69 (fun hg => (.cons (.gd (hg) rfl) (.cons (.gd (hg) rfl) (.nil)))) rfl (fun hg wz hw => history_result_ok (gpos hg hr24) wz ) ?_
        refine WD.g (.pl rfl rfl rfl) (fun hg => Y.not (.gd (hg) rfl)) rfl ?_
        refine WD.q (Y.or (.pl rfl) (fun h2 => .gd (eqf h2) rfl)) rfl ?_
        refine WD.next hR26 (.cons (i := 0) rfl (.cons (i := 1) rfl (.cons (i := 5) rfl (.cons (i := 8) rfl (.cons (i := 121) rfl (.nil)))))) ?_
        refine W.cond (.pl rfl) (fun hC27 => ?_) (fun hC27 => ?_)
        · replace hF := cpos hC27 hF
          refine W.seqR fun Q28 hQ28 => ?_
          refine WL.q (Y.assign (.pl rfl)) rfl ?_
          refine WL.next hQ28 (.cons (i := 6) rfl (.nil)) ?_
          obtain rfl := Option.some.inj hF
          refine W.retV (fn := Try.f38) (vs := [.int .i64 3]) Try.results38 ⟨.tmp rfl, trivial⟩ (fun _ _ h => h) (fun wz hw => ?_)
          exact hR _ _ ⟨(A6, c7), trivial, rfl, (hw.pickK 3 [1, 2] rfl)⟩
        · replace hF := cneg hC27 hF
          refine W.skip ?_
          refine W.go hK25 (.cons (i := 0) rfl (.cons (i := 1) rfl (.cons (i := 5) rfl (.cons (i := 8) rfl (.nil))))) ?_
          refine W.seqR fun Q29 hQ29 => ?_
          refine WL.q (Y.move (.pl rfl)) rfl ?_
          refine WL.q (Y.move (.pl rfl)) rfl ?_
          refine WL.q (Y.fieldAddr0 (off := 3) (ft := 3) Try.underlying31 rfl cells3 (.pl rfl)) rfl ?_
          refine WL.q (Y.loadB (v := .int .i64 v11.value) Try.underlying3 rfl (.pl rfl) (i := 0) rfl (rfl)) rfl ?_
          refine WL.q (Y.move (.pl rfl)) rfl ?_
          refine WL.q (Y.nilCheck (.pl rfl)) rfl ?_
          refine WL.q (Y.rowField (off := 4) (ft := 3) Try.underlying64 rfl cells3 (i' := 2) rfl (ix_lt (hx23)) (.pl rfl)) rfl ?_
          refine WL.step (WO.storeS (enc := encCall) (a := x23) (a' := (Call.mk x23.who x23.thing x23.kind x23.arg v11.value x23.from_ x23.to_)) (idx := (x13 - 1)) (j := 4) cells3 (.pl rfl) (.pl rfl) rfl lenCall (i := 2) rfl (ix_get (hx23)) rfl (by decide) rfl ?_)
          refine WL.q (Y.nilCheck (.pl rfl)) rfl ?_
          refine WL.q (Y.rowField (off := 6) (ft := 3) Try.underlying64 rfl cells3 (i' := 2) rfl (⟨(ix_lt (hx23)).1, by simpa only [List.length_set] using (ix_lt (hx23)).2⟩) (.pl rfl)) rfl ?_
          refine WL.step (WO.storeFS (enc := encCall) (a := (Call.mk x23.who x23.thing x23.kind x23.arg v11.value x23.from_ x23.to_)) (a' := (Call.mk x23.who x23.thing x23.kind x23.arg v11.value x23.from_ i10)) (idx := (x13 - 1)) (j := 6) cells3 (.pl rfl) (.pl rfl) rfl lenCall (i := 2) rfl (ix_lt (hx23)) rfl (by decide) rfl ?_)
          refine WL.next hQ29 (.cons (i := 0) rfl (.cons (i := 5) rfl (.nil))) ?_
          refine W.seqT 6 (by kernel_rfl) (by kernel_rfl) fun Q30 hQ30 => ?_
          refine WS.q (Y.move (.pl rfl)) rfl ?_
          refine WS.q (Y.fieldAddr0 (off := 0) (ft := 3) Try.underlying31 rfl cells3 (.pl rfl)) rfl ?_
          refine WS.q (Y.loadB (v := .int .i64 v11.who) Try.underlying3 rfl (.pl rfl) (i := 0) rfl (rfl)) rfl ?_
          refine WS.q (Y.nilCheck (.pl rfl)) rfl ?_
          refine WS.q (Y.fieldAddr0 (off := 2) (ft := 91) Try.underlying93 rfl cells91 (.pl rfl)) rfl ?_
          obtain ⟨x25, hx25, hF⟩ := bnd hF
          refine WS.q (Y.arrZ Try.underlying91 cells3 (.pl rfl) (.pl rfl) (ax_lt (hx25))) rfl ?_
          refine WS.tail ?_
          refine WL.step (WO.storeB (cs' := (Value.slice A3 (types2).length c4 :: (Value.slice A6 (out8).length c7 :: (((encA 8 (eI .i64) 0) (setA 8 0 open9 v11.who 0)) ++ [])))) cells3 (.pl rfl) (.pl rfl) rfl (i := 1) rfl (ltl (m := 10) (offlt (off := 2) (sz := 1) (j := 0) (ax_nat (hx25)) (by decide)) rfl) (cellsSet (pre := (Value.slice A3 (types2).length c4 :: (Value.slice A6 (out8).length c7 :: []))) (off := 2) (post := []) (a := open9) (enc := (eI .i64)) (d := 0) (n := 8) (sz := 1) (j := 0) (x := x25) (x' := 0) (fun _ => rfl) rfl (ax_lt (hx25)) (ax_get (hx25)) (by decide) rfl rfl) ?_)
          refine WL.next hQ30 (.nil) ?_
          refine W.seqR fun Q31 hQ31 => ?_
          refine WL.q (Y.assign (.pl rfl)) rfl ?_
          refine WL.next hQ31 (.cons (i := 6) rfl (.nil)) ?_
          obtain rfl := Option.some.inj hF
          refine W.retV (fn := Try.f38) (vs := [.int .i64 0]) Try.results38 ⟨.tmp rfl, trivial⟩ (fun _ _ h => h) (fun wz hw => ?_)
          exact hR _ _ ⟨(A6, c7), trivial, rfl, (St.cong (L := ([cBx b1 93 (Value.slice A3 (types2).length c4 :: (Value.slice A6 (out8).length c7 :: (((encA 8 (eI .i64) 0) (setA 8 0 open9 v11.who 0)) ++ []))), cR encCall 7 A6 c7 64 (out8.set (x13 - 1).toNat (Call.mk x23.who x23.thing x23.kind x23.arg v11.value x23.from_ i10))] ++ T)) (hw.pickK 3 [1, 2] rfl) (by simp only [List.length_set, List.nil_append, List.cons_append]))⟩

def history_Calls_L3 (N : Nat) (l6 : (List Event)) (types1 : (List Int)) : ((List Call) × (List Int) × Int) → Option (((List Call) × (List Int) × Int) ⊕ (((List Call) × (List Int)) ⊕ ((List Call) × Int × Int)))
  | (out19, open20, v21) =>
    cond (decide (v21 < ((l6).length : Int)))
      (bd (ix l6 v21) fun (x22 : Event) =>
      bd (history_reader_event N types1 out19 open20 v21 x22) fun (r24 : ((List Call) × (List Int) × Int)) =>
      cond (!(decide (r24.2.2 = 0)))
        (some (.inr (.inr ([], v21, r24.2.2))))
        (ck (ok64 (v21 + 1)) <|
        some (.inl (r24.1, r24.2.1, (v21 + 1)))))
      (some (.inr (.inl (out19, open20))))

def history_Calls (N : Nat) (types1 : (List Int)) (l6 : (List Event)) : Option ((List Call) × Int × Int) :=
  bd (history_Types N types1) fun (r11 : Int) =>
  cond (!(decide (r11 = 0)))
    (some ([], 0, r11))
    (cond (decide (200 < ((l6).length : Int)))
      (some ([], 0, 2))
      (bd (α := (((List Call) × (List Int)) ⊕ ((List Call) × Int × Int))) (iter (history_Calls_L3 N l6 types1) N ([], [], 0)) <|
      Sum.elim (fun (out15, open16) => 
        some (out15, 0, 0)) (fun p => some p)))

theorem history_Calls_ok {N : Nat} {types1 : (List Int)} {l6 : (List Event)} {res : ((List Call) × Int × Int)} (hF : history_Calls N types1 l6 = some res) (w : World) {v5 : Value} (hs4 : SlIn (eI .i64) 1 w v5 types1) {v10 : Value} (hs9 : SlIn encEvent 4 w v10 l6) :
    Made Try.prog 17 [v5, v10] w (fun g : (Option Addr × Nat) => .tuple #[.slice g.1 (res.1).length g.2, .int .i64 res.2.1, .int .i64 res.2.2]) (fun g => [cR encCall 7 g.1 g.2 64 res.1]) (fun g => True) := by
  obtain ⟨A2, c3, rfl, hcc3, hs4⟩ := hs4.form
  obtain ⟨A7, c8, rfl, hcc8, hs9⟩ := hs9.form
  refine W.enter (n := 43) Try.func17 rfl rfl Sub.refl (by simp) (St.start w) fun R hR => ?_
  unfold history_Calls at hF
  refine W.seqR fun Q1 hQ1 => ?_
  refine WL.q (Y.assign (.pl rfl)) rfl ?_
  refine WL.q (Y.assign (.pl rfl)) rfl ?_
  refine WL.q (Y.assign (.pl rfl)) rfl ?_
  refine WL.next hQ1 (.cons (i := 0) rfl (.cons (i := 1) rfl (.nil))) ?_
  refine W.seq fun K2 hK2 => ?_
  refine W.seqR fun Q3 hQ3 => ?_
  refine WL.q (Y.move (.pl rfl)) rfl ?_
  obtain ⟨r11, hr11, hF⟩ := bnd hF
  refine WL.step (WO.callP isGo37 (.cons (.pl rfl) (.nil)) rfl (fun wz hw => history_Types_ok (hr11) wz (hs4.mono hw)) ?_)
  refine WL.q (Y.assign (.pl rfl)) rfl ?_
  refine WL.next hQ3 (.cons (i := 0) rfl (.cons (i := 1) rfl (.cons (i := 7) rfl (.nil)))) ?_
  refine W.seqR fun Q4 hQ4 => ?_
  refine WL.q (Y.move (.pl rfl)) rfl ?_
  refine WL.q (Y.neq (.pl rfl) (.pl rfl)) rfl ?_
  refine WL.next hQ4 (.cons (i := 0) rfl (.cons (i := 1) rfl (.cons (i := 7) rfl (.cons (i := 15) rfl (.nil))))) ?_
  refine W.cond (.pl rfl) (fun hC5 => ?_) (fun hC5 => ?_)
  · replace hF := cpos hC5 hF
    refine W.seqR fun Q6 hQ6 => ?_
    refine WL.q (Y.move (.pl rfl)) rfl ?_
    refine WL.q (Y.assign (.pl rfl)) rfl ?_
    refine WL.q (Y.assign (.pl rfl)) rfl ?_
    refine WL.q (Y.assign (.pl rfl)) rfl ?_
    refine WL.next hQ6 (.cons (i := 4) rfl (.cons (i := 5) rfl (.cons (i := 6) rfl (.nil)))) ?_
    obtain rfl := Option.some.inj hF
    refine W.retV (fn := Try.f17) (vs := [.slice none 0 0, .int .i64 0, .int .i64 r11]) Try.results17 ⟨.tmp rfl, ⟨.tmp rfl, ⟨.tmp rfl, trivial⟩⟩⟩ (fun _ _ h => h) (fun wz hw => ?_)
    exact hR _ _ ⟨(none, 0), trivial, rfl, ((St.nilR (hw.pick [] rfl) encCall 7 64).pick [0] rfl)⟩
  · replace hF := cneg hC5 hF
    refine W.skip ?_
    refine W.go hK2 (.cons (i := 0) rfl (.cons (i := 1) rfl (.nil))) ?_
    refine W.seq fun K7 hK7 => ?_
    refine W.seqR fun Q8 hQ8 => ?_
    refine WL.q (Y.move (.pl rfl)) rfl ?_
    refine WL.q (Y.len Try.underlying24 (.pl rfl)) rfl ?_
    refine WL.q (Y.gtr (.pl rfl) (.pl rfl)) rfl ?_
    refine WL.next hQ8 (.cons (i := 0) rfl (.cons (i := 1) rfl (.cons (i := 19) rfl (.nil)))) ?_
    refine W.cond (.pl rfl) (fun hC9 => ?_) (fun hC9 => ?_)
    · replace hF := cpos hC9 hF
      refine W.seqR fun Q10 hQ10 => ?_
      refine WL.q (Y.assign (.pl rfl)) rfl ?_
      refine WL.q (Y.assign (.pl rfl)) rfl ?_
      refine WL.q (Y.assign (.pl rfl)) rfl ?_
      refine WL.next hQ10 (.cons (i := 4) rfl (.cons (i := 5) rfl (.cons (i := 6) rfl (.nil)))) ?_
      obtain rfl := Option.some.inj hF
      refine W.retV (fn := Try.f17) (vs := [.slice none 0 0, .int .i64 0, .int .i64 2]) Try.results17 ⟨.tmp rfl, ⟨.tmp rfl, ⟨.tmp rfl, trivial⟩⟩⟩ (fun _ _ h => h) (fun wz hw => ?_)
      exact hR _ _ ⟨(none, 0), trivial, rfl, ((St.nilR (hw.pick [] rfl) encCall 7 64).pick [0] rfl)⟩
    · replace hF := cneg hC9 hF
      refine W.skip ?_
      refine W.go hK7 (.cons (i := 0) rfl (.cons (i := 1) rfl (.nil))) ?_
      refine W.seqR fun Q11 hQ11 => ?_
      refine WL.q (Y.move (.pl rfl)) rfl ?_
      refine WL.q (Y.build (cs := (Value.slice A2 (types1).length c3 :: (Value.slice none 0 0 :: (((encA 8 (eI .i64) 0) []) ++ []))).toArray) shape93 (.cons (.pl rfl) (.nil)) (one_parts ⟨rfl, trivial⟩) rfl) rfl ?_
      refine WL.step (WO.boxA (.pl rfl) rfl fun b12 => ?_)
      refine WL.q (Y.assign (.pl rfl)) rfl ?_
      refine WL.next hQ11 (.cons (i := 1) rfl (.cons (i := 8) rfl (.nil))) ?_
      obtain ⟨o12, hF12, hF⟩ := bnd hF
      refine W.join4 (Em := fun (out15 : (List Call)) (open16 : (List Int)) (A13 : Option Addr) (c14 : Nat) => []) (M := fun out15 open16 A13 c14 => [cBx b12 93 (Value.slice A2 (types1).length c3 :: (Value.slice A13 (out15).length c14 :: (((encA 8 (eI .i64) 0) open16) ++ []))), cR encCall 7 A13 c14 64 out15]) (I := fun out15 open16 A13 c14 => (.inl (out15, open16)) = o12) (.cons (i := 8) rfl (.nil)) (fun K13 hK13 => ?_) ?_
      · -- up to
        refine W.seqR fun Q14 hQ14 => ?_
        refine WL.q (Y.move (.pl rfl)) rfl ?_
        refine WL.q (Y.len Try.underlying24 (.pl rfl)) rfl ?_
        refine WL.q (Y.move (.pl rfl)) rfl ?_
        refine WL.next hQ14 (.cons (i := 8) rfl (.cons (i := 23) rfl (.cons (i := 24) rfl (.cons (i := 25) rfl (.nil))))) ?_
        refine W.block ?_
        refine W.loop5 (Em := fun (out19 : (List Call)) (open20 : (List Int)) (v21 : Int) (A17 : Option Addr) (c18 : Nat) => [(25, .int .i64 v21)]) (M := fun out19 open20 v21 A17 c18 => [cBx b12 93 (Value.slice A2 (types1).length c3 :: (Value.slice A17 (out19).length c18 :: (((encA 8 (eI .i64) 0) open20) ++ []))), cR encCall 7 A17 c18 64 out19]) (I := fun out19 open20 v21 A17 c18 k15 => iter (history_Calls_L3 N l6 types1) k15 (out19, open20, v21) = some o12) [] [] 0 none 0 N (hF12) (.cons rfl (.nil)) (.cons (i := 8) rfl (.cons (i := 23) rfl (.cons (i := 24) rfl (.nil)))) (fun wz hw => (St.nilR (hw.pick [0] rfl) encCall 7 64).pick [1, 0] rfl) (fun out19 open20 v21 A17 c18 k15 hI K16 hK16 => ?_)
        obtain ⟨k15, t15, rfl, hF15, hN15⟩ := iter_step hI
        refine W.seqR fun Q17 hQ17 => ?_
        refine WL.q (Y.lss (.pl rfl) (.pl rfl)) rfl ?_
        refine WL.next hQ17 (.cons (i := 8) rfl (.cons (i := 23) rfl (.cons (i := 24) rfl (.cons (i := 25) rfl (.cons (i := 26) rfl (.nil)))))) ?_
        refine W.seq fun K18 hK18 => ?_
        refine W.cond (.pl rfl) (fun hC19 => ?_) (fun hC19 => ?_)
        · replace hF15 := cpos hC19 hF15
          refine W.skip ?_
          refine W.go hK18 (.cons (i := 8) rfl (.cons (i := 23) rfl (.cons (i := 24) rfl (.cons (i := 25) rfl (.nil))))) ?_
          refine W.seq fun K20 hK20 => ?_
          refine W.block ?_
          refine W.seqR fun Q21 hQ21 => ?_
          refine WL.q (Y.move (.pl rfl)) rfl ?_
          obtain ⟨x22, hx22, hF15⟩ := bnd hF15
          refine WL.q (Y.slEl Try.underlying24 cells31 hs9 (.pl rfl) (.pl rfl) (ix_lt (hx22))) rfl ?_
          refine WL.q (Y.loadSA (enc := encEvent) (ds := (encEvent x22)) (j := 0) Try.underlying31 rfl cells31 hs9 (.pl rfl) (hx22) rfl rfl subW) rfl ?_
          refine WL.step (WO.alloc (cs := (encEvent (Event.mk 0 0 0 0)).toArray) zero31 rfl rfl fun b23 => ?_)
          refine WL.q (Y.assign (.pl rfl)) rfl ?_
          refine WL.step (WO.storeBA (ds := (encEvent x22)) (cs' := (encEvent x22)) cells31 (.pl rfl) (.pl rfl) rfl (oneEvent _) (i := 0) rfl (lel (o := 0) (l := 4) (m := 4) (by decide) rfl rfl) (putW rfl) ?_)
          refine WL.next hQ21 (.cons (i := 8) rfl (.cons (i := 9) rfl (.cons (i := 10) rfl (.cons (i := 23) rfl (.cons (i := 24) rfl (.cons (i := 25) rfl (.nil))))))) ?_
          refine W.seqR fun Q22 hQ22 => ?_
          refine WL.q (Y.move (.pl rfl)) rfl ?_
          refine WL.q (Y.move (.pl rfl)) rfl ?_
          refine WL.q (Y.loadBA (ds := (encEvent x22)) Try.underlying31 rfl cells31 (.pl rfl) (i := 0) rfl rfl subW) rfl ?_
          obtain ⟨r24, hr24, hF15⟩ := bnd hF15
          refine WL.step (WO.call (γ := (Option Addr × Nat)) (fun g => .int .i64 r24.2.2) (fun g => [cBx b12 93 (Value.slice A2 (types1).length c3 :: (Value.slice g.1 (r24.1).length g.2 :: (((encA 8 (eI .i64) 0) r24.2.1) ++ []))), cR encCall 7 g.1 g.2 64 r24.1, cBx b23 31 (encEvent x22)]) (fun g => True) isGo38 (.cons (.pl rfl) (.cons (.pl rfl) (.cons (.pl rfl) (.nil)))) rfl (fun wz hw => history_reader_event_ok (T := [cBx b23 31 (encEvent x22)]) (hr24) (hw.pick [1, 2, 0] rfl) hs4) ?_)
          rintro ⟨A25, c26⟩ -
          refine WL.q (Y.assign (.pl rfl)) rfl ?_
          refine WL.next hQ22 (.cons (i := 8) rfl (.cons (i := 9) rfl (.cons (i := 11) rfl (.cons (i := 23) rfl (.cons (i := 24) rfl (.cons (i := 25) rfl (.nil))))))) ?_
          refine W.seqR fun Q23 hQ23 => ?_
          refine WL.q (Y.move (.pl rfl)) rfl ?_
          refine WL.q (Y.neq (.pl rfl) (.pl rfl)) rfl ?_
          refine WL.next hQ23 (.cons (i := 8) rfl (.cons (i := 9) rfl (.cons (i := 11) rfl (.cons (i := 23) rfl (.cons (i := 24) rfl (.cons (i := 25) rfl (.cons (i := 35) rfl (.nil)))))))) ?_
          refine W.cond (.pl rfl) (fun hC24 => ?_) (fun hC24 => ?_)
          · replace hF15 := cpos hC24 hF15
            refine W.seqR fun Q25 hQ25 => ?_
            refine WL.q (Y.move (.pl rfl)) rfl ?_
            refine WL.q (Y.move (.pl rfl)) rfl ?_
            refine WL.q (Y.assign (.pl rfl)) rfl ?_
            refine WL.q (Y.assign (.pl rfl)) rfl ?_
            refine WL.q (Y.assign (.pl rfl)) rfl ?_
            refine WL.next hQ25 (.cons (i := 4) rfl (.cons (i := 5) rfl (.cons (i := 6) rfl (.nil)))) ?_
            obtain rfl := Option.some.inj hF15
            obtain rfl := einr hN15
            obtain rfl := Option.some.inj hF
            refine W.retV (fn := Try.f17) (vs := [.slice none 0 0, .int .i64 v21, .int .i64 r24.2.2]) Try.results17 ⟨.tmp rfl, ⟨.tmp rfl, ⟨.tmp rfl, trivial⟩⟩⟩ (fun _ _ h => h) (fun wz hw => ?_)
            exact hR _ _ ⟨(none, 0), trivial, rfl, ((St.nilR (hw.pick [] rfl) encCall 7 64).pick [0] rfl)⟩
          · replace hF15 := cneg hC24 hF15
            refine W.skip ?_
            refine W.go hK20 (.cons (i := 8) rfl (.cons (i := 23) rfl (.cons (i := 24) rfl (.cons (i := 25) rfl (.nil))))) ?_
            refine W.reg ?_
            obtain ⟨hk27, hF15⟩ := ckh hF15
            refine WL.q (Y.add (.pl rfl) (.pl rfl) (ok64_lt (hk27))) rfl ?_
            refine WL.q (Y.move (.pl rfl)) rfl ?_
            refine WL.nil ?_
            obtain rfl := Option.some.inj hF15
            exact W.again5 hK16 r24.1 r24.2.1 (v21 + 1) A25 c26 k15 hN15 (Nat.lt_succ_self _) (.cons rfl (.nil)) (.cons (i := 8) rfl (.cons (i := 23) rfl (.cons (i := 24) rfl (.nil)))) (fun wz hw => hw.pick [0, 1] rfl)
        · replace hF15 := cneg hC19 hF15
          refine W.exit ?_
          obtain rfl := Option.some.inj hF15
          exact W.joinAt4 hK13 out19 open20 A17 c18 (einr hN15) (.nil) (.cons (i := 8) rfl (.nil)) (fun wz hw => hw.pick [0, 1] rfl)
      · -- behind
        rintro out15 open16 A13 c14 rfl
        refine W.seqR fun Q27 hQ27 => ?_
        refine WL.q (Y.move (.pl rfl)) rfl ?_
        refine WL.q (Y.nilCheck (.pl rfl)) rfl ?_
        refine WL.q (Y.fieldAddr0 (off := 1) (ft := 35) Try.underlying93 rfl cells35 (.pl rfl)) rfl ?_
        refine WL.q (Y.loadB (v := .slice A13 (out15).length c14) Try.underlying35 rfl (.pl rfl) (i := 0) rfl (rfl)) rfl ?_
        refine WL.q (Y.assign (.pl rfl)) rfl ?_
        refine WL.q (Y.assign (.pl rfl)) rfl ?_
        refine WL.q (Y.assign (.pl rfl)) rfl ?_
        refine WL.next hQ27 (.cons (i := 4) rfl (.cons (i := 5) rfl (.cons (i := 6) rfl (.nil)))) ?_
        obtain rfl := Option.some.inj hF
        refine W.retV (fn := Try.f17) (vs := [.slice A13 (out15).length c14, .int .i64 0, .int .i64 0]) Try.results17 ⟨.tmp rfl, ⟨.tmp rfl, ⟨.tmp rfl, trivial⟩⟩⟩ (fun _ _ h => h) (fun wz hw => ?_)
        exact hR _ _ ⟨(A13, c14), trivial, rfl, (hw.pick [1] rfl)⟩

def rows_log_find_1 (N : Nat) (v1 : RowsValue) (a3 : Int) : Option Unit :=
  some ()

theorem rows_log_find_1_ok {N : Nat} {v1 : RowsValue} {a3 : Int} {b2 : Nat} {res : Unit} (hF : rows_log_find_1 N v1 a3 = some res) {w0 w : World} {T : List Chunk} (hw : St w0.heap.size w0 ([cBx b2 3 [.int .i64 a3]] ++ T) w) :
    Calls Try.prog 102 (List.toArray [.agg (encRowsValue v1).toArray, .pointer (some ⟨b2, 0, none⟩)]) w (fun e w' => ∃ g : Unit, (True) ∧ e = .returned (.bool (decide (v1.n = a3))) ∧ St w0.heap.size w0 ([cBx b2 3 [.int .i64 a3]] ++ T) w') := by
  refine W.enter (n := 8) Try.func102 rfl rfl Sub.refl (by simp) hw fun R hR => ?_
  unfold rows_log_find_1 at hF
  refine W.seqR fun Q1 hQ1 => ?_
  refine WL.step (WO.boxA (.pl rfl) rfl fun b4 => ?_)
  refine WL.q (Y.assign (.pl rfl)) rfl ?_
  refine WL.next hQ1 (.cons (i := 1) rfl (.cons (i := 2) rfl (.nil))) ?_
  refine W.seqR fun Q2 hQ2 => ?_
  refine WL.q (Y.fieldAddr0 (off := 0) (ft := 3) Try.underlying149 rfl cells3 (.pl rfl)) rfl ?_
  refine WL.q (Y.loadB (v := .int .i64 v1.n) Try.underlying3 rfl (.pl rfl) (i := 0) rfl (rfl)) rfl ?_
  refine WL.q (Y.loadB (v := .int .i64 a3) Try.underlying3 rfl (.pl rfl) (i := 1) rfl (rfl)) rfl ?_
  refine WL.q (Y.eql (.pl rfl) (.pl rfl)) rfl ?_
  refine WL.q (Y.assign (.pl rfl)) rfl ?_
  refine WL.next hQ2 (.cons (i := 3) rfl (.nil)) ?_
  obtain rfl := Option.some.inj hF
  refine W.retV (fn := Try.f102) (vs := [.bool (decide (v1.n = a3))]) Try.results102 ⟨.tmp rfl, trivial⟩ (fun _ _ h => h) (fun wz hw => ?_)
  exact hR _ _ ⟨(), trivial, rfl, (hw.pickK 2 [1] rfl)⟩

def slices_IndexFunc_rows_value_rows_value_L3 (N : Nat) (s3 : (List RowsValue)) (c5 : Int) : Int → Option (Int ⊕ (Unit ⊕ Int))
  | v6 =>
    cond (decide (v6 < ((s3).length : Int)))
      (bd (ix s3 v6) fun (x7 : RowsValue) =>
      bd (rows_log_find_1 N x7 c5) fun (r8 : Unit) =>
      cond (decide (x7.n = c5))
        (some (.inr (.inr v6)))
        (ck (ok64 (v6 + 1)) <|
        some (.inl (v6 + 1))))
      (some (.inr (.inl ())))

def slices_IndexFunc_rows_value_rows_value (N : Nat) (s3 : (List RowsValue)) (c5 : Int) : Option Int :=
  bd (α := (Unit ⊕ Int)) (iter (slices_IndexFunc_rows_value_rows_value_L3 N s3 c5) N 0) <|
  Sum.elim (fun _ => 
    some (-1)) (fun p => some p)

theorem slices_IndexFunc_rows_value_rows_value_ok {N : Nat} {s3 : (List RowsValue)} {c5 : Int} {A1 : Option Addr} {c2 : Nat} {b4 : Nat} {res : Int} (hF : slices_IndexFunc_rows_value_rows_value N s3 c5 = some res) {w0 w : World} {T : List Chunk} (hw : St w0.heap.size w0 ([cR encRowsValue 3 A1 c2 149 s3, cBx b4 3 [.int .i64 c5]] ++ T) w) :
    Calls Try.prog 101 (List.toArray [.slice A1 (s3).length c2, .func (.func 102) #[] #[.pointer (some ⟨b4, 0, none⟩)]]) w (fun e w' => ∃ g : Unit, (True) ∧ e = .returned (.int .i64 res) ∧ St w0.heap.size w0 ([cR encRowsValue 3 A1 c2 149 s3, cBx b4 3 [.int .i64 c5]] ++ T) w') := by
  refine W.enter (n := 19) Try.func101 rfl rfl Sub.refl (by simp) hw fun R hR => ?_
  unfold slices_IndexFunc_rows_value_rows_value at hF
  refine W.seqR fun Q1 hQ1 => ?_
  refine WL.q (Y.assign (.pl rfl)) rfl ?_
  refine WL.next hQ1 (.cons (i := 0) rfl (.cons (i := 1) rfl (.nil))) ?_
  obtain ⟨o2, hF2, hF⟩ := bnd hF
  refine W.join0 (Em := []) (M := ([cR encRowsValue 3 A1 c2 149 s3, cBx b4 3 [.int .i64 c5]] ++ T)) (I := (.inl ()) = o2) (.nil) (fun K3 hK3 => ?_) ?_
  · -- up to
    refine W.seqR fun Q4 hQ4 => ?_
    refine WL.q (Y.move (.pl rfl)) rfl ?_
    refine WL.q (Y.len Try.underlying143 (.pl rfl)) rfl ?_
    refine WL.q (Y.move (.pl rfl)) rfl ?_
    refine WL.next hQ4 (.cons (i := 0) rfl (.cons (i := 1) rfl (.cons (i := 7) rfl (.cons (i := 8) rfl (.nil))))) ?_
    refine W.block ?_
    refine W.loop1 (Em := fun (v6 : Int) => [(8, .int .i64 v6)]) (M := fun v6 => ([cR encRowsValue 3 A1 c2 149 s3, cBx b4 3 [.int .i64 c5]] ++ T)) (I := fun v6 k5 => iter (slices_IndexFunc_rows_value_rows_value_L3 N s3 c5) k5 v6 = some o2) 0 N (hF2) (.cons rfl (.nil)) (.cons (i := 0) rfl (.cons (i := 1) rfl (.cons (i := 7) rfl (.nil)))) (fun wz hw => hw.pickK 2 [0, 1] rfl) (fun v6 k5 hI K6 hK6 => ?_)
    obtain ⟨k5, t5, rfl, hF5, hN5⟩ := iter_step hI
    refine W.seqR fun Q7 hQ7 => ?_
    refine WL.q (Y.lss (.pl rfl) (.pl rfl)) rfl ?_
    refine WL.next hQ7 (.cons (i := 0) rfl (.cons (i := 1) rfl (.cons (i := 7) rfl (.cons (i := 8) rfl (.cons (i := 9) rfl (.nil)))))) ?_
    refine W.seq fun K8 hK8 => ?_
    refine W.cond (.pl rfl) (fun hC9 => ?_) (fun hC9 => ?_)
    · replace hF5 := cpos hC9 hF5
      refine W.skip ?_
      refine W.go hK8 (.cons (i := 0) rfl (.cons (i := 1) rfl (.cons (i := 7) rfl (.cons (i := 8) rfl (.nil))))) ?_
      refine W.seq fun K10 hK10 => ?_
      refine W.block ?_
      refine W.seqR fun Q11 hQ11 => ?_
      refine WL.q (Y.move (.pl rfl)) rfl ?_
      refine WL.q (Y.assign (.pl rfl)) rfl ?_
      refine WL.next hQ11 (.cons (i := 0) rfl (.cons (i := 1) rfl (.cons (i := 5) rfl (.cons (i := 7) rfl (.cons (i := 8) rfl (.nil)))))) ?_
      refine W.seqR fun Q12 hQ12 => ?_
      refine WL.q (Y.move (.pl rfl)) rfl ?_
      refine WL.q (Y.move (.pl rfl)) rfl ?_
      refine WL.q (Y.move (.pl rfl)) rfl ?_
      obtain ⟨x7, hx7, hF5⟩ := bnd hF5
      refine WL.q (Y.rowEl Try.underlying143 cells149 (i := 0) rfl (.pl rfl) rfl (.pl rfl) (ix_lt (hx7))) rfl ?_
      refine WL.q (Y.loadRA (enc := encRowsValue) (ds := (encRowsValue x7)) (a := x7) (idx := v6) (j := 0) Try.underlying149 rfl cells149 lenRowsValue (i := 0) rfl (.pl rfl) (ix_get (hx7)) rfl rfl subW) rfl ?_
      obtain ⟨r8, hr8, hF5⟩ := bnd hF5
      refine WL.step (WO.callG (γ := Unit) (first := []) (cap := [.pointer (some ⟨b4, 0, none⟩)]) (fun g => .bool (decide (x7.n = c5))) (fun g => ([cBx b4 3 [.int .i64 c5], cR encRowsValue 3 A1 c2 149 s3] ++ T)) (fun g => True) isGo102 (.pl rfl) (.cons (.pl rfl) (.nil)) rfl (fun wz hw => rows_log_find_1_ok (T := ([cR encRowsValue 3 A1 c2 149 s3] ++ T)) (hr8) (hw.pickK 2 [1, 0] rfl) ) ?_)
      rintro _ -
      refine WL.next hQ12 (.cons (i := 0) rfl (.cons (i := 1) rfl (.cons (i := 5) rfl (.cons (i := 7) rfl (.cons (i := 8) rfl (.cons (i := 16) rfl (.nil))))))) ?_
      refine W.cond (.pl rfl) (fun hC13 => ?_) (fun hC13 => ?_)
      · replace hF5 := cpos hC13 hF5
        refine W.seqR fun Q14 hQ14 => ?_
        refine WL.q (Y.move (.pl rfl)) rfl ?_
        refine WL.q (Y.assign (.pl rfl)) rfl ?_
        refine WL.next hQ14 (.cons (i := 4) rfl (.nil)) ?_
        obtain rfl := Option.some.inj hF5
        obtain rfl := einr hN5
        obtain rfl := Option.some.inj hF
        refine W.retV (fn := Try.f101) (vs := [.int .i64 v6]) Try.results101 ⟨.tmp rfl, trivial⟩ (fun _ _ h => h) (fun wz hw => ?_)
        exact hR _ _ ⟨(), trivial, rfl, (hw.pickK 2 [1, 0] rfl)⟩
      · replace hF5 := cneg hC13 hF5
        refine W.skip ?_
        refine W.go hK10 (.cons (i := 0) rfl (.cons (i := 1) rfl (.cons (i := 7) rfl (.cons (i := 8) rfl (.nil))))) ?_
        refine W.reg ?_
        obtain ⟨hk9, hF5⟩ := ckh hF5
        refine WL.q (Y.add (.pl rfl) (.pl rfl) (ok64_lt (hk9))) rfl ?_
        refine WL.q (Y.move (.pl rfl)) rfl ?_
        refine WL.nil ?_
        obtain rfl := Option.some.inj hF5
        exact W.again1 hK6 (v6 + 1) k5 hN5 (Nat.lt_succ_self _) (.cons rfl (.nil)) (.cons (i := 0) rfl (.cons (i := 1) rfl (.cons (i := 7) rfl (.nil)))) (fun wz hw => hw.pickK 2 [1, 0] rfl)
    · replace hF5 := cneg hC9 hF5
      refine W.exit ?_
      obtain rfl := Option.some.inj hF5
      exact W.joinAt0 hK3  (einr hN5) (.nil) (.nil) (fun wz hw => hw.pickK 2 [0, 1] rfl)
  · -- behind
    rintro  rfl
    refine W.seqR fun Q16 hQ16 => ?_
    refine WL.q (Y.assign (.pl rfl)) rfl ?_
    refine WL.next hQ16 (.cons (i := 4) rfl (.nil)) ?_
    obtain rfl := Option.some.inj hF
    refine W.retV (fn := Try.f101) (vs := [.int .i64 (-1)]) Try.results101 ⟨.tmp rfl, trivial⟩ (fun _ _ h => h) (fun wz hw => ?_)
    exact hR _ _ ⟨(), trivial, rfl, (hw.pickK 2 [0, 1] rfl)⟩

def rows_log_find (N : Nat) (calls4 : (List Call)) (values7 : (List RowsValue)) (n8 : Int) : Option Int :=
  bd (slices_IndexFunc_rows_value_rows_value N values7 n8) fun (r10 : Int) =>
  cond (decide (r10 < 0))
    (some (-1))
    (bd (ix values7 r10) fun (x11 : RowsValue) =>
    some r10)

theorem rows_log_find_ok {N : Nat} {calls4 : (List Call)} {values7 : (List RowsValue)} {n8 : Int} {b1 : Nat} {A2 : Option Addr} {c3 : Nat} {A5 : Option Addr} {c6 : Nat} {res : Int} (hF : rows_log_find N calls4 values7 n8 = some res) {w0 w : World} {T : List Chunk} (hw : St w0.heap.size w0 ([cBx b1 145 (Value.slice A2 (calls4).length c3 :: (Value.slice A5 (values7).length c6 :: [])), cR encCall 7 A2 c3 64 calls4, cR encRowsValue 3 A5 c6 149 values7] ++ T) w) :
    Calls Try.prog 75 (List.toArray [.pointer (some ⟨b1, 0, none⟩), .int .i64 n8]) w (fun e w' => ∃ g : Unit, (True) ∧ e = .returned (.pointer (oel A5 res 3)) ∧ St w0.heap.size w0 ([cBx b1 145 (Value.slice A2 (calls4).length c3 :: (Value.slice A5 (values7).length c6 :: [])), cR encCall 7 A2 c3 64 calls4, cR encRowsValue 3 A5 c6 149 values7] ++ T) w') := by
  refine W.enter (n := 20) Try.func75 rfl rfl Sub.refl (by simp) hw fun R hR => ?_
  unfold rows_log_find at hF
  refine W.seqR fun Q1 hQ1 => ?_
  refine WL.step (WO.box1 (.pl rfl) rfl rfl fun b9 => ?_)
  refine WL.q (Y.assign (.pl rfl)) rfl ?_
  refine WL.next hQ1 (.cons (i := 0) rfl (.cons (i := 3) rfl (.nil))) ?_
  refine W.seqR fun Q2 hQ2 => ?_
  refine WL.q (Y.move (.pl rfl)) rfl ?_
  refine WL.q (Y.nilCheck (.pl rfl)) rfl ?_
  refine WL.q (Y.fieldAddr0 (off := 1) (ft := 143) Try.underlying145 rfl cells143 (.pl rfl)) rfl ?_
  refine WL.q (Y.loadB (v := .slice A5 (values7).length c6) Try.underlying143 rfl (.pl rfl) (i := 1) rfl (rfl)) rfl ?_
  refine WL.q (Y.fnC (.cons (.pl rfl) (.nil))) rfl ?_
  obtain ⟨r10, hr10, hF⟩ := bnd hF
  refine WL.step (WO.call (γ := Unit) (fun g => .int .i64 r10) (fun g => ([cR encRowsValue 3 A5 c6 149 values7, cBx b9 3 [.int .i64 n8], cBx b1 145 (Value.slice A2 (calls4).length c3 :: (Value.slice A5 (values7).length c6 :: [])), cR encCall 7 A2 c3 64 calls4] ++ T)) (fun g => True) isGo101 (.cons (.pl rfl) (.cons (.pl rfl) (.nil))) rfl (fun wz hw => slices_IndexFunc_rows_value_rows_value_ok (T := ([cBx b1 145 (Value.slice A2 (calls4).length c3 :: (Value.slice A5 (values7).length c6 :: [])), cR encCall 7 A2 c3 64 calls4] ++ T)) (hr10) (hw.pickK 4 [3, 0, 1, 2] rfl) ) ?_)
  rintro _ -
  refine WL.q (Y.assign (.pl rfl)) rfl ?_
  refine WL.next hQ2 (.cons (i := 0) rfl (.cons (i := 5) rfl (.nil))) ?_
  refine W.seq fun K3 hK3 => ?_
  refine W.seqR fun Q4 hQ4 => ?_
  refine WL.q (Y.move (.pl rfl)) rfl ?_
  refine WL.q (Y.lss (.pl rfl) (.pl rfl)) rfl ?_
  refine WL.next hQ4 (.cons (i := 0) rfl (.cons (i := 5) rfl (.cons (i := 13) rfl (.nil)))) ?_
  refine W.cond (.pl rfl) (fun hC5 => ?_) (fun hC5 => ?_)
  · replace hF := cpos hC5 hF
    refine W.seqR fun Q6 hQ6 => ?_
    refine WL.q (Y.assign (.pl rfl)) rfl ?_
    refine WL.next hQ6 (.cons (i := 4) rfl (.nil)) ?_
    obtain rfl := Option.some.inj hF
    refine W.retV (fn := Try.f75) (vs := [.pointer none]) Try.results75 ⟨.tmp rfl, trivial⟩ (fun _ _ h => h) (fun wz hw => ?_)
    exact hR _ _ ⟨(), trivial, resOelN, (hw.pickK 4 [2, 3, 0] rfl)⟩
  · replace hF := cneg hC5 hF
    refine W.skip ?_
    refine W.go hK3 (.cons (i := 0) rfl (.cons (i := 5) rfl (.nil))) ?_
    refine W.seqR fun Q7 hQ7 => ?_
    refine WL.q (Y.move (.pl rfl)) rfl ?_
    refine WL.q (Y.nilCheck (.pl rfl)) rfl ?_
    refine WL.q (Y.fieldAddr0 (off := 1) (ft := 143) Try.underlying145 rfl cells143 (.pl rfl)) rfl ?_
    refine WL.q (Y.loadB (v := .slice A5 (values7).length c6) Try.underlying143 rfl (.pl rfl) (i := 2) rfl (rfl)) rfl ?_
    refine WL.q (Y.move (.pl rfl)) rfl ?_
    obtain ⟨x11, hx11, hF⟩ := bnd hF
    refine WL.q (Y.rowEl Try.underlying143 cells149 (i := 0) rfl (.pl rfl) rfl (.pl rfl) (ix_lt (hx11))) rfl ?_
    refine WL.q (Y.assign (.pl rfl)) rfl ?_
    refine WL.next hQ7 (.cons (i := 4) rfl (.nil)) ?_
    obtain rfl := Option.some.inj hF
    refine W.retV (fn := Try.f75) (vs := [.pointer (some (elA A5 (r10.toNat * (2 + 1))))]) Try.results75 ⟨.tmp rfl, trivial⟩ (fun _ _ h => h) (fun wz hw => ?_)
    exact hR _ _ ⟨(), trivial, (resOel (ix_lt (hx11)).1), (hw.pickK 4 [2, 3, 0] rfl)⟩

def math_bits_Len32 (N : Nat) (x1 : Int) : Option Int :=
  bd (α := (Int × Int)) (cond (decide (65536 ≤ x1))
      (some ((shrI .u32 x1 16), 16))
      (some (x1, 0))) <|
  fun (x2, n3) => 
    bd (α := (Int × Int)) (cond (decide (256 ≤ x2))
        (ck (ok64 (n3 + 8)) <|
        some ((shrI .u32 x2 8), (n3 + 8)))
        (some (x2, n3))) <|
    fun (x4, n5) => 
      bd (sx ⟨#[0, 1, 2, 2, 3, 3, 3, 3, 4, 4, 4, 4, 4, 4, 4, 4, 5, 5, 5, 5, 5, 5, 5, 5, 5, 5, 5, 5, 5, 5, 5, 5, 6, 6, 6, 6, 6, 6, 6, 6, 6, 6, 6, 6, 6, 6, 6, 6, 6, 6, 6, 6, 6, 6, 6, 6, 6, 6, 6, 6, 6, 6, 6, 6, 7, 7, 7, 7, 7, 7, 7, 7, 7, 7, 7, 7, 7, 7, 7, 7, 7, 7, 7, 7, 7, 7, 7, 7, 7, 7, 7, 7, 7, 7, 7, 7, 7, 7, 7, 7, 7, 7, 7, 7, 7, 7, 7, 7, 7, 7, 7, 7, 7, 7, 7, 7, 7, 7, 7, 7, 7, 7, 7, 7, 7, 7, 7, 7, 8, 8, 8, 8, 8, 8, 8, 8, 8, 8, 8, 8, 8, 8, 8, 8, 8, 8, 8, 8, 8, 8, 8, 8, 8, 8, 8, 8, 8, 8, 8, 8, 8, 8, 8, 8, 8, 8, 8, 8, 8, 8, 8, 8, 8, 8, 8, 8, 8, 8, 8, 8, 8, 8, 8, 8, 8, 8, 8, 8, 8, 8, 8, 8, 8, 8, 8, 8, 8, 8, 8, 8, 8, 8, 8, 8, 8, 8, 8, 8, 8, 8, 8, 8, 8, 8, 8, 8, 8, 8, 8, 8, 8, 8, 8, 8, 8, 8, 8, 8, 8, 8, 8, 8, 8, 8, 8, 8, 8, 8, 8, 8, 8, 8, 8, 8, 8, 8, 8, 8, 8, 8, 8, 8, 8, 8, 8, 8]⟩ (IntKind.u8.wrap x4)) fun (x7 : Int) =>
      ck (ok64 (n5 + (IntKind.i64.wrap x7))) <|
      some (n5 + (IntKind.i64.wrap x7))

theorem math_bits_Len32_ok {N : Nat} {x1 : Int} {res : Int} (hF : math_bits_Len32 N x1 = some res) (w : World) :
    Pure Try.prog 125 [.int .u32 x1] w (.int .i64 res) := by
  refine W.enter (n := 19) Try.func125 rfl rfl Sub.refl (by simp) (St.start w) fun R hR => ?_
  unfold math_bits_Len32 at hF
  refine W.seqR fun Q1 hQ1 => ?_
  refine WL.q (Y.assign (.pl rfl)) rfl ?_
  refine WL.next hQ1 (.cons (i := 0) rfl (.cons (i := 2) rfl (.nil))) ?_
  obtain ⟨o2, hF2, hF⟩ := bnd hF
  refine W.join2 (Em := fun (x2 : Int) (n3 : Int) => [(0, .int .u32 x2), (2, .int .i64 n3)]) (M := fun x2 n3 => []) (I := fun x2 n3 => (x2, n3) = o2) (.nil) (fun K3 hK3 => ?_) ?_
  · -- up to
    refine W.seqR fun Q4 hQ4 => ?_
    refine WL.q (Y.move (.pl rfl)) rfl ?_
    refine WL.q (Y.geq (.pl rfl) (.pl rfl)) rfl ?_
    refine WL.next hQ4 (.cons (i := 0) rfl (.cons (i := 2) rfl (.cons (i := 4) rfl (.nil)))) ?_
    refine W.cond (.pl rfl) (fun hC5 => ?_) (fun hC5 => ?_)
    · replace hF2 := cpos hC5 hF2
      refine W.seqR fun Q6 hQ6 => ?_
      refine WL.q (Y.move (.pl rfl)) rfl ?_
      refine WL.q (Y.shr (.pl rfl) (.pl rfl) (by decide)) rfl ?_
      refine WL.q (Y.assign (.pl rfl)) rfl ?_
      refine WL.next hQ6 (.cons (i := 0) rfl (.nil)) ?_
      refine W.reg ?_
      refine WL.q (Y.assign (.pl rfl)) rfl ?_
      refine WL.nil ?_
      exact W.joinAt2 hK3 (shrI .u32 x1 16) 16 (Option.some.inj hF2) (.cons rfl (.cons rfl (.nil))) (.nil) (fun wz hw => hw.pick [] rfl)
    · replace hF2 := cneg hC5 hF2
      refine W.skip ?_
      exact W.joinAt2 hK3 x1 0 (Option.some.inj hF2) (.cons rfl (.cons rfl (.nil))) (.nil) (fun wz hw => hw.pick [] rfl)
  · -- behind
    rintro x2 n3 rfl
    obtain ⟨o8, hF8, hF⟩ := bnd hF
    refine W.join2 (Em := fun (x4 : Int) (n5 : Int) => [(0, .int .u32 x4), (2, .int .i64 n5)]) (M := fun x4 n5 => []) (I := fun x4 n5 => (x4, n5) = o8) (.nil) (fun K9 hK9 => ?_) ?_
    · -- up to
      refine W.seqR fun Q10 hQ10 => ?_
      refine WL.q (Y.move (.pl rfl)) rfl ?_
      refine WL.q (Y.geq (.pl rfl) (.pl rfl)) rfl ?_
      refine WL.next hQ10 (.cons (i := 0) rfl (.cons (i := 2) rfl (.cons (i := 8) rfl (.nil)))) ?_
      refine W.cond (.pl rfl) (fun hC11 => ?_) (fun hC11 => ?_)
      · replace hF8 := cpos hC11 hF8
        refine W.seqR fun Q12 hQ12 => ?_
        refine WL.q (Y.move (.pl rfl)) rfl ?_
        refine WL.q (Y.shr (.pl rfl) (.pl rfl) (by decide)) rfl ?_
        refine WL.q (Y.assign (.pl rfl)) rfl ?_
        refine WL.next hQ12 (.cons (i := 0) rfl (.cons (i := 2) rfl (.nil))) ?_
        refine W.reg ?_
        refine WL.q (Y.move (.pl rfl)) rfl ?_
        obtain ⟨hk6, hF8⟩ := ckh hF8
        refine WL.q (Y.add (.pl rfl) (.pl rfl) (ok64_lt (hk6))) rfl ?_
        refine WL.q (Y.assign (.pl rfl)) rfl ?_
        refine WL.nil ?_
        exact W.joinAt2 hK9 (shrI .u32 x2 8) (n3 + 8) (Option.some.inj hF8) (.cons rfl (.cons rfl (.nil))) (.nil) (fun wz hw => hw.pick [] rfl)
      · replace hF8 := cneg hC11 hF8
        refine W.skip ?_
        exact W.joinAt2 hK9 x2 n3 (Option.some.inj hF8) (.cons rfl (.cons rfl (.nil))) (.nil) (fun wz hw => hw.pick [] rfl)
    · -- behind
      rintro x4 n5 rfl
      refine W.seqR fun Q14 hQ14 => ?_
      refine WL.q (Y.move (.pl rfl)) rfl ?_
      refine WL.q (Y.move (.pl rfl)) rfl ?_
      refine WL.q (Y.conv Try.underlying192 Try.underlying5 (.pl rfl)) rfl ?_
      obtain ⟨x7, hx7, hF⟩ := bnd hF
      refine WL.q (Y.sindex Try.underlying9 (.pl rfl) (.pl rfl) (hx7)) rfl ?_
      refine WL.q (Y.conv Try.underlying5 Try.underlying3 (.pl rfl)) rfl ?_
      obtain ⟨hk8, hF⟩ := ckh hF
      refine WL.q (Y.add (.pl rfl) (.pl rfl) (ok64_lt (hk8))) rfl ?_
      refine WL.q (Y.assign (.pl rfl)) rfl ?_
      refine WL.next hQ14 (.cons (i := 2) rfl (.nil)) ?_
      obtain rfl := Option.some.inj hF
      refine W.retV (fn := Try.f125) (vs := [.int .i64 (n5 + (IntKind.i64.wrap x7))]) Try.results125 ⟨.tmp rfl, trivial⟩ (fun _ _ h => h) (fun wz hw => ?_)
      exact hR _ _ ⟨rfl, (hw.pick [] rfl)⟩

def math_bits_Len64 (N : Nat) (x1 : Int) : Option Int :=
  bd (α := (Int × Int)) (cond (decide (4294967296 ≤ x1))
      (some ((shrI .u64 x1 32), 32))
      (some (x1, 0))) <|
  fun (x2, n3) => 
    bd (α := (Int × Int)) (cond (decide (65536 ≤ x2))
        (ck (ok64 (n3 + 16)) <|
        some ((shrI .u64 x2 16), (n3 + 16)))
        (some (x2, n3))) <|
    fun (x4, n5) => 
      bd (α := (Int × Int)) (cond (decide (256 ≤ x4))
          (ck (ok64 (n5 + 8)) <|
          some ((shrI .u64 x4 8), (n5 + 8)))
          (some (x4, n5))) <|
      fun (x7, n8) => 
        bd (sx ⟨#[0, 1, 2, 2, 3, 3, 3, 3, 4, 4, 4, 4, 4, 4, 4, 4, 5, 5, 5, 5, 5, 5, 5, 5, 5, 5, 5, 5, 5, 5, 5, 5, 6, 6, 6, 6, 6, 6, 6, 6, 6, 6, 6, 6, 6, 6, 6, 6, 6, 6, 6, 6, 6, 6, 6, 6, 6, 6, 6, 6, 6, 6, 6, 6, 7, 7, 7, 7, 7, 7, 7, 7, 7, 7, 7, 7, 7, 7, 7, 7, 7, 7, 7, 7, 7, 7, 7, 7, 7, 7, 7, 7, 7, 7, 7, 7, 7, 7, 7, 7, 7, 7, 7, 7, 7, 7, 7, 7, 7, 7, 7, 7, 7, 7, 7, 7, 7, 7, 7, 7, 7, 7, 7, 7, 7, 7, 7, 7, 8, 8, 8, 8, 8, 8, 8, 8, 8, 8, 8, 8, 8, 8, 8, 8, 8, 8, 8, 8, 8, 8, 8, 8, 8, 8, 8, 8, 8, 8, 8, 8, 8, 8, 8, 8, 8, 8, 8, 8, 8, 8, 8, 8, 8, 8, 8, 8, 8, 8, 8, 8, 8, 8, 8, 8, 8, 8, 8, 8, 8, 8, 8, 8, 8, 8, 8, 8, 8, 8, 8, 8, 8, 8, 8, 8, 8, 8, 8, 8, 8, 8, 8, 8, 8, 8, 8, 8, 8, 8, 8, 8, 8, 8, 8, 8, 8, 8, 8, 8, 8, 8, 8, 8, 8, 8, 8, 8, 8, 8, 8, 8, 8, 8, 8, 8, 8, 8, 8, 8, 8, 8, 8, 8, 8, 8, 8, 8]⟩ (IntKind.u8.wrap x7)) fun (x10 : Int) =>
        ck (ok64 (n8 + (IntKind.i64.wrap x10))) <|
        some (n8 + (IntKind.i64.wrap x10))

theorem math_bits_Len64_ok {N : Nat} {x1 : Int} {res : Int} (hF : math_bits_Len64 N x1 = some res) (w : World) :
    Pure Try.prog 126 [.int .u64 x1] w (.int .i64 res) := by
  refine W.enter (n := 25) Try.func126 rfl rfl Sub.refl (by simp) (St.start w) fun R hR => ?_
  unfold math_bits_Len64 at hF
  refine W.seqR fun Q1 hQ1 => ?_
  refine WL.q (Y.assign (.pl rfl)) rfl ?_
  refine WL.next hQ1 (.cons (i := 0) rfl (.cons (i := 2) rfl (.nil))) ?_
  obtain ⟨o2, hF2, hF⟩ := bnd hF
  refine W.join2 (Em := fun (x2 : Int) (n3 : Int) => [(0, .int .u64 x2), (2, .int .i64 n3)]) (M := fun x2 n3 => []) (I := fun x2 n3 => (x2, n3) = o2) (.nil) (fun K3 hK3 => ?_) ?_
  · -- up to
    refine W.seqR fun Q4 hQ4 => ?_
    refine WL.q (Y.move (.pl rfl)) rfl ?_
    refine WL.q (Y.geq (.pl rfl) (.pl rfl)) rfl ?_
    refine WL.next hQ4 (.cons (i := 0) rfl (.cons (i := 2) rfl (.cons (i := 4) rfl (.nil)))) ?_
    refine W.cond (.pl rfl) (fun hC5 => ?_) (fun hC5 => ?_)
    · replace hF2 := cpos hC5 hF2
      refine W.seqR fun Q6 hQ6 => ?_
      refine WL.q (Y.move (.pl rfl)) rfl ?_
      refine WL.q (Y.shr (.pl rfl) (.pl rfl) (by decide)) rfl ?_
      refine WL.q (Y.assign (.pl rfl)) rfl ?_
      refine WL.next hQ6 (.cons (i := 0) rfl (.nil)) ?_
      refine W.reg ?_
      refine WL.q (Y.assign (.pl rfl)) rfl ?_
      refine WL.nil ?_
      exact W.joinAt2 hK3 (shrI .u64 x1 32) 32 (Option.some.inj hF2) (.cons rfl (.cons rfl (.nil))) (.nil) (fun wz hw => hw.pick [] rfl)
    · replace hF2 := cneg hC5 hF2
      refine W.skip ?_
      exact W.joinAt2 hK3 x1 0 (Option.some.inj hF2) (.cons rfl (.cons rfl (.nil))) (.nil) (fun wz hw => hw.pick [] rfl)
  · -- behind
    rintro x2 n3 rfl
    obtain ⟨o8, hF8, hF⟩ := bnd hF
    refine W.join2 (Em := fun (x4 : Int) (n5 : Int) => [(0, .int .u64 x4), (2, .int .i64 n5)]) (M := fun x4 n5 => []) (I := fun x4 n5 => (x4, n5) = o8) (.nil) (fun K9 hK9 => ?_) ?_
    · -- up to
      refine W.seqR fun Q10 hQ10 => ?_
      refine WL.q (Y.move (.pl rfl)) rfl ?_
      refine WL.q (Y.geq (.pl rfl) (.pl rfl)) rfl ?_
      refine WL.next hQ10 (.cons (i := 0) rfl (.cons (i := 2) rfl (.cons (i := 8) rfl (.nil)))) ?_
      refine W.cond (.pl rfl) (fun hC11 => ?_) (fun hC11 => ?_)
      · replace hF8 := cpos hC11 hF8
        refine W.seqR fun Q12 hQ12 => ?_
        refine WL.q (Y.move (.pl rfl)) rfl ?_
        refine WL.q (Y.shr (.pl rfl) (.pl rfl) (by decide)) rfl ?_
        refine WL.q (Y.assign (.pl rfl)) rfl ?_
        refine WL.next hQ12 (.cons (i := 0) rfl (.cons (i := 2) rfl (.nil))) ?_
        refine W.reg ?_
        refine WL.q (Y.move (.pl rfl)) rfl ?_
        obtain ⟨hk6, hF8⟩ := ckh hF8
        refine WL.q (Y.add (.pl rfl) (.pl rfl) (ok64_lt (hk6))) rfl ?_
        refine WL.q (Y.assign (.pl rfl)) rfl ?_
        refine WL.nil ?_
        exact W.joinAt2 hK9 (shrI .u64 x2 16) (n3 + 16) (Option.some.inj hF8) (.cons rfl (.cons rfl (.nil))) (.nil) (fun wz hw => hw.pick [] rfl)
      · replace hF8 := cneg hC11 hF8
        refine W.skip ?_
        exact W.joinAt2 hK9 x2 n3 (Option.some.inj hF8) (.cons rfl (.cons rfl (.nil))) (.nil) (fun wz hw => hw.pick [] rfl)
    · -- behind
      rintro x4 n5 rfl
      obtain ⟨o14, hF14, hF⟩ := bnd hF
      refine W.join2 (Em := fun (x7 : Int) (n8 : Int) => [(0, .int .u64 x7), (2, .int .i64 n8)]) (M := fun x7 n8 => []) (I := fun x7 n8 => (x7, n8) = o14) (.nil) (fun K15 hK15 => ?_) ?_
      · -- up to
        refine W.seqR fun Q16 hQ16 => ?_
        refine WL.q (Y.move (.pl rfl)) rfl ?_
        refine WL.q (Y.geq (.pl rfl) (.pl rfl)) rfl ?_
        refine WL.next hQ16 (.cons (i := 0) rfl (.cons (i := 2) rfl (.cons (i := 14) rfl (.nil)))) ?_
        refine W.cond (.pl rfl) (fun hC17 => ?_) (fun hC17 => ?_)
        · replace hF14 := cpos hC17 hF14
          refine W.seqR fun Q18 hQ18 => ?_
          refine WL.q (Y.move (.pl rfl)) rfl ?_
          refine WL.q (Y.shr (.pl rfl) (.pl rfl) (by decide)) rfl ?_
          refine WL.q (Y.assign (.pl rfl)) rfl ?_
          refine WL.next hQ18 (.cons (i := 0) rfl (.cons (i := 2) rfl (.nil))) ?_
          refine W.reg ?_
          refine WL.q (Y.move (.pl rfl)) rfl ?_
          obtain ⟨hk9, hF14⟩ := ckh hF14
          refine WL.q (Y.add (.pl rfl) (.pl rfl) (ok64_lt (hk9))) rfl ?_
          refine WL.q (Y.assign (.pl rfl)) rfl ?_
          refine WL.nil ?_
          exact W.joinAt2 hK15 (shrI .u64 x4 8) (n5 + 8) (Option.some.inj hF14) (.cons rfl (.cons rfl (.nil))) (.nil) (fun wz hw => hw.pick [] rfl)
        · replace hF14 := cneg hC17 hF14
          refine W.skip ?_
          exact W.joinAt2 hK15 x4 n5 (Option.some.inj hF14) (.cons rfl (.cons rfl (.nil))) (.nil) (fun wz hw => hw.pick [] rfl)
      · -- behind
        rintro x7 n8 rfl
        refine W.seqR fun Q20 hQ20 => ?_
        refine WL.q (Y.move (.pl rfl)) rfl ?_
        refine WL.q (Y.move (.pl rfl)) rfl ?_
        refine WL.q (Y.conv Try.underlying195 Try.underlying5 (.pl rfl)) rfl ?_
        obtain ⟨x10, hx10, hF⟩ := bnd hF
        refine WL.q (Y.sindex Try.underlying9 (.pl rfl) (.pl rfl) (hx10)) rfl ?_
        refine WL.q (Y.conv Try.underlying5 Try.underlying3 (.pl rfl)) rfl ?_
        obtain ⟨hk11, hF⟩ := ckh hF
        refine WL.q (Y.add (.pl rfl) (.pl rfl) (ok64_lt (hk11))) rfl ?_
        refine WL.q (Y.assign (.pl rfl)) rfl ?_
        refine WL.next hQ20 (.cons (i := 2) rfl (.nil)) ?_
        obtain rfl := Option.some.inj hF
        refine W.retV (fn := Try.f126) (vs := [.int .i64 (n8 + (IntKind.i64.wrap x10))]) Try.results126 ⟨.tmp rfl, trivial⟩ (fun _ _ h => h) (fun wz hw => ?_)
        exact hR _ _ ⟨rfl, (hw.pick [] rfl)⟩

def math_bits_Len (N : Nat) (x1 : Int) : Option Int :=
  cond false
    (bd (math_bits_Len32 N (IntKind.u32.wrap x1)) fun (r2 : Int) =>
    some r2)
    (bd (math_bits_Len64 N x1) fun (r3 : Int) =>
    some r3)

theorem math_bits_Len_ok {N : Nat} {x1 : Int} {res : Int} (hF : math_bits_Len N x1 = some res) (w : World) :
    Pure Try.prog 104 [.int .u64 x1] w (.int .i64 res) := by
  refine W.enter (n := 8) Try.func104 rfl rfl Sub.refl (by simp) (St.start w) fun R hR => ?_
  unfold math_bits_Len at hF
  refine W.seqR fun Q1 hQ1 => ?_
  refine WL.q (Y.assign (.pl rfl)) rfl ?_
  refine WL.next hQ1 (.cons (i := 0) rfl (.nil)) ?_
  refine W.seq fun K2 hK2 => ?_
  refine W.cond (.pl rfl) (fun hC3 => ?_) (fun hC3 => ?_)
  · replace hF := cpos hC3 hF
    refine W.seqR fun Q4 hQ4 => ?_
    refine WL.q (Y.move (.pl rfl)) rfl ?_
    refine WL.q (Y.conv Try.underlying104 Try.underlying192 (.pl rfl)) rfl ?_
    obtain ⟨r2, hr2, hF⟩ := bnd hF
    refine WL.step (WO.callP isGo125 (.cons (.pl rfl) (.nil)) rfl (fun wz hw => math_bits_Len32_ok (hr2) wz ) ?_)
    refine WL.q (Y.assign (.pl rfl)) rfl ?_
    refine WL.next hQ4 (.cons (i := 2) rfl (.nil)) ?_
    obtain rfl := Option.some.inj hF
    refine W.retV (fn := Try.f104) (vs := [.int .i64 r2]) Try.results104 ⟨.tmp rfl, trivial⟩ (fun _ _ h => h) (fun wz hw => ?_)
    exact hR _ _ ⟨rfl, (hw.pick [] rfl)⟩
  · replace hF := cneg hC3 hF
    refine W.skip ?_
    refine W.go hK2 (.cons (i := 0) rfl (.nil)) ?_
    refine W.seqR fun Q5 hQ5 => ?_
    refine WL.q (Y.move (.pl rfl)) rfl ?_
    obtain ⟨r3, hr3, hF⟩ := bnd hF
    refine WL.step (WO.callP isGo126 (.cons (.pl rfl) (.nil)) rfl (fun wz hw => math_bits_Len64_ok (hr3) wz ) ?_)
    refine WL.q (Y.assign (.pl rfl)) rfl ?_
    refine WL.next hQ5 (.cons (i := 2) rfl (.nil)) ?_
    obtain rfl := Option.some.inj hF
    refine W.retV (fn := Try.f104) (vs := [.int .i64 r3]) Try.results104 ⟨.tmp rfl, trivial⟩ (fun _ _ h => h) (fun wz hw => ?_)
    exact hR _ _ ⟨rfl, (hw.pick [] rfl)⟩

def rows_read_1 (N : Nat) (a1 : RowsValue) (b2 : RowsValue) : Option Unit :=
  ck (ok64 (a1.n - b2.n)) <|
  some ()

theorem rows_read_1_ok {N : Nat} {a1 : RowsValue} {b2 : RowsValue} {res : Unit} (hF : rows_read_1 N a1 b2 = some res) (w : World) :
    Pure Try.prog 77 [.agg (encRowsValue a1).toArray, .agg (encRowsValue b2).toArray] w (.int .i64 (a1.n - b2.n)) := by
  refine W.enter (n := 10) Try.func77 rfl rfl Sub.refl (by simp) (St.start w) fun R hR => ?_
  unfold rows_read_1 at hF
  refine W.seqR fun Q1 hQ1 => ?_
  refine WL.step (WO.boxA (.pl rfl) rfl fun b3 => ?_)
  refine WL.step (WO.boxA (.pl rfl) rfl fun b4 => ?_)
  refine WL.q (Y.assign (.pl rfl)) rfl ?_
  refine WL.next hQ1 (.cons (i := 2) rfl (.cons (i := 3) rfl (.nil))) ?_
  refine W.seqR fun Q2 hQ2 => ?_
  refine WL.q (Y.fieldAddr0 (off := 0) (ft := 3) Try.underlying149 rfl cells3 (.pl rfl)) rfl ?_
  refine WL.q (Y.loadB (v := .int .i64 a1.n) Try.underlying3 rfl (.pl rfl) (i := 1) rfl (rfl)) rfl ?_
  refine WL.q (Y.fieldAddr0 (off := 0) (ft := 3) Try.underlying149 rfl cells3 (.pl rfl)) rfl ?_
  refine WL.q (Y.loadB (v := .int .i64 b2.n) Try.underlying3 rfl (.pl rfl) (i := 0) rfl (rfl)) rfl ?_
  obtain ⟨hk5, hF⟩ := ckh hF
  refine WL.q (Y.sub (.pl rfl) (.pl rfl) (ok64_lt (hk5))) rfl ?_
  refine WL.q (Y.assign (.pl rfl)) rfl ?_
  refine WL.next hQ2 (.cons (i := 4) rfl (.nil)) ?_
  obtain rfl := Option.some.inj hF
  refine W.retV (fn := Try.f77) (vs := [.int .i64 (a1.n - b2.n)]) Try.results77 ⟨.tmp rfl, trivial⟩ (fun _ _ h => h) (fun wz hw => ?_)
  exact hR _ _ ⟨rfl, (hw.pick [] rfl)⟩

def slices_insertionSortCmpFunc_rows_value_L13 (N : Nat) (a4 : Int) : ((List RowsValue) × Int) → Option (((List RowsValue) × Int) ⊕ (List RowsValue))
  | (v12, j14) =>
    bd (α := Bool) (bd ((cond ((decide (a4 < j14)) == true) (ix v12 j14) (some RowsValue.z))) fun (x16 : RowsValue) =>
      ck (!((decide (a4 < j14)) == true) || (ok64 (j14 - 1))) <|
      bd ((cond ((decide (a4 < j14)) == true) (ix v12 (j14 - 1)) (some RowsValue.z))) fun (x18 : RowsValue) =>
      cond ((decide (a4 < j14)) == true)
        (bd (rows_read_1 N x16 x18) fun (r19 : Unit) =>
        some ((decide (a4 < j14)) && (decide ((x16.n - x18.n) < 0))))
        (some ((decide (a4 < j14)) && false))) <|
    fun (v15 : Bool) => 
      cond v15
        (ck (ok64 (j14 - 1)) <|
        ck (ok64 (j14 - 1)) <|
        bd (ix v12 (j14 - 1)) fun (x22 : RowsValue) =>
        bd (ix v12 j14) fun (x23 : RowsValue) =>
        bd (ix (v12.set j14.toNat x22) (j14 - 1)) fun (x24 : RowsValue) =>
        ck (ok64 (j14 - 1)) <|
        some (.inl (((v12.set j14.toNat x22).set (j14 - 1).toNat x23), (j14 - 1))))
        (some (.inr v12))

def slices_insertionSortCmpFunc_rows_value_L11 (N : Nat) (b5 : Int) (a4 : Int) : ((List RowsValue) × Int) → Option (((List RowsValue) × Int) ⊕ (List RowsValue))
  | (v7, i9) =>
    cond (decide (i9 < b5))
      (bd (α := (List RowsValue)) (iter (slices_insertionSortCmpFunc_rows_value_L13 N a4) N (v7, i9)) <|
      fun (v10 : (List RowsValue)) => 
        ck (ok64 (i9 + 1)) <|
        some (.inl (v10, (i9 + 1))))
      (some (.inr v7))

def slices_insertionSortCmpFunc_rows_value (N : Nat) (data3 : (List RowsValue)) (a4 : Int) (b5 : Int) : Option (List RowsValue) :=
  ck (ok64 (a4 + 1)) <|
  bd (α := (List RowsValue)) (iter (slices_insertionSortCmpFunc_rows_value_L11 N b5 a4) N (data3, (a4 + 1))) <| fun p => some p

theorem slices_insertionSortCmpFunc_rows_value_ok {N : Nat} {data3 : (List RowsValue)} {a4 : Int} {b5 : Int} {A1 : Option Addr} {c2 : Nat} {res : (List RowsValue)} (hF : slices_insertionSortCmpFunc_rows_value N data3 a4 b5 = some res) {w0 w : World} {T : List Chunk} (hw : St w0.heap.size w0 ([cR encRowsValue 3 A1 c2 149 data3] ++ T) w) :
    Calls Try.prog 117 (List.toArray [.slice A1 (data3).length c2, .int .i64 a4, .int .i64 b5, .func (.func 77) #[] #[]]) w (fun e w' => ∃ g : Unit, ((res).length = (data3).length) ∧ e = .returned (.tuple #[]) ∧ St w0.heap.size w0 ([cR encRowsValue 3 A1 c2 149 res] ++ T) w') := by
  refine W.enter (n := 53) Try.func117 rfl rfl Sub.refl (by simp) hw fun R hR => ?_
  unfold slices_insertionSortCmpFunc_rows_value at hF
  refine W.seqR fun Q1 hQ1 => ?_
  refine WL.q (Y.move (.pl rfl)) rfl ?_
  obtain ⟨hk6, hF⟩ := ckh hF
  refine WL.q (Y.add (.pl rfl) (.pl rfl) (ok64_lt (hk6))) rfl ?_
  refine WL.q (Y.assign (.pl rfl)) rfl ?_
  refine WL.next hQ1 (.cons (i := 0) rfl (.cons (i := 1) rfl (.cons (i := 2) rfl (.cons (i := 3) rfl (.cons (i := 8) rfl (.nil)))))) ?_
  refine W.block ?_
  obtain ⟨o2, hL2, hF⟩ := bnd hF
  refine W.loop2 (Em := fun (v7 : (List RowsValue)) (i9 : Int) => [(0, .slice A1 (v7).length c2), (8, .int .i64 i9)]) (M := fun v7 i9 => ([cR encRowsValue 3 A1 c2 149 v7] ++ T)) (I := fun v7 i9 k2 => iter (slices_insertionSortCmpFunc_rows_value_L11 N b5 a4) k2 (v7, i9) = some o2 ∧ (v7).length = (data3).length) data3 (a4 + 1) N (⟨hL2, (by simp)⟩) (.cons rfl (.cons rfl (.nil))) (.cons (i := 1) rfl (.cons (i := 2) rfl (.cons (i := 3) rfl (.nil)))) (fun wz hw => hw.pickK 1 [0] rfl) (fun v7 i9 k2 hI K3 hK3 => ?_)
  obtain ⟨hI, hl8⟩ := hI
  obtain ⟨k2, t2, rfl, hF2, hN2⟩ := iter_step hI
  refine W.seq fun K4 hK4 => ?_
  refine W.seqR fun Q5 hQ5 => ?_
  refine WL.q (Y.move (.pl rfl)) rfl ?_
  refine WL.q (Y.move (.pl rfl)) rfl ?_
  refine WL.q (Y.lss (.pl rfl) (.pl rfl)) rfl ?_
  refine WL.next hQ5 (.cons (i := 0) rfl (.cons (i := 1) rfl (.cons (i := 2) rfl (.cons (i := 3) rfl (.cons (i := 8) rfl (.cons (i := 14) rfl (.nil))))))) ?_
  refine W.cond (.pl rfl) (fun hC6 => ?_) (fun hC6 => ?_)
  · replace hF2 := cpos hC6 hF2
    refine W.skip ?_
    refine W.go hK4 (.cons (i := 0) rfl (.cons (i := 1) rfl (.cons (i := 2) rfl (.cons (i := 3) rfl (.cons (i := 8) rfl (.nil)))))) ?_
    obtain ⟨o7, hF7, hF2⟩ := bnd hF2
    refine W.join1 (Em := fun (v10 : (List RowsValue)) => [(0, .slice A1 (v10).length c2)]) (M := fun v10 => ([cR encRowsValue 3 A1 c2 149 v10] ++ T)) (I := fun v10 => v10 = o7 ∧ (v10).length = (data3).length) (.cons (i := 1) rfl (.cons (i := 2) rfl (.cons (i := 3) rfl (.cons (i := 8) rfl (.nil))))) (fun K8 hK8 => ?_) ?_
    · -- up to
      refine W.block ?_
      refine W.seqR fun Q9 hQ9 => ?_
      refine WL.q (Y.move (.pl rfl)) rfl ?_
      refine WL.q (Y.assign (.pl rfl)) rfl ?_
      refine WL.next hQ9 (.cons (i := 0) rfl (.cons (i := 1) rfl (.cons (i := 2) rfl (.cons (i := 3) rfl (.cons (i := 8) rfl (.cons (i := 9) rfl (.nil))))))) ?_
      refine W.block ?_
      refine W.loop2 (Em := fun (v12 : (List RowsValue)) (j14 : Int) => [(0, .slice A1 (v12).length c2), (9, .int .i64 j14)]) (M := fun v12 j14 => ([cR encRowsValue 3 A1 c2 149 v12] ++ T)) (I := fun v12 j14 k10 => iter (slices_insertionSortCmpFunc_rows_value_L13 N a4) k10 (v12, j14) = some o7 ∧ (v12).length = (data3).length) v7 i9 N (⟨hF7, (by simp [hl8])⟩) (.cons rfl (.cons rfl (.nil))) (.cons (i := 1) rfl (.cons (i := 2) rfl (.cons (i := 3) rfl (.cons (i := 8) rfl (.nil))))) (fun wz hw => hw.pickK 1 [0] rfl) (fun v12 j14 k10 hI K11 hK11 => ?_)
      obtain ⟨hI, hl13⟩ := hI
      obtain ⟨k10, t10, rfl, hF10, hN10⟩ := iter_step hI
      refine W.seq fun K12 hK12 => ?_
      obtain ⟨o13, hF13, hF10⟩ := bnd hF10
      refine W.join1 (Em := fun (v15 : Bool) => [(34, .bool v15)]) (M := fun v15 => ([cR encRowsValue 3 A1 c2 149 v12] ++ T)) (I := fun v15 => v15 = o13) (.cons (i := 0) rfl (.cons (i := 1) rfl (.cons (i := 2) rfl (.cons (i := 3) rfl (.cons (i := 8) rfl (.cons (i := 9) rfl (.nil))))))) (fun K14 hK14 => ?_) ?_
      · -- up to
        refine W.regX 16 (by kernel_rfl) ?_
        refine WX.pure 0 #[true, false, false, false, false, false, false, false, false, false, false, false, false, false, false, false, false] rfl (by kernel_rfl) (fun _ _ => Y.move (.pl rfl)) rfl ?_
        refine WX.pure 1 #[true, true, false, false, false, false, false, false, false, false, false, false, false, false, false, false, false] rfl (by kernel_rfl) (fun _ _ => Y.move (.pl rfl)) rfl ?_
        refine WX.pure 2 #[true, true, true, false, false, false, false, false, false, false, false, false, false, false, false, false, false] rfl (by kernel_rfl) (fun _ _ => Y.gtr (.pl rfl) (.pl rfl)) rfl ?_
        refine WX.pure 3 #[true, true, true, true, false, false, false, false, false, false, false, false, false, false, false, false, false] rfl (by kernel_rfl) (fun _ _ => Y.move (.pl rfl)) rfl ?_
        refine WX.pureY 4 #[true, true, true, true, true, false, false, false, false, false, false, false, false, false, false, false, false] rfl (by kernel_rfl) (fun _ _ => Yg.g (.pl rfl rfl rfl) (fun hg => Y.move (.pl rfl))) rfl ?_
        refine WX.pureY 5 #[true, true, true, true, true, true, false, false, false, false, false, false, false, false, false, false, false] rfl (by kernel_rfl) (fun _ _ => Yg.g (.pl rfl rfl rfl) (fun hg => Y.move (.pl rfl))) rfl ?_
        refine WX.pureY 6 #[true, true, true, true, true, true, true, false, false, false, false, false, false, false, false, false, false] rfl (by kernel_rfl) (fun _ _ => Yg.g (.pl rfl rfl rfl) (fun hg => Y.move (.pl rfl))) rfl ?_
        obtain ⟨x16, hx16, hF13⟩ := bnd hF13
        refine WX.takeY 7 #[true, true, true, true, true, true, true, true, false, false, false, false, false, false, false, false, false] (fun wz hw => St.tail [] hw) rfl (by kernel_rfl) (Yg.g (.pl rfl rfl rfl) (fun hg => Y.rowEl Try.underlying143 cells149 (i := 0) rfl (.gd (hg) rfl) rfl (.gd (hg) rfl) (ix_lt (gpos hg hx16)))) rfl ?_
        refine WX.takeY 8 #[true, true, true, true, true, true, true, true, true, false, false, false, false, false, false, false, false] (fun wz hw => St.tail [] hw) rfl (by kernel_rfl) (Yg.g (.pl rfl rfl rfl) (fun hg => Y.loadRA (enc := encRowsValue) (ds := (encRowsValue x16)) (a := x16) (idx := j14) (j := 0) Try.underlying149 rfl cells149 lenRowsValue (i := 0) rfl (.gd (hg) rfl) (ix_get (gpos hg hx16)) rfl rfl subW)) rfl ?_
        refine WX.pureY 9 #[true, true, true, true, true, true, true, true, true, true, false, false, false, false, false, false, false] rfl (by kernel_rfl) (fun _ _ => Yg.g (.pl rfl rfl rfl) (fun hg => Y.move (.pl rfl))) rfl ?_
        refine WX.pureY 10 #[true, true, true, true, true, true, true, true, true, true, true, false, false, false, false, false, false] rfl (by kernel_rfl) (fun _ _ => Yg.g (.pl rfl rfl rfl) (fun hg => Y.move (.pl rfl))) rfl ?_
        obtain ⟨hk17, hF13⟩ := ckh hF13
        refine WX.pureY 11 #[true, true, true, true, true, true, true, true, true, true, true, true, false, false, false, false, false] rfl (by kernel_rfl) (fun _ _ => Yg.g (.pl rfl rfl rfl) (fun hg => Y.sub (.gd (hg) rfl) (.pl rfl) (ok64_lt (gor hg hk17)))) rfl ?_
        obtain ⟨x18, hx18, hF13⟩ := bnd hF13
        refine WX.takeY 12 #[true, true, true, true, true, true, true, true, true, true, true, true, true, false, false, false, false] (fun wz hw => St.tail [] hw) rfl (by kernel_rfl) (Yg.g (.pl rfl rfl rfl) (fun hg => Y.rowEl Try.underlying143 cells149 (i := 0) rfl (.gd (hg) rfl) rfl (.gd (hg) rfl) (ix_lt (gpos hg hx18)))) rfl ?_
        refine WX.takeY 13 #[true, true, true, true, true, true, true, true, true, true, true, true, true, true, false, false, false] (fun wz hw => St.tail [] hw) rfl (by kernel_rfl) (Yg.g (.pl rfl rfl rfl) (fun hg => Y.loadRA (enc := encRowsValue) (ds := (encRowsValue x18)) (a := x18) (idx := (j14 - 1)) (j := 0) Try.underlying149 rfl cells149 lenRowsValue (i := 0) rfl (.gd (hg) rfl) (ix_get (gpos hg hx18)) rfl rfl subW)) rfl ?_
        refine bsplit ((decide (a4 < j14)) == true) (fun hg16 => ?_) (fun hg16 => ?_)
        · replace hF13 := cpos hg16 hF13
          obtain ⟨r19, hr19, hF13⟩ := bnd hF13
          refine WX.one 14 #[true, true, true, true, true, true, true, true, true, true, true, true, true, true, true, false, false] (fun wz hw => St.tail [] hw) rfl (by kernel_rfl) (WO.gT (.pl rfl rfl rfl) (hg16) (WO.callG (γ := Unit) (first := []) (cap := []) (fun g => .int .i64 (x16.n - x18.n)) (fun g => ([cR encRowsValue 3 A1 c2 149 v12] ++ T)) (fun g => True) isGo77 (.gd (hg16) rfl) (.cons (.gd (hg16) rfl) (.cons (.gd (hg16) rfl) (.nil))) rfl (fun wz hw => (rows_read_1_ok (hr19) wz ).calls hw) ?_))
          rintro _ -
          refine WX.pureY 15 #[true, true, true, true, true, true, true, true, true, true, true, true, true, true, true, true, false] rfl (by kernel_rfl) (fun _ _ => Yg.yes (.pl rfl rfl rfl) (hg16) (Y.lss (.pl rfl) (.pl rfl))) rfl ?_
          refine WX.stop #[true, true, true, true, true, true, true, true, true, true, true, true, true, true, true, true, true] (fun wz hw => St.tail [] hw) rfl (by kernel_rfl) (WO.q (Y.and (.pl rfl) (fun _ => .pl rfl)) rfl ?_)
          refine WA.done (by kernel_rfl) ?_
          exact W.joinAt1 hK14 ((decide (a4 < j14)) && (decide ((x16.n - x18.n) < 0))) (Option.some.inj hF13) (.cons rfl (.nil)) (.cons (i := 0) rfl (.cons (i := 1) rfl (.cons (i := 2) rfl (.cons (i := 3) rfl (.cons (i := 8) rfl (.cons (i := 9) rfl (.nil))))))) (fun wz hw => hw.pickK 1 [0] rfl)
        · replace hF13 := cneg hg16 hF13
          refine WX.one 14 #[true, true, true, true, true, true, true, true, true, true, true, true, true, true, true, false, false] (fun wz hw => St.tail [] hw) rfl (by kernel_rfl) (WO.gN (.pl rfl rfl rfl) hg16 rfl ?_)
          refine WX.pureY 15 #[true, true, true, true, true, true, true, true, true, true, true, true, true, true, true, true, false] rfl (by kernel_rfl) (fun _ _ => Yg.no (.pl rfl rfl rfl) hg16) rfl ?_
          refine WX.stop #[true, true, true, true, true, true, true, true, true, true, true, true, true, true, true, true, true] (fun wz hw => St.tail [] hw) rfl (by kernel_rfl) (WO.q (Y.and (b := false) (.pl rfl) (fun h2 => (gabsA hg16 h2).elim)) rfl ?_)
          refine WA.done (by kernel_rfl) ?_
          exact W.joinAt1 hK14 ((decide (a4 < j14)) && false) (Option.some.inj hF13) (.cons rfl (.nil)) (.cons (i := 0) rfl (.cons (i := 1) rfl (.cons (i := 2) rfl (.cons (i := 3) rfl (.cons (i := 8) rfl (.cons (i := 9) rfl (.nil))))))) (fun wz hw => hw.pickK 1 [0] rfl)
      · -- behind
        rintro v15 rfl
        refine W.cond (.pl rfl) (fun hC17 => ?_) (fun hC17 => ?_)
        · replace hF10 := cpos hC17 hF10
          refine W.skip ?_
          refine W.go hK12 (.cons (i := 0) rfl (.cons (i := 1) rfl (.cons (i := 2) rfl (.cons (i := 3) rfl (.cons (i := 8) rfl (.cons (i := 9) rfl (.nil))))))) ?_
          refine W.seq fun K18 hK18 => ?_
          refine W.block ?_
          refine W.know (fun wz hw => (hw.row_lim (i := 0) rfl).2.2) (fun hok20 => ?_)
          refine W.regX 15 (by kernel_rfl) ?_
          refine WX.pure 0 #[true, false, false, false, false, false, false, false, false, false, false, false, false, false, false, false, false, false] rfl (by kernel_rfl) (fun _ _ => Y.move (.pl rfl)) rfl ?_
          refine WX.pure 1 #[true, true, false, false, false, false, false, false, false, false, false, false, false, false, false, false, false, false] rfl (by kernel_rfl) (fun _ _ => Y.move (.pl rfl)) rfl ?_
          refine WX.pure 2 #[true, true, true, false, false, false, false, false, false, false, false, false, false, false, false, false, false, false] rfl (by kernel_rfl) (fun _ _ => Y.move (.pl rfl)) rfl ?_
          refine WX.pure 3 #[true, true, true, true, false, false, false, false, false, false, false, false, false, false, false, false, false, false] rfl (by kernel_rfl) (fun _ _ => Y.move (.pl rfl)) rfl ?_
          obtain ⟨hk20, hF10⟩ := ckh hF10
          refine WX.pure 4 #[true, true, true, true, true, false, false, false, false, false, false, false, false, false, false, false, false, false] rfl (by kernel_rfl) (fun _ _ => Y.sub (.pl rfl) (.pl rfl) (ok64_lt (hk20))) rfl ?_
          refine WX.pure 5 #[true, true, true, true, true, true, false, false, false, false, false, false, false, false, false, false, false, false] rfl (by kernel_rfl) (fun _ _ => Y.move (.pl rfl)) rfl ?_
          refine WX.pure 6 #[true, true, true, true, true, true, true, false, false, false, false, false, false, false, false, false, false, false] rfl (by kernel_rfl) (fun _ _ => Y.move (.pl rfl)) rfl ?_
          obtain ⟨hk21, hF10⟩ := ckh hF10
          refine WX.pure 7 #[true, true, true, true, true, true, true, true, false, false, false, false, false, false, false, false, false, false] rfl (by kernel_rfl) (fun _ _ => Y.sub (.pl rfl) (.pl rfl) (ok64_lt (hk21))) rfl ?_
          obtain ⟨x22, hx22, hF10⟩ := bnd hF10
          refine WX.pure 8 #[true, true, true, true, true, true, true, true, true, false, false, false, false, false, false, false, false, false] rfl (by kernel_rfl) (fun _ _ => Y.okEl (xs := v12) Try.underlying143 cells149 hok20 (.pl rfl) rfl (.pl rfl) (ix_lt (hx22))) rfl ?_
          refine WX.take 9 #[true, true, true, true, true, true, true, true, true, true, false, false, false, false, false, false, false, false] (fun wz hw => St.tail [] hw) rfl (by kernel_rfl) (Y.loadRA (enc := encRowsValue) (ds := (encRowsValue x22)) (a := x22) (idx := (j14 - 1)) (j := 0) Try.underlying149 rfl cells149 lenRowsValue (i := 0) rfl (.pl rfl) (ix_get (hx22)) rfl rfl subW) rfl ?_
          refine WX.pure 10 #[true, true, true, true, true, true, true, true, true, true, true, false, false, false, false, false, false, false] rfl (by kernel_rfl) (fun _ _ => Y.move (.pl rfl)) rfl ?_
          refine WX.pure 11 #[true, true, true, true, true, true, true, true, true, true, true, true, false, false, false, false, false, false] rfl (by kernel_rfl) (fun _ _ => Y.move (.pl rfl)) rfl ?_
          obtain ⟨x23, hx23, hF10⟩ := bnd hF10
          refine WX.pure 12 #[true, true, true, true, true, true, true, true, true, true, true, true, true, false, false, false, false, false] rfl (by kernel_rfl) (fun _ _ => Y.okEl (xs := v12) Try.underlying143 cells149 hok20 (.pl rfl) rfl (.pl rfl) (ix_lt (hx23))) rfl ?_
          refine WX.take 13 #[true, true, true, true, true, true, true, true, true, true, true, true, true, true, false, false, false, false] (fun wz hw => St.tail [] hw) rfl (by kernel_rfl) (Y.loadRA (enc := encRowsValue) (ds := (encRowsValue x23)) (a := x23) (idx := j14) (j := 0) Try.underlying149 rfl cells149 lenRowsValue (i := 0) rfl (.pl rfl) (ix_get (hx23)) rfl rfl subW) rfl ?_
          refine WX.pure 14 #[true, true, true, true, true, true, true, true, true, true, true, true, true, true, true, false, false, false] rfl (by kernel_rfl) (fun _ _ => Y.okEl (xs := v12) Try.underlying143 cells149 hok20 (.pl rfl) rfl (.pl rfl) (ix_lt (hx23))) rfl ?_
          refine WX.stop #[true, true, true, true, true, true, true, true, true, true, true, true, true, true, true, true, false, false] (fun wz hw => St.tail [] hw) rfl (by kernel_rfl) (WO.storeSA (enc := encRowsValue) (a' := x22) (idx := j14) cells149 (.pl rfl) (.pl rfl) lenRowsValue rfl (oneRowsValue _) (i := 0) rfl (ix_lt (hx23)) rfl ?_)
          obtain ⟨x24, hx24, hF10⟩ := bnd hF10
          refine WA.take 16 #[true, true, true, true, true, true, true, true, true, true, true, true, true, true, true, true, true, false] rfl (by kernel_rfl) (fun _ _ => Y.okEl (xs := (v12.set j14.toNat x22)) Try.underlying143 cells149 (by simpa only [List.length_set, hl8, hl13] using hok20) (.pl rfl) (by simp [hl8, hl13]) (.pl rfl) (ix_lt (hx24))) rfl ?_
          refine WA.branch [17] (by kernel_rfl) ⟨?_, trivial⟩
          refine WI.step #[true, true, true, true, true, true, true, true, true, true, true, true, true, true, true, true, true, true] rfl rfl (WO.storeSA (enc := encRowsValue) (a' := x23) (idx := (j14 - 1)) cells149 (.pl rfl) (.pl rfl) lenRowsValue rfl (oneRowsValue _) (i := 0) rfl (ix_lt (hx24)) rfl ?_)
          refine WA.done (by kernel_rfl) ?_
          refine W.go hK18 (.cons (i := 0) rfl (.cons (i := 1) rfl (.cons (i := 2) rfl (.cons (i := 3) rfl (.cons (i := 8) rfl (.cons (i := 9) rfl (.nil))))))) ?_
          refine W.reg ?_
          refine WL.q (Y.move (.pl rfl)) rfl ?_
          obtain ⟨hk25, hF10⟩ := ckh hF10
          refine WL.q (Y.sub (.pl rfl) (.pl rfl) (ok64_lt (hk25))) rfl ?_
          refine WL.q (Y.assign (.pl rfl)) rfl ?_
          refine WL.nil ?_
          obtain rfl := Option.some.inj hF10
          exact W.again2 hK11 ((v12.set j14.toNat x22).set (j14 - 1).toNat x23) (j14 - 1) k10 ⟨hN10, (by simp [hl8, hl13])⟩ (Nat.lt_succ_self _) (.cons (eqSl (by simp [hl8, hl13])) (.cons rfl (.nil))) (.cons (i := 1) rfl (.cons (i := 2) rfl (.cons (i := 3) rfl (.cons (i := 8) rfl (.nil))))) (fun wz hw => hw.pickK 1 [0] rfl)
        · replace hF10 := cneg hC17 hF10
          refine W.exit ?_
          obtain rfl := Option.some.inj hF10
          exact W.joinAt1 hK8 v12 (⟨einr hN10, (by simp [hl8, hl13])⟩) (.cons rfl (.nil)) (.cons (i := 1) rfl (.cons (i := 2) rfl (.cons (i := 3) rfl (.cons (i := 8) rfl (.nil))))) (fun wz hw => hw.pickK 1 [0] rfl)
    · -- behind
      rintro v10 ⟨rfl, hl11⟩
      refine W.reg ?_
      refine WL.q (Y.move (.pl rfl)) rfl ?_
      obtain ⟨hk26, hF2⟩ := ckh hF2
      refine WL.q (Y.add (.pl rfl) (.pl rfl) (ok64_lt (hk26))) rfl ?_
      refine WL.q (Y.assign (.pl rfl)) rfl ?_
      refine WL.nil ?_
      obtain rfl := Option.some.inj hF2
      exact W.again2 hK3 v10 (i9 + 1) k2 ⟨hN2, (by simp [hl8, hl11])⟩ (Nat.lt_succ_self _) (.cons rfl (.cons rfl (.nil))) (.cons (i := 1) rfl (.cons (i := 2) rfl (.cons (i := 3) rfl (.nil)))) (fun wz hw => hw.pickK 1 [0] rfl)
  · replace hF2 := cneg hC6 hF2
    refine W.exit ?_
    obtain rfl := Option.some.inj hF2
    obtain rfl := einr hN2
    obtain rfl := Option.some.inj hF
    refine W.endV (fn := Try.f117) (vs := []) Try.results117 trivial (fun _ _ h => h) (fun wz hw => ?_)
    exact hR _ _ ⟨(), (by simp [hl8]), rfl, (hw.pickK 1 [0] rfl)⟩

def slices_pdqsortCmpFunc_rows_value_L1 (N : Nat) (b5 : Int) (a4 : Int) (data3 : (List RowsValue)) : Unit → Option (Unit ⊕ (List RowsValue))
  | _ =>
    ck (ok64 (b5 - a4)) <|
    cond (decide ((b5 - a4) ≤ 12))
      (bd (slices_insertionSortCmpFunc_rows_value N data3 a4 b5) fun (r8 : (List RowsValue)) =>
      some (.inr r8))
      (none)

def slices_pdqsortCmpFunc_rows_value (N : Nat) (data3 : (List RowsValue)) (a4 : Int) (b5 : Int) (limit6 : Int) : Option (List RowsValue) :=
  bd (α := (List RowsValue)) (iter (slices_pdqsortCmpFunc_rows_value_L1 N b5 a4 data3) N ()) <| fun p => some p

theorem slices_pdqsortCmpFunc_rows_value_ok {N : Nat} {data3 : (List RowsValue)} {a4 : Int} {b5 : Int} {limit6 : Int} {A1 : Option Addr} {c2 : Nat} {res : (List RowsValue)} (hF : slices_pdqsortCmpFunc_rows_value N data3 a4 b5 limit6 = some res) {w0 w : World} {T : List Chunk} (hw : St w0.heap.size w0 ([cR encRowsValue 3 A1 c2 149 data3] ++ T) w) :
    Calls Try.prog 103 (List.toArray [.slice A1 (data3).length c2, .int .i64 a4, .int .i64 b5, .int .i64 limit6, .func (.func 77) #[] #[]]) w (fun e w' => ∃ g : Unit, ((res).length = (data3).length) ∧ e = .returned (.tuple #[]) ∧ St w0.heap.size w0 ([cR encRowsValue 3 A1 c2 149 res] ++ T) w') := by
  refine W.enter (n := 148) Try.func103 rfl rfl Sub.refl (by simp) hw fun R hR => ?_
  unfold slices_pdqsortCmpFunc_rows_value at hF
  refine W.seqR fun Q1 hQ1 => ?_
  refine WL.q (Y.assign (.pl rfl)) rfl ?_
  refine WL.next hQ1 (.cons (i := 0) rfl (.cons (i := 1) rfl (.cons (i := 2) rfl (.cons (i := 3) rfl (.cons (i := 4) rfl (.cons (i := 10) rfl (.nil))))))) ?_
  refine W.seqR fun Q2 hQ2 => ?_
  refine WL.q (Y.assign (.pl rfl)) rfl ?_
  refine WL.next hQ2 (.cons (i := 0) rfl (.cons (i := 1) rfl (.cons (i := 2) rfl (.cons (i := 3) rfl (.cons (i := 4) rfl (.cons (i := 10) rfl (.cons (i := 11) rfl (.nil)))))))) ?_
  refine W.block ?_
  obtain ⟨o3, hL3, hF⟩ := bnd hF
  refine W.loop0 (Em := []) (M := ([cR encRowsValue 3 A1 c2 149 data3] ++ T)) (I := fun k3 => iter (slices_pdqsortCmpFunc_rows_value_L1 N b5 a4 data3) k3 () = some o3) N (hL3) (.nil) (.cons (i := 0) rfl (.cons (i := 1) rfl (.cons (i := 2) rfl (.cons (i := 3) rfl (.cons (i := 4) rfl (.cons (i := 10) rfl (.cons (i := 11) rfl (.nil)))))))) (fun wz hw => hw.pickK 1 [0] rfl) (fun k3 hI K4 hK4 => ?_)
  obtain ⟨k3, t3, rfl, hF3, hN3⟩ := iter_step hI
  refine W.block ?_
  refine W.seqR fun Q5 hQ5 => ?_
  refine WL.q (Y.move (.pl rfl)) rfl ?_
  refine WL.q (Y.move (.pl rfl)) rfl ?_
  obtain ⟨hk7, hF3⟩ := ckh hF3
  refine WL.q (Y.sub (.pl rfl) (.pl rfl) (ok64_lt (hk7))) rfl ?_
  refine WL.q (Y.assign (.pl rfl)) rfl ?_
  refine WL.next hQ5 (.cons (i := 0) rfl (.cons (i := 1) rfl (.cons (i := 2) rfl (.cons (i := 3) rfl (.cons (i := 4) rfl (.cons (i := 10) rfl (.cons (i := 11) rfl (.cons (i := 12) rfl (.nil))))))))) ?_
  refine W.seq fun K6 hK6 => ?_
  refine W.seqR fun Q7 hQ7 => ?_
  refine WL.q (Y.move (.pl rfl)) rfl ?_
  refine WL.q (Y.leq (.pl rfl) (.pl rfl)) rfl ?_
  refine WL.next hQ7 (.cons (i := 0) rfl (.cons (i := 1) rfl (.cons (i := 2) rfl (.cons (i := 3) rfl (.cons (i := 4) rfl (.cons (i := 10) rfl (.cons (i := 11) rfl (.cons (i := 12) rfl (.cons (i := 25) rfl (.nil)))))))))) ?_
  refine W.cond (.pl rfl) (fun hC8 => ?_) (fun hC8 => ?_)
  · replace hF3 := cpos hC8 hF3
    refine W.seqR fun Q9 hQ9 => ?_
    refine WL.q (Y.move (.pl rfl)) rfl ?_
    refine WL.q (Y.move (.pl rfl)) rfl ?_
    refine WL.q (Y.move (.pl rfl)) rfl ?_
    refine WL.q (Y.move (.pl rfl)) rfl ?_
    obtain ⟨r8, hr8, hF3⟩ := bnd hF3
    refine WL.step (WO.call (γ := Unit) (fun g => .tuple #[]) (fun g => ([cR encRowsValue 3 A1 c2 149 r8] ++ T)) (fun g => (r8).length = (data3).length) isGo117 (.cons (.pl rfl) (.cons (.pl rfl) (.cons (.pl rfl) (.cons (.pl rfl) (.nil))))) rfl (fun wz hw => slices_insertionSortCmpFunc_rows_value_ok (T := ([] ++ T)) (hr8) (hw.pickK 1 [0] rfl) ) ?_)
    rintro _ hl9
    refine WL.next hQ9 (.nil) ?_
    obtain rfl := Option.some.inj hF3
    obtain rfl := einr hN3
    obtain rfl := Option.some.inj hF
    refine W.retV (fn := Try.f103) (vs := []) Try.results103 trivial (fun _ _ h => h) (fun wz hw => ?_)
    exact hR _ _ ⟨(), (by simp [hl9]), rfl, (hw.pickK 1 [0] rfl)⟩
  · replace hF3 := cneg hC8 hF3
    refine W.skip ?_
    refine W.go hK6 (.cons (i := 0) rfl (.cons (i := 1) rfl (.cons (i := 2) rfl (.cons (i := 3) rfl (.cons (i := 4) rfl (.cons (i := 10) rfl (.cons (i := 11) rfl (.cons (i := 12) rfl (.nil))))))))) ?_
    refine W.seq fun K10 hK10 => ?_
    exact nomatch hF3

def slices_SortFunc_rows_value_rows_value (N : Nat) (x3 : (List RowsValue)) : Option (List RowsValue) :=
  bd (math_bits_Len N (IntKind.u64.wrap ((x3).length : Int))) fun (r4 : Int) =>
  bd (slices_pdqsortCmpFunc_rows_value N x3 0 ((x3).length : Int) r4) fun (r5 : (List RowsValue)) =>
  some r5

theorem slices_SortFunc_rows_value_rows_value_ok {N : Nat} {x3 : (List RowsValue)} {A1 : Option Addr} {c2 : Nat} {res : (List RowsValue)} (hF : slices_SortFunc_rows_value_rows_value N x3 = some res) {w0 w : World} {T : List Chunk} (hw : St w0.heap.size w0 ([cR encRowsValue 3 A1 c2 149 x3] ++ T) w) :
    Calls Try.prog 76 (List.toArray [.slice A1 (x3).length c2, .func (.func 77) #[] #[]]) w (fun e w' => ∃ g : Unit, ((res).length = (x3).length) ∧ e = .returned (.tuple #[]) ∧ St w0.heap.size w0 ([cR encRowsValue 3 A1 c2 149 res] ++ T) w') := by
  refine W.enter (n := 14) Try.func76 rfl rfl Sub.refl (by simp) hw fun R hR => ?_
  unfold slices_SortFunc_rows_value_rows_value at hF
  refine W.seqR fun Q1 hQ1 => ?_
  refine WL.q (Y.move (.pl rfl)) rfl ?_
  refine WL.q (Y.len Try.underlying143 (.pl rfl)) rfl ?_
  refine WL.q (Y.assign (.pl rfl)) rfl ?_
  refine WL.next hQ1 (.cons (i := 0) rfl (.cons (i := 1) rfl (.cons (i := 4) rfl (.nil)))) ?_
  refine W.reg ?_
  refine WL.q (Y.move (.pl rfl)) rfl ?_
  refine WL.q (Y.move (.pl rfl)) rfl ?_
  refine WL.q (Y.move (.pl rfl)) rfl ?_
  refine WL.q (Y.conv Try.underlying3 Try.underlying104 (.pl rfl)) rfl ?_
  obtain ⟨r4, hr4, hF⟩ := bnd hF
  refine WL.step (WO.callP isGo104 (.cons (.pl rfl) (.nil)) rfl (fun wz hw => math_bits_Len_ok (hr4) wz ) ?_)
  refine WL.q (Y.move (.pl rfl)) rfl ?_
  obtain ⟨r5, hr5, hF⟩ := bnd hF
  refine WL.step (WO.call (γ := Unit) (fun g => .tuple #[]) (fun g => ([cR encRowsValue 3 A1 c2 149 r5] ++ T)) (fun g => (r5).length = (x3).length) isGo103 (.cons (.pl rfl) (.cons (.pl rfl) (.cons (.pl rfl) (.cons (.pl rfl) (.cons (.pl rfl) (.nil)))))) rfl (fun wz hw => slices_pdqsortCmpFunc_rows_value_ok (T := ([] ++ T)) (hr5) (hw.pickK 1 [0] rfl) ) ?_)
  rintro _ hl6
  refine WL.nil ?_
  obtain rfl := Option.some.inj hF
  refine W.endV (fn := Try.f76) (vs := []) Try.results76 trivial (fun _ _ h => h) (fun wz hw => ?_)
  exact hR _ _ ⟨(), (by simp [hl6]), rfl, (hw.pickK 1 [0] rfl)⟩

def rows_read_L5 (N : Nat) (r7 : ((List Call) × Int × Int)) : ((List RowsValue) × Int) → Option (((List RowsValue) × Int) ⊕ ((List RowsValue) ⊕ (Bool × (List Call) × (List RowsValue) × Int)))
  | (values16, v17) =>
    cond (decide (v17 < ((r7.1).length : Int)))
      (bd (ix r7.1 v17) fun (x18 : Call) =>
      cond ((decide (x18.kind = 4)) && (decide (x18.to_ = (-1))))
        (some (.inr (.inr (false, [], [], 6))))
        (bd (α := Bool) (cond ((decide (x18.kind = 3)) == true)
            (bd (rows_log_find N r7.1 values16 x18.arg) fun (r21 : Int) =>
            some ((decide (x18.kind = 3)) && (!(decide (r21 < 0)))))
            (some ((decide (x18.kind = 3)) && false))) <|
        fun (v20 : Bool) => 
          cond v20
            (some (.inr (.inr (false, [], [], 6))))
            (cond (decide (x18.kind = 3))
              (ck (limB 24 ((values16).length + (([(RowsValue.mk x18.arg v17 (-1))] : List RowsValue)).length)) <|
              ck (ok64 (v17 + 1)) <|
              some (.inl ((values16 ++ ([(RowsValue.mk x18.arg v17 (-1))] : List RowsValue)), (v17 + 1))))
              (ck (ok64 (v17 + 1)) <|
              some (.inl (values16, (v17 + 1)))))))
      (some (.inr (.inl values16)))

def rows_read_L7 (N : Nat) (r7 : ((List Call) × Int × Int)) : ((List RowsValue) × Int) → Option (((List RowsValue) × Int) ⊕ (List RowsValue))
  | (values31, v32) =>
    cond (decide (v32 < ((r7.1).length : Int)))
      (bd (ix r7.1 v32) fun (x33 : Call) =>
      bd (rows_log_find N r7.1 values31 x33.res) fun (r35 : Int) =>
      bd ((cond (((decide (x33.kind = 4)) && (!(decide (r35 < 0)))) == true) (ix values31 r35) (some RowsValue.z))) fun (x36 : RowsValue) =>
      cond (((decide (x33.kind = 4)) && (!(decide (r35 < 0)))) && (decide (x36.deq < 0)))
        (bd (ix values31 r35) fun (x37 : RowsValue) =>
        ck (ok64 (v32 + 1)) <|
        some (.inl ((values31.set r35.toNat (RowsValue.mk x37.n x37.enq v32)), (v32 + 1))))
        (ck (ok64 (v32 + 1)) <|
        some (.inl (values31, (v32 + 1)))))
      (some (.inr values31))

def rows_read (N : Nat) (l1 : (List Event)) : Option (Bool × (List Call) × (List RowsValue) × Int) :=
  bd (history_Calls N ([2] : List Int) l1) fun (r7 : ((List Call) × Int × Int)) =>
  cond (!(decide (r7.2.2 = 0)))
    (some (false, [], [], r7.2.2))
    (bd (α := ((List RowsValue) ⊕ (Bool × (List Call) × (List RowsValue) × Int))) (iter (rows_read_L5 N r7) N ([], 0)) <|
    Sum.elim (fun (values13 : (List RowsValue)) => 
      bd (slices_SortFunc_rows_value_rows_value N values13) fun (r28 : (List RowsValue)) =>
      bd (α := (List RowsValue)) (iter (rows_read_L7 N r7) N (r28, 0)) <|
      fun (values30 : (List RowsValue)) => 
        some (true, r7.1, values30, 0)) (fun p => some p))

theorem rows_read_ok {N : Nat} {l1 : (List Event)} {res : (Bool × (List Call) × (List RowsValue) × Int)} (hF : rows_read N l1 = some res) (w : World) {v5 : Value} (hs4 : SlIn encEvent 4 w v5 l1) :
    Made Try.prog 48 [v5] w (fun g : (Option Nat × Option Addr × Nat × Option Addr × Nat) => .tuple #[.pointer (ptO g.1), .int .i64 res.2.2.2]) (fun g => [cBo g.1 145 (Value.slice g.2.1 (res.2.1).length g.2.2.1 :: (Value.slice g.2.2.2.1 (res.2.2.1).length g.2.2.2.2 :: [])), cR encCall 7 g.2.1 g.2.2.1 64 res.2.1, cR encRowsValue 3 g.2.2.2.1 g.2.2.2.2 149 res.2.2.1]) (fun g => res.1 = (g.1).isSome) := by
  obtain ⟨A2, c3, rfl, hcc3, hs4⟩ := hs4.form
  refine W.enter (n := 107) Try.func48 rfl rfl Sub.refl (by simp) (St.start w) fun R hR => ?_
  unfold rows_read at hF
  refine W.seqR fun Q1 hQ1 => ?_
  refine WL.q (Y.assign (.pl rfl)) rfl ?_
  refine WL.q (Y.assign (.pl rfl)) rfl ?_
  refine WL.next hQ1 (.cons (i := 0) rfl (.nil)) ?_
  refine W.seqR fun Q2 hQ2 => ?_
  refine WL.step (WO.bsliceC (enc := (eI .i64)) (ys := ([2] : List Int)) Try.underlying23 bz3 (.cons (.pl rfl) (.nil)) rfl (fun _ => rfl) rfl rfl (by decide) (by decide) rfl fun b6 => ?_)
  refine WL.q (Y.move (.pl rfl)) rfl ?_
  obtain ⟨r7, hr7, hF⟩ := bnd hF
  refine WL.step (WO.callM isGo17 (.cons (.pl rfl) (.cons (.pl rfl) (.nil))) rfl (fun wz hw => history_Calls_ok (hr7) wz (SlIn.ofRow (fun _ => rfl) hw (i := 0) rfl) (hs4.mono hw)) ?_)
  rintro ⟨A8, c9⟩ -
  refine WL.q (Y.move (.pl rfl)) rfl ?_
  refine WL.q (Y.extract (.pl rfl) rfl) rfl ?_
  refine WL.q (Y.extract (.pl rfl) rfl) rfl ?_
  refine WL.q (Y.extract (.pl rfl) rfl) rfl ?_
  refine WL.q (Y.assign (.pl rfl)) rfl ?_
  refine WL.q (Y.assign (.pl rfl)) rfl ?_
  refine WL.q (Y.assign (.pl rfl)) rfl ?_
  refine WL.next hQ2 (.cons (i := 4) rfl (.cons (i := 6) rfl (.nil))) ?_
  refine W.seq fun K3 hK3 => ?_
  refine W.seqR fun Q4 hQ4 => ?_
  refine WL.q (Y.move (.pl rfl)) rfl ?_
  refine WL.q (Y.neq (.pl rfl) (.pl rfl)) rfl ?_
  refine WL.next hQ4 (.cons (i := 4) rfl (.cons (i := 6) rfl (.cons (i := 21) rfl (.nil)))) ?_
  refine W.cond (.pl rfl) (fun hC5 => ?_) (fun hC5 => ?_)
  · replace hF := cpos hC5 hF
    refine W.seqR fun Q6 hQ6 => ?_
    refine WL.q (Y.move (.pl rfl)) rfl ?_
    refine WL.q (Y.assign (.pl rfl)) rfl ?_
    refine WL.q (Y.assign (.pl rfl)) rfl ?_
    refine WL.next hQ6 (.cons (i := 2) rfl (.cons (i := 3) rfl (.nil))) ?_
    obtain rfl := Option.some.inj hF
    refine W.retV (fn := Try.f48) (vs := [.pointer none, .int .i64 r7.2.2]) Try.results48 ⟨.tmp rfl, ⟨.tmp rfl, trivial⟩⟩ (fun _ _ h => h) (fun wz hw => ?_)
    exact hR _ _ ⟨(none, none, 0, none, 0), rfl, rfl, ((St.nilR (St.nilR (St.nilO (hw.pick [] rfl) 145 (Value.slice none 0 0 :: (Value.slice none 0 0 :: []))) encCall 7 64) encRowsValue 3 149).pick [2, 1, 0] rfl)⟩
  · replace hF := cneg hC5 hF
    refine W.skip ?_
    refine W.go hK3 (.cons (i := 4) rfl (.nil)) ?_
    refine W.seqR fun Q7 hQ7 => ?_
    refine WL.q (Y.move (.pl rfl)) rfl ?_
    refine WL.q (Y.build (cs := (Value.slice A8 (r7.1).length c9 :: (Value.slice none 0 0 :: [])).toArray) shape145 (.cons (.pl rfl) (.nil)) (one_parts ⟨rfl, trivial⟩) rfl) rfl ?_
    refine WL.step (WO.boxA (.pl rfl) rfl fun b10 => ?_)
    refine WL.q (Y.assign (.pl rfl)) rfl ?_
    refine WL.next hQ7 (.cons (i := 4) rfl (.cons (i := 7) rfl (.nil))) ?_
    obtain ⟨o8, hF8, hF⟩ := bnd hF
    refine W.join3 (Em := fun (values13 : (List RowsValue)) (A11 : Option Addr) (c12 : Nat) => []) (M := fun values13 A11 c12 => [cR encCall 7 A8 c9 64 r7.1, cBx b10 145 (Value.slice A8 (r7.1).length c9 :: (Value.slice A11 (values13).length c12 :: [])), cR encRowsValue 3 A11 c12 149 values13]) (I := fun values13 A11 c12 => (.inl values13) = o8) (.cons (i := 4) rfl (.cons (i := 7) rfl (.nil))) (fun K9 hK9 => ?_) ?_
    · -- up to
      refine W.seqR fun Q10 hQ10 => ?_
      refine WL.q (Y.move (.pl rfl)) rfl ?_
      refine WL.q (Y.len Try.underlying35 (.pl rfl)) rfl ?_
      refine WL.q (Y.move (.pl rfl)) rfl ?_
      refine WL.next hQ10 (.cons (i := 4) rfl (.cons (i := 7) rfl (.cons (i := 26) rfl (.cons (i := 27) rfl (.cons (i := 28) rfl (.nil)))))) ?_
      refine W.block ?_
      refine W.loop4 (Em := fun (values16 : (List RowsValue)) (v17 : Int) (A14 : Option Addr) (c15 : Nat) => [(28, .int .i64 v17)]) (M := fun values16 v17 A14 c15 => [cR encCall 7 A8 c9 64 r7.1, cBx b10 145 (Value.slice A8 (r7.1).length c9 :: (Value.slice A14 (values16).length c15 :: [])), cR encRowsValue 3 A14 c15 149 values16]) (I := fun values16 v17 A14 c15 k11 => iter (rows_read_L5 N r7) k11 (values16, v17) = some o8) [] 0 none 0 N (hF8) (.cons rfl (.nil)) (.cons (i := 4) rfl (.cons (i := 7) rfl (.cons (i := 26) rfl (.cons (i := 27) rfl (.nil))))) (fun wz hw => (St.nilR (hw.pick [1, 0] rfl) encRowsValue 3 149).pick [1, 2, 0] rfl) (fun values16 v17 A14 c15 k11 hI K12 hK12 => ?_)
      obtain ⟨k11, t11, rfl, hF11, hN11⟩ := iter_step hI
      refine W.seqR fun Q13 hQ13 => ?_
      refine WL.q (Y.lss (.pl rfl) (.pl rfl)) rfl ?_
      refine WL.next hQ13 (.cons (i := 4) rfl (.cons (i := 7) rfl (.cons (i := 26) rfl (.cons (i := 27) rfl (.cons (i := 28) rfl (.cons (i := 29) rfl (.nil))))))) ?_
      refine W.seq fun K14 hK14 => ?_
      refine W.cond (.pl rfl) (fun hC15 => ?_) (fun hC15 => ?_)
      · replace hF11 := cpos hC15 hF11
        refine W.skip ?_
        refine W.go hK14 (.cons (i := 4) rfl (.cons (i := 7) rfl (.cons (i := 26) rfl (.cons (i := 27) rfl (.cons (i := 28) rfl (.nil)))))) ?_
        refine W.seq fun K16 hK16 => ?_
        refine W.block ?_
        refine W.seqR fun Q17 hQ17 => ?_
        refine WL.q (Y.move (.pl rfl)) rfl ?_
        obtain ⟨x18, hx18, hF11⟩ := bnd hF11
        refine WL.q (Y.rowEl Try.underlying35 cells64 (i := 0) rfl (.pl rfl) rfl (.pl rfl) (ix_lt (hx18))) rfl ?_
        refine WL.q (Y.loadRA (enc := encCall) (ds := (encCall x18)) (a := x18) (idx := v17) (j := 0) Try.underlying64 rfl cells64 lenCall (i := 0) rfl (.pl rfl) (ix_get (hx18)) rfl rfl subW) rfl ?_
        refine WL.step (WO.alloc (cs := (encCall (Call.mk 0 0 0 0 0 0 0)).toArray) zero64 rfl rfl fun b19 => ?_)
        refine WL.q (Y.assign (.pl rfl)) rfl ?_
        refine WL.step (WO.storeBA (ds := (encCall x18)) (cs' := (encCall x18)) cells64 (.pl rfl) (.pl rfl) rfl (oneCall _) (i := 0) rfl (lel (o := 0) (l := 7) (m := 7) (by decide) rfl rfl) (putW rfl) ?_)
        refine WL.next hQ17 (.cons (i := 4) rfl (.cons (i := 7) rfl (.cons (i := 8) rfl (.cons (i := 9) rfl (.cons (i := 26) rfl (.cons (i := 27) rfl (.cons (i := 28) rfl (.nil)))))))) ?_
        refine W.block ?_
        refine W.seqR fun Q18 hQ18 => ?_
        refine WL.q (Y.fieldAddr0 (off := 2) (ft := 3) Try.underlying64 rfl cells3 (.pl rfl)) rfl ?_
        refine WL.q (Y.loadB (v := .int .i64 x18.kind) Try.underlying3 rfl (.pl rfl) (i := 0) rfl (rfl)) rfl ?_
        refine WL.q (Y.eql (.pl rfl) (.pl rfl)) rfl ?_
        refine WL.q (Y.move (.pl rfl)) rfl ?_
        refine WL.g (.pl rfl rfl rfl) (fun hg => Y.fieldAddr0 (off := 6) (ft := 3) Try.underlying64 rfl cells3 (.pl rfl)) rfl ?_
        refine WL.g (.pl rfl rfl rfl) (fun hg => Y.loadB (v := .int .i64 x18.to_) Try.underlying3 rfl (.gd (hg) rfl) (i := 0) rfl (rfl)) rfl ?_
        refine WL.g (.pl rfl rfl rfl) (fun hg => Y.eql (.gd (hg) rfl) (.pl rfl)) rfl ?_
        refine WL.q (Y.and (.pl rfl) (fun h2 => .gd (eqt h2) rfl)) rfl ?_
        refine WL.q (Y.assign (.pl rfl)) rfl ?_
        refine WL.next hQ18 (.cons (i := 4) rfl (.cons (i := 7) rfl (.cons (i := 8) rfl (.cons (i := 9) rfl (.cons (i := 26) rfl (.cons (i := 27) rfl (.cons (i := 28) rfl (.cons (i := 33) rfl (.nil))))))))) ?_
        refine W.cond (.pl rfl) (fun hC19 => ?_) (fun hC19 => ?_)
        · replace hF11 := cpos hC19 hF11
          refine W.seqR fun Q20 hQ20 => ?_
          refine WL.q (Y.assign (.pl rfl)) rfl ?_
          refine WL.q (Y.assign (.pl rfl)) rfl ?_
          refine WL.next hQ20 (.cons (i := 2) rfl (.cons (i := 3) rfl (.nil))) ?_
          obtain rfl := Option.some.inj hF11
          obtain rfl := einr hN11
          obtain rfl := Option.some.inj hF
          refine W.retV (fn := Try.f48) (vs := [.pointer none, .int .i64 6]) Try.results48 ⟨.tmp rfl, ⟨.tmp rfl, trivial⟩⟩ (fun _ _ h => h) (fun wz hw => ?_)
          exact hR _ _ ⟨(none, none, 0, none, 0), rfl, rfl, ((St.nilR (St.nilR (St.nilO (hw.pick [] rfl) 145 (Value.slice none 0 0 :: (Value.slice none 0 0 :: []))) encCall 7 64) encRowsValue 3 149).pick [2, 1, 0] rfl)⟩
        · replace hF11 := cneg hC19 hF11
          obtain ⟨o21, hF21, hF11⟩ := bnd hF11
          refine W.join1 (Em := fun (v20 : Bool) => [(42, .bool v20)]) (M := fun v20 => [cR encCall 7 A8 c9 64 r7.1, cBx b10 145 (Value.slice A8 (r7.1).length c9 :: (Value.slice A14 (values16).length c15 :: [])), cR encRowsValue 3 A14 c15 149 values16, cBx b19 64 (encCall x18)]) (I := fun v20 => v20 = o21) (.cons (i := 4) rfl (.cons (i := 7) rfl (.cons (i := 8) rfl (.cons (i := 9) rfl (.cons (i := 26) rfl (.cons (i := 27) rfl (.cons (i := 28) rfl (.nil)))))))) (fun K22 hK22 => ?_) ?_
          · -- up to
            refine W.reg ?_
            refine WL.q (Y.fieldAddr0 (off := 2) (ft := 3) Try.underlying64 rfl cells3 (.pl rfl)) rfl ?_
            refine WL.q (Y.loadB (v := .int .i64 x18.kind) Try.underlying3 rfl (.pl rfl) (i := 0) rfl (rfl)) rfl ?_
            refine WL.q (Y.eql (.pl rfl) (.pl rfl)) rfl ?_
            refine WL.q (Y.move (.pl rfl)) rfl ?_
            refine WL.g (.pl rfl rfl rfl) (fun hg => Y.move (.pl rfl)) rfl ?_
            refine WL.g (.pl rfl rfl rfl) (fun hg => Y.fieldAddr0 (off := 3) (ft := 3) Try.underlying64 rfl cells3 (.pl rfl)) rfl ?_
            refine WL.g (.pl rfl rfl rfl) (fun hg => Y.loadB (v := .int .i64 x18.arg) Try.underlying3 rfl (.gd (hg) rfl) (i := 0) rfl (rfl)) rfl ?_
            refine bsplit ((decide (x18.kind = 3)) == true) (fun hg23 => ?_) (fun hg23 => ?_)
            · replace hF21 := cpos hg23 hF21
              refine WL.gd (.pl rfl rfl rfl) (hg23) ?_
              obtain ⟨r21, hr21, hF21⟩ := bnd hF21
              refine WL.step (WO.call (γ := Unit) (fun g => .pointer (oel A14 r21 3)) (fun g => [cBx b10 145 (Value.slice A8 (r7.1).length c9 :: (Value.slice A14 (values16).length c15 :: [])), cR encCall 7 A8 c9 64 r7.1, cR encRowsValue 3 A14 c15 149 values16, cBx b19 64 (encCall x18)]) (fun g => True) isGo75 (.cons (.gd (hg23) rfl) (.cons (.gd (hg23) rfl) (.nil))) rfl (fun wz hw => rows_log_find_ok (T := [cBx b19 64 (encCall x18)]) (hr21) (hw.pick [2, 1, 3, 0] rfl) ) ?_)
              rintro _ -
              refine WL.gd (.pl rfl rfl rfl) (hg23) ?_
              refine WL.q (Y.neqO Try.underlying146 (.pl rfl)) rfl ?_
              refine WL.q (Y.and (.pl rfl) (fun _ => .pl rfl)) rfl ?_
              refine WL.q (Y.assign (.pl rfl)) rfl ?_
              refine WL.nil ?_
              exact W.joinAt1 hK22 ((decide (x18.kind = 3)) && (!(decide (r21 < 0)))) (Option.some.inj hF21) (.cons rfl (.nil)) (.cons (i := 4) rfl (.cons (i := 7) rfl (.cons (i := 8) rfl (.cons (i := 9) rfl (.cons (i := 26) rfl (.cons (i := 27) rfl (.cons (i := 28) rfl (.nil)))))))) (fun wz hw => hw.pick [1, 0, 2, 3] rfl)
            · replace hF21 := cneg hg23 hF21
              refine WL.gn (.pl rfl rfl rfl) hg23 rfl ?_
              refine WL.gn (.pl rfl rfl rfl) hg23 rfl ?_
              refine WL.q (Y.and (b := false) (.pl rfl) (fun h2 => (gabsA hg23 h2).elim)) rfl ?_
              refine WL.q (Y.assign (.pl rfl)) rfl ?_
              refine WL.nil ?_
              exact W.joinAt1 hK22 ((decide (x18.kind = 3)) && false) (Option.some.inj hF21) (.cons rfl (.nil)) (.cons (i := 4) rfl (.cons (i := 7) rfl (.cons (i := 8) rfl (.cons (i := 9) rfl (.cons (i := 26) rfl (.cons (i := 27) rfl (.cons (i := 28) rfl (.nil)))))))) (fun wz hw => hw.pick [1, 2, 3, 0] rfl)
          · -- behind
            rintro v20 rfl
            refine W.cond (.pl rfl) (fun hC24 => ?_) (fun hC24 => ?_)
            · replace hF11 := cpos hC24 hF11
              refine W.seqR fun Q25 hQ25 => ?_
              refine WL.q (Y.assign (.pl rfl)) rfl ?_
              refine WL.q (Y.assign (.pl rfl)) rfl ?_
              refine WL.next hQ25 (.cons (i := 2) rfl (.cons (i := 3) rfl (.nil))) ?_
              obtain rfl := Option.some.inj hF11
              obtain rfl := einr hN11
              obtain rfl := Option.some.inj hF
              refine W.retV (fn := Try.f48) (vs := [.pointer none, .int .i64 6]) Try.results48 ⟨.tmp rfl, ⟨.tmp rfl, trivial⟩⟩ (fun _ _ h => h) (fun wz hw => ?_)
              exact hR _ _ ⟨(none, none, 0, none, 0), rfl, rfl, ((St.nilR (St.nilR (St.nilO (hw.pick [] rfl) 145 (Value.slice none 0 0 :: (Value.slice none 0 0 :: []))) encCall 7 64) encRowsValue 3 149).pick [2, 1, 0] rfl)⟩
            · replace hF11 := cneg hC24 hF11
              refine W.seqR fun Q26 hQ26 => ?_
              refine WL.q (Y.fieldAddr0 (off := 2) (ft := 3) Try.underlying64 rfl cells3 (.pl rfl)) rfl ?_
              refine WL.q (Y.loadB (v := .int .i64 x18.kind) Try.underlying3 rfl (.pl rfl) (i := 3) rfl (rfl)) rfl ?_
              refine WL.q (Y.eql (.pl rfl) (.pl rfl)) rfl ?_
              refine WL.q (Y.assign (.pl rfl)) rfl ?_
              refine WL.next hQ26 (.cons (i := 4) rfl (.cons (i := 7) rfl (.cons (i := 8) rfl (.cons (i := 9) rfl (.cons (i := 26) rfl (.cons (i := 27) rfl (.cons (i := 28) rfl (.cons (i := 53) rfl (.nil))))))))) ?_
              refine W.cond (.pl rfl) (fun hC27 => ?_) (fun hC27 => ?_)
              · replace hF11 := cpos hC27 hF11
                refine W.regX 10 (by kernel_rfl) ?_
                refine WX.pure 0 #[true, false, false, false, false, false, false, false, false, false, false, false, false, false] rfl (by kernel_rfl) (fun _ _ => Y.move (.pl rfl)) rfl ?_
                refine WX.pure 1 #[true, true, false, false, false, false, false, false, false, false, false, false, false, false] rfl (by kernel_rfl) (fun _ _ => Y.move (.pl rfl)) rfl ?_
                refine WX.pure 2 #[true, true, true, false, false, false, false, false, false, false, false, false, false, false] rfl (by kernel_rfl) (fun _ _ => Y.nilCheck (.pl rfl)) rfl ?_
                refine WX.pure 3 #[true, true, true, true, false, false, false, false, false, false, false, false, false, false] rfl (by kernel_rfl) (fun _ _ => Y.fieldAddr0 (off := 1) (ft := 143) Try.underlying145 rfl cells143 (.pl rfl)) rfl ?_
                refine WX.take 4 #[true, true, true, true, true, false, false, false, false, false, false, false, false, false] (fun wz hw => St.tail [] hw) rfl (by kernel_rfl) (Y.loadB (v := .slice A14 (values16).length c15) Try.underlying143 rfl (.pl rfl) (i := 1) rfl (rfl)) rfl ?_
                refine WX.pure 5 #[true, true, true, true, true, true, false, false, false, false, false, false, false, false] rfl (by kernel_rfl) (fun _ _ => Y.fieldAddr0 (off := 3) (ft := 3) Try.underlying64 rfl cells3 (.pl rfl)) rfl ?_
                refine WX.take 6 #[true, true, true, true, true, true, true, false, false, false, false, false, false, false] (fun wz hw => St.tail [] hw) rfl (by kernel_rfl) (Y.loadB (v := .int .i64 x18.arg) Try.underlying3 rfl (.pl rfl) (i := 3) rfl (rfl)) rfl ?_
                refine WX.pure 7 #[true, true, true, true, true, true, true, true, false, false, false, false, false, false] rfl (by kernel_rfl) (fun _ _ => Y.move (.pl rfl)) rfl ?_
                refine WX.pure 8 #[true, true, true, true, true, true, true, true, true, false, false, false, false, false] rfl (by kernel_rfl) (fun _ _ => Y.build (cs := (encRowsValue (RowsValue.mk x18.arg v17 (-1))).toArray) shape149 (.cons (.pl rfl) (.cons (.pl rfl) (.cons (.pl rfl) (.nil)))) (one_parts ⟨rfl, ⟨rfl, ⟨rfl, trivial⟩⟩⟩) rfl) rfl ?_
                refine WX.one 9 #[true, true, true, true, true, true, true, true, true, true, false, false, false, false] (fun wz hw => St.tail [] hw) rfl (by kernel_rfl) (WO.bsliceC (enc := encRowsValue) (ys := ([(RowsValue.mk x18.arg v17 (-1))] : List RowsValue)) Try.underlying143 bz149 (.cons (.pl rfl) (.nil)) rfl lenRowsValue rfl rfl (by decide) (by decide) rfl fun b22 => ?_)
                obtain ⟨hk25, hF11⟩ := ckh hF11
                refine WX.stop #[true, true, true, true, true, true, true, true, true, true, true, false, false, false] (fun wz hw => St.tail [_] hw) rfl (by kernel_rfl) (WO.appendC (enc := encRowsValue) Try.underlying143 ap149 lenRowsValue oneRowsValue (.pl rfl) rfl (.pl rfl) (i := 3) rfl (m2 := 0) rfl (hk25) rfl fun A23 c24 => ?_)
                refine WA.take 11 #[true, true, true, true, true, true, true, true, true, true, true, true, false, false] rfl (by kernel_rfl) (fun _ _ => Y.nilCheck (.pl rfl)) rfl ?_
                refine WA.take 12 #[true, true, true, true, true, true, true, true, true, true, true, true, true, false] rfl (by kernel_rfl) (fun _ _ => Y.fieldAddr0 (off := 1) (ft := 143) Try.underlying145 rfl cells143 (.pl rfl)) rfl ?_
                refine WA.branch [13] (by kernel_rfl) ⟨?_, trivial⟩
                refine WI.step #[true, true, true, true, true, true, true, true, true, true, true, true, true, true] rfl rfl (WO.storeB (cs' := (Value.slice A8 (r7.1).length c9 :: (Value.slice A23 ((values16 ++ ([(RowsValue.mk x18.arg v17 (-1))] : List RowsValue))).length c24 :: []))) cells143 (.pl rfl) (.pl rfl) rfl (i := 2) rfl (ltl (m := 2) (by decide) rfl) (rfl) ?_)
                refine WA.done (by kernel_rfl) ?_
                refine W.go hK16 (.cons (i := 4) rfl (.cons (i := 7) rfl (.cons (i := 26) rfl (.cons (i := 27) rfl (.cons (i := 28) rfl (.nil)))))) ?_
                refine W.reg ?_
                obtain ⟨hk26, hF11⟩ := ckh hF11
                refine WL.q (Y.add (.pl rfl) (.pl rfl) (ok64_lt (hk26))) rfl ?_
                refine WL.q (Y.move (.pl rfl)) rfl ?_
                refine WL.nil ?_
                obtain rfl := Option.some.inj hF11
                exact W.again4 hK12 (values16 ++ ([(RowsValue.mk x18.arg v17 (-1))] : List RowsValue)) (v17 + 1) A23 c24 k11 hN11 (Nat.lt_succ_self _) (.cons rfl (.nil)) (.cons (i := 4) rfl (.cons (i := 7) rfl (.cons (i := 26) rfl (.cons (i := 27) rfl (.nil))))) (fun wz hw => hw.pick [1, 2, 3] rfl)
              · replace hF11 := cneg hC27 hF11
                refine W.skip ?_
                refine W.go hK16 (.cons (i := 4) rfl (.cons (i := 7) rfl (.cons (i := 26) rfl (.cons (i := 27) rfl (.cons (i := 28) rfl (.nil)))))) ?_
                refine W.reg ?_
                obtain ⟨hk27, hF11⟩ := ckh hF11
                refine WL.q (Y.add (.pl rfl) (.pl rfl) (ok64_lt (hk27))) rfl ?_
                refine WL.q (Y.move (.pl rfl)) rfl ?_
                refine WL.nil ?_
                obtain rfl := Option.some.inj hF11
                exact W.again4 hK12 values16 (v17 + 1) A14 c15 k11 hN11 (Nat.lt_succ_self _) (.cons rfl (.nil)) (.cons (i := 4) rfl (.cons (i := 7) rfl (.cons (i := 26) rfl (.cons (i := 27) rfl (.nil))))) (fun wz hw => hw.pick [0, 1, 2] rfl)
      · replace hF11 := cneg hC15 hF11
        refine W.exit ?_
        obtain rfl := Option.some.inj hF11
        exact W.joinAt3 hK9 values16 A14 c15 (einr hN11) (.nil) (.cons (i := 4) rfl (.cons (i := 7) rfl (.nil))) (fun wz hw => hw.pick [0, 1, 2] rfl)
    · -- behind
      rintro values13 A11 c12 rfl
      refine W.seqR fun Q31 hQ31 => ?_
      refine WL.q (Y.move (.pl rfl)) rfl ?_
      refine WL.q (Y.nilCheck (.pl rfl)) rfl ?_
      refine WL.q (Y.fieldAddr0 (off := 1) (ft := 143) Try.underlying145 rfl cells143 (.pl rfl)) rfl ?_
      refine WL.q (Y.loadB (v := .slice A11 (values13).length c12) Try.underlying143 rfl (.pl rfl) (i := 1) rfl (rfl)) rfl ?_
      obtain ⟨r28, hr28, hF⟩ := bnd hF
      refine WL.step (WO.call (γ := Unit) (fun g => .tuple #[]) (fun g => [cR encRowsValue 3 A11 c12 149 r28, cR encCall 7 A8 c9 64 r7.1, cBx b10 145 (Value.slice A8 (r7.1).length c9 :: (Value.slice A11 (values13).length c12 :: []))]) (fun g => (r28).length = (values13).length) isGo76 (.cons (.pl rfl) (.cons (.pl rfl) (.nil))) rfl (fun wz hw => slices_SortFunc_rows_value_rows_value_ok (T := [cR encCall 7 A8 c9 64 r7.1, cBx b10 145 (Value.slice A8 (r7.1).length c9 :: (Value.slice A11 (values13).length c12 :: []))]) (hr28) (hw.pick [2, 0, 1] rfl) ) ?_)
      rintro _ hl29
      refine WL.next hQ31 (.cons (i := 4) rfl (.cons (i := 7) rfl (.nil))) ?_
      obtain ⟨o32, hF32, hF⟩ := bnd hF
      refine W.join1 (Em := fun (values30 : (List RowsValue)) => []) (M := fun values30 => [cBx b10 145 (Value.slice A8 (r7.1).length c9 :: (Value.slice A11 (values30).length c12 :: [])), cR encCall 7 A8 c9 64 r7.1, cR encRowsValue 3 A11 c12 149 values30]) (I := fun values30 => values30 = o32) (.cons (i := 7) rfl (.nil)) (fun K33 hK33 => ?_) ?_
      · -- up to
        refine W.seqR fun Q34 hQ34 => ?_
        refine WL.q (Y.move (.pl rfl)) rfl ?_
        refine WL.q (Y.len Try.underlying35 (.pl rfl)) rfl ?_
        refine WL.q (Y.move (.pl rfl)) rfl ?_
        refine WL.next hQ34 (.cons (i := 7) rfl (.cons (i := 76) rfl (.cons (i := 77) rfl (.cons (i := 78) rfl (.nil))))) ?_
        refine W.block ?_
        refine W.loop2 (Em := fun (values31 : (List RowsValue)) (v32 : Int) => [(78, .int .i64 v32)]) (M := fun values31 v32 => [cBx b10 145 (Value.slice A8 (r7.1).length c9 :: (Value.slice A11 (values31).length c12 :: [])), cR encCall 7 A8 c9 64 r7.1, cR encRowsValue 3 A11 c12 149 values31]) (I := fun values31 v32 k35 => iter (rows_read_L7 N r7) k35 (values31, v32) = some o32) r28 0 N (hF32) (.cons rfl (.nil)) (.cons (i := 7) rfl (.cons (i := 76) rfl (.cons (i := 77) rfl (.nil)))) (fun wz hw => St.cong (L := [cBx b10 145 (Value.slice A8 (r7.1).length c9 :: (Value.slice A11 (values13).length c12 :: [])), cR encCall 7 A8 c9 64 r7.1, cR encRowsValue 3 A11 c12 149 r28]) (hw.pick [2, 1, 0] rfl) (by simp only [List.length_set, List.nil_append, List.cons_append, hl29])) (fun values31 v32 k35 hI K36 hK36 => ?_)
        obtain ⟨k35, t35, rfl, hF35, hN35⟩ := iter_step hI
        refine W.seqR fun Q37 hQ37 => ?_
        refine WL.q (Y.lss (.pl rfl) (.pl rfl)) rfl ?_
        refine WL.next hQ37 (.cons (i := 7) rfl (.cons (i := 76) rfl (.cons (i := 77) rfl (.cons (i := 78) rfl (.cons (i := 79) rfl (.nil)))))) ?_
        refine W.seq fun K38 hK38 => ?_
        refine W.cond (.pl rfl) (fun hC39 => ?_) (fun hC39 => ?_)
        · replace hF35 := cpos hC39 hF35
          refine W.skip ?_
          refine W.go hK38 (.cons (i := 7) rfl (.cons (i := 76) rfl (.cons (i := 77) rfl (.cons (i := 78) rfl (.nil))))) ?_
          refine W.seq fun K40 hK40 => ?_
          refine W.block ?_
          refine W.seqR fun Q41 hQ41 => ?_
          refine WL.q (Y.move (.pl rfl)) rfl ?_
          obtain ⟨x33, hx33, hF35⟩ := bnd hF35
          refine WL.q (Y.rowEl Try.underlying35 cells64 (i := 1) rfl (.pl rfl) rfl (.pl rfl) (ix_lt (hx33))) rfl ?_
          refine WL.q (Y.loadRA (enc := encCall) (ds := (encCall x33)) (a := x33) (idx := v32) (j := 0) Try.underlying64 rfl cells64 lenCall (i := 1) rfl (.pl rfl) (ix_get (hx33)) rfl rfl subW) rfl ?_
          refine WL.step (WO.alloc (cs := (encCall (Call.mk 0 0 0 0 0 0 0)).toArray) zero64 rfl rfl fun b34 => ?_)
          refine WL.q (Y.assign (.pl rfl)) rfl ?_
          refine WL.step (WO.storeBA (ds := (encCall x33)) (cs' := (encCall x33)) cells64 (.pl rfl) (.pl rfl) rfl (oneCall _) (i := 0) rfl (lel (o := 0) (l := 7) (m := 7) (by decide) rfl rfl) (putW rfl) ?_)
          refine WL.next hQ41 (.cons (i := 7) rfl (.cons (i := 10) rfl (.cons (i := 11) rfl (.cons (i := 76) rfl (.cons (i := 77) rfl (.cons (i := 78) rfl (.nil))))))) ?_
          refine W.seqR fun Q42 hQ42 => ?_
          refine WL.q (Y.move (.pl rfl)) rfl ?_
          refine WL.q (Y.fieldAddr0 (off := 4) (ft := 3) Try.underlying64 rfl cells3 (.pl rfl)) rfl ?_
          refine WL.q (Y.loadB (v := .int .i64 x33.res) Try.underlying3 rfl (.pl rfl) (i := 0) rfl (rfl)) rfl ?_
          obtain ⟨r35, hr35, hF35⟩ := bnd hF35
          refine WL.step (WO.call (γ := Unit) (fun g => .pointer (oel A11 r35 3)) (fun g => [cBx b10 145 (Value.slice A8 (r7.1).length c9 :: (Value.slice A11 (values31).length c12 :: [])), cR encCall 7 A8 c9 64 r7.1, cR encRowsValue 3 A11 c12 149 values31, cBx b34 64 (encCall x33)]) (fun g => True) isGo75 (.cons (.pl rfl) (.cons (.pl rfl) (.nil))) rfl (fun wz hw => rows_log_find_ok (T := [cBx b34 64 (encCall x33)]) (hr35) (hw.pick [1, 2, 3, 0] rfl) ) ?_)
          rintro _ -
          refine WL.q (Y.assign (.pl rfl)) rfl ?_
          refine WL.next hQ42 (.cons (i := 7) rfl (.cons (i := 10) rfl (.cons (i := 11) rfl (.cons (i := 12) rfl (.cons (i := 76) rfl (.cons (i := 77) rfl (.cons (i := 78) rfl (.nil)))))))) ?_
          refine W.seqR fun Q43 hQ43 => ?_
          refine WL.q (Y.fieldAddr0 (off := 2) (ft := 3) Try.underlying64 rfl cells3 (.pl rfl)) rfl ?_
          refine WL.q (Y.loadB (v := .int .i64 x33.kind) Try.underlying3 rfl (.pl rfl) (i := 3) rfl (rfl)) rfl ?_
          refine WL.q (Y.eql (.pl rfl) (.pl rfl)) rfl ?_
          refine WL.q (Y.move (.pl rfl)) rfl ?_
          refine WL.g (.pl rfl rfl rfl) (fun hg => Y.move (.pl rfl)) rfl ?_
          refine WL.g (.pl rfl rfl rfl) (fun hg => Y.neqO Try.underlying146 (.gd (hg) rfl)) rfl ?_
          refine WL.q (Y.and (.pl rfl) (fun h2 => .gd (eqt h2) rfl)) rfl ?_
          refine WL.q (Y.move (.pl rfl)) rfl ?_
          refine WL.g (.pl rfl rfl rfl) (fun hg => Y.move (.pl rfl)) rfl ?_
          obtain ⟨x36, hx36, hF35⟩ := bnd hF35
          refine WL.g (.pl rfl rfl rfl) (fun hg => Y.nilCheckO (ix_lt (gpos hg hx36)).1 (.gd (hg) rfl)) rfl ?_
          refine WL.g (.pl rfl rfl rfl) (fun hg => Y.rowField (off := 2) (ft := 3) Try.underlying149 rfl cells3 (i' := 2) rfl (ix_lt (gpos hg hx36)) (.gd (hg) rfl)) rfl ?_
          refine WL.g (.pl rfl rfl rfl) (fun hg => Y.loadR (enc := encRowsValue) (v := .int .i64 x36.deq) (a := x36) (idx := r35) (j := 2) Try.underlying3 rfl lenRowsValue (i := 2) rfl (.gd (hg) rfl) (ix_get (gpos hg hx36)) rfl rfl) rfl ?_
          refine WL.g (.pl rfl rfl rfl) (fun hg => Y.lss (.gd (hg) rfl) (.pl rfl)) rfl ?_
          refine WL.q (Y.and (.pl rfl) (fun h2 => .gd (eqt h2) rfl)) rfl ?_
          refine WL.next hQ43 (.cons (i := 7) rfl (.cons (i := 10) rfl (.cons (i := 12) rfl (.cons (i := 76) rfl (.cons (i := 77) rfl (.cons (i := 78) rfl (.cons (i := 100) rfl (.nil)))))))) ?_
          refine W.cond (.pl rfl) (fun hC44 => ?_) (fun hC44 => ?_)
          · replace hF35 := cpos hC44 hF35
            refine W.reg ?_
            refine WL.q (Y.move (.pl rfl)) rfl ?_
            refine WL.q (Y.move (.pl rfl)) rfl ?_
            obtain ⟨x37, hx37, hF35⟩ := bnd hF35
            refine WL.q (Y.nilCheckO (ix_lt (hx37)).1 (.pl rfl)) rfl ?_
            refine WL.q (Y.rowField (off := 2) (ft := 3) Try.underlying149 rfl cells3 (i' := 2) rfl (ix_lt (hx37)) (.pl rfl)) rfl ?_
            refine WL.step (WO.storeS (enc := encRowsValue) (a := x37) (a' := (RowsValue.mk x37.n x37.enq v32)) (idx := r35) (j := 2) cells3 (.pl rfl) (.pl rfl) rfl lenRowsValue (i := 2) rfl (ix_get (hx37)) rfl (by decide) rfl ?_)
            refine WL.nil ?_
            refine W.go hK40 (.cons (i := 7) rfl (.cons (i := 76) rfl (.cons (i := 77) rfl (.cons (i := 78) rfl (.nil))))) ?_
            refine W.reg ?_
            obtain ⟨hk38, hF35⟩ := ckh hF35
            refine WL.q (Y.add (.pl rfl) (.pl rfl) (ok64_lt (hk38))) rfl ?_
            refine WL.q (Y.move (.pl rfl)) rfl ?_
            refine WL.nil ?_
            obtain rfl := Option.some.inj hF35
            exact W.again2 hK36 (values31.set r35.toNat (RowsValue.mk x37.n x37.enq v32)) (v32 + 1) k35 hN35 (Nat.lt_succ_self _) (.cons rfl (.nil)) (.cons (i := 7) rfl (.cons (i := 76) rfl (.cons (i := 77) rfl (.nil)))) (fun wz hw => St.cong (L := [cBx b10 145 (Value.slice A8 (r7.1).length c9 :: (Value.slice A11 (values31).length c12 :: [])), cR encCall 7 A8 c9 64 r7.1, cR encRowsValue 3 A11 c12 149 (values31.set r35.toNat (RowsValue.mk x37.n x37.enq v32))]) (hw.pick [0, 1, 2] rfl) (by simp only [List.length_set, List.nil_append, List.cons_append, hl29]))
          · replace hF35 := cneg hC44 hF35
            refine W.skip ?_
            refine W.go hK40 (.cons (i := 7) rfl (.cons (i := 76) rfl (.cons (i := 77) rfl (.cons (i := 78) rfl (.nil))))) ?_
            refine W.reg ?_
            obtain ⟨hk39, hF35⟩ := ckh hF35
            refine WL.q (Y.add (.pl rfl) (.pl rfl) (ok64_lt (hk39))) rfl ?_
            refine WL.q (Y.move (.pl rfl)) rfl ?_
            refine WL.nil ?_
            obtain rfl := Option.some.inj hF35
            exact W.again2 hK36 values31 (v32 + 1) k35 hN35 (Nat.lt_succ_self _) (.cons rfl (.nil)) (.cons (i := 7) rfl (.cons (i := 76) rfl (.cons (i := 77) rfl (.nil)))) (fun wz hw => hw.pick [0, 1, 2] rfl)
        · replace hF35 := cneg hC39 hF35
          refine W.exit ?_
          obtain rfl := Option.some.inj hF35
          exact W.joinAt1 hK33 values31 (einr hN35) (.nil) (.cons (i := 7) rfl (.nil)) (fun wz hw => hw.pick [0, 1, 2] rfl)
      · -- behind
        rintro values30 rfl
        refine W.seqR fun Q48 hQ48 => ?_
        refine WL.q (Y.move (.pl rfl)) rfl ?_
        refine WL.q (Y.assign (.pl rfl)) rfl ?_
        refine WL.q (Y.assign (.pl rfl)) rfl ?_
        refine WL.next hQ48 (.cons (i := 2) rfl (.cons (i := 3) rfl (.nil))) ?_
        obtain rfl := Option.some.inj hF
        refine W.retV (fn := Try.f48) (vs := [.pointer (some ⟨b10, 0, none⟩), .int .i64 0]) Try.results48 ⟨.tmp rfl, ⟨.tmp rfl, trivial⟩⟩ (fun _ _ h => h) (fun wz hw => ?_)
        exact hR _ _ ⟨((some b10), A8, c9, A11, c12), rfl, rfl, (hw.pick [0, 1, 2] rfl)⟩

end Go.Proofs.Ytgmodmacchdkiaa
