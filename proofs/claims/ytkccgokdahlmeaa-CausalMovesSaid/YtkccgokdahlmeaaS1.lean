/- History: what its code computes, and the walks. -/
import Derived.Test.YtkccgokdahlmeaaProg
import Derived.Test.YtkccgokdahlmeaaNest
set_option linter.unusedVariables false
set_option linter.unusedSimpArgs false
set_option linter.unusedSectionVars false
set_option maxRecDepth 100000
namespace Go.Proofs.Ytkccgokdahlmeaa
open Go.RowKit
structure Event where
  who : Int
  thing : Int
  kind : Int
  value : Int
deriving DecidableEq
def Event.z : Event := ⟨0, 0, 0, 0⟩
def encEvent (x : Event) : List Value := (Value.int .i64 x.who :: (Value.int .i64 x.thing :: (Value.int .i64 x.kind :: (Value.int .i64 x.value :: []))))
theorem lenEvent (x : Event) : (encEvent x).length = 4 := rfl
theorem eqEvent (x y : Event) : eqCells [true, true, true, true] (encEvent x) (encEvent y) = some (decide (x = y)) := by
  cases x; cases y; simp [encEvent, eqCells, Event.mk.injEq, Bool.beq_eq_decide_eq]
theorem oneEvent : ∀ x, ∀ v ∈ encEvent x, v.oneCell' = true := fun x => (one_cons rfl (one_cons rfl (one_cons rfl (one_cons rfl one_nil))))
structure Call where
  who : Int
  thing : Int
  kind : Int
  arg : Int
  res : Int
  from_ : Int
  to_ : Int
deriving DecidableEq
def Call.z : Call := ⟨0, 0, 0, 0, 0, 0, 0⟩
def encCall (x : Call) : List Value := (Value.int .i64 x.who :: (Value.int .i64 x.thing :: (Value.int .i64 x.kind :: (Value.int .i64 x.arg :: (Value.int .i64 x.res :: (Value.int .i64 x.from_ :: (Value.int .i64 x.to_ :: [])))))))
theorem lenCall (x : Call) : (encCall x).length = 7 := rfl
theorem eqCall (x y : Call) : eqCells [true, true, true, true, true, true, true] (encCall x) (encCall y) = some (decide (x = y)) := by
  cases x; cases y; simp [encCall, eqCells, Call.mk.injEq, Bool.beq_eq_decide_eq]
theorem oneCall : ∀ x, ∀ v ∈ encCall x, v.oneCell' = true := fun x => (one_cons rfl (one_cons rfl (one_cons rfl (one_cons rfl (one_cons rfl (one_cons rfl (one_cons rfl one_nil)))))))
theorem cells3 : Try.prog.cellsOf 3 = 0 + 1 := by kernel_rfl
theorem cells23 : Try.prog.cellsOf 23 = 0 + 1 := by kernel_rfl
theorem cells46 : Try.prog.cellsOf 46 = 3 + 1 := by kernel_rfl
theorem cells65 : Try.prog.cellsOf 65 = 0 + 1 := by kernel_rfl
theorem cells70 : Try.prog.cellsOf 70 = 6 + 1 := by kernel_rfl
theorem cells133 : Try.prog.cellsOf 133 = 7 + 1 := by kernel_rfl
theorem isGo70 : IsGo Try.prog 70 := ⟨_, Try.func70, by kernel_rfl, rfl⟩
theorem isGo71 : IsGo Try.prog 71 := ⟨_, Try.func71, by kernel_rfl, rfl⟩
theorem isGo102 : IsGo Try.prog 102 := ⟨_, Try.func102, by kernel_rfl, rfl⟩
theorem isGo103 : IsGo Try.prog 103 := ⟨_, Try.func103, by kernel_rfl, rfl⟩
theorem isGo104 : IsGo Try.prog 104 := ⟨_, Try.func104, by kernel_rfl, rfl⟩
theorem isGo105 : IsGo Try.prog 105 := ⟨_, Try.func105, by kernel_rfl, rfl⟩
theorem isGo106 : IsGo Try.prog 106 := ⟨_, Try.func106, by kernel_rfl, rfl⟩
theorem isGo125 : IsGo Try.prog 125 := ⟨_, Try.func125, by kernel_rfl, rfl⟩
theorem isGo126 : IsGo Try.prog 126 := ⟨_, Try.func126, by kernel_rfl, rfl⟩
theorem zero46 : ∃ i, Try.prog.info? 46 = some i ∧ i.zero = some (Value.agg #[(Value.int .i64 0), (Value.int .i64 0), (Value.int .i64 0), (Value.int .i64 0)]) := ⟨_, rfl, by kernel_rfl⟩
theorem bz70 : ∃ i, Try.prog.info? 70 = some i ∧ i.zero = some (Value.agg #[(Value.int .i64 0), (Value.int .i64 0), (Value.int .i64 0), (Value.int .i64 0), (Value.int .i64 0), (Value.int .i64 0), (Value.int .i64 0)]) ∧ i.size = 7 := ⟨_, rfl, by kernel_rfl, by kernel_rfl⟩
theorem ap70 : ∃ i z, Try.prog.info? 70 = some i ∧ i.zero = some z ∧ i.size = 7 ∧ i.bytes = 56 ∧ z.cells.size = 7 ∧ 0 < 7 := ⟨_, (Value.agg #[(Value.int .i64 0), (Value.int .i64 0), (Value.int .i64 0), (Value.int .i64 0), (Value.int .i64 0), (Value.int .i64 0), (Value.int .i64 0)]), rfl, by kernel_rfl, by kernel_rfl, by kernel_rfl, by kernel_rfl, by decide⟩
theorem shape70 : Shape Try.prog 70 [(0, 1), (1, 1), (2, 1), (3, 1), (4, 1), (5, 1), (6, 1)] #[(Value.int .i64 0), (Value.int .i64 0), (Value.int .i64 0), (Value.int .i64 0), (Value.int .i64 0), (Value.int .i64 0), (Value.int .i64 0)] := ⟨_, _, Value.agg #[(Value.int .i64 0), (Value.int .i64 0), (Value.int .i64 0), (Value.int .i64 0), (Value.int .i64 0), (Value.int .i64 0), (Value.int .i64 0)], Try.underlying70, rfl, by kernel_rfl, rfl, by kernel_rfl, by decide⟩
theorem shape135 : Shape Try.prog 135 [(0, 1), (1, 1), (2, 8)] #[(Value.slice none 0 0), (Value.slice none 0 0), (Value.int .i64 0), (Value.int .i64 0), (Value.int .i64 0), (Value.int .i64 0), (Value.int .i64 0), (Value.int .i64 0), (Value.int .i64 0), (Value.int .i64 0)] := ⟨_, _, Value.agg #[(Value.slice none 0 0), (Value.slice none 0 0), (Value.int .i64 0), (Value.int .i64 0), (Value.int .i64 0), (Value.int .i64 0), (Value.int .i64 0), (Value.int .i64 0), (Value.int .i64 0), (Value.int .i64 0)], Try.underlying135, rfl, by kernel_rfl, rfl, by kernel_rfl, by decide⟩
def history_Types_1 (N : Nat) (t1 : Int) : Option Unit :=
  some ()

theorem history_Types_1_ok {N : Nat} {t1 : Int} {res : Unit} (hF : history_Types_1 N t1 = some res) (w : World) :
    Pure Try.prog 102 [.int .i64 t1] w (.bool ((decide (t1 < 1)) || (decide (5 < t1)))) := by
  refine W.enter (n := 9) Try.func102 rfl rfl Sub.refl (by simp) (St.start w) fun R hR => ?_
  unfold history_Types_1 at hF
  -- region 0: history.go:54
  refine W.seqR fun Q1 hQ1 => ?_
  refine WL.q (Y.assign (.pl rfl)) rfl ?_
  refine WL.next hQ1 (.cons (i := 0) rfl (.nil)) ?_
  -- region 1: history.go:54
  refine W.seqR fun Q2 hQ2 => ?_
  refine WL.q (Y.move (.pl rfl)) rfl ?_
  refine WL.q (Y.lss (.pl rfl) (.pl rfl)) rfl ?_
  refine WL.q (Y.move (.pl rfl)) rfl ?_
  refine WL.g (.pl rfl rfl rfl) (fun hg => Y.move (.pl rfl)) rfl ?_
  refine WL.g (.pl rfl rfl rfl) (fun hg => Y.gtr (.gd (hg) rfl) (.pl rfl)) rfl ?_
  refine WL.q (Y.or (.pl rfl) (fun h2 => .gd (eqf h2) rfl)) rfl ?_
  refine WL.q (Y.assign (.pl rfl)) rfl ?_
  refine WL.next hQ2 (.cons (i := 2) rfl (.nil)) ?_
  obtain rfl := Option.some.inj hF
  refine W.retV (fn := Try.f102) (vs := [.bool ((decide (t1 < 1)) || (decide (5 < t1)))]) Try.results102 ⟨.tmp rfl, trivial⟩ (fun _ _ h => h) (fun w hw => ?_)
  exact hR _ _ ⟨rfl, (hw.pick [] rfl)⟩

def slices_IndexFunc_int_int_L3 (N : Nat) (s1 : (List Int)) : Int → Option (Int ⊕ (Unit ⊕ Int))
  | v6 =>
    cond (decide (v6 < ((s1).length : Int)))
      (bd (ix s1 v6) fun (x7 : Int) =>
      bd (history_Types_1 N x7) fun (r8 : Unit) =>
      cond ((decide (x7 < 1)) || (decide (5 < x7)))
        (some (.inr (.inr v6)))
        (ck (ok64 (v6 + 1)) <|
        some (.inl (v6 + 1))))
      (some (.inr (.inl ())))

def slices_IndexFunc_int_int (N : Nat) (s1 : (List Int)) : Option Int :=
  bd (α := (Unit ⊕ Int)) (iter (slices_IndexFunc_int_int_L3 N s1) N 0) <|
  Sum.elim (fun _ => 
    some (-1)) (fun p => some p)

theorem slices_IndexFunc_int_int_ok {N : Nat} {s1 : (List Int)} {res : Int} (hF : slices_IndexFunc_int_int N s1 = some res) (w : World) {v5 : Value} (hs4 : SlIn (eI .i64) 1 w v5 s1) :
    Pure Try.prog 125 [v5, .func (.func 102) #[] #[]] w (.int .i64 res) := by
  obtain ⟨A2, c3, rfl, hcc3, hs4⟩ := hs4.form
  refine W.enter (n := 19) Try.func125 rfl rfl Sub.refl (by simp) (St.start w) fun R hR => ?_
  unfold slices_IndexFunc_int_int at hF
  -- region 0: slices.go:107
  refine W.seqR fun Q1 hQ1 => ?_
  refine WL.q (Y.assign (.pl rfl)) rfl ?_
  refine WL.next hQ1 (.cons (i := 0) rfl (.cons (i := 1) rfl (.nil))) ?_
  obtain ⟨o2, hF2, hF⟩ := bnd hF
  refine W.join0 (Em := []) (M := []) (I := (.inl ()) = o2) (.nil) (fun K3 hK3 => ?_) ?_
  · -- up to
    -- region 1: slices.go:108
    refine W.seqR fun Q4 hQ4 => ?_
    refine WL.q (Y.move (.pl rfl)) rfl ?_
    refine WL.q (Y.len Try.underlying23 (.pl rfl)) rfl ?_
    refine WL.q (Y.move (.pl rfl)) rfl ?_
    refine WL.next hQ4 (.cons (i := 0) rfl (.cons (i := 1) rfl (.cons (i := 7) rfl (.cons (i := 8) rfl (.nil))))) ?_
    refine W.block ?_
    refine W.loop1 (Em := fun (v6 : Int) => [(8, .int .i64 v6)]) (M := fun v6 => []) (I := fun v6 k5 => iter (slices_IndexFunc_int_int_L3 N s1) k5 v6 = some o2) 0 N (hF2) (.cons rfl (.nil)) (.cons (i := 0) rfl (.cons (i := 1) rfl (.cons (i := 7) rfl (.nil)))) (fun w hw => hw.pick [] rfl) (fun v6 k5 hI K6 hK6 => ?_)
    obtain ⟨k5, t5, rfl, hF5, hN5⟩ := iter_step hI
    -- region 2: slices.go:108
    refine W.seqR fun Q7 hQ7 => ?_
    refine WL.q (Y.lss (.pl rfl) (.pl rfl)) rfl ?_
    refine WL.next hQ7 (.cons (i := 0) rfl (.cons (i := 1) rfl (.cons (i := 7) rfl (.cons (i := 8) rfl (.cons (i := 9) rfl (.nil)))))) ?_
    refine W.seq fun K8 hK8 => ?_
    refine W.cond (.pl rfl) (fun hC9 => ?_) (fun hC9 => ?_)
    · replace hF5 := cpos hC9 hF5
      refine W.skip ?_
      refine W.go hK8 (.cons (i := 0) rfl (.cons (i := 1) rfl (.cons (i := 7) rfl (.cons (i := 8) rfl (.nil))))) ?_
      refine W.seq fun K10 hK10 => ?_
      refine W.block ?_
      -- region 3: slices.go:108
      refine W.seqR fun Q11 hQ11 => ?_
      refine WL.q (Y.move (.pl rfl)) rfl ?_
      refine WL.q (Y.assign (.pl rfl)) rfl ?_
      refine WL.next hQ11 (.cons (i := 0) rfl (.cons (i := 1) rfl (.cons (i := 5) rfl (.cons (i := 7) rfl (.cons (i := 8) rfl (.nil)))))) ?_
      -- region 4: slices.go:109
      refine W.seqR fun Q12 hQ12 => ?_
      refine WL.q (Y.move (.pl rfl)) rfl ?_
      refine WL.q (Y.move (.pl rfl)) rfl ?_
      refine WL.q (Y.move (.pl rfl)) rfl ?_
      obtain ⟨x7, hx7, hF5⟩ := bnd hF5
      refine WL.q (Y.slEl Try.underlying23 cells3 hs4 (.pl rfl) (.pl rfl) (ix_lt (hx7))) rfl ?_
      refine WL.q (Y.loadS (enc := (eI .i64)) (v := .int .i64 x7) (j := 0) Try.underlying3 rfl hs4 (.pl rfl) (hx7) rfl rfl) rfl ?_
      obtain ⟨r8, hr8, hF5⟩ := bnd hF5
      refine WL.step (WO.callG (γ := Unit) (first := []) (cap := []) (fun g => .bool ((decide (x7 < 1)) || (decide (5 < x7)))) (fun g => []) (fun _ => True) isGo102 (.pl rfl) (.cons (.pl rfl) (.nil)) rfl (fun w hw => (history_Types_1_ok (hr8) w ).calls hw) ?_)
      rintro _ -
      refine WL.next hQ12 (.cons (i := 0) rfl (.cons (i := 1) rfl (.cons (i := 5) rfl (.cons (i := 7) rfl (.cons (i := 8) rfl (.cons (i := 16) rfl (.nil))))))) ?_
      refine W.cond (.pl rfl) (fun hC13 => ?_) (fun hC13 => ?_)
      · replace hF5 := cpos hC13 hF5
        -- region 5: slices.go:110
        refine W.seqR fun Q14 hQ14 => ?_
        refine WL.q (Y.move (.pl rfl)) rfl ?_
        refine WL.q (Y.assign (.pl rfl)) rfl ?_
        refine WL.next hQ14 (.cons (i := 4) rfl (.nil)) ?_
        obtain rfl := Option.some.inj hF5
        obtain rfl := einr hN5
        obtain rfl := Option.some.inj hF
        refine W.retV (fn := Try.f125) (vs := [.int .i64 v6]) Try.results125 ⟨.tmp rfl, trivial⟩ (fun _ _ h => h) (fun w hw => ?_)
        exact hR _ _ ⟨rfl, (hw.pick [] rfl)⟩
      · replace hF5 := cneg hC13 hF5
        refine W.skip ?_
        refine W.go hK10 (.cons (i := 0) rfl (.cons (i := 1) rfl (.cons (i := 7) rfl (.cons (i := 8) rfl (.nil))))) ?_
        -- region 6: slices.go:108
        refine W.reg ?_
        obtain ⟨hk9, hF5⟩ := ckh hF5
        refine WL.q (Y.add (.pl rfl) (.pl rfl) (ok64_lt (hk9))) rfl ?_
        refine WL.q (Y.move (.pl rfl)) rfl ?_
        refine WL.nil ?_
        obtain rfl := Option.some.inj hF5
        exact W.again1 hK6 (v6 + 1) k5 hN5 (Nat.lt_succ_self _) (.cons rfl (.nil)) (.cons (i := 0) rfl (.cons (i := 1) rfl (.cons (i := 7) rfl (.nil)))) (fun w hw => hw.pick [] rfl)
    · replace hF5 := cneg hC9 hF5
      refine W.exit ?_
      obtain rfl := Option.some.inj hF5
      exact W.joinAt0 hK3  (einr hN5) (.nil) (.nil) (fun w hw => hw.pick [] rfl)
  · -- behind
    rintro  rfl
    -- region 7: slices.go:113
    refine W.seqR fun Q16 hQ16 => ?_
    refine WL.q (Y.assign (.pl rfl)) rfl ?_
    refine WL.next hQ16 (.cons (i := 4) rfl (.nil)) ?_
    obtain rfl := Option.some.inj hF
    refine W.retV (fn := Try.f125) (vs := [.int .i64 (-1)]) Try.results125 ⟨.tmp rfl, trivial⟩ (fun _ _ h => h) (fun w hw => ?_)
    exact hR _ _ ⟨rfl, (hw.pick [] rfl)⟩

def slices_ContainsFunc_int_int (N : Nat) (s1 : (List Int)) : Option Bool :=
  bd (slices_IndexFunc_int_int N s1) fun (r6 : Int) =>
  some (decide (0 ≤ r6))

theorem slices_ContainsFunc_int_int_ok {N : Nat} {s1 : (List Int)} {res : Bool} (hF : slices_ContainsFunc_int_int N s1 = some res) (w : World) {v5 : Value} (hs4 : SlIn (eI .i64) 1 w v5 s1) :
    Pure Try.prog 103 [v5, .func (.func 102) #[] #[]] w (.bool res) := by
  obtain ⟨A2, c3, rfl, hcc3, hs4⟩ := hs4.form
  refine W.enter (n := 9) Try.func103 rfl rfl Sub.refl (by simp) (St.start w) fun R hR => ?_
  unfold slices_ContainsFunc_int_int at hF
  -- region 0: slices.go:124
  refine W.seqR fun Q1 hQ1 => ?_
  refine WL.q (Y.assign (.pl rfl)) rfl ?_
  refine WL.next hQ1 (.cons (i := 0) rfl (.cons (i := 1) rfl (.nil))) ?_
  -- region 1: slices.go:125
  refine W.seqR fun Q2 hQ2 => ?_
  refine WL.q (Y.move (.pl rfl)) rfl ?_
  refine WL.q (Y.move (.pl rfl)) rfl ?_
  obtain ⟨r6, hr6, hF⟩ := bnd hF
  refine WL.step (WO.callP isGo125 (.cons (.pl rfl) (.cons (.pl rfl) (.nil))) rfl (fun w hw => slices_IndexFunc_int_int_ok (hr6) w (hs4.mono hw)) ?_)
  refine WL.q (Y.geq (.pl rfl) (.pl rfl)) rfl ?_
  refine WL.q (Y.assign (.pl rfl)) rfl ?_
  refine WL.next hQ2 (.cons (i := 4) rfl (.nil)) ?_
  obtain rfl := Option.some.inj hF
  refine W.retV (fn := Try.f103) (vs := [.bool (decide (0 ≤ r6))]) Try.results103 ⟨.tmp rfl, trivial⟩ (fun _ _ h => h) (fun w hw => ?_)
  exact hR _ _ ⟨rfl, (hw.pick [] rfl)⟩

def history_Types (N : Nat) (types1 : (List Int)) : Option Int :=
  bd ((cond (((decide (((types1).length : Int) < 1)) || (decide (4 < ((types1).length : Int)))) == false) (slices_ContainsFunc_int_int N types1) (some false))) fun (r6 : Bool) =>
  cond (((decide (((types1).length : Int) < 1)) || (decide (4 < ((types1).length : Int)))) || r6)
    (some 1)
    (some 0)

theorem history_Types_ok {N : Nat} {types1 : (List Int)} {res : Int} (hF : history_Types N types1 = some res) (w : World) {v5 : Value} (hs4 : SlIn (eI .i64) 1 w v5 types1) :
    Pure Try.prog 70 [v5] w (.int .i64 res) := by
  obtain ⟨A2, c3, rfl, hcc3, hs4⟩ := hs4.form
  refine W.enter (n := 17) Try.func70 rfl rfl Sub.refl (by simp) (St.start w) fun R hR => ?_
  unfold history_Types at hF
  -- region 0: history.go:53
  refine W.seqR fun Q1 hQ1 => ?_
  refine WL.q (Y.assign (.pl rfl)) rfl ?_
  refine WL.next hQ1 (.cons (i := 0) rfl (.nil)) ?_
  -- region 1: history.go:54
  refine W.seqR fun Q2 hQ2 => ?_
  refine WL.q (Y.assign (.pl rfl)) rfl ?_
  refine WL.next hQ2 (.cons (i := 0) rfl (.cons (i := 3) rfl (.nil))) ?_
  refine W.seq fun K3 hK3 => ?_
  -- region 2: history.go:55
  refine W.seqR fun Q4 hQ4 => ?_
  refine WL.q (Y.move (.pl rfl)) rfl ?_
  refine WL.q (Y.len Try.underlying23 (.pl rfl)) rfl ?_
  refine WL.q (Y.lss (.pl rfl) (.pl rfl)) rfl ?_
  refine WL.q (Y.move (.pl rfl)) rfl ?_
  refine WL.g (.pl rfl rfl rfl) (fun hg => Y.move (.pl rfl)) rfl ?_
  refine WL.g (.pl rfl rfl rfl) (fun hg => Y.len Try.underlying23 (.gd (hg) rfl)) rfl ?_
  refine WL.g (.pl rfl rfl rfl) (fun hg => Y.gtr (.gd (hg) rfl) (.pl rfl)) rfl ?_
  refine WL.q (Y.or (.pl rfl) (fun h2 => .gd (eqf h2) rfl)) rfl ?_
  refine WL.q (Y.move (.pl rfl)) rfl ?_
  refine WL.g (.pl rfl rfl rfl) (fun hg => Y.move (.pl rfl)) rfl ?_
  refine WL.g (.pl rfl rfl rfl) (fun hg => Y.move (.pl rfl)) rfl ?_
  obtain ⟨r6, hr6, hF⟩ := bnd hF
  refine WL.gP (.pl rfl rfl rfl) isGo103 (fun hg => (.cons (.gd (hg) rfl) (.cons (.gd (hg) rfl) (.nil)))) rfl (fun hg w hw => slices_ContainsFunc_int_int_ok (gpos hg hr6) w (hs4.mono hw)) ?_
  refine WL.q (Y.or (.pl rfl) (fun h2 => .gd (eqf h2) rfl)) rfl ?_
  refine WL.next hQ4 (.cons (i := 16) rfl (.nil)) ?_
  refine W.cond (.pl rfl) (fun hC5 => ?_) (fun hC5 => ?_)
  · replace hF := cpos hC5 hF
    -- region 3: history.go:56
    refine W.seqR fun Q6 hQ6 => ?_
    refine WL.q (Y.assign (.pl rfl)) rfl ?_
    refine WL.next hQ6 (.cons (i := 2) rfl (.nil)) ?_
    obtain rfl := Option.some.inj hF
    refine W.retV (fn := Try.f70) (vs := [.int .i64 1]) Try.results70 ⟨.tmp rfl, trivial⟩ (fun _ _ h => h) (fun w hw => ?_)
    exact hR _ _ ⟨rfl, (hw.pick [] rfl)⟩
  · replace hF := cneg hC5 hF
    refine W.skip ?_
    refine W.go hK3 (.nil) ?_
    -- region 4: history.go:58
    refine W.seqR fun Q7 hQ7 => ?_
    refine WL.q (Y.assign (.pl rfl)) rfl ?_
    refine WL.next hQ7 (.cons (i := 2) rfl (.nil)) ?_
    obtain rfl := Option.some.inj hF
    refine W.retV (fn := Try.f70) (vs := [.int .i64 0]) Try.results70 ⟨.tmp rfl, trivial⟩ (fun _ _ h => h) (fun w hw => ?_)
    exact hR _ _ ⟨rfl, (hw.pick [] rfl)⟩

def history_typeOf (N : Nat) (kind1 : Int) : Option Int :=
  bd (α := Bool) (cond (decide (kind1 = 1))
      (some (decide (kind1 = 1)))
      (some (decide (kind1 = 2)))) <|
  fun (v2 : Bool) => 
    cond v2
      (some 1)
      (bd (α := Bool) (cond (decide (kind1 = 3))
          (some (decide (kind1 = 3)))
          (some (decide (kind1 = 4)))) <|
      fun (v3 : Bool) => 
        cond v3
          (some 2)
          (bd (α := Bool) (cond (decide (kind1 = 5))
              (some (decide (kind1 = 5)))
              (some (decide (kind1 = 6)))) <|
          fun (v4 : Bool) => 
            cond v4
              (some 3)
              (bd (α := Bool) (cond (decide (kind1 = 7))
                  (some (decide (kind1 = 7)))
                  (cond (decide (kind1 = 8))
                    (some (decide (kind1 = 8)))
                    (some (decide (kind1 = 9))))) <|
              fun (v5 : Bool) => 
                cond v5
                  (some 4)
                  (cond (decide (kind1 = 10))
                    (some 5)
                    (some 0)))))

theorem history_typeOf_ok {N : Nat} {kind1 : Int} {res : Int} (hF : history_typeOf N kind1 = some res) (w : World) :
    Pure Try.prog 126 [.int .i64 kind1] w (.int .i64 res) := by
  refine W.enter (n := 19) Try.func126 rfl rfl Sub.refl (by simp) (St.start w) fun R hR => ?_
  unfold history_typeOf at hF
  -- region 0: history.go:11
  refine W.seqR fun Q1 hQ1 => ?_
  refine WL.q (Y.assign (.pl rfl)) rfl ?_
  refine WL.next hQ1 (.cons (i := 0) rfl (.nil)) ?_
  refine W.seq fun K2 hK2 => ?_
  -- region 1: history.go:12
  refine W.seqR fun Q3 hQ3 => ?_
  refine WL.q (Y.move (.pl rfl)) rfl ?_
  refine WL.next hQ3 (.cons (i := 3) rfl (.nil)) ?_
  refine W.block ?_
  obtain ⟨o4, hF4, hF⟩ := bnd hF
  refine W.join1 (Em := fun (v2 : Bool) => [(4, .bool v2)]) (M := fun v2 => []) (I := fun v2 => v2 = o4) (.cons (i := 3) rfl (.nil)) (fun K5 hK5 => ?_) ?_
  · -- up to
    -- region 2: history.go:13
    refine W.seqR fun Q6 hQ6 => ?_
    refine WL.q (Y.eql (.pl rfl) (.pl rfl)) rfl ?_
    refine WL.q (Y.assign (.pl rfl)) rfl ?_
    refine WL.next hQ6 (.cons (i := 3) rfl (.cons (i := 4) rfl (.nil))) ?_
    refine W.cond (.pl rfl) (fun hC7 => ?_) (fun hC7 => ?_)
    · replace hF4 := cpos hC7 hF4
      refine W.skip ?_
      exact W.joinAt1 hK5 (decide (kind1 = 1)) (Option.some.inj hF4) (.cons rfl (.nil)) (.cons (i := 3) rfl (.nil)) (fun w hw => hw.pick [] rfl)
    · replace hF4 := cneg hC7 hF4
      -- region 3: history.go:13
      refine W.reg ?_
      refine WL.q (Y.eql (.pl rfl) (.pl rfl)) rfl ?_
      refine WL.q (Y.assign (.pl rfl)) rfl ?_
      refine WL.nil ?_
      exact W.joinAt1 hK5 (decide (kind1 = 2)) (Option.some.inj hF4) (.cons rfl (.nil)) (.cons (i := 3) rfl (.nil)) (fun w hw => hw.pick [] rfl)
  · -- behind
    rintro v2 rfl
    refine W.cond (.pl rfl) (fun hC9 => ?_) (fun hC9 => ?_)
    · replace hF := cpos hC9 hF
      -- region 4: history.go:14
      refine W.seqR fun Q10 hQ10 => ?_
      refine WL.q (Y.assign (.pl rfl)) rfl ?_
      refine WL.next hQ10 (.cons (i := 2) rfl (.nil)) ?_
      obtain rfl := Option.some.inj hF
      refine W.retV (fn := Try.f126) (vs := [.int .i64 1]) Try.results126 ⟨.tmp rfl, trivial⟩ (fun _ _ h => h) (fun w hw => ?_)
      exact hR _ _ ⟨rfl, (hw.pick [] rfl)⟩
    · replace hF := cneg hC9 hF
      obtain ⟨o11, hF11, hF⟩ := bnd hF
      refine W.join1 (Em := fun (v3 : Bool) => [(7, .bool v3)]) (M := fun v3 => []) (I := fun v3 => v3 = o11) (.cons (i := 3) rfl (.nil)) (fun K12 hK12 => ?_) ?_
      · -- up to
        -- region 5: history.go:15
        refine W.seqR fun Q13 hQ13 => ?_
        refine WL.q (Y.eql (.pl rfl) (.pl rfl)) rfl ?_
        refine WL.q (Y.assign (.pl rfl)) rfl ?_
        refine WL.next hQ13 (.cons (i := 3) rfl (.cons (i := 7) rfl (.nil))) ?_
        refine W.cond (.pl rfl) (fun hC14 => ?_) (fun hC14 => ?_)
        · replace hF11 := cpos hC14 hF11
          refine W.skip ?_
          exact W.joinAt1 hK12 (decide (kind1 = 3)) (Option.some.inj hF11) (.cons rfl (.nil)) (.cons (i := 3) rfl (.nil)) (fun w hw => hw.pick [] rfl)
        · replace hF11 := cneg hC14 hF11
          -- region 6: history.go:15
          refine W.reg ?_
          refine WL.q (Y.eql (.pl rfl) (.pl rfl)) rfl ?_
          refine WL.q (Y.assign (.pl rfl)) rfl ?_
          refine WL.nil ?_
          exact W.joinAt1 hK12 (decide (kind1 = 4)) (Option.some.inj hF11) (.cons rfl (.nil)) (.cons (i := 3) rfl (.nil)) (fun w hw => hw.pick [] rfl)
      · -- behind
        rintro v3 rfl
        refine W.cond (.pl rfl) (fun hC16 => ?_) (fun hC16 => ?_)
        · replace hF := cpos hC16 hF
          -- region 7: history.go:16
          refine W.seqR fun Q17 hQ17 => ?_
          refine WL.q (Y.assign (.pl rfl)) rfl ?_
          refine WL.next hQ17 (.cons (i := 2) rfl (.nil)) ?_
          obtain rfl := Option.some.inj hF
          refine W.retV (fn := Try.f126) (vs := [.int .i64 2]) Try.results126 ⟨.tmp rfl, trivial⟩ (fun _ _ h => h) (fun w hw => ?_)
          exact hR _ _ ⟨rfl, (hw.pick [] rfl)⟩
        · replace hF := cneg hC16 hF
          obtain ⟨o18, hF18, hF⟩ := bnd hF
          refine W.join1 (Em := fun (v4 : Bool) => [(10, .bool v4)]) (M := fun v4 => []) (I := fun v4 => v4 = o18) (.cons (i := 3) rfl (.nil)) (fun K19 hK19 => ?_) ?_
          · -- up to
            -- region 8: history.go:17
            refine W.seqR fun Q20 hQ20 => ?_
            refine WL.q (Y.eql (.pl rfl) (.pl rfl)) rfl ?_
            refine WL.q (Y.assign (.pl rfl)) rfl ?_
            refine WL.next hQ20 (.cons (i := 3) rfl (.cons (i := 10) rfl (.nil))) ?_
            refine W.cond (.pl rfl) (fun hC21 => ?_) (fun hC21 => ?_)
            · replace hF18 := cpos hC21 hF18
              refine W.skip ?_
              exact W.joinAt1 hK19 (decide (kind1 = 5)) (Option.some.inj hF18) (.cons rfl (.nil)) (.cons (i := 3) rfl (.nil)) (fun w hw => hw.pick [] rfl)
            · replace hF18 := cneg hC21 hF18
              -- region 9: history.go:17
              refine W.reg ?_
              refine WL.q (Y.eql (.pl rfl) (.pl rfl)) rfl ?_
              refine WL.q (Y.assign (.pl rfl)) rfl ?_
              refine WL.nil ?_
              exact W.joinAt1 hK19 (decide (kind1 = 6)) (Option.some.inj hF18) (.cons rfl (.nil)) (.cons (i := 3) rfl (.nil)) (fun w hw => hw.pick [] rfl)
          · -- behind
            rintro v4 rfl
            refine W.cond (.pl rfl) (fun hC23 => ?_) (fun hC23 => ?_)
            · replace hF := cpos hC23 hF
              -- region 10: history.go:18
              refine W.seqR fun Q24 hQ24 => ?_
              refine WL.q (Y.assign (.pl rfl)) rfl ?_
              refine WL.next hQ24 (.cons (i := 2) rfl (.nil)) ?_
              obtain rfl := Option.some.inj hF
              refine W.retV (fn := Try.f126) (vs := [.int .i64 3]) Try.results126 ⟨.tmp rfl, trivial⟩ (fun _ _ h => h) (fun w hw => ?_)
              exact hR _ _ ⟨rfl, (hw.pick [] rfl)⟩
            · replace hF := cneg hC23 hF
              obtain ⟨o25, hF25, hF⟩ := bnd hF
              refine W.join1 (Em := fun (v5 : Bool) => [(13, .bool v5)]) (M := fun v5 => []) (I := fun v5 => v5 = o25) (.cons (i := 3) rfl (.nil)) (fun K26 hK26 => ?_) ?_
              · -- up to
                -- region 11: history.go:19
                refine W.seqR fun Q27 hQ27 => ?_
                refine WL.q (Y.eql (.pl rfl) (.pl rfl)) rfl ?_
                refine WL.q (Y.assign (.pl rfl)) rfl ?_
                refine WL.next hQ27 (.cons (i := 3) rfl (.cons (i := 13) rfl (.nil))) ?_
                refine W.cond (.pl rfl) (fun hC28 => ?_) (fun hC28 => ?_)
                · replace hF25 := cpos hC28 hF25
                  refine W.skip ?_
                  exact W.joinAt1 hK26 (decide (kind1 = 7)) (Option.some.inj hF25) (.cons rfl (.nil)) (.cons (i := 3) rfl (.nil)) (fun w hw => hw.pick [] rfl)
                · replace hF25 := cneg hC28 hF25
                  -- region 12: history.go:19
                  refine W.seqR fun Q29 hQ29 => ?_
                  refine WL.q (Y.eql (.pl rfl) (.pl rfl)) rfl ?_
                  refine WL.q (Y.assign (.pl rfl)) rfl ?_
                  refine WL.next hQ29 (.cons (i := 3) rfl (.cons (i := 13) rfl (.nil))) ?_
                  refine W.cond (.pl rfl) (fun hC30 => ?_) (fun hC30 => ?_)
                  · replace hF25 := cpos hC30 hF25
                    refine W.skip ?_
                    exact W.joinAt1 hK26 (decide (kind1 = 8)) (Option.some.inj hF25) (.cons rfl (.nil)) (.cons (i := 3) rfl (.nil)) (fun w hw => hw.pick [] rfl)
                  · replace hF25 := cneg hC30 hF25
                    -- region 13: history.go:19
                    refine W.reg ?_
                    refine WL.q (Y.eql (.pl rfl) (.pl rfl)) rfl ?_
                    refine WL.q (Y.assign (.pl rfl)) rfl ?_
                    refine WL.nil ?_
                    exact W.joinAt1 hK26 (decide (kind1 = 9)) (Option.some.inj hF25) (.cons rfl (.nil)) (.cons (i := 3) rfl (.nil)) (fun w hw => hw.pick [] rfl)
              · -- behind
                rintro v5 rfl
                refine W.cond (.pl rfl) (fun hC32 => ?_) (fun hC32 => ?_)
                · replace hF := cpos hC32 hF
                  -- region 14: history.go:20
                  refine W.seqR fun Q33 hQ33 => ?_
                  refine WL.q (Y.assign (.pl rfl)) rfl ?_
                  refine WL.next hQ33 (.cons (i := 2) rfl (.nil)) ?_
                  obtain rfl := Option.some.inj hF
                  refine W.retV (fn := Try.f126) (vs := [.int .i64 4]) Try.results126 ⟨.tmp rfl, trivial⟩ (fun _ _ h => h) (fun w hw => ?_)
                  exact hR _ _ ⟨rfl, (hw.pick [] rfl)⟩
                · replace hF := cneg hC32 hF
                  -- region 15: history.go:21
                  refine W.seqR fun Q34 hQ34 => ?_
                  refine WL.q (Y.eql (.pl rfl) (.pl rfl)) rfl ?_
                  refine WL.q (Y.assign (.pl rfl)) rfl ?_
                  refine WL.next hQ34 (.cons (i := 17) rfl (.nil)) ?_
                  refine W.cond (.pl rfl) (fun hC35 => ?_) (fun hC35 => ?_)
                  · replace hF := cpos hC35 hF
                    -- region 16: history.go:22
                    refine W.seqR fun Q36 hQ36 => ?_
                    refine WL.q (Y.assign (.pl rfl)) rfl ?_
                    refine WL.next hQ36 (.cons (i := 2) rfl (.nil)) ?_
                    obtain rfl := Option.some.inj hF
                    refine W.retV (fn := Try.f126) (vs := [.int .i64 5]) Try.results126 ⟨.tmp rfl, trivial⟩ (fun _ _ h => h) (fun w hw => ?_)
                    exact hR _ _ ⟨rfl, (hw.pick [] rfl)⟩
                  · replace hF := cneg hC35 hF
                    refine W.skip ?_
                    refine W.go hK2 (.nil) ?_
                    -- region 17: history.go:24
                    refine W.seqR fun Q37 hQ37 => ?_
                    refine WL.q (Y.assign (.pl rfl)) rfl ?_
                    refine WL.next hQ37 (.cons (i := 2) rfl (.nil)) ?_
                    obtain rfl := Option.some.inj hF
                    refine W.retV (fn := Try.f126) (vs := [.int .i64 0]) Try.results126 ⟨.tmp rfl, trivial⟩ (fun _ _ h => h) (fun w hw => ?_)
                    exact hR _ _ ⟨rfl, (hw.pick [] rfl)⟩

def history_Fits (N : Nat) (typ1 : Int) (kind2 : Int) : Option Bool :=
  bd ((cond ((!(decide (typ1 = 0))) == true) (history_typeOf N kind2) (some 0))) fun (r3 : Int) =>
  some ((!(decide (typ1 = 0))) && (decide (r3 = typ1)))

theorem history_Fits_ok {N : Nat} {typ1 : Int} {kind2 : Int} {res : Bool} (hF : history_Fits N typ1 kind2 = some res) (w : World) :
    Pure Try.prog 104 [.int .i64 typ1, .int .i64 kind2] w (.bool res) := by
  refine W.enter (n := 13) Try.func104 rfl rfl Sub.refl (by simp) (St.start w) fun R hR => ?_
  unfold history_Fits at hF
  -- region 0: history.go:28
  refine W.seqR fun Q1 hQ1 => ?_
  refine WL.q (Y.assign (.pl rfl)) rfl ?_
  refine WL.next hQ1 (.cons (i := 0) rfl (.cons (i := 1) rfl (.nil))) ?_
  -- region 1: history.go:28
  refine W.seqR fun Q2 hQ2 => ?_
  refine WL.q (Y.move (.pl rfl)) rfl ?_
  refine WL.q (Y.neq (.pl rfl) (.pl rfl)) rfl ?_
  refine WL.q (Y.move (.pl rfl)) rfl ?_
  refine WL.g (.pl rfl rfl rfl) (fun hg => Y.move (.pl rfl)) rfl ?_
  obtain ⟨r3, hr3, hF⟩ := bnd hF
  refine WL.gP (.pl rfl rfl rfl) isGo126 (fun hg => (.cons (.gd (hg) rfl) (.nil))) rfl (fun hg w hw => history_typeOf_ok (gpos hg hr3) w ) ?_
  refine WL.g (.pl rfl rfl rfl) (fun hg => Y.move (.pl rfl)) rfl ?_
  refine WL.g (.pl rfl rfl rfl) (fun hg => Y.eql (.gd (hg) rfl) (.gd (hg) rfl)) rfl ?_
  refine WL.q (Y.and (.pl rfl) (fun h2 => .gd (eqt h2) rfl)) rfl ?_
  refine WL.q (Y.assign (.pl rfl)) rfl ?_
  refine WL.next hQ2 (.cons (i := 4) rfl (.nil)) ?_
  obtain rfl := Option.some.inj hF
  refine W.retV (fn := Try.f104) (vs := [.bool ((!(decide (typ1 = 0))) && (decide (r3 = typ1)))]) Try.results104 ⟨.tmp rfl, trivial⟩ (fun _ _ h => h) (fun w hw => ?_)
  exact hR _ _ ⟨rfl, (hw.pick [] rfl)⟩

def history_Argument (N : Nat) (kind1 : Int) (n2 : Int) : Option Bool :=
  bd (α := (Unit ⊕ Bool)) (cond (decide (kind1 = 2))
      (cond (decide (kind1 = 2))
        (some (.inr (decide (n2 = 0))))
        (some (.inl ())))
      (cond (decide (kind1 = 4))
        (cond (decide (kind1 = 4))
          (some (.inr (decide (n2 = 0))))
          (some (.inl ())))
        (cond (decide (kind1 = 6))
          (cond (decide (kind1 = 6))
            (some (.inr (decide (n2 = 0))))
            (some (.inl ())))
          (cond (decide (kind1 = 10))
            (some (.inr (decide (n2 = 0))))
            (some (.inl ())))))) <|
  Sum.elim (fun _ => 
    some ((decide (1 ≤ n2)) && (decide (n2 ≤ 1000)))) (fun p => some p)

theorem history_Argument_ok {N : Nat} {kind1 : Int} {n2 : Int} {res : Bool} (hF : history_Argument N kind1 n2 = some res) (w : World) :
    Pure Try.prog 105 [.int .i64 kind1, .int .i64 n2] w (.bool res) := by
  refine W.enter (n := 19) Try.func105 rfl rfl Sub.refl (by simp) (St.start w) fun R hR => ?_
  unfold history_Argument at hF
  -- region 0: history.go:31
  refine W.seqR fun Q1 hQ1 => ?_
  refine WL.q (Y.assign (.pl rfl)) rfl ?_
  refine WL.next hQ1 (.cons (i := 0) rfl (.cons (i := 1) rfl (.nil))) ?_
  obtain ⟨o2, hF2, hF⟩ := bnd hF
  refine W.join0 (Em := []) (M := []) (I := (.inl ()) = o2) (.cons (i := 1) rfl (.nil)) (fun K3 hK3 => ?_) ?_
  · -- up to
    -- region 1: history.go:32
    refine W.seqR fun Q4 hQ4 => ?_
    refine WL.q (Y.move (.pl rfl)) rfl ?_
    refine WL.next hQ4 (.cons (i := 1) rfl (.cons (i := 5) rfl (.nil))) ?_
    refine W.block ?_
    refine W.seq fun K5 hK5 => ?_
    -- region 2: history.go:33
    refine W.seqR fun Q6 hQ6 => ?_
    refine WL.q (Y.eql (.pl rfl) (.pl rfl)) rfl ?_
    refine WL.q (Y.assign (.pl rfl)) rfl ?_
    refine WL.next hQ6 (.cons (i := 1) rfl (.cons (i := 5) rfl (.cons (i := 6) rfl (.nil)))) ?_
    refine W.cond (.pl rfl) (fun hC7 => ?_) (fun hC7 => ?_)
    · replace hF2 := cpos hC7 hF2
      refine W.skip ?_
      refine W.go hK5 (.cons (i := 1) rfl (.cons (i := 6) rfl (.nil))) ?_
      refine W.cond (.pl rfl) (fun hC8 => ?_) (fun hC8 => ?_)
      · replace hF2 := cpos hC8 hF2
        -- region 6: history.go:34
        refine W.seqR fun Q9 hQ9 => ?_
        refine WL.q (Y.move (.pl rfl)) rfl ?_
        refine WL.q (Y.eql (.pl rfl) (.pl rfl)) rfl ?_
        refine WL.q (Y.assign (.pl rfl)) rfl ?_
        refine WL.next hQ9 (.cons (i := 4) rfl (.nil)) ?_
        obtain rfl := Option.some.inj hF2
        obtain rfl := Option.some.inj hF
        refine W.retV (fn := Try.f105) (vs := [.bool (decide (n2 = 0))]) Try.results105 ⟨.tmp rfl, trivial⟩ (fun _ _ h => h) (fun w hw => ?_)
        exact hR _ _ ⟨rfl, (hw.pick [] rfl)⟩
      · replace hF2 := cneg hC8 hF2
        refine W.skip ?_
        exact W.joinAt0 hK3  (Option.some.inj hF2) (.nil) (.cons (i := 1) rfl (.nil)) (fun w hw => hw.pick [] rfl)
    · replace hF2 := cneg hC7 hF2
      -- region 3: history.go:33
      refine W.seqR fun Q10 hQ10 => ?_
      refine WL.q (Y.eql (.pl rfl) (.pl rfl)) rfl ?_
      refine WL.q (Y.assign (.pl rfl)) rfl ?_
      refine WL.next hQ10 (.cons (i := 1) rfl (.cons (i := 5) rfl (.cons (i := 6) rfl (.nil)))) ?_
      refine W.cond (.pl rfl) (fun hC11 => ?_) (fun hC11 => ?_)
      · replace hF2 := cpos hC11 hF2
        refine W.skip ?_
        refine W.go hK5 (.cons (i := 1) rfl (.cons (i := 6) rfl (.nil))) ?_
        refine W.cond (.pl rfl) (fun hC12 => ?_) (fun hC12 => ?_)
        · replace hF2 := cpos hC12 hF2
          -- region 6: history.go:34
          refine W.seqR fun Q13 hQ13 => ?_
          refine WL.q (Y.move (.pl rfl)) rfl ?_
          refine WL.q (Y.eql (.pl rfl) (.pl rfl)) rfl ?_
          refine WL.q (Y.assign (.pl rfl)) rfl ?_
          refine WL.next hQ13 (.cons (i := 4) rfl (.nil)) ?_
          obtain rfl := Option.some.inj hF2
          obtain rfl := Option.some.inj hF
          refine W.retV (fn := Try.f105) (vs := [.bool (decide (n2 = 0))]) Try.results105 ⟨.tmp rfl, trivial⟩ (fun _ _ h => h) (fun w hw => ?_)
          exact hR _ _ ⟨rfl, (hw.pick [] rfl)⟩
        · replace hF2 := cneg hC12 hF2
          refine W.skip ?_
          exact W.joinAt0 hK3  (Option.some.inj hF2) (.nil) (.cons (i := 1) rfl (.nil)) (fun w hw => hw.pick [] rfl)
      · replace hF2 := cneg hC11 hF2
        -- region 4: history.go:33
        refine W.seqR fun Q14 hQ14 => ?_
        refine WL.q (Y.eql (.pl rfl) (.pl rfl)) rfl ?_
        refine WL.q (Y.assign (.pl rfl)) rfl ?_
        refine WL.next hQ14 (.cons (i := 1) rfl (.cons (i := 5) rfl (.cons (i := 6) rfl (.nil)))) ?_
        refine W.cond (.pl rfl) (fun hC15 => ?_) (fun hC15 => ?_)
        · replace hF2 := cpos hC15 hF2
          refine W.skip ?_
          refine W.go hK5 (.cons (i := 1) rfl (.cons (i := 6) rfl (.nil))) ?_
          refine W.cond (.pl rfl) (fun hC16 => ?_) (fun hC16 => ?_)
          · replace hF2 := cpos hC16 hF2
            -- region 6: history.go:34
            refine W.seqR fun Q17 hQ17 => ?_
            refine WL.q (Y.move (.pl rfl)) rfl ?_
            refine WL.q (Y.eql (.pl rfl) (.pl rfl)) rfl ?_
            refine WL.q (Y.assign (.pl rfl)) rfl ?_
            refine WL.next hQ17 (.cons (i := 4) rfl (.nil)) ?_
            obtain rfl := Option.some.inj hF2
            obtain rfl := Option.some.inj hF
            refine W.retV (fn := Try.f105) (vs := [.bool (decide (n2 = 0))]) Try.results105 ⟨.tmp rfl, trivial⟩ (fun _ _ h => h) (fun w hw => ?_)
            exact hR _ _ ⟨rfl, (hw.pick [] rfl)⟩
          · replace hF2 := cneg hC16 hF2
            refine W.skip ?_
            exact W.joinAt0 hK3  (Option.some.inj hF2) (.nil) (.cons (i := 1) rfl (.nil)) (fun w hw => hw.pick [] rfl)
        · replace hF2 := cneg hC15 hF2
          -- region 5: history.go:33
          refine W.reg ?_
          refine WL.q (Y.eql (.pl rfl) (.pl rfl)) rfl ?_
          refine WL.q (Y.assign (.pl rfl)) rfl ?_
          refine WL.nil ?_
          refine W.go hK5 (.cons (i := 1) rfl (.cons (i := 6) rfl (.nil))) ?_
          refine W.cond (.pl rfl) (fun hC19 => ?_) (fun hC19 => ?_)
          · replace hF2 := cpos hC19 hF2
            -- region 6: history.go:34
            refine W.seqR fun Q20 hQ20 => ?_
            refine WL.q (Y.move (.pl rfl)) rfl ?_
            refine WL.q (Y.eql (.pl rfl) (.pl rfl)) rfl ?_
            refine WL.q (Y.assign (.pl rfl)) rfl ?_
            refine WL.next hQ20 (.cons (i := 4) rfl (.nil)) ?_
            obtain rfl := Option.some.inj hF2
            obtain rfl := Option.some.inj hF
            refine W.retV (fn := Try.f105) (vs := [.bool (decide (n2 = 0))]) Try.results105 ⟨.tmp rfl, trivial⟩ (fun _ _ h => h) (fun w hw => ?_)
            exact hR _ _ ⟨rfl, (hw.pick [] rfl)⟩
          · replace hF2 := cneg hC19 hF2
            refine W.skip ?_
            exact W.joinAt0 hK3  (Option.some.inj hF2) (.nil) (.cons (i := 1) rfl (.nil)) (fun w hw => hw.pick [] rfl)
  · -- behind
    rintro  rfl
    -- region 7: history.go:36
    refine W.seqR fun Q21 hQ21 => ?_
    refine WL.q (Y.move (.pl rfl)) rfl ?_
    refine WL.q (Y.geq (.pl rfl) (.pl rfl)) rfl ?_
    refine WL.q (Y.move (.pl rfl)) rfl ?_
    refine WL.g (.pl rfl rfl rfl) (fun hg => Y.move (.pl rfl)) rfl ?_
    refine WL.g (.pl rfl rfl rfl) (fun hg => Y.leq (.gd (hg) rfl) (.pl rfl)) rfl ?_
    refine WL.q (Y.and (.pl rfl) (fun h2 => .gd (eqt h2) rfl)) rfl ?_
    refine WL.q (Y.assign (.pl rfl)) rfl ?_
    refine WL.next hQ21 (.cons (i := 4) rfl (.nil)) ?_
    obtain rfl := Option.some.inj hF
    refine W.retV (fn := Try.f105) (vs := [.bool ((decide (1 ≤ n2)) && (decide (n2 ≤ 1000)))]) Try.results105 ⟨.tmp rfl, trivial⟩ (fun _ _ h => h) (fun w hw => ?_)
    exact hR _ _ ⟨rfl, (hw.pick [] rfl)⟩

def history_result (N : Nat) (kind1 : Int) (n2 : Int) : Option Bool :=
  bd (α := Bool) (cond (decide (kind1 = 2))
      (some (decide (kind1 = 2)))
      (some (decide (kind1 = 10)))) <|
  fun (v3 : Bool) => 
    cond v3
      (some ((decide (0 ≤ n2)) && (decide (n2 ≤ 1000))))
      (bd (α := Bool) (cond (decide (kind1 = 4))
          (some (decide (kind1 = 4)))
          (some (decide (kind1 = 6)))) <|
      fun (v4 : Bool) => 
        cond v4
          (some ((decide (n2 = (-1))) || ((decide (1 ≤ n2)) && (decide (n2 ≤ 1000)))))
          (bd (α := Bool) (cond (decide (kind1 = 7))
              (some (decide (kind1 = 7)))
              (cond (decide (kind1 = 8))
                (some (decide (kind1 = 8)))
                (some (decide (kind1 = 9))))) <|
          fun (v5 : Bool) => 
            cond v5
              (some ((decide (n2 = 0)) || (decide (n2 = 1))))
              (some (decide (n2 = 0)))))

theorem history_result_ok {N : Nat} {kind1 : Int} {n2 : Int} {res : Bool} (hF : history_result N kind1 n2 = some res) (w : World) :
    Pure Try.prog 106 [.int .i64 kind1, .int .i64 n2] w (.bool res) := by
  refine W.enter (n := 40) Try.func106 rfl rfl Sub.refl (by simp) (St.start w) fun R hR => ?_
  unfold history_result at hF
  -- region 0: history.go:40
  refine W.seqR fun Q1 hQ1 => ?_
  refine WL.q (Y.assign (.pl rfl)) rfl ?_
  refine WL.next hQ1 (.cons (i := 0) rfl (.cons (i := 1) rfl (.nil))) ?_
  refine W.seq fun K2 hK2 => ?_
  -- region 1: history.go:41
  refine W.seqR fun Q3 hQ3 => ?_
  refine WL.q (Y.move (.pl rfl)) rfl ?_
  refine WL.next hQ3 (.cons (i := 1) rfl (.cons (i := 5) rfl (.nil))) ?_
  refine W.block ?_
  obtain ⟨o4, hF4, hF⟩ := bnd hF
  refine W.join1 (Em := fun (v3 : Bool) => [(6, .bool v3)]) (M := fun v3 => []) (I := fun v3 => v3 = o4) (.cons (i := 1) rfl (.cons (i := 5) rfl (.nil))) (fun K5 hK5 => ?_) ?_
  · -- up to
    -- region 2: history.go:42
    refine W.seqR fun Q6 hQ6 => ?_
    refine WL.q (Y.eql (.pl rfl) (.pl rfl)) rfl ?_
    refine WL.q (Y.assign (.pl rfl)) rfl ?_
    refine WL.next hQ6 (.cons (i := 1) rfl (.cons (i := 5) rfl (.cons (i := 6) rfl (.nil)))) ?_
    refine W.cond (.pl rfl) (fun hC7 => ?_) (fun hC7 => ?_)
    · replace hF4 := cpos hC7 hF4
      refine W.skip ?_
      exact W.joinAt1 hK5 (decide (kind1 = 2)) (Option.some.inj hF4) (.cons rfl (.nil)) (.cons (i := 1) rfl (.cons (i := 5) rfl (.nil))) (fun w hw => hw.pick [] rfl)
    · replace hF4 := cneg hC7 hF4
      -- region 3: history.go:42
      refine W.reg ?_
      refine WL.q (Y.eql (.pl rfl) (.pl rfl)) rfl ?_
      refine WL.q (Y.assign (.pl rfl)) rfl ?_
      refine WL.nil ?_
      exact W.joinAt1 hK5 (decide (kind1 = 10)) (Option.some.inj hF4) (.cons rfl (.nil)) (.cons (i := 1) rfl (.cons (i := 5) rfl (.nil))) (fun w hw => hw.pick [] rfl)
  · -- behind
    rintro v3 rfl
    refine W.cond (.pl rfl) (fun hC9 => ?_) (fun hC9 => ?_)
    · replace hF := cpos hC9 hF
      -- region 4: history.go:43
      refine W.seqR fun Q10 hQ10 => ?_
      refine WL.q (Y.move (.pl rfl)) rfl ?_
      refine WL.q (Y.geq (.pl rfl) (.pl rfl)) rfl ?_
      refine WL.q (Y.move (.pl rfl)) rfl ?_
      refine WL.g (.pl rfl rfl rfl) (fun hg => Y.move (.pl rfl)) rfl ?_
      refine WL.g (.pl rfl rfl rfl) (fun hg => Y.leq (.gd (hg) rfl) (.pl rfl)) rfl ?_
      refine WL.q (Y.and (.pl rfl) (fun h2 => .gd (eqt h2) rfl)) rfl ?_
      refine WL.q (Y.assign (.pl rfl)) rfl ?_
      refine WL.next hQ10 (.cons (i := 4) rfl (.nil)) ?_
      obtain rfl := Option.some.inj hF
      refine W.retV (fn := Try.f106) (vs := [.bool ((decide (0 ≤ n2)) && (decide (n2 ≤ 1000)))]) Try.results106 ⟨.tmp rfl, trivial⟩ (fun _ _ h => h) (fun w hw => ?_)
      exact hR _ _ ⟨rfl, (hw.pick [] rfl)⟩
    · replace hF := cneg hC9 hF
      obtain ⟨o11, hF11, hF⟩ := bnd hF
      refine W.join1 (Em := fun (v4 : Bool) => [(15, .bool v4)]) (M := fun v4 => []) (I := fun v4 => v4 = o11) (.cons (i := 1) rfl (.cons (i := 5) rfl (.nil))) (fun K12 hK12 => ?_) ?_
      · -- up to
        -- region 5: history.go:44
        refine W.seqR fun Q13 hQ13 => ?_
        refine WL.q (Y.eql (.pl rfl) (.pl rfl)) rfl ?_
        refine WL.q (Y.assign (.pl rfl)) rfl ?_
        refine WL.next hQ13 (.cons (i := 1) rfl (.cons (i := 5) rfl (.cons (i := 15) rfl (.nil)))) ?_
        refine W.cond (.pl rfl) (fun hC14 => ?_) (fun hC14 => ?_)
        · replace hF11 := cpos hC14 hF11
          refine W.skip ?_
          exact W.joinAt1 hK12 (decide (kind1 = 4)) (Option.some.inj hF11) (.cons rfl (.nil)) (.cons (i := 1) rfl (.cons (i := 5) rfl (.nil))) (fun w hw => hw.pick [] rfl)
        · replace hF11 := cneg hC14 hF11
          -- region 6: history.go:44
          refine W.reg ?_
          refine WL.q (Y.eql (.pl rfl) (.pl rfl)) rfl ?_
          refine WL.q (Y.assign (.pl rfl)) rfl ?_
          refine WL.nil ?_
          exact W.joinAt1 hK12 (decide (kind1 = 6)) (Option.some.inj hF11) (.cons rfl (.nil)) (.cons (i := 1) rfl (.cons (i := 5) rfl (.nil))) (fun w hw => hw.pick [] rfl)
      · -- behind
        rintro v4 rfl
        refine W.cond (.pl rfl) (fun hC16 => ?_) (fun hC16 => ?_)
        · replace hF := cpos hC16 hF
          -- region 7: history.go:45
          refine W.seqR fun Q17 hQ17 => ?_
          refine WL.q (Y.move (.pl rfl)) rfl ?_
          refine WL.q (Y.eql (.pl rfl) (.pl rfl)) rfl ?_
          refine WL.q (Y.move (.pl rfl)) rfl ?_
          refine WL.g (.pl rfl rfl rfl) (fun hg => Y.move (.pl rfl)) rfl ?_
          refine WL.g (.pl rfl rfl rfl) (fun hg => Y.geq (.gd (hg) rfl) (.pl rfl)) rfl ?_
          refine WL.g (.pl rfl rfl rfl) (fun hg => Y.move (.gd (hg) rfl)) rfl ?_
          refine WL.g (.gd rfl rfl rfl) (fun hg => Y.move (.pl rfl)) rfl ?_
          refine WL.g (.gd rfl rfl rfl) (fun hg => Y.leq (.gd (hg) rfl) (.pl rfl)) rfl ?_
          refine WL.g (.pl rfl rfl rfl) (fun hg => Y.and (.gd (hg) rfl) (fun h2 => .gd (band hg (eqt h2)) rfl)) rfl ?_
          refine WL.q (Y.or (.pl rfl) (fun h2 => .gd (eqf h2) rfl)) rfl ?_
          refine WL.q (Y.assign (.pl rfl)) rfl ?_
          refine WL.next hQ17 (.cons (i := 4) rfl (.nil)) ?_
          obtain rfl := Option.some.inj hF
          refine W.retV (fn := Try.f106) (vs := [.bool ((decide (n2 = (-1))) || ((decide (1 ≤ n2)) && (decide (n2 ≤ 1000))))]) Try.results106 ⟨.tmp rfl, trivial⟩ (fun _ _ h => h) (fun w hw => ?_)
          exact hR _ _ ⟨rfl, (hw.pick [] rfl)⟩
        · replace hF := cneg hC16 hF
          obtain ⟨o18, hF18, hF⟩ := bnd hF
          refine W.join1 (Em := fun (v5 : Bool) => [(28, .bool v5)]) (M := fun v5 => []) (I := fun v5 => v5 = o18) (.cons (i := 1) rfl (.nil)) (fun K19 hK19 => ?_) ?_
          · -- up to
            -- region 8: history.go:46
            refine W.seqR fun Q20 hQ20 => ?_
            refine WL.q (Y.eql (.pl rfl) (.pl rfl)) rfl ?_
            refine WL.q (Y.assign (.pl rfl)) rfl ?_
            refine WL.next hQ20 (.cons (i := 1) rfl (.cons (i := 5) rfl (.cons (i := 28) rfl (.nil)))) ?_
            refine W.cond (.pl rfl) (fun hC21 => ?_) (fun hC21 => ?_)
            · replace hF18 := cpos hC21 hF18
              refine W.skip ?_
              exact W.joinAt1 hK19 (decide (kind1 = 7)) (Option.some.inj hF18) (.cons rfl (.nil)) (.cons (i := 1) rfl (.nil)) (fun w hw => hw.pick [] rfl)
            · replace hF18 := cneg hC21 hF18
              -- region 9: history.go:46
              refine W.seqR fun Q22 hQ22 => ?_
              refine WL.q (Y.eql (.pl rfl) (.pl rfl)) rfl ?_
              refine WL.q (Y.assign (.pl rfl)) rfl ?_
              refine WL.next hQ22 (.cons (i := 1) rfl (.cons (i := 5) rfl (.cons (i := 28) rfl (.nil)))) ?_
              refine W.cond (.pl rfl) (fun hC23 => ?_) (fun hC23 => ?_)
              · replace hF18 := cpos hC23 hF18
                refine W.skip ?_
                exact W.joinAt1 hK19 (decide (kind1 = 8)) (Option.some.inj hF18) (.cons rfl (.nil)) (.cons (i := 1) rfl (.nil)) (fun w hw => hw.pick [] rfl)
              · replace hF18 := cneg hC23 hF18
                -- region 10: history.go:46
                refine W.reg ?_
                refine WL.q (Y.eql (.pl rfl) (.pl rfl)) rfl ?_
                refine WL.q (Y.assign (.pl rfl)) rfl ?_
                refine WL.nil ?_
                exact W.joinAt1 hK19 (decide (kind1 = 9)) (Option.some.inj hF18) (.cons rfl (.nil)) (.cons (i := 1) rfl (.nil)) (fun w hw => hw.pick [] rfl)
          · -- behind
            rintro v5 rfl
            refine W.cond (.pl rfl) (fun hC25 => ?_) (fun hC25 => ?_)
            · replace hF := cpos hC25 hF
              -- region 11: history.go:47
              refine W.seqR fun Q26 hQ26 => ?_
              refine WL.q (Y.move (.pl rfl)) rfl ?_
              refine WL.q (Y.eql (.pl rfl) (.pl rfl)) rfl ?_
              refine WL.q (Y.move (.pl rfl)) rfl ?_
              refine WL.g (.pl rfl rfl rfl) (fun hg => Y.move (.pl rfl)) rfl ?_
              refine WL.g (.pl rfl rfl rfl) (fun hg => Y.eql (.gd (hg) rfl) (.pl rfl)) rfl ?_
              refine WL.q (Y.or (.pl rfl) (fun h2 => .gd (eqf h2) rfl)) rfl ?_
              refine WL.q (Y.assign (.pl rfl)) rfl ?_
              refine WL.next hQ26 (.cons (i := 4) rfl (.nil)) ?_
              obtain rfl := Option.some.inj hF
              refine W.retV (fn := Try.f106) (vs := [.bool ((decide (n2 = 0)) || (decide (n2 = 1)))]) Try.results106 ⟨.tmp rfl, trivial⟩ (fun _ _ h => h) (fun w hw => ?_)
              exact hR _ _ ⟨rfl, (hw.pick [] rfl)⟩
            · replace hF := cneg hC25 hF
              refine W.skip ?_
              refine W.go hK2 (.cons (i := 1) rfl (.nil)) ?_
              -- region 12: history.go:49
              refine W.seqR fun Q27 hQ27 => ?_
              refine WL.q (Y.move (.pl rfl)) rfl ?_
              refine WL.q (Y.eql (.pl rfl) (.pl rfl)) rfl ?_
              refine WL.q (Y.assign (.pl rfl)) rfl ?_
              refine WL.next hQ27 (.cons (i := 4) rfl (.nil)) ?_
              obtain rfl := Option.some.inj hF
              refine W.retV (fn := Try.f106) (vs := [.bool (decide (n2 = 0))]) Try.results106 ⟨.tmp rfl, trivial⟩ (fun _ _ h => h) (fun w hw => ?_)
              exact hR _ _ ⟨rfl, (hw.pick [] rfl)⟩

def history_reader_event (N : Nat) (types2 : (List Int)) (out8 : (List Call)) (open9 : (List Int)) (i10 : Int) (v11 : Event) : Option ((List Call) × (List Int) × Int) :=
  cond ((((decide (v11.who < 0)) || (decide (8 ≤ v11.who))) || (decide (v11.thing < 0))) || (decide (((types2).length : Int) ≤ v11.thing)))
    (some (out8, open9, 3))
    (bd (ax 8 0 open9 v11.who) fun (x13 : Int) =>
    cond (!(decide (v11.kind = 0)))
      (bd (ix types2 v11.thing) fun (x14 : Int) =>
      bd (history_Fits N x14 v11.kind) fun (r15 : Bool) =>
      bd ((cond ((!r15) == false) (history_Argument N v11.kind v11.value) (some false))) fun (r16 : Bool) =>
      cond ((!r15) || (!r16))
        (some (out8, open9, 3))
        (cond (decide (0 < x13))
          (some (out8, open9, 5))
          (ck (limB 56 ((out8).length + (([(Call.mk v11.who v11.thing v11.kind v11.value 0 i10 (-1))] : List Call)).length)) <|
          bd (ax 8 0 open9 v11.who) fun (x21 : Int) =>
          some ((out8 ++ ([(Call.mk v11.who v11.thing v11.kind v11.value 0 i10 (-1))] : List Call)), (setA 8 0 open9 v11.who (((out8 ++ ([(Call.mk v11.who v11.thing v11.kind v11.value 0 i10 (-1))] : List Call))).length : Int)), 0))))
      (cond (decide (x13 = 0))
        (some (out8, open9, 4))
        (ck (ok64 (x13 - 1)) <|
        bd (ix out8 (x13 - 1)) fun (x23 : Call) =>
        bd ((cond ((!(decide (x23.thing = v11.thing))) == false) (history_result N x23.kind v11.value) (some false))) fun (r24 : Bool) =>
        cond ((!(decide (x23.thing = v11.thing))) || (!r24))
          (some (out8, open9, 3))
          (bd (ax 8 0 open9 v11.who) fun (x25 : Int) =>
          some ((out8.set (x13 - 1).toNat (Call.mk x23.who x23.thing x23.kind x23.arg v11.value x23.from_ i10)), (setA 8 0 open9 v11.who 0), 0)))))

theorem history_reader_event_ok {N : Nat} {types2 : (List Int)} {out8 : (List Call)} {open9 : (List Int)} {i10 : Int} {v11 : Event} {b1 : Nat} {A3 : Option Addr} {c4 : Nat} {A6 : Option Addr} {c7 : Nat} {res : ((List Call) × (List Int) × Int)} (hF : history_reader_event N types2 out8 open9 i10 v11 = some res) {w0 w : World} {T : List Chunk} (hw : St w0.heap.size w0 ([cBx b1 135 (Value.slice A3 (types2).length c4 :: (Value.slice A6 (out8).length c7 :: (((encA 8 (eI .i64) 0) open9) ++ []))), cR encCall 7 A6 c7 70 out8] ++ T) w) (hs5 : SlIn (eI .i64) 1 w0 (.slice A3 (types2).length c4) types2) :
    Calls Try.prog 71 (List.toArray [.pointer (some ⟨b1, 0, none⟩), .int .i64 i10, .agg (encEvent v11).toArray]) w (fun e w' => ∃ g : (Option Addr × Nat), True ∧ e = .returned (.int .i64 res.2.2) ∧ St w0.heap.size w0 ([cBx b1 135 (Value.slice A3 (types2).length c4 :: (Value.slice g.1 (res.1).length g.2 :: (((encA 8 (eI .i64) 0) res.2.1) ++ []))), cR encCall 7 g.1 g.2 70 res.1] ++ T) w') := by
  refine W.enter (n := 137) Try.func71 rfl rfl Sub.refl (by simp) hw fun R hR => ?_
  unfold history_reader_event at hF
  -- region 0: history.go:69
  refine W.seqR fun Q1 hQ1 => ?_
  refine WL.step (WO.boxA (.pl rfl) rfl fun b12 => ?_)
  refine WL.q (Y.assign (.pl rfl)) rfl ?_
  refine WL.next hQ1 (.cons (i := 0) rfl (.cons (i := 1) rfl (.cons (i := 5) rfl (.nil)))) ?_
  refine W.seq fun K2 hK2 => ?_
  -- region 1: history.go:70
  refine W.seqD (by kernel_rfl) (by kernel_rfl) fun R3 hR3 => ?_
  refine WD.q (Y.fieldAddr0 (off := 0) (ft := 3) Try.underlying46 rfl cells3 (.pl rfl)) rfl ?_
  refine WD.q (Y.loadB (v := .int .i64 v11.who) Try.underlying3 rfl (.pl rfl) (i := 0) rfl (rfl)) rfl ?_
  refine WD.q (Y.lss (.pl rfl) (.pl rfl)) rfl ?_
  refine WD.q (Y.move (.pl rfl)) rfl ?_
  refine WD.g (.pl rfl rfl rfl) (fun hg => Y.fieldAddr0 (off := 0) (ft := 3) Try.underlying46 rfl cells3 (.pl rfl)) rfl ?_
  refine WD.g (.pl rfl rfl rfl) (fun hg => Y.loadB (v := .int .i64 v11.who) Try.underlying3 rfl (.gd (hg) rfl) (i := 0) rfl (rfl)) rfl ?_
  refine WD.g (.pl rfl rfl rfl) (fun hg => Y.geq (.gd (hg) rfl) (.pl rfl)) rfl ?_
  refine WD.q (Y.or (.pl rfl) (fun h2 => .gd (eqf h2) rfl)) rfl ?_
  refine WD.q (Y.move (.pl rfl)) rfl ?_
  refine WD.g (.pl rfl rfl rfl) (fun hg => Y.fieldAddr0 (off := 1) (ft := 3) Try.underlying46 rfl cells3 (.pl rfl)) rfl ?_
  refine WD.g (.pl rfl rfl rfl) (fun hg => Y.loadB (v := .int .i64 v11.thing) Try.underlying3 rfl (.gd (hg) rfl) (i := 0) rfl (rfl)) rfl ?_
  refine WD.g (.pl rfl rfl rfl) (fun hg => Y.lss (.gd (hg) rfl) (.pl rfl)) rfl ?_
  refine WD.q (Y.or (.pl rfl) (fun h2 => .gd (eqf h2) rfl)) rfl ?_
  refine WD.q (Y.move (.pl rfl)) rfl ?_
  refine WD.g (.pl rfl rfl rfl) (fun hg => Y.fieldAddr0 (off := 1) (ft := 3) Try.underlying46 rfl cells3 (.pl rfl)) rfl ?_
  refine WD.g (.pl rfl rfl rfl) (fun hg => Y.loadB (v := .int .i64 v11.thing) Try.underlying3 rfl (.gd (hg) rfl) (i := 0) rfl (rfl)) rfl ?_
  refine WD.g (.pl rfl rfl rfl) (fun hg => Y.move (.pl rfl)) rfl ?_
  refine WD.g (.pl rfl rfl rfl) (fun hg => Y.nilCheck (.gd (hg) rfl)) rfl ?_
  refine WD.g (.pl rfl rfl rfl) (fun hg => Y.fieldAddr0 (off := 0) (ft := 23) Try.underlying135 rfl cells23 (.gd (hg) rfl)) rfl ?_
  refine WD.g (.pl rfl rfl rfl) (fun hg => Y.loadB (v := .slice A3 (types2).length c4) Try.underlying23 rfl (.gd (hg) rfl) (i := 1) rfl (rfl)) rfl ?_
  refine WD.g (.pl rfl rfl rfl) (fun hg => Y.len Try.underlying23 (.gd (hg) rfl)) rfl ?_
  refine WD.g (.pl rfl rfl rfl) (fun hg => Y.geq (.gd (hg) rfl) (.gd (hg) rfl)) rfl ?_
  refine WD.q (Y.or (.pl rfl) (fun h2 => .gd (eqf h2) rfl)) rfl ?_
  refine WD.next hR3 (.cons (i := 0) rfl (.cons (i := 1) rfl (.cons (i := 5) rfl (.cons (i := 31) rfl (.nil))))) ?_
  refine W.cond (.pl rfl) (fun hC4 => ?_) (fun hC4 => ?_)
  · replace hF := cpos hC4 hF
    -- region 2: history.go:71
    refine W.seqR fun Q5 hQ5 => ?_
    refine WL.q (Y.assign (.pl rfl)) rfl ?_
    refine WL.next hQ5 (.cons (i := 6) rfl (.nil)) ?_
    obtain rfl := Option.some.inj hF
    refine W.retV (fn := Try.f71) (vs := [.int .i64 3]) Try.results71 ⟨.tmp rfl, trivial⟩ (fun _ _ h => h) (fun w hw => ?_)
    exact hR _ _ ⟨(A6, c7), trivial, rfl, (hw.pickK 3 [1, 2] rfl)⟩
  · replace hF := cneg hC4 hF
    refine W.skip ?_
    refine W.go hK2 (.cons (i := 0) rfl (.cons (i := 1) rfl (.cons (i := 5) rfl (.nil)))) ?_
    -- region 3: history.go:73
    refine W.seqD (by kernel_rfl) (by kernel_rfl) fun R6 hR6 => ?_
    refine WD.q (Y.move (.pl rfl)) rfl ?_
    refine WD.q (Y.fieldAddr0 (off := 0) (ft := 3) Try.underlying46 rfl cells3 (.pl rfl)) rfl ?_
    refine WD.q (Y.loadB (v := .int .i64 v11.who) Try.underlying3 rfl (.pl rfl) (i := 0) rfl (rfl)) rfl ?_
    refine WD.q (Y.nilCheck (.pl rfl)) rfl ?_
    refine WD.q (Y.fieldAddr0 (off := 2) (ft := 133) Try.underlying135 rfl cells133 (.pl rfl)) rfl ?_
    obtain ⟨x13, hx13, hF⟩ := bnd hF
    refine WD.q (Y.arrZ Try.underlying133 cells3 (.pl rfl) (.pl rfl) (ax_lt (hx13))) rfl ?_
    refine WD.q (Y.loadB (v := .int .i64 x13) Try.underlying3 rfl (.pl rfl) (i := 1) rfl (cellsA (pre := (Value.slice A3 (types2).length c4 :: (Value.slice A6 (out8).length c7 :: []))) (off := 2) (post := []) (a := open9) (enc := (eI .i64)) (d := 0) (n := 8) (sz := 1) (j := 0) (fun _ => rfl) rfl (ax_nat (hx13)) (ax_get (hx13)) rfl)) rfl ?_
    refine WD.q (Y.assign (.pl rfl)) rfl ?_
    refine WD.next hR6 (.cons (i := 0) rfl (.cons (i := 1) rfl (.cons (i := 5) rfl (.cons (i := 7) rfl (.nil))))) ?_
    refine W.seq fun K7 hK7 => ?_
    -- region 4: history.go:74
    refine W.seqR fun Q8 hQ8 => ?_
    refine WL.q (Y.fieldAddr0 (off := 2) (ft := 3) Try.underlying46 rfl cells3 (.pl rfl)) rfl ?_
    refine WL.q (Y.loadB (v := .int .i64 v11.kind) Try.underlying3 rfl (.pl rfl) (i := 0) rfl (rfl)) rfl ?_
    refine WL.q (Y.neq (.pl rfl) (.pl rfl)) rfl ?_
    refine WL.next hQ8 (.cons (i := 0) rfl (.cons (i := 1) rfl (.cons (i := 5) rfl (.cons (i := 7) rfl (.cons (i := 41) rfl (.nil)))))) ?_
    refine W.cond (.pl rfl) (fun hC9 => ?_) (fun hC9 => ?_)
    · replace hF := cpos hC9 hF
      refine W.seq fun K10 hK10 => ?_
      refine W.block ?_
      -- region 5: history.go:76
      refine W.seqD (by kernel_rfl) (by kernel_rfl) fun R11 hR11 => ?_
      refine WD.q (Y.move (.pl rfl)) rfl ?_
      refine WD.q (Y.nilCheck (.pl rfl)) rfl ?_
      refine WD.q (Y.fieldAddr0 (off := 0) (ft := 23) Try.underlying135 rfl cells23 (.pl rfl)) rfl ?_
      refine WD.q (Y.loadB (v := .slice A3 (types2).length c4) Try.underlying23 rfl (.pl rfl) (i := 1) rfl (rfl)) rfl ?_
      refine WD.q (Y.fieldAddr0 (off := 1) (ft := 3) Try.underlying46 rfl cells3 (.pl rfl)) rfl ?_
      refine WD.q (Y.loadB (v := .int .i64 v11.thing) Try.underlying3 rfl (.pl rfl) (i := 0) rfl (rfl)) rfl ?_
      obtain ⟨x14, hx14, hF⟩ := bnd hF
      refine WD.q (Y.slEl Try.underlying23 cells3 hs5 (.pl rfl) (.pl rfl) (ix_lt (hx14))) rfl ?_
      refine WD.q (Y.loadS (enc := (eI .i64)) (v := .int .i64 x14) (j := 0) Try.underlying3 rfl hs5 (.pl rfl) (hx14) rfl rfl) rfl ?_
      refine WD.q (Y.fieldAddr0 (off := 2) (ft := 3) Try.underlying46 rfl cells3 (.pl rfl)) rfl ?_
      refine WD.q (Y.loadB (v := .int .i64 v11.kind) Try.underlying3 rfl (.pl rfl) (i := 0) rfl (rfl)) rfl ?_
      obtain ⟨r15, hr15, hF⟩ := bnd hF
      refine WD.callP isGo104 (.cons (.pl rfl) (.cons (.pl rfl) (.nil))) rfl (fun w hw => history_Fits_ok (hr15) w ) ?_
      refine WD.q (Y.not (.pl rfl)) rfl ?_
      refine WD.q (Y.move (.pl rfl)) rfl ?_
      refine WD.g (.pl rfl rfl rfl) (fun hg => Y.fieldAddr0 (off := 2) (ft := 3) Try.underlying46 rfl cells3 (.pl rfl)) rfl ?_
      refine WD.g (.pl rfl rfl rfl) (fun hg => Y.loadB (v := .int .i64 v11.kind) Try.underlying3 rfl (.gd (hg) rfl) (i := 0) rfl (rfl)) rfl ?_
      refine WD.g (.pl rfl rfl rfl) (fun hg => Y.fieldAddr0 (off := 3) (ft := 3) Try.underlying46 rfl cells3 (.pl rfl)) rfl ?_
      refine WD.g (.pl rfl rfl rfl) (fun hg => Y.loadB (v := .int .i64 v11.value) Try.underlying3 rfl (.gd (hg) rfl) (i := 0) rfl (rfl)) rfl ?_
      obtain ⟨r16, hr16, hF⟩ := bnd hF
      refine WD.gP (.pl rfl rfl rfl) isGo105 (fun hg => (.cons (.gd (hg) rfl) (.cons (.gd (hg) rfl) (.nil)))) rfl (fun hg w hw => history_Argument_ok (gpos hg hr16) w ) ?_
      refine WD.g (.pl rfl rfl rfl) (fun hg => Y.not (.gd (hg) rfl)) rfl ?_
      refine WD.q (Y.or (.pl rfl) (fun h2 => .gd (eqf h2) rfl)) rfl ?_
      refine WD.q (Y.assign (.pl rfl)) rfl ?_
      refine WD.next hR11 (.cons (i := 0) rfl (.cons (i := 1) rfl (.cons (i := 5) rfl (.cons (i := 7) rfl (.cons (i := 42) rfl (.nil)))))) ?_
      refine W.cond (.pl rfl) (fun hC12 => ?_) (fun hC12 => ?_)
      · replace hF := cpos hC12 hF
        -- region 6: history.go:77
        refine W.seqR fun Q13 hQ13 => ?_
        refine WL.q (Y.assign (.pl rfl)) rfl ?_
        refine WL.next hQ13 (.cons (i := 6) rfl (.nil)) ?_
        obtain rfl := Option.some.inj hF
        refine W.retV (fn := Try.f71) (vs := [.int .i64 3]) Try.results71 ⟨.tmp rfl, trivial⟩ (fun _ _ h => h) (fun w hw => ?_)
        exact hR _ _ ⟨(A6, c7), trivial, rfl, (hw.pickK 3 [1, 2] rfl)⟩
      · replace hF := cneg hC12 hF
        -- region 7: history.go:78
        refine W.seqR fun Q14 hQ14 => ?_
        refine WL.q (Y.move (.pl rfl)) rfl ?_
        refine WL.q (Y.gtr (.pl rfl) (.pl rfl)) rfl ?_
        refine WL.q (Y.assign (.pl rfl)) rfl ?_
        refine WL.next hQ14 (.cons (i := 0) rfl (.cons (i := 1) rfl (.cons (i := 5) rfl (.cons (i := 63) rfl (.nil))))) ?_
        refine W.cond (.pl rfl) (fun hC15 => ?_) (fun hC15 => ?_)
        · replace hF := cpos hC15 hF
          -- region 8: history.go:79
          refine W.seqR fun Q16 hQ16 => ?_
          refine WL.q (Y.assign (.pl rfl)) rfl ?_
          refine WL.next hQ16 (.cons (i := 6) rfl (.nil)) ?_
          obtain rfl := Option.some.inj hF
          refine W.retV (fn := Try.f71) (vs := [.int .i64 5]) Try.results71 ⟨.tmp rfl, trivial⟩ (fun _ _ h => h) (fun w hw => ?_)
          exact hR _ _ ⟨(A6, c7), trivial, rfl, (hw.pickK 3 [1, 2] rfl)⟩
        · replace hF := cneg hC15 hF
          refine W.skip ?_
          refine W.go hK10 (.cons (i := 0) rfl (.cons (i := 1) rfl (.cons (i := 5) rfl (.nil)))) ?_
          -- region 9: history.go:81
          refine W.seqX 16 (by kernel_rfl) fun K17 hK17 => ?_
          refine WX.pure 0 #[true, false, false, false, false, false, false, false, false, false, false, false, false, false, false, false, false, false, false, false] rfl (by kernel_rfl) (fun _ _ => Y.move (.pl rfl)) rfl ?_
          refine WX.pure 1 #[true, true, false, false, false, false, false, false, false, false, false, false, false, false, false, false, false, false, false, false] rfl (by kernel_rfl) (fun _ _ => Y.move (.pl rfl)) rfl ?_
          refine WX.pure 2 #[true, true, true, false, false, false, false, false, false, false, false, false, false, false, false, false, false, false, false, false] rfl (by kernel_rfl) (fun _ _ => Y.nilCheck (.pl rfl)) rfl ?_
          refine WX.pure 3 #[true, true, true, true, false, false, false, false, false, false, false, false, false, false, false, false, false, false, false, false] rfl (by kernel_rfl) (fun _ _ => Y.fieldAddr0 (off := 1) (ft := 65) Try.underlying135 rfl cells65 (.pl rfl)) rfl ?_
          refine WX.take 4 #[true, true, true, true, true, false, false, false, false, false, false, false, false, false, false, false, false, false, false, false] (fun w hw => St.tail [] hw) rfl (by kernel_rfl) (Y.loadB (v := .slice A6 (out8).length c7) Try.underlying65 rfl (.pl rfl) (i := 1) rfl (rfl)) rfl ?_
          refine WX.pure 5 #[true, true, true, true, true, true, false, false, false, false, false, false, false, false, false, false, false, false, false, false] rfl (by kernel_rfl) (fun _ _ => Y.fieldAddr0 (off := 0) (ft := 3) Try.underlying46 rfl cells3 (.pl rfl)) rfl ?_
          refine WX.take 6 #[true, true, true, true, true, true, true, false, false, false, false, false, false, false, false, false, false, false, false, false] (fun w hw => St.tail [] hw) rfl (by kernel_rfl) (Y.loadB (v := .int .i64 v11.who) Try.underlying3 rfl (.pl rfl) (i := 0) rfl (rfl)) rfl ?_
          refine WX.pure 7 #[true, true, true, true, true, true, true, true, false, false, false, false, false, false, false, false, false, false, false, false] rfl (by kernel_rfl) (fun _ _ => Y.fieldAddr0 (off := 1) (ft := 3) Try.underlying46 rfl cells3 (.pl rfl)) rfl ?_
          refine WX.take 8 #[true, true, true, true, true, true, true, true, true, false, false, false, false, false, false, false, false, false, false, false] (fun w hw => St.tail [] hw) rfl (by kernel_rfl) (Y.loadB (v := .int .i64 v11.thing) Try.underlying3 rfl (.pl rfl) (i := 0) rfl (rfl)) rfl ?_
          refine WX.pure 9 #[true, true, true, true, true, true, true, true, true, true, false, false, false, false, false, false, false, false, false, false] rfl (by kernel_rfl) (fun _ _ => Y.fieldAddr0 (off := 2) (ft := 3) Try.underlying46 rfl cells3 (.pl rfl)) rfl ?_
          refine WX.take 10 #[true, true, true, true, true, true, true, true, true, true, true, false, false, false, false, false, false, false, false, false] (fun w hw => St.tail [] hw) rfl (by kernel_rfl) (Y.loadB (v := .int .i64 v11.kind) Try.underlying3 rfl (.pl rfl) (i := 0) rfl (rfl)) rfl ?_
          refine WX.pure 11 #[true, true, true, true, true, true, true, true, true, true, true, true, false, false, false, false, false, false, false, false] rfl (by kernel_rfl) (fun _ _ => Y.fieldAddr0 (off := 3) (ft := 3) Try.underlying46 rfl cells3 (.pl rfl)) rfl ?_
          refine WX.take 12 #[true, true, true, true, true, true, true, true, true, true, true, true, true, false, false, false, false, false, false, false] (fun w hw => St.tail [] hw) rfl (by kernel_rfl) (Y.loadB (v := .int .i64 v11.value) Try.underlying3 rfl (.pl rfl) (i := 0) rfl (rfl)) rfl ?_
          refine WX.pure 13 #[true, true, true, true, true, true, true, true, true, true, true, true, true, true, false, false, false, false, false, false] rfl (by kernel_rfl) (fun _ _ => Y.move (.pl rfl)) rfl ?_
          refine WX.pure 14 #[true, true, true, true, true, true, true, true, true, true, true, true, true, true, true, false, false, false, false, false] rfl (by kernel_rfl) (fun _ _ => Y.build (cs := (encCall (Call.mk v11.who v11.thing v11.kind v11.value 0 i10 (-1))).toArray) shape70 (.cons (.pl rfl) (.cons (.pl rfl) (.cons (.pl rfl) (.cons (.pl rfl) (.cons (.pl rfl) (.cons (.pl rfl) (.nil))))))) (one_parts ⟨rfl, ⟨rfl, ⟨rfl, ⟨rfl, ⟨rfl, ⟨rfl, trivial⟩⟩⟩⟩⟩⟩) rfl) rfl ?_
          refine WX.one 15 #[true, true, true, true, true, true, true, true, true, true, true, true, true, true, true, true, false, false, false, false] (fun w hw => St.tail [] hw) rfl (by kernel_rfl) (WO.bsliceC (enc := encCall) (ys := ([(Call.mk v11.who v11.thing v11.kind v11.value 0 i10 (-1))] : List Call)) Try.underlying65 bz70 (.cons (.pl rfl) (.nil)) rfl lenCall rfl rfl (by decide) (by decide) rfl fun b17 => ?_)
          obtain ⟨hk20, hF⟩ := ckh hF
          refine WX.stop #[true, true, true, true, true, true, true, true, true, true, true, true, true, true, true, true, true, false, false, false] (fun w hw => St.tail [_] hw) rfl (by kernel_rfl) (WO.appendC (enc := encCall) Try.underlying65 ap70 lenCall oneCall (.pl rfl) rfl (.pl rfl) (i := 3) rfl (m2 := 0) rfl (hk20) rfl fun A18 c19 => ?_)
          refine WA.take 17 #[true, true, true, true, true, true, true, true, true, true, true, true, true, true, true, true, true, true, false, false] rfl (by kernel_rfl) (fun _ _ => Y.nilCheck (.pl rfl)) rfl ?_
          refine WA.take 18 #[true, true, true, true, true, true, true, true, true, true, true, true, true, true, true, true, true, true, true, false] rfl (by kernel_rfl) (fun _ _ => Y.fieldAddr0 (off := 1) (ft := 65) Try.underlying135 rfl cells65 (.pl rfl)) rfl ?_
          refine WA.branch [19] (by kernel_rfl) ⟨?_, trivial⟩
          refine WI.step #[true, true, true, true, true, true, true, true, true, true, true, true, true, true, true, true, true, true, true, true] rfl rfl (WO.storeB (cs' := (Value.slice A3 (types2).length c4 :: (Value.slice A18 ((out8 ++ ([(Call.mk v11.who v11.thing v11.kind v11.value 0 i10 (-1))] : List Call))).length c19 :: (((encA 8 (eI .i64) 0) open9) ++ [])))) cells65 (.pl rfl) (.pl rfl) rfl (i := 2) rfl (ltl (m := 10) (by decide) rfl) (rfl) ?_)
          refine WA.done (by kernel_rfl) ?_
          refine KK.next hK17 (.cons (i := 0) rfl (.cons (i := 5) rfl (.nil))) ?_
          -- region 10: history.go:82
          refine W.seqT 11 (by kernel_rfl) (by kernel_rfl) fun Q18 hQ18 => ?_
          refine WS.q (Y.move (.pl rfl)) rfl ?_
          refine WS.q (Y.fieldAddr0 (off := 0) (ft := 3) Try.underlying46 rfl cells3 (.pl rfl)) rfl ?_
          refine WS.q (Y.loadB (v := .int .i64 v11.who) Try.underlying3 rfl (.pl rfl) (i := 1) rfl (rfl)) rfl ?_
          refine WS.q (Y.move (.pl rfl)) rfl ?_
          refine WS.q (Y.nilCheck (.pl rfl)) rfl ?_
          refine WS.q (Y.fieldAddr0 (off := 1) (ft := 65) Try.underlying135 rfl cells65 (.pl rfl)) rfl ?_
          refine WS.q (Y.loadB (v := .slice A18 ((out8 ++ ([(Call.mk v11.who v11.thing v11.kind v11.value 0 i10 (-1))] : List Call))).length c19) Try.underlying65 rfl (.pl rfl) (i := 2) rfl (rfl)) rfl ?_
          refine WS.q (Y.len Try.underlying65 (.pl rfl)) rfl ?_
          refine WS.q (Y.nilCheck (.pl rfl)) rfl ?_
          refine WS.q (Y.fieldAddr0 (off := 2) (ft := 133) Try.underlying135 rfl cells133 (.pl rfl)) rfl ?_
          obtain ⟨x21, hx21, hF⟩ := bnd hF
          refine WS.q (Y.arrZ Try.underlying133 cells3 (.pl rfl) (.pl rfl) (ax_lt (hx21))) rfl ?_
          refine WS.tail ?_
          refine WL.step (WO.storeB (cs' := (Value.slice A3 (types2).length c4 :: (Value.slice A18 ((out8 ++ ([(Call.mk v11.who v11.thing v11.kind v11.value 0 i10 (-1))] : List Call))).length c19 :: (((encA 8 (eI .i64) 0) (setA 8 0 open9 v11.who (((out8 ++ ([(Call.mk v11.who v11.thing v11.kind v11.value 0 i10 (-1))] : List Call))).length : Int))) ++ [])))) cells3 (.pl rfl) (.pl rfl) rfl (i := 2) rfl (ltl (m := 10) (offlt (off := 2) (sz := 1) (j := 0) (ax_nat (hx21)) (by decide)) rfl) (cellsSet (pre := (Value.slice A3 (types2).length c4 :: (Value.slice A18 ((out8 ++ ([(Call.mk v11.who v11.thing v11.kind v11.value 0 i10 (-1))] : List Call))).length c19 :: []))) (off := 2) (post := []) (a := open9) (enc := (eI .i64)) (d := 0) (n := 8) (sz := 1) (j := 0) (x := x21) (x' := (((out8 ++ ([(Call.mk v11.who v11.thing v11.kind v11.value 0 i10 (-1))] : List Call))).length : Int)) (fun _ => rfl) rfl (ax_lt (hx21)) (ax_get (hx21)) (by decide) rfl rfl) ?_)
          refine WL.next hQ18 (.nil) ?_
          -- region 11: history.go:83
          refine W.seqR fun Q19 hQ19 => ?_
          refine WL.q (Y.assign (.pl rfl)) rfl ?_
          refine WL.next hQ19 (.cons (i := 6) rfl (.nil)) ?_
          obtain rfl := Option.some.inj hF
          refine W.retV (fn := Try.f71) (vs := [.int .i64 0]) Try.results71 ⟨.tmp rfl, trivial⟩ (fun _ _ h => h) (fun w hw => ?_)
          exact hR _ _ ⟨(A18, c19), trivial, rfl, (hw.pickK 4 [2, 3] rfl)⟩
    · replace hF := cneg hC9 hF
      refine W.skip ?_
      refine W.go hK7 (.cons (i := 0) rfl (.cons (i := 1) rfl (.cons (i := 5) rfl (.cons (i := 7) rfl (.nil))))) ?_
      refine W.seq fun K20 hK20 => ?_
      -- region 12: history.go:85
      refine W.seqR fun Q21 hQ21 => ?_
      refine WL.q (Y.move (.pl rfl)) rfl ?_
      refine WL.q (Y.eql (.pl rfl) (.pl rfl)) rfl ?_
      refine WL.next hQ21 (.cons (i := 0) rfl (.cons (i := 1) rfl (.cons (i := 5) rfl (.cons (i := 7) rfl (.cons (i := 97) rfl (.nil)))))) ?_
      refine W.cond (.pl rfl) (fun hC22 => ?_) (fun hC22 => ?_)
      · replace hF := cpos hC22 hF
        -- region 13: history.go:86
        refine W.seqR fun Q23 hQ23 => ?_
        refine WL.q (Y.assign (.pl rfl)) rfl ?_
        refine WL.next hQ23 (.cons (i := 6) rfl (.nil)) ?_
        obtain rfl := Option.some.inj hF
        refine W.retV (fn := Try.f71) (vs := [.int .i64 4]) Try.results71 ⟨.tmp rfl, trivial⟩ (fun _ _ h => h) (fun w hw => ?_)
        exact hR _ _ ⟨(A6, c7), trivial, rfl, (hw.pickK 3 [1, 2] rfl)⟩
      · replace hF := cneg hC22 hF
        refine W.skip ?_
        refine W.go hK20 (.cons (i := 0) rfl (.cons (i := 1) rfl (.cons (i := 5) rfl (.cons (i := 7) rfl (.nil))))) ?_
        -- region 14: history.go:88
        refine W.seqR fun Q24 hQ24 => ?_
        refine WL.q (Y.move (.pl rfl)) rfl ?_
        refine WL.q (Y.nilCheck (.pl rfl)) rfl ?_
        refine WL.q (Y.fieldAddr0 (off := 1) (ft := 65) Try.underlying135 rfl cells65 (.pl rfl)) rfl ?_
        refine WL.q (Y.loadB (v := .slice A6 (out8).length c7) Try.underlying65 rfl (.pl rfl) (i := 1) rfl (rfl)) rfl ?_
        refine WL.q (Y.move (.pl rfl)) rfl ?_
        obtain ⟨hk22, hF⟩ := ckh hF
        refine WL.q (Y.sub (.pl rfl) (.pl rfl) (ok64_lt (hk22))) rfl ?_
        obtain ⟨x23, hx23, hF⟩ := bnd hF
        refine WL.q (Y.rowEl Try.underlying65 cells70 (i := 2) rfl (.pl rfl) rfl (.pl rfl) (ix_lt (hx23))) rfl ?_
        refine WL.q (Y.assign (.pl rfl)) rfl ?_
        refine WL.next hQ24 (.cons (i := 0) rfl (.cons (i := 1) rfl (.cons (i := 5) rfl (.cons (i := 8) rfl (.nil))))) ?_
        refine W.seq fun K25 hK25 => ?_
        -- region 15: history.go:89
        refine W.seqD (by kernel_rfl) (by kernel_rfl) fun R26 hR26 => ?_
        refine WD.q (Y.move (.pl rfl)) rfl ?_
        refine WD.q (Y.nilCheck (.pl rfl)) rfl ?_
        refine WD.q (Y.rowField (off := 1) (ft := 3) Try.underlying70 rfl cells3 (i' := 2) rfl (ix_lt (hx23)) (.pl rfl)) rfl ?_
        refine WD.q (Y.loadR (enc := encCall) (v := .int .i64 x23.thing) (a := x23) (idx := (x13 - 1)) (j := 1) Try.underlying3 rfl lenCall (i := 2) rfl (.pl rfl) (ix_get (hx23)) rfl rfl) rfl ?_
        refine WD.q (Y.fieldAddr0 (off := 1) (ft := 3) Try.underlying46 rfl cells3 (.pl rfl)) rfl ?_
        refine WD.q (Y.loadB (v := .int .i64 v11.thing) Try.underlying3 rfl (.pl rfl) (i := 0) rfl (rfl)) rfl ?_
        refine WD.q (Y.neq (.pl rfl) (.pl rfl)) rfl ?_
        refine WD.q (Y.move (.pl rfl)) rfl ?_
        refine WD.g (.pl rfl rfl rfl) (fun hg => Y.move (.pl rfl)) rfl ?_
        refine WD.g (.pl rfl rfl rfl) (fun hg => Y.nilCheck (.gd (hg) rfl)) rfl ?_
        refine WD.g (.pl rfl rfl rfl) (fun hg => Y.rowField (off := 2) (ft := 3) Try.underlying70 rfl cells3 (i' := 2) rfl (ix_lt (hx23)) (.gd (hg) rfl)) rfl ?_
        refine WD.g (.pl rfl rfl rfl) (fun hg => Y.loadR (enc := encCall) (v := .int .i64 x23.kind) (a := x23) (idx := (x13 - 1)) (j := 2) Try.underlying3 rfl lenCall (i := 2) rfl (.gd (hg) rfl) (ix_get (hx23)) rfl rfl) rfl ?_
        refine WD.g (.pl rfl rfl rfl) (fun hg => Y.fieldAddr0 (off := 3) (ft := 3) Try.underlying46 rfl cells3 (.pl rfl)) rfl ?_
        refine WD.g (.pl rfl rfl rfl) (fun hg => Y.loadB (v := .int .i64 v11.value) Try.underlying3 rfl (.gd (hg) rfl) (i := 0) rfl (rfl)) rfl ?_
        obtain ⟨r24, hr24, hF⟩ := bnd hF
        refine WD.gP (.pl rfl rfl rfl) isGo106 (fun hg => (.cons (.gd (hg) rfl) (.cons (.gd (hg) rfl) (.nil)))) rfl (fun hg w hw => history_result_ok (gpos hg hr24) w ) ?_
        refine WD.g (.pl rfl rfl rfl) (fun hg => Y.not (.gd (hg) rfl)) rfl ?_
        refine WD.q (Y.or (.pl rfl) (fun h2 => .gd (eqf h2) rfl)) rfl ?_
        refine WD.next hR26 (.cons (i := 0) rfl (.cons (i := 1) rfl (.cons (i := 5) rfl (.cons (i := 8) rfl (.cons (i := 121) rfl (.nil)))))) ?_
        refine W.cond (.pl rfl) (fun hC27 => ?_) (fun hC27 => ?_)
        · replace hF := cpos hC27 hF
          -- region 16: history.go:90
          refine W.seqR fun Q28 hQ28 => ?_
          refine WL.q (Y.assign (.pl rfl)) rfl ?_
          refine WL.next hQ28 (.cons (i := 6) rfl (.nil)) ?_
          obtain rfl := Option.some.inj hF
          refine W.retV (fn := Try.f71) (vs := [.int .i64 3]) Try.results71 ⟨.tmp rfl, trivial⟩ (fun _ _ h => h) (fun w hw => ?_)
          exact hR _ _ ⟨(A6, c7), trivial, rfl, (hw.pickK 3 [1, 2] rfl)⟩
        · replace hF := cneg hC27 hF
          refine W.skip ?_
          refine W.go hK25 (.cons (i := 0) rfl (.cons (i := 1) rfl (.cons (i := 5) rfl (.cons (i := 8) rfl (.nil))))) ?_
          -- region 17: history.go:92
          refine W.seqR fun Q29 hQ29 => ?_
          refine WL.q (Y.move (.pl rfl)) rfl ?_
          refine WL.q (Y.move (.pl rfl)) rfl ?_
          refine WL.q (Y.fieldAddr0 (off := 3) (ft := 3) Try.underlying46 rfl cells3 (.pl rfl)) rfl ?_
          refine WL.q (Y.loadB (v := .int .i64 v11.value) Try.underlying3 rfl (.pl rfl) (i := 0) rfl (rfl)) rfl ?_
          refine WL.q (Y.move (.pl rfl)) rfl ?_
          refine WL.q (Y.nilCheck (.pl rfl)) rfl ?_
          refine WL.q (Y.rowField (off := 4) (ft := 3) Try.underlying70 rfl cells3 (i' := 2) rfl (ix_lt (hx23)) (.pl rfl)) rfl ?_
          refine WL.step (WO.storeS (enc := encCall) (a := x23) (a' := (Call.mk x23.who x23.thing x23.kind x23.arg v11.value x23.from_ x23.to_)) (idx := (x13 - 1)) (j := 4) cells3 (.pl rfl) (.pl rfl) rfl lenCall (i := 2) rfl (ix_get (hx23)) rfl (by decide) rfl ?_)
          refine WL.q (Y.nilCheck (.pl rfl)) rfl ?_
          refine WL.q (Y.rowField (off := 6) (ft := 3) Try.underlying70 rfl cells3 (i' := 2) rfl (⟨(ix_lt (hx23)).1, by simpa only [List.length_set] using (ix_lt (hx23)).2⟩) (.pl rfl)) rfl ?_
          refine WL.step (WO.storeFS (enc := encCall) (a := (Call.mk x23.who x23.thing x23.kind x23.arg v11.value x23.from_ x23.to_)) (a' := (Call.mk x23.who x23.thing x23.kind x23.arg v11.value x23.from_ i10)) (idx := (x13 - 1)) (j := 6) cells3 (.pl rfl) (.pl rfl) rfl lenCall (i := 2) rfl (ix_lt (hx23)) rfl (by decide) rfl ?_)
          refine WL.next hQ29 (.cons (i := 0) rfl (.cons (i := 5) rfl (.nil))) ?_
          -- region 18: history.go:93
          refine W.seqT 6 (by kernel_rfl) (by kernel_rfl) fun Q30 hQ30 => ?_
          refine WS.q (Y.move (.pl rfl)) rfl ?_
          refine WS.q (Y.fieldAddr0 (off := 0) (ft := 3) Try.underlying46 rfl cells3 (.pl rfl)) rfl ?_
          refine WS.q (Y.loadB (v := .int .i64 v11.who) Try.underlying3 rfl (.pl rfl) (i := 0) rfl (rfl)) rfl ?_
          refine WS.q (Y.nilCheck (.pl rfl)) rfl ?_
          refine WS.q (Y.fieldAddr0 (off := 2) (ft := 133) Try.underlying135 rfl cells133 (.pl rfl)) rfl ?_
          obtain ⟨x25, hx25, hF⟩ := bnd hF
          refine WS.q (Y.arrZ Try.underlying133 cells3 (.pl rfl) (.pl rfl) (ax_lt (hx25))) rfl ?_
          refine WS.tail ?_
          refine WL.step (WO.storeB (cs' := (Value.slice A3 (types2).length c4 :: (Value.slice A6 (out8).length c7 :: (((encA 8 (eI .i64) 0) (setA 8 0 open9 v11.who 0)) ++ [])))) cells3 (.pl rfl) (.pl rfl) rfl (i := 1) rfl (ltl (m := 10) (offlt (off := 2) (sz := 1) (j := 0) (ax_nat (hx25)) (by decide)) rfl) (cellsSet (pre := (Value.slice A3 (types2).length c4 :: (Value.slice A6 (out8).length c7 :: []))) (off := 2) (post := []) (a := open9) (enc := (eI .i64)) (d := 0) (n := 8) (sz := 1) (j := 0) (x := x25) (x' := 0) (fun _ => rfl) rfl (ax_lt (hx25)) (ax_get (hx25)) (by decide) rfl rfl) ?_)
          refine WL.next hQ30 (.nil) ?_
          -- region 19: history.go:94
          refine W.seqR fun Q31 hQ31 => ?_
          refine WL.q (Y.assign (.pl rfl)) rfl ?_
          refine WL.next hQ31 (.cons (i := 6) rfl (.nil)) ?_
          obtain rfl := Option.some.inj hF
          refine W.retV (fn := Try.f71) (vs := [.int .i64 0]) Try.results71 ⟨.tmp rfl, trivial⟩ (fun _ _ h => h) (fun w hw => ?_)
          exact hR _ _ ⟨(A6, c7), trivial, rfl, (St.cong (L := ([cBx b1 135 (Value.slice A3 (types2).length c4 :: (Value.slice A6 (out8).length c7 :: (((encA 8 (eI .i64) 0) (setA 8 0 open9 v11.who 0)) ++ []))), cR encCall 7 A6 c7 70 (out8.set (x13 - 1).toNat (Call.mk x23.who x23.thing x23.kind x23.arg v11.value x23.from_ i10))] ++ T)) (hw.pickK 3 [1, 2] rfl) (by simp only [List.length_set, List.nil_append, List.cons_append]))⟩

def history_Calls_L3 (N : Nat) (l6 : (List Event)) (types1 : (List Int)) : ((List Call) × (List Int) × Int) → Option (((List Call) × (List Int) × Int) ⊕ (((List Call) × (List Int)) ⊕ ((List Call) × Int × Int)))
  | (out19, open20, v21) =>
    cond (decide (v21 < ((l6).length : Int)))
      (bd (ix l6 v21) fun (x22 : Event) =>
      bd (history_reader_event N types1 out19 open20 v21 x22) fun (r24 : ((List Call) × (List Int) × Int)) =>
      cond (!(decide (r24.2.2 = 0)))
        (some (.inr (.inr ([], v21, r24.2.2))))
        (ck (ok64 (v21 + 1)) <|
        some (.inl (r24.1, r24.2.1, (v21 + 1)))))
      (some (.inr (.inl (out19, open20))))

def history_Calls (N : Nat) (types1 : (List Int)) (l6 : (List Event)) : Option ((List Call) × Int × Int) :=
  bd (history_Types N types1) fun (r11 : Int) =>
  cond (!(decide (r11 = 0)))
    (some ([], 0, r11))
    (cond (decide (200 < ((l6).length : Int)))
      (some ([], 0, 2))
      (bd (α := (((List Call) × (List Int)) ⊕ ((List Call) × Int × Int))) (iter (history_Calls_L3 N l6 types1) N ([], [], 0)) <|
      Sum.elim (fun (out15, open16) => 
        some (out15, 0, 0)) (fun p => some p)))

theorem history_Calls_ok {N : Nat} {types1 : (List Int)} {l6 : (List Event)} {res : ((List Call) × Int × Int)} (hF : history_Calls N types1 l6 = some res) (w : World) {v5 : Value} (hs4 : SlIn (eI .i64) 1 w v5 types1) {v10 : Value} (hs9 : SlIn encEvent 4 w v10 l6) :
    Made Try.prog 31 [v5, v10] w (fun g : (Option Addr × Nat) => .tuple #[.slice g.1 (res.1).length g.2, .int .i64 res.2.1, .int .i64 res.2.2]) (fun g => [cR encCall 7 g.1 g.2 70 res.1]) (fun _ => True) := by
  obtain ⟨A2, c3, rfl, hcc3, hs4⟩ := hs4.form
  obtain ⟨A7, c8, rfl, hcc8, hs9⟩ := hs9.form
  refine W.enter (n := 43) Try.func31 rfl rfl Sub.refl (by simp) (St.start w) fun R hR => ?_
  unfold history_Calls at hF
  -- region 0: history.go:98
  refine W.seqR fun Q1 hQ1 => ?_
  refine WL.q (Y.assign (.pl rfl)) rfl ?_
  refine WL.q (Y.assign (.pl rfl)) rfl ?_
  refine WL.q (Y.assign (.pl rfl)) rfl ?_
  refine WL.next hQ1 (.cons (i := 0) rfl (.cons (i := 1) rfl (.nil))) ?_
  refine W.seq fun K2 hK2 => ?_
  -- region 1: history.go:99
  refine W.seqR fun Q3 hQ3 => ?_
  refine WL.q (Y.move (.pl rfl)) rfl ?_
  obtain ⟨r11, hr11, hF⟩ := bnd hF
  refine WL.step (WO.callP isGo70 (.cons (.pl rfl) (.nil)) rfl (fun w hw => history_Types_ok (hr11) w (hs4.mono hw)) ?_)
  refine WL.q (Y.assign (.pl rfl)) rfl ?_
  refine WL.next hQ3 (.cons (i := 0) rfl (.cons (i := 1) rfl (.cons (i := 7) rfl (.nil)))) ?_
  -- region 2: history.go:99
  refine W.seqR fun Q4 hQ4 => ?_
  refine WL.q (Y.move (.pl rfl)) rfl ?_
  refine WL.q (Y.neq (.pl rfl) (.pl rfl)) rfl ?_
  refine WL.next hQ4 (.cons (i := 0) rfl (.cons (i := 1) rfl (.cons (i := 7) rfl (.cons (i := 15) rfl (.nil))))) ?_
  refine W.cond (.pl rfl) (fun hC5 => ?_) (fun hC5 => ?_)
  · replace hF := cpos hC5 hF
    -- region 3: history.go:100
    refine W.seqR fun Q6 hQ6 => ?_
    refine WL.q (Y.move (.pl rfl)) rfl ?_
    refine WL.q (Y.assign (.pl rfl)) rfl ?_
    refine WL.q (Y.assign (.pl rfl)) rfl ?_
    refine WL.q (Y.assign (.pl rfl)) rfl ?_
    refine WL.next hQ6 (.cons (i := 4) rfl (.cons (i := 5) rfl (.cons (i := 6) rfl (.nil)))) ?_
    obtain rfl := Option.some.inj hF
    refine W.retV (fn := Try.f31) (vs := [.slice none 0 0, .int .i64 0, .int .i64 r11]) Try.results31 ⟨.tmp rfl, ⟨.tmp rfl, ⟨.tmp rfl, trivial⟩⟩⟩ (fun _ _ h => h) (fun w hw => ?_)
    exact hR _ _ ⟨(none, 0), trivial, rfl, ((St.nilR (hw.pick [] rfl) encCall 7 70).pick [0] rfl)⟩
  · replace hF := cneg hC5 hF
    refine W.skip ?_
    refine W.go hK2 (.cons (i := 0) rfl (.cons (i := 1) rfl (.nil))) ?_
    refine W.seq fun K7 hK7 => ?_
    -- region 4: history.go:102
    refine W.seqR fun Q8 hQ8 => ?_
    refine WL.q (Y.move (.pl rfl)) rfl ?_
    refine WL.q (Y.len Try.underlying42 (.pl rfl)) rfl ?_
    refine WL.q (Y.gtr (.pl rfl) (.pl rfl)) rfl ?_
    refine WL.next hQ8 (.cons (i := 0) rfl (.cons (i := 1) rfl (.cons (i := 19) rfl (.nil)))) ?_
    refine W.cond (.pl rfl) (fun hC9 => ?_) (fun hC9 => ?_)
    · replace hF := cpos hC9 hF
      -- region 5: history.go:103
      refine W.seqR fun Q10 hQ10 => ?_
      refine WL.q (Y.assign (.pl rfl)) rfl ?_
      refine WL.q (Y.assign (.pl rfl)) rfl ?_
      refine WL.q (Y.assign (.pl rfl)) rfl ?_
      refine WL.next hQ10 (.cons (i := 4) rfl (.cons (i := 5) rfl (.cons (i := 6) rfl (.nil)))) ?_
      obtain rfl := Option.some.inj hF
      refine W.retV (fn := Try.f31) (vs := [.slice none 0 0, .int .i64 0, .int .i64 2]) Try.results31 ⟨.tmp rfl, ⟨.tmp rfl, ⟨.tmp rfl, trivial⟩⟩⟩ (fun _ _ h => h) (fun w hw => ?_)
      exact hR _ _ ⟨(none, 0), trivial, rfl, ((St.nilR (hw.pick [] rfl) encCall 7 70).pick [0] rfl)⟩
    · replace hF := cneg hC9 hF
      refine W.skip ?_
      refine W.go hK7 (.cons (i := 0) rfl (.cons (i := 1) rfl (.nil))) ?_
      -- region 6: history.go:105
      refine W.seqR fun Q11 hQ11 => ?_
      refine WL.q (Y.move (.pl rfl)) rfl ?_
      refine WL.q (Y.build (cs := (Value.slice A2 (types1).length c3 :: (Value.slice none 0 0 :: (((encA 8 (eI .i64) 0) []) ++ []))).toArray) shape135 (.cons (.pl rfl) (.nil)) (one_parts ⟨rfl, trivial⟩) rfl) rfl ?_
      refine WL.step (WO.boxA (.pl rfl) rfl fun b12 => ?_)
      refine WL.q (Y.assign (.pl rfl)) rfl ?_
      refine WL.next hQ11 (.cons (i := 1) rfl (.cons (i := 8) rfl (.nil))) ?_
      obtain ⟨o12, hF12, hF⟩ := bnd hF
      refine W.join4 (Em := fun (out15 : (List Call)) (open16 : (List Int)) (A13 : Option Addr) (c14 : Nat) => []) (M := fun out15 open16 A13 c14 => [cBx b12 135 (Value.slice A2 (types1).length c3 :: (Value.slice A13 (out15).length c14 :: (((encA 8 (eI .i64) 0) open16) ++ []))), cR encCall 7 A13 c14 70 out15]) (I := fun out15 open16 A13 c14 => (.inl (out15, open16)) = o12) (.cons (i := 8) rfl (.nil)) (fun K13 hK13 => ?_) ?_
      · -- up to
        -- region 7: history.go:106
        refine W.seqR fun Q14 hQ14 => ?_
        refine WL.q (Y.move (.pl rfl)) rfl ?_
        refine WL.q (Y.len Try.underlying42 (.pl rfl)) rfl ?_
        refine WL.q (Y.move (.pl rfl)) rfl ?_
        refine WL.next hQ14 (.cons (i := 8) rfl (.cons (i := 23) rfl (.cons (i := 24) rfl (.cons (i := 25) rfl (.nil))))) ?_
        refine W.block ?_
        refine W.loop5 (Em := fun (out19 : (List Call)) (open20 : (List Int)) (v21 : Int) (A17 : Option Addr) (c18 : Nat) => [(25, .int .i64 v21)]) (M := fun out19 open20 v21 A17 c18 => [cBx b12 135 (Value.slice A2 (types1).length c3 :: (Value.slice A17 (out19).length c18 :: (((encA 8 (eI .i64) 0) open20) ++ []))), cR encCall 7 A17 c18 70 out19]) (I := fun out19 open20 v21 A17 c18 k15 => iter (history_Calls_L3 N l6 types1) k15 (out19, open20, v21) = some o12) [] [] 0 none 0 N (hF12) (.cons rfl (.nil)) (.cons (i := 8) rfl (.cons (i := 23) rfl (.cons (i := 24) rfl (.nil)))) (fun w hw => (St.nilR (hw.pick [0] rfl) encCall 7 70).pick [1, 0] rfl) (fun out19 open20 v21 A17 c18 k15 hI K16 hK16 => ?_)
        obtain ⟨k15, t15, rfl, hF15, hN15⟩ := iter_step hI
        -- region 8: history.go:106
        refine W.seqR fun Q17 hQ17 => ?_
        refine WL.q (Y.lss (.pl rfl) (.pl rfl)) rfl ?_
        refine WL.next hQ17 (.cons (i := 8) rfl (.cons (i := 23) rfl (.cons (i := 24) rfl (.cons (i := 25) rfl (.cons (i := 26) rfl (.nil)))))) ?_
        refine W.seq fun K18 hK18 => ?_
        refine W.cond (.pl rfl) (fun hC19 => ?_) (fun hC19 => ?_)
        · replace hF15 := cpos hC19 hF15
          refine W.skip ?_
          refine W.go hK18 (.cons (i := 8) rfl (.cons (i := 23) rfl (.cons (i := 24) rfl (.cons (i := 25) rfl (.nil))))) ?_
          refine W.seq fun K20 hK20 => ?_
          refine W.block ?_
          -- region 9: history.go:106
          refine W.seqR fun Q21 hQ21 => ?_
          refine WL.q (Y.move (.pl rfl)) rfl ?_
          obtain ⟨x22, hx22, hF15⟩ := bnd hF15
          refine WL.q (Y.slEl Try.underlying42 cells46 hs9 (.pl rfl) (.pl rfl) (ix_lt (hx22))) rfl ?_
          refine WL.q (Y.loadSA (enc := encEvent) (ds := (encEvent x22)) (j := 0) Try.underlying46 rfl cells46 hs9 (.pl rfl) (hx22) rfl rfl subW) rfl ?_
          refine WL.step (WO.alloc (cs := (encEvent (Event.mk 0 0 0 0)).toArray) zero46 rfl rfl fun b23 => ?_)
          refine WL.q (Y.assign (.pl rfl)) rfl ?_
          refine WL.step (WO.storeBA (ds := (encEvent x22)) (cs' := (encEvent x22)) cells46 (.pl rfl) (.pl rfl) rfl (oneEvent _) (i := 0) rfl (lel (o := 0) (l := 4) (m := 4) (by decide) rfl rfl) (putW rfl) ?_)
          refine WL.next hQ21 (.cons (i := 8) rfl (.cons (i := 9) rfl (.cons (i := 10) rfl (.cons (i := 23) rfl (.cons (i := 24) rfl (.cons (i := 25) rfl (.nil))))))) ?_
          -- region 10: history.go:107
          refine W.seqR fun Q22 hQ22 => ?_
          refine WL.q (Y.move (.pl rfl)) rfl ?_
          refine WL.q (Y.move (.pl rfl)) rfl ?_
          refine WL.q (Y.loadBA (ds := (encEvent x22)) Try.underlying46 rfl cells46 (.pl rfl) (i := 0) rfl rfl subW) rfl ?_
          obtain ⟨r24, hr24, hF15⟩ := bnd hF15
          refine WL.step (WO.call (γ := (Option Addr × Nat)) (fun g => .int .i64 r24.2.2) (fun g => [cBx b12 135 (Value.slice A2 (types1).length c3 :: (Value.slice g.1 (r24.1).length g.2 :: (((encA 8 (eI .i64) 0) r24.2.1) ++ []))), cR encCall 7 g.1 g.2 70 r24.1, cBx b23 46 (encEvent x22)]) (fun _ => True) isGo71 (.cons (.pl rfl) (.cons (.pl rfl) (.cons (.pl rfl) (.nil)))) rfl (fun w hw => history_reader_event_ok (T := [cBx b23 46 (encEvent x22)]) (hr24) (hw.pick [1, 2, 0] rfl) hs4) ?_)
          rintro ⟨A25, c26⟩ -
          refine WL.q (Y.assign (.pl rfl)) rfl ?_
          refine WL.next hQ22 (.cons (i := 8) rfl (.cons (i := 9) rfl (.cons (i := 11) rfl (.cons (i := 23) rfl (.cons (i := 24) rfl (.cons (i := 25) rfl (.nil))))))) ?_
          -- region 11: history.go:107
          refine W.seqR fun Q23 hQ23 => ?_
          refine WL.q (Y.move (.pl rfl)) rfl ?_
          refine WL.q (Y.neq (.pl rfl) (.pl rfl)) rfl ?_
          refine WL.next hQ23 (.cons (i := 8) rfl (.cons (i := 9) rfl (.cons (i := 11) rfl (.cons (i := 23) rfl (.cons (i := 24) rfl (.cons (i := 25) rfl (.cons (i := 35) rfl (.nil)))))))) ?_
          refine W.cond (.pl rfl) (fun hC24 => ?_) (fun hC24 => ?_)
          · replace hF15 := cpos hC24 hF15
            -- region 12: history.go:108
            refine W.seqR fun Q25 hQ25 => ?_
            refine WL.q (Y.move (.pl rfl)) rfl ?_
            refine WL.q (Y.move (.pl rfl)) rfl ?_
            refine WL.q (Y.assign (.pl rfl)) rfl ?_
            refine WL.q (Y.assign (.pl rfl)) rfl ?_
            refine WL.q (Y.assign (.pl rfl)) rfl ?_
            refine WL.next hQ25 (.cons (i := 4) rfl (.cons (i := 5) rfl (.cons (i := 6) rfl (.nil)))) ?_
            obtain rfl := Option.some.inj hF15
            obtain rfl := einr hN15
            obtain rfl := Option.some.inj hF
            refine W.retV (fn := Try.f31) (vs := [.slice none 0 0, .int .i64 v21, .int .i64 r24.2.2]) Try.results31 ⟨.tmp rfl, ⟨.tmp rfl, ⟨.tmp rfl, trivial⟩⟩⟩ (fun _ _ h => h) (fun w hw => ?_)
            exact hR _ _ ⟨(none, 0), trivial, rfl, ((St.nilR (hw.pick [] rfl) encCall 7 70).pick [0] rfl)⟩
          · replace hF15 := cneg hC24 hF15
            refine W.skip ?_
            refine W.go hK20 (.cons (i := 8) rfl (.cons (i := 23) rfl (.cons (i := 24) rfl (.cons (i := 25) rfl (.nil))))) ?_
            -- region 13: history.go:106
            refine W.reg ?_
            obtain ⟨hk27, hF15⟩ := ckh hF15
            refine WL.q (Y.add (.pl rfl) (.pl rfl) (ok64_lt (hk27))) rfl ?_
            refine WL.q (Y.move (.pl rfl)) rfl ?_
            refine WL.nil ?_
            obtain rfl := Option.some.inj hF15
            exact W.again5 hK16 r24.1 r24.2.1 (v21 + 1) A25 c26 k15 hN15 (Nat.lt_succ_self _) (.cons rfl (.nil)) (.cons (i := 8) rfl (.cons (i := 23) rfl (.cons (i := 24) rfl (.nil)))) (fun w hw => hw.pick [0, 1] rfl)
        · replace hF15 := cneg hC19 hF15
          refine W.exit ?_
          obtain rfl := Option.some.inj hF15
          exact W.joinAt4 hK13 out19 open20 A17 c18 (einr hN15) (.nil) (.cons (i := 8) rfl (.nil)) (fun w hw => hw.pick [0, 1] rfl)
      · -- behind
        rintro out15 open16 A13 c14 rfl
        -- region 14: history.go:111
        refine W.seqR fun Q27 hQ27 => ?_
        refine WL.q (Y.move (.pl rfl)) rfl ?_
        refine WL.q (Y.nilCheck (.pl rfl)) rfl ?_
        refine WL.q (Y.fieldAddr0 (off := 1) (ft := 65) Try.underlying135 rfl cells65 (.pl rfl)) rfl ?_
        refine WL.q (Y.loadB (v := .slice A13 (out15).length c14) Try.underlying65 rfl (.pl rfl) (i := 0) rfl (rfl)) rfl ?_
        refine WL.q (Y.assign (.pl rfl)) rfl ?_
        refine WL.q (Y.assign (.pl rfl)) rfl ?_
        refine WL.q (Y.assign (.pl rfl)) rfl ?_
        refine WL.next hQ27 (.cons (i := 4) rfl (.cons (i := 5) rfl (.cons (i := 6) rfl (.nil)))) ?_
        obtain rfl := Option.some.inj hF
        refine W.retV (fn := Try.f31) (vs := [.slice A13 (out15).length c14, .int .i64 0, .int .i64 0]) Try.results31 ⟨.tmp rfl, ⟨.tmp rfl, ⟨.tmp rfl, trivial⟩⟩⟩ (fun _ _ h => h) (fun w hw => ?_)
        exact hR _ _ ⟨(A13, c14), trivial, rfl, (hw.pick [1] rfl)⟩

end Go.Proofs.Ytkccgokdahlmeaa
