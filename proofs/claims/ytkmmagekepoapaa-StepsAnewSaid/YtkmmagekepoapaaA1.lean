/- What Play asks of its arguments: what the code computes, and the walks. -/
import Derived.Test.YtkmmagekepoapaaChecked
import Derived.Test.YtkmmagekepoapaaHeap
import Derived.Test.YtkmmagekepoapaaShelf
import Derived.Test.YtkmmagekepoapaaStrMap
set_option linter.unusedVariables false
set_option linter.unusedSimpArgs false
set_option linter.unusedSectionVars false
set_option maxRecDepth 100000
namespace Go.Proofs.Ytkmmagekepoapaa
open Go.RowKit
structure Ask where
  thing : Int
  kind : Int
  arg : Int
deriving DecidableEq
def Ask.z : Ask := ⟨0, 0, 0⟩
def encAsk (x : Ask) : List Value := (Value.int .i64 x.thing :: (Value.int .i64 x.kind :: (Value.int .i64 x.arg :: [])))
theorem lenAsk (x : Ask) : (encAsk x).length = 3 := rfl
theorem eqAsk (x y : Ask) : eqCells [true, true, true] (encAsk x) (encAsk y) = some (decide (x = y)) := by
  cases x; cases y; simp [encAsk, eqCells, Ask.mk.injEq, Bool.beq_eq_decide_eq]
theorem oneAsk : ∀ x, ∀ v ∈ encAsk x, v.oneCell' = true := fun x => (one_cons rfl (one_cons rfl (one_cons rfl one_nil)))
theorem cells3 : Try.prog.cellsOf 3 = 0 + 1 := by kernel_rfl
theorem cells33 : Try.prog.cellsOf 33 = 0 + 1 := by kernel_rfl
theorem cells83 : Try.prog.cellsOf 83 = 2 + 1 := by kernel_rfl
theorem isGo33 : IsGo Try.prog 33 := ⟨_, Try.func33, by kernel_rfl, rfl⟩
theorem isGo44 : IsGo Try.prog 44 := ⟨_, Try.func44, by kernel_rfl, rfl⟩
theorem isGo45 : IsGo Try.prog 45 := ⟨_, Try.func45, by kernel_rfl, rfl⟩
theorem isGo60 : IsGo Try.prog 60 := ⟨_, Try.func60, by kernel_rfl, rfl⟩
theorem isGo61 : IsGo Try.prog 61 := ⟨_, Try.func61, by kernel_rfl, rfl⟩
theorem isGo68 : IsGo Try.prog 68 := ⟨_, Try.func68, by kernel_rfl, rfl⟩
theorem isGo89 : IsGo Try.prog 89 := ⟨_, Try.func89, by kernel_rfl, rfl⟩
theorem zero83 : ∃ i, Try.prog.info? 83 = some i ∧ i.zero = some (Value.agg #[(Value.int .i64 0), (Value.int .i64 0), (Value.int .i64 0)]) := ⟨_, rfl, by kernel_rfl⟩
def history_Types_1 (N : Nat) (t1 : Int) : Option Unit :=
  some ()

theorem history_Types_1_ok {N : Nat} {t1 : Int} {res : Unit} (hF : history_Types_1 N t1 = some res) (w : World) :
    Pure Try.prog 60 [.int .i64 t1] w (.bool ((decide (t1 < 1)) || (decide (5 < t1)))) := by
  refine W.enter (n := 9) Try.func60 rfl rfl Sub.refl (by simp) (St.start w) fun R hR => ?_
  unfold history_Types_1 at hF
  refine W.seqR fun Q1 hQ1 => ?_
  refine WL.q (Y.assign (.pl rfl)) rfl ?_
  refine WL.next hQ1 (.cons (i := 0) rfl (.nil)) ?_
  refine W.seqR fun Q2 hQ2 => ?_
  refine WL.q (Y.move (.pl rfl)) rfl ?_
  refine WL.q (Y.lss (.pl rfl) (.pl rfl)) rfl ?_
  refine WL.q (Y.move (.pl rfl)) rfl ?_
  refine WL.g (.pl rfl rfl rfl) (fun hg => Y.move (.pl rfl)) rfl ?_
  refine WL.g (.pl rfl rfl rfl) (fun hg => Y.gtr (.gd (hg) rfl) (.pl rfl)) rfl ?_
  refine WL.q (Y.or (.pl rfl) (fun h2 => .gd (eqf h2) rfl)) rfl ?_
  refine WL.q (Y.assign (.pl rfl)) rfl ?_
  refine WL.next hQ2 (.cons (i := 2) rfl (.nil)) ?_
  obtain rfl := Option.some.inj hF
  refine W.retV (fn := Try.f60) (vs := [.bool ((decide (t1 < 1)) || (decide (5 < t1)))]) Try.results60 ⟨.tmp rfl, trivial⟩ (fun _ _ h => h) (fun wz hw => ?_)
  exact hR _ _ ⟨rfl, (hw.pick [] rfl)⟩

def slices_IndexFunc_int_int_L3 (N : Nat) (s1 : (List Int)) : Int → Option (Int ⊕ (Unit ⊕ Int))
  | v6 =>
    cond (decide (v6 < ((s1).length : Int)))
      (bd (ix s1 v6) fun (x7 : Int) =>
      bd (history_Types_1 N x7) fun (r8 : Unit) =>
      cond ((decide (x7 < 1)) || (decide (5 < x7)))
        (some (.inr (.inr v6)))
        (ck (ok64 (v6 + 1)) <|
        some (.inl (v6 + 1))))
      (some (.inr (.inl ())))

def slices_IndexFunc_int_int (N : Nat) (s1 : (List Int)) : Option Int :=
  bd (α := (Unit ⊕ Int)) (iter (slices_IndexFunc_int_int_L3 N s1) N 0) <|
  Sum.elim (fun _ => 
    some (-1)) (fun p => some p)

theorem slices_IndexFunc_int_int_ok {N : Nat} {s1 : (List Int)} {res : Int} (hF : slices_IndexFunc_int_int N s1 = some res) (w : World) {v5 : Value} (hs4 : SlIn (eI .i64) 1 w v5 s1) :
    Pure Try.prog 89 [v5, .func (.func 60) #[] #[]] w (.int .i64 res) := by
  obtain ⟨A2, c3, rfl, hcc3, hs4⟩ := hs4.form
  refine W.enter (n := 19) Try.func89 rfl rfl Sub.refl (by simp) (St.start w) fun R hR => ?_
  unfold slices_IndexFunc_int_int at hF
  refine W.seqR fun Q1 hQ1 => ?_
  refine WL.q (Y.assign (.pl rfl)) rfl ?_
  refine WL.next hQ1 (.cons (i := 0) rfl (.cons (i := 1) rfl (.nil))) ?_
  obtain ⟨o2, hF2, hF⟩ := bnd hF
  refine W.join0 (Em := []) (M := []) (I := (.inl ()) = o2) (.nil) (fun K3 hK3 => ?_) ?_
  · -- up to
    refine W.seqR fun Q4 hQ4 => ?_
    refine WL.q (Y.move (.pl rfl)) rfl ?_
    refine WL.q (Y.len Try.underlying23 (.pl rfl)) rfl ?_
    refine WL.q (Y.move (.pl rfl)) rfl ?_
    refine WL.next hQ4 (.cons (i := 0) rfl (.cons (i := 1) rfl (.cons (i := 7) rfl (.cons (i := 8) rfl (.nil))))) ?_
    refine W.block ?_
    refine W.loop1 (Em := fun (v6 : Int) => [(8, .int .i64 v6)]) (M := fun v6 => []) (I := fun v6 k5 => iter (slices_IndexFunc_int_int_L3 N s1) k5 v6 = some o2) 0 N (hF2) (.cons rfl (.nil)) (.cons (i := 0) rfl (.cons (i := 1) rfl (.cons (i := 7) rfl (.nil)))) (fun wz hw => hw.pick [] rfl) (fun v6 k5 hI K6 hK6 => ?_)
    obtain ⟨k5, t5, rfl, hF5, hN5⟩ := iter_step hI
    refine W.seqR fun Q7 hQ7 => ?_
    refine WL.q (Y.lss (.pl rfl) (.pl rfl)) rfl ?_
    refine WL.next hQ7 (.cons (i := 0) rfl (.cons (i := 1) rfl (.cons (i := 7) rfl (.cons (i := 8) rfl (.cons (i := 9) rfl (.nil)))))) ?_
    refine W.seq fun K8 hK8 => ?_
    refine W.cond (.pl rfl) (fun hC9 => ?_) (fun hC9 => ?_)
    · replace hF5 := cpos hC9 hF5
      refine W.skip ?_
      refine W.go hK8 (.cons (i := 0) rfl (.cons (i := 1) rfl (.cons (i := 7) rfl (.cons (i := 8) rfl (.nil))))) ?_
      refine W.seq fun K10 hK10 => ?_
      refine W.block ?_
      refine W.seqR fun Q11 hQ11 => ?_
      refine WL.q (Y.move (.pl rfl)) rfl ?_
      refine WL.q (Y.assign (.pl rfl)) rfl ?_
      refine WL.next hQ11 (.cons (i := 0) rfl (.cons (i := 1) rfl (.cons (i := 5) rfl (.cons (i := 7) rfl (.cons (i := 8) rfl (.nil)))))) ?_
      refine W.seqR fun Q12 hQ12 => ?_
      refine WL.q (Y.move (.pl rfl)) rfl ?_
      refine WL.q (Y.move (.pl rfl)) rfl ?_
      refine WL.q (Y.move (.pl rfl)) rfl ?_
      obtain ⟨x7, hx7, hF5⟩ := bnd hF5
      refine WL.q (Y.slEl Try.underlying23 cells3 hs4 (.pl rfl) (.pl rfl) (ix_lt (hx7))) rfl ?_
      refine WL.q (Y.loadS (enc := (eI .i64)) (v := .int .i64 x7) (j := 0) Try.underlying3 rfl hs4 (.pl rfl) (hx7) rfl rfl) rfl ?_
      obtain ⟨r8, hr8, hF5⟩ := bnd hF5
      refine WL.step (WO.callG (γ := Unit) (first := []) (cap := []) (fun g => .bool ((decide (x7 < 1)) || (decide (5 < x7)))) (fun g => []) (fun g => True) isGo60 (.pl rfl) (.cons (.pl rfl) (.nil)) rfl (fun wz hw => (history_Types_1_ok (hr8) wz ).calls hw) ?_)
      rintro _ -
      refine WL.next hQ12 (.cons (i := 0) rfl (.cons (i := 1) rfl (.cons (i := 5) rfl (.cons (i := 7) rfl (.cons (i := 8) rfl (.cons (i := 16) rfl (.nil))))))) ?_
      refine W.cond (.pl rfl) (fun hC13 => ?_) (fun hC13 => ?_)
      · replace hF5 := cpos hC13 hF5
        refine W.seqR fun Q14 hQ14 => ?_
        refine WL.q (Y.move (.pl rfl)) rfl ?_
        refine WL.q (Y.assign (.pl rfl)) rfl ?_
        refine WL.next hQ14 (.cons (i := 4) rfl (.nil)) ?_
        obtain rfl := Option.some.inj hF5
        obtain rfl := einr hN5
        obtain rfl := Option.some.inj hF
        refine W.retV (fn := Try.f89) (vs := [.int .i64 v6]) Try.results89 ⟨.tmp rfl, trivial⟩ (fun _ _ h => h) (fun wz hw => ?_)
        exact hR _ _ ⟨rfl, (hw.pick [] rfl)⟩
      · replace hF5 := cneg hC13 hF5
        refine W.skip ?_
        refine W.go hK10 (.cons (i := 0) rfl (.cons (i := 1) rfl (.cons (i := 7) rfl (.cons (i := 8) rfl (.nil))))) ?_
        refine W.reg ?_
        obtain ⟨hk9, hF5⟩ := ckh hF5
        refine WL.q (Y.add (.pl rfl) (.pl rfl) (ok64_lt (hk9))) rfl ?_
        refine WL.q (Y.move (.pl rfl)) rfl ?_
        refine WL.nil ?_
        obtain rfl := Option.some.inj hF5
        exact W.again1 hK6 (v6 + 1) k5 hN5 (Nat.lt_succ_self _) (.cons rfl (.nil)) (.cons (i := 0) rfl (.cons (i := 1) rfl (.cons (i := 7) rfl (.nil)))) (fun wz hw => hw.pick [] rfl)
    · replace hF5 := cneg hC9 hF5
      refine W.exit ?_
      obtain rfl := Option.some.inj hF5
      exact W.joinAt0 hK3  (einr hN5) (.nil) (.nil) (fun wz hw => hw.pick [] rfl)
  · -- behind
    rintro  rfl
    refine W.seqR fun Q16 hQ16 => ?_
    refine WL.q (Y.assign (.pl rfl)) rfl ?_
    refine WL.next hQ16 (.cons (i := 4) rfl (.nil)) ?_
    obtain rfl := Option.some.inj hF
    refine W.retV (fn := Try.f89) (vs := [.int .i64 (-1)]) Try.results89 ⟨.tmp rfl, trivial⟩ (fun _ _ h => h) (fun wz hw => ?_)
    exact hR _ _ ⟨rfl, (hw.pick [] rfl)⟩

def slices_ContainsFunc_int_int (N : Nat) (s1 : (List Int)) : Option Bool :=
  bd (slices_IndexFunc_int_int N s1) fun (r6 : Int) =>
  some (decide (0 ≤ r6))

theorem slices_ContainsFunc_int_int_ok {N : Nat} {s1 : (List Int)} {res : Bool} (hF : slices_ContainsFunc_int_int N s1 = some res) (w : World) {v5 : Value} (hs4 : SlIn (eI .i64) 1 w v5 s1) :
    Pure Try.prog 61 [v5, .func (.func 60) #[] #[]] w (.bool res) := by
  obtain ⟨A2, c3, rfl, hcc3, hs4⟩ := hs4.form
  refine W.enter (n := 9) Try.func61 rfl rfl Sub.refl (by simp) (St.start w) fun R hR => ?_
  unfold slices_ContainsFunc_int_int at hF
  refine W.seqR fun Q1 hQ1 => ?_
  refine WL.q (Y.assign (.pl rfl)) rfl ?_
  refine WL.next hQ1 (.cons (i := 0) rfl (.cons (i := 1) rfl (.nil))) ?_
  refine W.seqR fun Q2 hQ2 => ?_
  refine WL.q (Y.move (.pl rfl)) rfl ?_
  refine WL.q (Y.move (.pl rfl)) rfl ?_
  obtain ⟨r6, hr6, hF⟩ := bnd hF
  refine WL.step (WO.callP isGo89 (.cons (.pl rfl) (.cons (.pl rfl) (.nil))) rfl (fun wz hw => slices_IndexFunc_int_int_ok (hr6) wz (hs4.mono hw)) ?_)
  refine WL.q (Y.geq (.pl rfl) (.pl rfl)) rfl ?_
  refine WL.q (Y.assign (.pl rfl)) rfl ?_
  refine WL.next hQ2 (.cons (i := 4) rfl (.nil)) ?_
  obtain rfl := Option.some.inj hF
  refine W.retV (fn := Try.f61) (vs := [.bool (decide (0 ≤ r6))]) Try.results61 ⟨.tmp rfl, trivial⟩ (fun _ _ h => h) (fun wz hw => ?_)
  exact hR _ _ ⟨rfl, (hw.pick [] rfl)⟩

def history_Types (N : Nat) (types1 : (List Int)) : Option Int :=
  bd ((cond (((decide (((types1).length : Int) < 1)) || (decide (4 < ((types1).length : Int)))) == false) (slices_ContainsFunc_int_int N types1) (some false))) fun (r6 : Bool) =>
  cond (((decide (((types1).length : Int) < 1)) || (decide (4 < ((types1).length : Int)))) || r6)
    (some 1)
    (some 0)

theorem history_Types_ok {N : Nat} {types1 : (List Int)} {res : Int} (hF : history_Types N types1 = some res) (w : World) {v5 : Value} (hs4 : SlIn (eI .i64) 1 w v5 types1) :
    Pure Try.prog 33 [v5] w (.int .i64 res) := by
  obtain ⟨A2, c3, rfl, hcc3, hs4⟩ := hs4.form
  refine W.enter (n := 17) Try.func33 rfl rfl Sub.refl (by simp) (St.start w) fun R hR => ?_
  unfold history_Types at hF
  refine W.seqR fun Q1 hQ1 => ?_
  refine WL.q (Y.assign (.pl rfl)) rfl ?_
  refine WL.next hQ1 (.cons (i := 0) rfl (.nil)) ?_
  refine W.seqR fun Q2 hQ2 => ?_
  refine WL.q (Y.assign (.pl rfl)) rfl ?_
  refine WL.next hQ2 (.cons (i := 0) rfl (.cons (i := 3) rfl (.nil))) ?_
  refine W.seq fun K3 hK3 => ?_
  refine W.seqR fun Q4 hQ4 => ?_
  refine WL.q (Y.move (.pl rfl)) rfl ?_
  refine WL.q (Y.len Try.underlying23 (.pl rfl)) rfl ?_
  refine WL.q (Y.lss (.pl rfl) (.pl rfl)) rfl ?_
  refine WL.q (Y.move (.pl rfl)) rfl ?_
  refine WL.g (.pl rfl rfl rfl) (fun hg => Y.move (.pl rfl)) rfl ?_
  refine WL.g (.pl rfl rfl rfl) (fun hg => Y.len Try.underlying23 (.gd (hg) rfl)) rfl ?_
  refine WL.g (.pl rfl rfl rfl) (fun hg => Y.gtr (.gd (hg) rfl) (.pl rfl)) rfl ?_
  refine WL.q (Y.or (.pl rfl) (fun h2 => .gd (eqf h2) rfl)) rfl ?_
  refine WL.q (Y.move (.pl rfl)) rfl ?_
  refine WL.g (.pl rfl rfl rfl) (fun hg => Y.move (.pl rfl)) rfl ?_
  refine WL.g (.pl rfl rfl rfl) (fun hg => Y.move (.pl rfl)) rfl ?_
  obtain ⟨r6, hr6, hF⟩ := bnd hF
  refine WL.gP (.pl rfl rfl rfl) isGo61 (fun hg => (.cons (.gd (hg) rfl) (.cons (.gd (hg) rfl) (.nil)))) rfl (fun hg wz hw => slices_ContainsFunc_int_int_ok (gpos hg hr6) wz (hs4.mono hw)) ?_
  refine WL.q (Y.or (.pl rfl) (fun h2 => .gd (eqf h2) rfl)) rfl ?_
  refine WL.next hQ4 (.cons (i := 16) rfl (.nil)) ?_
  refine W.cond (.pl rfl) (fun hC5 => ?_) (fun hC5 => ?_)
  · replace hF := cpos hC5 hF
    refine W.seqR fun Q6 hQ6 => ?_
    refine WL.q (Y.assign (.pl rfl)) rfl ?_
    refine WL.next hQ6 (.cons (i := 2) rfl (.nil)) ?_
    obtain rfl := Option.some.inj hF
    refine W.retV (fn := Try.f33) (vs := [.int .i64 1]) Try.results33 ⟨.tmp rfl, trivial⟩ (fun _ _ h => h) (fun wz hw => ?_)
    exact hR _ _ ⟨rfl, (hw.pick [] rfl)⟩
  · replace hF := cneg hC5 hF
    refine W.skip ?_
    refine W.go hK3 (.nil) ?_
    refine W.seqR fun Q7 hQ7 => ?_
    refine WL.q (Y.assign (.pl rfl)) rfl ?_
    refine WL.next hQ7 (.cons (i := 2) rfl (.nil)) ?_
    obtain rfl := Option.some.inj hF
    refine W.retV (fn := Try.f33) (vs := [.int .i64 0]) Try.results33 ⟨.tmp rfl, trivial⟩ (fun _ _ h => h) (fun wz hw => ?_)
    exact hR _ _ ⟨rfl, (hw.pick [] rfl)⟩

def history_typeOf (N : Nat) (kind1 : Int) : Option Int :=
  bd (α := Bool) (cond (decide (kind1 = 1))
      (some (decide (kind1 = 1)))
      (some (decide (kind1 = 2)))) <|
  fun (v2 : Bool) => 
    cond v2
      (some 1)
      (bd (α := Bool) (cond (decide (kind1 = 3))
          (some (decide (kind1 = 3)))
          (some (decide (kind1 = 4)))) <|
      fun (v3 : Bool) => 
        cond v3
          (some 2)
          (bd (α := Bool) (cond (decide (kind1 = 5))
              (some (decide (kind1 = 5)))
              (some (decide (kind1 = 6)))) <|
          fun (v4 : Bool) => 
            cond v4
              (some 3)
              (bd (α := Bool) (cond (decide (kind1 = 7))
                  (some (decide (kind1 = 7)))
                  (cond (decide (kind1 = 8))
                    (some (decide (kind1 = 8)))
                    (some (decide (kind1 = 9))))) <|
              fun (v5 : Bool) => 
                cond v5
                  (some 4)
                  (cond (decide (kind1 = 10))
                    (some 5)
                    (some 0)))))

theorem history_typeOf_ok {N : Nat} {kind1 : Int} {res : Int} (hF : history_typeOf N kind1 = some res) (w : World) :
    Pure Try.prog 68 [.int .i64 kind1] w (.int .i64 res) := by
  refine W.enter (n := 19) Try.func68 rfl rfl Sub.refl (by simp) (St.start w) fun R hR => ?_
  unfold history_typeOf at hF
  refine W.seqR fun Q1 hQ1 => ?_
  refine WL.q (Y.assign (.pl rfl)) rfl ?_
  refine WL.next hQ1 (.cons (i := 0) rfl (.nil)) ?_
  refine W.seq fun K2 hK2 => ?_
  refine W.seqR fun Q3 hQ3 => ?_
  refine WL.q (Y.move (.pl rfl)) rfl ?_
  refine WL.next hQ3 (.cons (i := 3) rfl (.nil)) ?_
  refine W.block ?_
  obtain ⟨o4, hF4, hF⟩ := bnd hF
  refine W.join1 (Em := fun (v2 : Bool) => [(4, .bool v2)]) (M := fun v2 => []) (I := fun v2 => v2 = o4) (.cons (i := 3) rfl (.nil)) (fun K5 hK5 => ?_) ?_
  · -- up to
    refine W.seqR fun Q6 hQ6 => ?_
    refine WL.q (Y.eql (.pl rfl) (.pl rfl)) rfl ?_
    refine WL.q (Y.assign (.pl rfl)) rfl ?_
    refine WL.next hQ6 (.cons (i := 3) rfl (.cons (i := 4) rfl (.nil))) ?_
    refine W.cond (.pl rfl) (fun hC7 => ?_) (fun hC7 => ?_)
    · replace hF4 := cpos hC7 hF4
      refine W.skip ?_
      exact W.joinAt1 hK5 (decide (kind1 = 1)) (Option.some.inj hF4) (.cons rfl (.nil)) (.cons (i := 3) rfl (.nil)) (fun wz hw => hw.pick [] rfl)
    · replace hF4 := cneg hC7 hF4
      refine W.reg ?_
      refine WL.q (Y.eql (.pl rfl) (.pl rfl)) rfl ?_
      refine WL.q (Y.assign (.pl rfl)) rfl ?_
      refine WL.nil ?_
      exact W.joinAt1 hK5 (decide (kind1 = 2)) (Option.some.inj hF4) (.cons rfl (.nil)) (.cons (i := 3) rfl (.nil)) (fun wz hw => hw.pick [] rfl)
  · -- behind
    rintro v2 rfl
    refine W.cond (.pl rfl) (fun hC9 => ?_) (fun hC9 => ?_)
    · replace hF := cpos hC9 hF
      refine W.seqR fun Q10 hQ10 => ?_
      refine WL.q (Y.assign (.pl rfl)) rfl ?_
      refine WL.next hQ10 (.cons (i := 2) rfl (.nil)) ?_
      obtain rfl := Option.some.inj hF
      refine W.retV (fn := Try.f68) (vs := [.int .i64 1]) Try.results68 ⟨.tmp rfl, trivial⟩ (fun _ _ h => h) (fun wz hw => ?_)
      exact hR _ _ ⟨rfl, (hw.pick [] rfl)⟩
    · replace hF := cneg hC9 hF
      obtain ⟨o11, hF11, hF⟩ := bnd hF
      refine W.join1 (Em := fun (v3 : Bool) => [(7, .bool v3)]) (M := fun v3 => []) (I := fun v3 => v3 = o11) (.cons (i := 3) rfl (.nil)) (fun K12 hK12 => ?_) ?_
      · -- up to
        refine W.seqR fun Q13 hQ13 => ?_
        refine WL.q (Y.eql (.pl rfl) (.pl rfl)) rfl ?_
        refine WL.q (Y.assign (.pl rfl)) rfl ?_
        refine WL.next hQ13 (.cons (i := 3) rfl (.cons (i := 7) rfl (.nil))) ?_
        refine W.cond (.pl rfl) (fun hC14 => ?_) (fun hC14 => ?_)
        · replace hF11 := cpos hC14 hF11
          refine W.skip ?_
          exact W.joinAt1 hK12 (decide (kind1 = 3)) (Option.some.inj hF11) (.cons rfl (.nil)) (.cons (i := 3) rfl (.nil)) (fun wz hw => hw.pick [] rfl)
        · replace hF11 := cneg hC14 hF11
          refine W.reg ?_
          refine WL.q (Y.eql (.pl rfl) (.pl rfl)) rfl ?_
          refine WL.q (Y.assign (.pl rfl)) rfl ?_
          refine WL.nil ?_
          exact W.joinAt1 hK12 (decide (kind1 = 4)) (Option.some.inj hF11) (.cons rfl (.nil)) (.cons (i := 3) rfl (.nil)) (fun wz hw => hw.pick [] rfl)
      · -- behind
        rintro v3 rfl
        refine W.cond (.pl rfl) (fun hC16 => ?_) (fun hC16 => ?_)
        · replace hF := cpos hC16 hF
          refine W.seqR fun Q17 hQ17 => ?_
          refine WL.q (Y.assign (.pl rfl)) rfl ?_
          refine WL.next hQ17 (.cons (i := 2) rfl (.nil)) ?_
          obtain rfl := Option.some.inj hF
          refine W.retV (fn := Try.f68) (vs := [.int .i64 2]) Try.results68 ⟨.tmp rfl, trivial⟩ (fun _ _ h => h) (fun wz hw => ?_)
          exact hR _ _ ⟨rfl, (hw.pick [] rfl)⟩
        · replace hF := cneg hC16 hF
          obtain ⟨o18, hF18, hF⟩ := bnd hF
          refine W.join1 (Em := fun (v4 : Bool) => [(10, .bool v4)]) (M := fun v4 => []) (I := fun v4 => v4 = o18) (.cons (i := 3) rfl (.nil)) (fun K19 hK19 => ?_) ?_
          · -- up to
            refine W.seqR fun Q20 hQ20 => ?_
            refine WL.q (Y.eql (.pl rfl) (.pl rfl)) rfl ?_
            refine WL.q (Y.assign (.pl rfl)) rfl ?_
            refine WL.next hQ20 (.cons (i := 3) rfl (.cons (i := 10) rfl (.nil))) ?_
            refine W.cond (.pl rfl) (fun hC21 => ?_) (fun hC21 => ?_)
            · replace hF18 := cpos hC21 hF18
              refine W.skip ?_
              exact W.joinAt1 hK19 (decide (kind1 = 5)) (Option.some.inj hF18) (.cons rfl (.nil)) (.cons (i := 3) rfl (.nil)) (fun wz hw => hw.pick [] rfl)
            · replace hF18 := cneg hC21 hF18
              refine W.reg ?_
              refine WL.q (Y.eql (.pl rfl) (.pl rfl)) rfl ?_
              refine WL.q (Y.assign (.pl rfl)) rfl ?_
              refine WL.nil ?_
              exact W.joinAt1 hK19 (decide (kind1 = 6)) (Option.some.inj hF18) (.cons rfl (.nil)) (.cons (i := 3) rfl (.nil)) (fun wz hw => hw.pick [] rfl)
          · -- behind
            rintro v4 rfl
            refine W.cond (.pl rfl) (fun hC23 => ?_) (fun hC23 => ?_)
            · replace hF := cpos hC23 hF
              refine W.seqR fun Q24 hQ24 => ?_
              refine WL.q (Y.assign (.pl rfl)) rfl ?_
              refine WL.next hQ24 (.cons (i := 2) rfl (.nil)) ?_
              obtain rfl := Option.some.inj hF
              refine W.retV (fn := Try.f68) (vs := [.int .i64 3]) Try.results68 ⟨.tmp rfl, trivial⟩ (fun _ _ h => h) (fun wz hw => ?_)
              exact hR _ _ ⟨rfl, (hw.pick [] rfl)⟩
            · replace hF := cneg hC23 hF
              obtain ⟨o25, hF25, hF⟩ := bnd hF
              refine W.join1 (Em := fun (v5 : Bool) => [(13, .bool v5)]) (M := fun v5 => []) (I := fun v5 => v5 = o25) (.cons (i := 3) rfl (.nil)) (fun K26 hK26 => ?_) ?_
              · -- up to
                refine W.seqR fun Q27 hQ27 => ?_
                refine WL.q (Y.eql (.pl rfl) (.pl rfl)) rfl ?_
                refine WL.q (Y.assign (.pl rfl)) rfl ?_
                refine WL.next hQ27 (.cons (i := 3) rfl (.cons (i := 13) rfl (.nil))) ?_
                refine W.cond (.pl rfl) (fun hC28 => ?_) (fun hC28 => ?_)
                · replace hF25 := cpos hC28 hF25
                  refine W.skip ?_
                  exact W.joinAt1 hK26 (decide (kind1 = 7)) (Option.some.inj hF25) (.cons rfl (.nil)) (.cons (i := 3) rfl (.nil)) (fun wz hw => hw.pick [] rfl)
                · replace hF25 := cneg hC28 hF25
                  refine W.seqR fun Q29 hQ29 => ?_
                  refine WL.q (Y.eql (.pl rfl) (.pl rfl)) rfl ?_
                  refine WL.q (Y.assign (.pl rfl)) rfl ?_
                  refine WL.next hQ29 (.cons (i := 3) rfl (.cons (i := 13) rfl (.nil))) ?_
                  refine W.cond (.pl rfl) (fun hC30 => ?_) (fun hC30 => ?_)
                  · replace hF25 := cpos hC30 hF25
                    refine W.skip ?_
                    exact W.joinAt1 hK26 (decide (kind1 = 8)) (Option.some.inj hF25) (.cons rfl (.nil)) (.cons (i := 3) rfl (.nil)) (fun wz hw => hw.pick [] rfl)
                  · replace hF25 := cneg hC30 hF25
                    refine W.reg ?_
                    refine WL.q (Y.eql (.pl rfl) (.pl rfl)) rfl ?_
                    refine WL.q (Y.assign (.pl rfl)) rfl ?_
                    refine WL.nil ?_
                    exact W.joinAt1 hK26 (decide (kind1 = 9)) (Option.some.inj hF25) (.cons rfl (.nil)) (.cons (i := 3) rfl (.nil)) (fun wz hw => hw.pick [] rfl)
              · -- behind
                rintro v5 rfl
                refine W.cond (.pl rfl) (fun hC32 => ?_) (fun hC32 => ?_)
                · replace hF := cpos hC32 hF
                  refine W.seqR fun Q33 hQ33 => ?_
                  refine WL.q (Y.assign (.pl rfl)) rfl ?_
                  refine WL.next hQ33 (.cons (i := 2) rfl (.nil)) ?_
                  obtain rfl := Option.some.inj hF
                  refine W.retV (fn := Try.f68) (vs := [.int .i64 4]) Try.results68 ⟨.tmp rfl, trivial⟩ (fun _ _ h => h) (fun wz hw => ?_)
                  exact hR _ _ ⟨rfl, (hw.pick [] rfl)⟩
                · replace hF := cneg hC32 hF
                  refine W.seqR fun Q34 hQ34 => ?_
                  refine WL.q (Y.eql (.pl rfl) (.pl rfl)) rfl ?_
                  refine WL.q (Y.assign (.pl rfl)) rfl ?_
                  refine WL.next hQ34 (.cons (i := 17) rfl (.nil)) ?_
                  refine W.cond (.pl rfl) (fun hC35 => ?_) (fun hC35 => ?_)
                  · replace hF := cpos hC35 hF
                    refine W.seqR fun Q36 hQ36 => ?_
                    refine WL.q (Y.assign (.pl rfl)) rfl ?_
                    refine WL.next hQ36 (.cons (i := 2) rfl (.nil)) ?_
                    obtain rfl := Option.some.inj hF
                    refine W.retV (fn := Try.f68) (vs := [.int .i64 5]) Try.results68 ⟨.tmp rfl, trivial⟩ (fun _ _ h => h) (fun wz hw => ?_)
                    exact hR _ _ ⟨rfl, (hw.pick [] rfl)⟩
                  · replace hF := cneg hC35 hF
                    refine W.skip ?_
                    refine W.go hK2 (.nil) ?_
                    refine W.seqR fun Q37 hQ37 => ?_
                    refine WL.q (Y.assign (.pl rfl)) rfl ?_
                    refine WL.next hQ37 (.cons (i := 2) rfl (.nil)) ?_
                    obtain rfl := Option.some.inj hF
                    refine W.retV (fn := Try.f68) (vs := [.int .i64 0]) Try.results68 ⟨.tmp rfl, trivial⟩ (fun _ _ h => h) (fun wz hw => ?_)
                    exact hR _ _ ⟨rfl, (hw.pick [] rfl)⟩

def history_Fits (N : Nat) (typ1 : Int) (kind2 : Int) : Option Bool :=
  bd ((cond ((!(decide (typ1 = 0))) == true) (history_typeOf N kind2) (some 0))) fun (r3 : Int) =>
  some ((!(decide (typ1 = 0))) && (decide (r3 = typ1)))

theorem history_Fits_ok {N : Nat} {typ1 : Int} {kind2 : Int} {res : Bool} (hF : history_Fits N typ1 kind2 = some res) (w : World) :
    Pure Try.prog 44 [.int .i64 typ1, .int .i64 kind2] w (.bool res) := by
  refine W.enter (n := 13) Try.func44 rfl rfl Sub.refl (by simp) (St.start w) fun R hR => ?_
  unfold history_Fits at hF
  refine W.seqR fun Q1 hQ1 => ?_
  refine WL.q (Y.assign (.pl rfl)) rfl ?_
  refine WL.next hQ1 (.cons (i := 0) rfl (.cons (i := 1) rfl (.nil))) ?_
  refine W.seqR fun Q2 hQ2 => ?_
  refine WL.q (Y.move (.pl rfl)) rfl ?_
  refine WL.q (Y.neq (.pl rfl) (.pl rfl)) rfl ?_
  refine WL.q (Y.move (.pl rfl)) rfl ?_
  refine WL.g (.pl rfl rfl rfl) (fun hg => Y.move (.pl rfl)) rfl ?_
  obtain ⟨r3, hr3, hF⟩ := bnd hF
  refine WL.gP (.pl rfl rfl rfl) isGo68 (fun hg => (.cons (.gd (hg) rfl) (.nil))) rfl (fun hg wz hw => history_typeOf_ok (gpos hg hr3) wz ) ?_
  refine WL.g (.pl rfl rfl rfl) (fun hg => Y.move (.pl rfl)) rfl ?_
  refine WL.g (.pl rfl rfl rfl) (fun hg => Y.eql (.gd (hg) rfl) (.gd (hg) rfl)) rfl ?_
  refine WL.q (Y.and (.pl rfl) (fun h2 => .gd (eqt h2) rfl)) rfl ?_
  refine WL.q (Y.assign (.pl rfl)) rfl ?_
  refine WL.next hQ2 (.cons (i := 4) rfl (.nil)) ?_
  obtain rfl := Option.some.inj hF
  refine W.retV (fn := Try.f44) (vs := [.bool ((!(decide (typ1 = 0))) && (decide (r3 = typ1)))]) Try.results44 ⟨.tmp rfl, trivial⟩ (fun _ _ h => h) (fun wz hw => ?_)
  exact hR _ _ ⟨rfl, (hw.pick [] rfl)⟩

def history_Argument (N : Nat) (kind1 : Int) (n2 : Int) : Option Bool :=
  bd (α := (Unit ⊕ Bool)) (cond (decide (kind1 = 2))
      (cond (decide (kind1 = 2))
        (some (.inr (decide (n2 = 0))))
        (some (.inl ())))
      (cond (decide (kind1 = 4))
        (cond (decide (kind1 = 4))
          (some (.inr (decide (n2 = 0))))
          (some (.inl ())))
        (cond (decide (kind1 = 6))
          (cond (decide (kind1 = 6))
            (some (.inr (decide (n2 = 0))))
            (some (.inl ())))
          (cond (decide (kind1 = 10))
            (some (.inr (decide (n2 = 0))))
            (some (.inl ())))))) <|
  Sum.elim (fun _ => 
    some ((decide (1 ≤ n2)) && (decide (n2 ≤ 1000)))) (fun p => some p)

theorem history_Argument_ok {N : Nat} {kind1 : Int} {n2 : Int} {res : Bool} (hF : history_Argument N kind1 n2 = some res) (w : World) :
    Pure Try.prog 45 [.int .i64 kind1, .int .i64 n2] w (.bool res) := by
  refine W.enter (n := 19) Try.func45 rfl rfl Sub.refl (by simp) (St.start w) fun R hR => ?_
  unfold history_Argument at hF
  refine W.seqR fun Q1 hQ1 => ?_
  refine WL.q (Y.assign (.pl rfl)) rfl ?_
  refine WL.next hQ1 (.cons (i := 0) rfl (.cons (i := 1) rfl (.nil))) ?_
  obtain ⟨o2, hF2, hF⟩ := bnd hF
  refine W.join0 (Em := []) (M := []) (I := (.inl ()) = o2) (.cons (i := 1) rfl (.nil)) (fun K3 hK3 => ?_) ?_
  · -- up to
    refine W.seqR fun Q4 hQ4 => ?_
    refine WL.q (Y.move (.pl rfl)) rfl ?_
    refine WL.next hQ4 (.cons (i := 1) rfl (.cons (i := 5) rfl (.nil))) ?_
    refine W.block ?_
    refine W.seq fun K5 hK5 => ?_
    refine W.seqR fun Q6 hQ6 => ?_
    refine WL.q (Y.eql (.pl rfl) (.pl rfl)) rfl ?_
    refine WL.q (Y.assign (.pl rfl)) rfl ?_
    refine WL.next hQ6 (.cons (i := 1) rfl (.cons (i := 5) rfl (.cons (i := 6) rfl (.nil)))) ?_
    refine W.cond (.pl rfl) (fun hC7 => ?_) (fun hC7 => ?_)
    · replace hF2 := cpos hC7 hF2
      refine W.skip ?_
      refine W.go hK5 (.cons (i := 1) rfl (.cons (i := 6) rfl (.nil))) ?_
      refine W.cond (.pl rfl) (fun hC8 => ?_) (fun hC8 => ?_)
      · replace hF2 := cpos hC8 hF2
        refine W.seqR fun Q9 hQ9 => ?_
        refine WL.q (Y.move (.pl rfl)) rfl ?_
        refine WL.q (Y.eql (.pl rfl) (.pl rfl)) rfl ?_
        refine WL.q (Y.assign (.pl rfl)) rfl ?_
        refine WL.next hQ9 (.cons (i := 4) rfl (.nil)) ?_
        obtain rfl := Option.some.inj hF2
        obtain rfl := Option.some.inj hF
        refine W.retV (fn := Try.f45) (vs := [.bool (decide (n2 = 0))]) Try.results45 ⟨.tmp rfl, trivial⟩ (fun _ _ h => h) (fun wz hw => ?_)
        exact hR _ _ ⟨rfl, (hw.pick [] rfl)⟩
      · replace hF2 := cneg hC8 hF2
        refine W.skip ?_
        exact W.joinAt0 hK3  (Option.some.inj hF2) (.nil) (.cons (i := 1) rfl (.nil)) (fun wz hw => hw.pick [] rfl)
    · replace hF2 := cneg hC7 hF2
      refine W.seqR fun Q10 hQ10 => ?_
      refine WL.q (Y.eql (.pl rfl) (.pl rfl)) rfl ?_
      refine WL.q (Y.assign (.pl rfl)) rfl ?_
      refine WL.next hQ10 (.cons (i := 1) rfl (.cons (i := 5) rfl (.cons (i := 6) rfl (.nil)))) ?_
      refine W.cond (.pl rfl) (fun hC11 => ?_) (fun hC11 => ?_)
      · replace hF2 := cpos hC11 hF2
        refine W.skip ?_
        refine W.go hK5 (.cons (i := 1) rfl (.cons (i := 6) rfl (.nil))) ?_
        refine W.cond (.pl rfl) (fun hC12 => ?_) (fun hC12 => ?_)
        · replace hF2 := cpos hC12 hF2
          refine W.seqR fun Q13 hQ13 => ?_
          refine WL.q (Y.move (.pl rfl)) rfl ?_
          refine WL.q (Y.eql (.pl rfl) (.pl rfl)) rfl ?_
          refine WL.q (Y.assign (.pl rfl)) rfl ?_
          refine WL.next hQ13 (.cons (i := 4) rfl (.nil)) ?_
          obtain rfl := Option.some.inj hF2
          obtain rfl := Option.some.inj hF
          refine W.retV (fn := Try.f45) (vs := [.bool (decide (n2 = 0))]) Try.results45 ⟨.tmp rfl, trivial⟩ (fun _ _ h => h) (fun wz hw => ?_)
          exact hR _ _ ⟨rfl, (hw.pick [] rfl)⟩
        · replace hF2 := cneg hC12 hF2
          refine W.skip ?_
          exact W.joinAt0 hK3  (Option.some.inj hF2) (.nil) (.cons (i := 1) rfl (.nil)) (fun wz hw => hw.pick [] rfl)
      · replace hF2 := cneg hC11 hF2
        refine W.seqR fun Q14 hQ14 => ?_
        refine WL.q (Y.eql (.pl rfl) (.pl rfl)) rfl ?_
        refine WL.q (Y.assign (.pl rfl)) rfl ?_
        refine WL.next hQ14 (.cons (i := 1) rfl (.cons (i := 5) rfl (.cons (i := 6) rfl (.nil)))) ?_
        refine W.cond (.pl rfl) (fun hC15 => ?_) (fun hC15 => ?_)
        · replace hF2 := cpos hC15 hF2
          refine W.skip ?_
          refine W.go hK5 (.cons (i := 1) rfl (.cons (i := 6) rfl (.nil))) ?_
          refine W.cond (.pl rfl) (fun hC16 => ?_) (fun hC16 => ?_)
          · replace hF2 := cpos hC16 hF2
            refine W.seqR fun Q17 hQ17 => ?_
            refine WL.q (Y.move (.pl rfl)) rfl ?_
            refine WL.q (Y.eql (.pl rfl) (.pl rfl)) rfl ?_
            refine WL.q (Y.assign (.pl rfl)) rfl ?_
            refine WL.next hQ17 (.cons (i := 4) rfl (.nil)) ?_
            obtain rfl := Option.some.inj hF2
            obtain rfl := Option.some.inj hF
            refine W.retV (fn := Try.f45) (vs := [.bool (decide (n2 = 0))]) Try.results45 ⟨.tmp rfl, trivial⟩ (fun _ _ h => h) (fun wz hw => ?_)
            exact hR _ _ ⟨rfl, (hw.pick [] rfl)⟩
          · replace hF2 := cneg hC16 hF2
            refine W.skip ?_
            exact W.joinAt0 hK3  (Option.some.inj hF2) (.nil) (.cons (i := 1) rfl (.nil)) (fun wz hw => hw.pick [] rfl)
        · replace hF2 := cneg hC15 hF2
          refine W.reg ?_
          refine WL.q (Y.eql (.pl rfl) (.pl rfl)) rfl ?_
          refine WL.q (Y.assign (.pl rfl)) rfl ?_
          refine WL.nil ?_
          refine W.go hK5 (.cons (i := 1) rfl (.cons (i := 6) rfl (.nil))) ?_
          refine W.cond (.pl rfl) (fun hC19 => ?_) (fun hC19 => ?_)
          · replace hF2 := cpos hC19 hF2
            refine W.seqR fun Q20 hQ20 => ?_
            refine WL.q (Y.move (.pl rfl)) rfl ?_
            refine WL.q (Y.eql (.pl rfl) (.pl rfl)) rfl ?_
            refine WL.q (Y.assign (.pl rfl)) rfl ?_
            refine WL.next hQ20 (.cons (i := 4) rfl (.nil)) ?_
            obtain rfl := Option.some.inj hF2
            obtain rfl := Option.some.inj hF
            refine W.retV (fn := Try.f45) (vs := [.bool (decide (n2 = 0))]) Try.results45 ⟨.tmp rfl, trivial⟩ (fun _ _ h => h) (fun wz hw => ?_)
            exact hR _ _ ⟨rfl, (hw.pick [] rfl)⟩
          · replace hF2 := cneg hC19 hF2
            refine W.skip ?_
            exact W.joinAt0 hK3  (Option.some.inj hF2) (.nil) (.cons (i := 1) rfl (.nil)) (fun wz hw => hw.pick [] rfl)
  · -- behind
    rintro  rfl
    refine W.seqR fun Q21 hQ21 => ?_
    refine WL.q (Y.move (.pl rfl)) rfl ?_
    refine WL.q (Y.geq (.pl rfl) (.pl rfl)) rfl ?_
    refine WL.q (Y.move (.pl rfl)) rfl ?_
    refine WL.g (.pl rfl rfl rfl) (fun hg => Y.move (.pl rfl)) rfl ?_
    refine WL.g (.pl rfl rfl rfl) (fun hg => Y.leq (.gd (hg) rfl) (.pl rfl)) rfl ?_
    refine WL.q (Y.and (.pl rfl) (fun h2 => .gd (eqt h2) rfl)) rfl ?_
    refine WL.q (Y.assign (.pl rfl)) rfl ?_
    refine WL.next hQ21 (.cons (i := 4) rfl (.nil)) ?_
    obtain rfl := Option.some.inj hF
    refine W.retV (fn := Try.f45) (vs := [.bool ((decide (1 ≤ n2)) && (decide (n2 ≤ 1000)))]) Try.results45 ⟨.tmp rfl, trivial⟩ (fun _ _ h => h) (fun wz hw => ?_)
    exact hR _ _ ⟨rfl, (hw.pick [] rfl)⟩

def threads_Check_L17 (N : Nat) (people6 : (List (List Ask))) : (Int × Int) → Option ((Int × Int) ⊕ Int)
  | (n13, v14) =>
    cond (decide (v14 < ((people6).length : Int)))
      (bd (ix people6 v14) fun (x15 : (List Ask)) =>
      ck (ok64 (v14 + 1)) <|
      some (.inl ((IntKind.i64.wrap (n13 + ((x15).length : Int))), (v14 + 1))))
      (some (.inr n13))

def threads_Check_L31 (N : Nat) (x18 : (List Ask)) (types1 : (List Int)) : Int → Option (Int ⊕ (Unit ⊕ Int))
  | v19 =>
    cond (decide (v19 < ((x18).length : Int)))
      (bd (ix x18 v19) fun (x20 : Ask) =>
      bd ((cond (((decide (x20.thing < 0)) || (decide (((types1).length : Int) ≤ x20.thing))) == false) (ix types1 x20.thing) (some 0))) fun (x22 : Int) =>
      bd ((cond (((decide (x20.thing < 0)) || (decide (((types1).length : Int) ≤ x20.thing))) == false) (history_Fits N x22 x20.kind) (some false))) fun (r23 : Bool) =>
      bd ((cond ((((decide (x20.thing < 0)) || (decide (((types1).length : Int) ≤ x20.thing))) || (!r23)) == false) (history_Argument N x20.kind x20.arg) (some false))) fun (r24 : Bool) =>
      cond ((((decide (x20.thing < 0)) || (decide (((types1).length : Int) ≤ x20.thing))) || (!r23)) || (!r24))
        (some (.inr (.inr 3)))
        (ck (ok64 (v19 + 1)) <|
        some (.inl (v19 + 1))))
      (some (.inr (.inl ())))

def threads_Check_L29 (N : Nat) (people6 : (List (List Ask))) (types1 : (List Int)) : Int → Option (Int ⊕ (Unit ⊕ Int))
  | v17 =>
    cond (decide (v17 < ((people6).length : Int)))
      (bd (α := (Unit ⊕ Int)) (bd (ix people6 v17) fun (x18 : (List Ask)) =>
        iter (threads_Check_L31 N x18 types1) N 0) <|
      Sum.elim (fun _ => 
        ck (ok64 (v17 + 1)) <|
        some (.inl (v17 + 1))) (fun p => some (.inr (.inr p))))
      (some (.inr (.inl ())))

def threads_Check (N : Nat) (types1 : (List Int)) (people6 : (List (List Ask))) : Option Int :=
  bd (history_Types N types1) fun (r11 : Int) =>
  cond ((!(decide (r11 = 0))) || (decide (8 < ((people6).length : Int))))
    (some 1)
    (bd (α := Int) (iter (threads_Check_L17 N people6) N (0, 0)) <|
    fun (n12 : Int) => 
      cond (decide (90 < n12))
        (some 2)
        (bd (α := (Unit ⊕ Int)) (iter (threads_Check_L29 N people6 types1) N 0) <|
        Sum.elim (fun _ => 
          some 0) (fun p => some p)))

theorem threads_Check_ok {N : Nat} {types1 : (List Int)} {people6 : (List (List Ask))} {A7 : Option Addr} {c8 : Nat} {hd9 : List Hd} {res : Int} (hF : threads_Check N types1 people6 = some res) (w : World) {v5 : Value} (hs4 : SlIn (eI .i64) 1 w v5 types1) (hs10 : SlNN encAsk 3 w A7 c8 hd9 people6) :
    Pure Try.prog 30 [v5, .slice A7 (people6).length c8] w (.int .i64 res) := by
  obtain ⟨A2, c3, rfl, hcc3, hs4⟩ := hs4.form
  refine W.enter (n := 76) Try.func30 rfl rfl Sub.refl (by simp) (St.start w) fun R hR => ?_
  unfold threads_Check at hF
  refine W.seqR fun Q1 hQ1 => ?_
  refine WL.q (Y.assign (.pl rfl)) rfl ?_
  refine WL.next hQ1 (.cons (i := 0) rfl (.cons (i := 1) rfl (.nil))) ?_
  refine W.seq fun K2 hK2 => ?_
  refine W.seqR fun Q3 hQ3 => ?_
  refine WL.q (Y.move (.pl rfl)) rfl ?_
  obtain ⟨r11, hr11, hF⟩ := bnd hF
  refine WL.step (WO.callP isGo33 (.cons (.pl rfl) (.nil)) rfl (fun wz hw => history_Types_ok (hr11) wz (hs4.mono hw)) ?_)
  refine WL.q (Y.neq (.pl rfl) (.pl rfl)) rfl ?_
  refine WL.q (Y.move (.pl rfl)) rfl ?_
  refine WL.g (.pl rfl rfl rfl) (fun hg => Y.move (.pl rfl)) rfl ?_
  refine WL.g (.pl rfl rfl rfl) (fun hg => Y.len Try.underlying22 (.gd (hg) rfl)) rfl ?_
  refine WL.g (.pl rfl rfl rfl) (fun hg => Y.gtr (.gd (hg) rfl) (.pl rfl)) rfl ?_
  refine WL.q (Y.or (.pl rfl) (fun h2 => .gd (eqf h2) rfl)) rfl ?_
  refine WL.next hQ3 (.cons (i := 0) rfl (.cons (i := 1) rfl (.cons (i := 19) rfl (.nil)))) ?_
  refine W.cond (.pl rfl) (fun hC4 => ?_) (fun hC4 => ?_)
  · replace hF := cpos hC4 hF
    refine W.seqR fun Q5 hQ5 => ?_
    refine WL.q (Y.assign (.pl rfl)) rfl ?_
    refine WL.next hQ5 (.cons (i := 4) rfl (.nil)) ?_
    obtain rfl := Option.some.inj hF
    refine W.retV (fn := Try.f30) (vs := [.int .i64 1]) Try.results30 ⟨.tmp rfl, trivial⟩ (fun _ _ h => h) (fun wz hw => ?_)
    exact hR _ _ ⟨rfl, (hw.pick [] rfl)⟩
  · replace hF := cneg hC4 hF
    refine W.skip ?_
    refine W.go hK2 (.cons (i := 0) rfl (.cons (i := 1) rfl (.nil))) ?_
    refine W.seqR fun Q6 hQ6 => ?_
    refine WL.q (Y.assign (.pl rfl)) rfl ?_
    refine WL.next hQ6 (.cons (i := 0) rfl (.cons (i := 1) rfl (.cons (i := 5) rfl (.nil)))) ?_
    obtain ⟨o7, hF7, hF⟩ := bnd hF
    refine W.join1 (Em := fun (n12 : Int) => [(5, .int .i64 n12)]) (M := fun n12 => []) (I := fun n12 => n12 = o7) (.cons (i := 0) rfl (.cons (i := 1) rfl (.nil))) (fun K8 hK8 => ?_) ?_
    · -- up to
      refine W.seqR fun Q9 hQ9 => ?_
      refine WL.q (Y.move (.pl rfl)) rfl ?_
      refine WL.q (Y.len Try.underlying22 (.pl rfl)) rfl ?_
      refine WL.q (Y.move (.pl rfl)) rfl ?_
      refine WL.next hQ9 (.cons (i := 0) rfl (.cons (i := 1) rfl (.cons (i := 5) rfl (.cons (i := 20) rfl (.cons (i := 21) rfl (.cons (i := 22) rfl (.nil))))))) ?_
      refine W.block ?_
      refine W.loop2 (Em := fun (n13 : Int) (v14 : Int) => [(5, .int .i64 n13), (22, .int .i64 v14)]) (M := fun n13 v14 => []) (I := fun n13 v14 k10 => iter (threads_Check_L17 N people6) k10 (n13, v14) = some o7) 0 0 N (hF7) (.cons rfl (.cons rfl (.nil))) (.cons (i := 0) rfl (.cons (i := 1) rfl (.cons (i := 20) rfl (.cons (i := 21) rfl (.nil))))) (fun wz hw => hw.pick [] rfl) (fun n13 v14 k10 hI K11 hK11 => ?_)
      obtain ⟨k10, t10, rfl, hF10, hN10⟩ := iter_step hI
      refine W.seqR fun Q12 hQ12 => ?_
      refine WL.q (Y.lss (.pl rfl) (.pl rfl)) rfl ?_
      refine WL.next hQ12 (.cons (i := 0) rfl (.cons (i := 1) rfl (.cons (i := 5) rfl (.cons (i := 20) rfl (.cons (i := 21) rfl (.cons (i := 22) rfl (.cons (i := 23) rfl (.nil)))))))) ?_
      refine W.seq fun K13 hK13 => ?_
      refine W.cond (.pl rfl) (fun hC14 => ?_) (fun hC14 => ?_)
      · replace hF10 := cpos hC14 hF10
        refine W.skip ?_
        refine W.go hK13 (.cons (i := 0) rfl (.cons (i := 1) rfl (.cons (i := 5) rfl (.cons (i := 20) rfl (.cons (i := 21) rfl (.cons (i := 22) rfl (.nil))))))) ?_
        refine W.seq fun K15 hK15 => ?_
        refine W.block ?_
        refine W.seqR fun Q16 hQ16 => ?_
        obtain ⟨x15, hx15, hF10⟩ := bnd hF10
        refine WL.q (Y.nnEl Try.underlying22 cells33 hs10 (.pl rfl) (.pl rfl) (ix_lt (hx15))) rfl ?_
        refine WL.q (Y.loadNN Try.underlying33 rfl hs10 (.pl rfl) (hx15) rfl) rfl ?_
        refine WL.q (Y.assign (.pl rfl)) rfl ?_
        refine WL.next hQ16 (.cons (i := 0) rfl (.cons (i := 1) rfl (.cons (i := 5) rfl (.cons (i := 7) rfl (.cons (i := 20) rfl (.cons (i := 21) rfl (.cons (i := 22) rfl (.nil)))))))) ?_
        refine W.reg ?_
        refine WL.q (Y.move (.pl rfl)) rfl ?_
        refine WL.q (Y.move (.pl rfl)) rfl ?_
        refine WL.q (Y.len Try.underlying33 (.pl rfl)) rfl ?_
        refine WL.q (Y.addW (.pl rfl) (.pl rfl)) rfl ?_
        refine WL.q (Y.assign (.pl rfl)) rfl ?_
        refine WL.nil ?_
        refine W.go hK15 (.cons (i := 0) rfl (.cons (i := 1) rfl (.cons (i := 5) rfl (.cons (i := 20) rfl (.cons (i := 21) rfl (.cons (i := 22) rfl (.nil))))))) ?_
        refine W.reg ?_
        obtain ⟨hk16, hF10⟩ := ckh hF10
        refine WL.q (Y.add (.pl rfl) (.pl rfl) (ok64_lt (hk16))) rfl ?_
        refine WL.q (Y.move (.pl rfl)) rfl ?_
        refine WL.nil ?_
        obtain rfl := Option.some.inj hF10
        exact W.again2 hK11 (IntKind.i64.wrap (n13 + ((x15).length : Int))) (v14 + 1) k10 hN10 (Nat.lt_succ_self _) (.cons rfl (.cons rfl (.nil))) (.cons (i := 0) rfl (.cons (i := 1) rfl (.cons (i := 20) rfl (.cons (i := 21) rfl (.nil))))) (fun wz hw => hw.pick [] rfl)
      · replace hF10 := cneg hC14 hF10
        refine W.exit ?_
        obtain rfl := Option.some.inj hF10
        exact W.joinAt1 hK8 n13 (einr hN10) (.cons rfl (.nil)) (.cons (i := 0) rfl (.cons (i := 1) rfl (.nil))) (fun wz hw => hw.pick [] rfl)
    · -- behind
      rintro n12 rfl
      refine W.seq fun K19 hK19 => ?_
      refine W.seqR fun Q20 hQ20 => ?_
      refine WL.q (Y.move (.pl rfl)) rfl ?_
      refine WL.q (Y.gtr (.pl rfl) (.pl rfl)) rfl ?_
      refine WL.next hQ20 (.cons (i := 0) rfl (.cons (i := 1) rfl (.cons (i := 32) rfl (.nil)))) ?_
      refine W.cond (.pl rfl) (fun hC21 => ?_) (fun hC21 => ?_)
      · replace hF := cpos hC21 hF
        refine W.seqR fun Q22 hQ22 => ?_
        refine WL.q (Y.assign (.pl rfl)) rfl ?_
        refine WL.next hQ22 (.cons (i := 4) rfl (.nil)) ?_
        obtain rfl := Option.some.inj hF
        refine W.retV (fn := Try.f30) (vs := [.int .i64 2]) Try.results30 ⟨.tmp rfl, trivial⟩ (fun _ _ h => h) (fun wz hw => ?_)
        exact hR _ _ ⟨rfl, (hw.pick [] rfl)⟩
      · replace hF := cneg hC21 hF
        refine W.skip ?_
        refine W.go hK19 (.cons (i := 0) rfl (.cons (i := 1) rfl (.nil))) ?_
        obtain ⟨o23, hF23, hF⟩ := bnd hF
        refine W.join0 (Em := []) (M := []) (I := (.inl ()) = o23) (.nil) (fun K24 hK24 => ?_) ?_
        · -- up to
          refine W.seqR fun Q25 hQ25 => ?_
          refine WL.q (Y.move (.pl rfl)) rfl ?_
          refine WL.q (Y.len Try.underlying22 (.pl rfl)) rfl ?_
          refine WL.q (Y.move (.pl rfl)) rfl ?_
          refine WL.next hQ25 (.cons (i := 0) rfl (.cons (i := 33) rfl (.cons (i := 34) rfl (.cons (i := 35) rfl (.nil))))) ?_
          refine W.block ?_
          refine W.loop1 (Em := fun (v17 : Int) => [(35, .int .i64 v17)]) (M := fun v17 => []) (I := fun v17 k26 => iter (threads_Check_L29 N people6 types1) k26 v17 = some o23) 0 N (hF23) (.cons rfl (.nil)) (.cons (i := 0) rfl (.cons (i := 33) rfl (.cons (i := 34) rfl (.nil)))) (fun wz hw => hw.pick [] rfl) (fun v17 k26 hI K27 hK27 => ?_)
          obtain ⟨k26, t26, rfl, hF26, hN26⟩ := iter_step hI
          refine W.seqR fun Q28 hQ28 => ?_
          refine WL.q (Y.lss (.pl rfl) (.pl rfl)) rfl ?_
          refine WL.next hQ28 (.cons (i := 0) rfl (.cons (i := 33) rfl (.cons (i := 34) rfl (.cons (i := 35) rfl (.cons (i := 36) rfl (.nil)))))) ?_
          refine W.seq fun K29 hK29 => ?_
          refine W.cond (.pl rfl) (fun hC30 => ?_) (fun hC30 => ?_)
          · replace hF26 := cpos hC30 hF26
            refine W.skip ?_
            refine W.go hK29 (.cons (i := 0) rfl (.cons (i := 33) rfl (.cons (i := 34) rfl (.cons (i := 35) rfl (.nil))))) ?_
            obtain ⟨o31, hF31, hF26⟩ := bnd hF26
            refine W.join0 (Em := []) (M := []) (I := (.inl ()) = o31) (.cons (i := 0) rfl (.cons (i := 33) rfl (.cons (i := 34) rfl (.cons (i := 35) rfl (.nil))))) (fun K32 hK32 => ?_) ?_
            · -- up to
              refine W.block ?_
              refine W.seqR fun Q33 hQ33 => ?_
              obtain ⟨x18, hx18, hF31⟩ := bnd hF31
              refine WL.q (Y.nnEl Try.underlying22 cells33 hs10 (.pl rfl) (.pl rfl) (ix_lt (hx18))) rfl ?_
              refine WL.q (Y.loadNN Try.underlying33 rfl hs10 (.pl rfl) (hx18) rfl) rfl ?_
              refine WL.q (Y.assign (.pl rfl)) rfl ?_
              refine WL.next hQ33 (.cons (i := 0) rfl (.cons (i := 9) rfl (.cons (i := 33) rfl (.cons (i := 34) rfl (.cons (i := 35) rfl (.nil)))))) ?_
              refine W.seqR fun Q34 hQ34 => ?_
              refine WL.q (Y.move (.pl rfl)) rfl ?_
              refine WL.q (Y.len Try.underlying33 (.pl rfl)) rfl ?_
              refine WL.q (Y.move (.pl rfl)) rfl ?_
              refine WL.next hQ34 (.cons (i := 0) rfl (.cons (i := 33) rfl (.cons (i := 34) rfl (.cons (i := 35) rfl (.cons (i := 39) rfl (.cons (i := 40) rfl (.cons (i := 41) rfl (.nil)))))))) ?_
              refine W.block ?_
              refine W.loop1 (Em := fun (v19 : Int) => [(41, .int .i64 v19)]) (M := fun v19 => []) (I := fun v19 k35 => iter (threads_Check_L31 N x18 types1) k35 v19 = some o31) 0 N (hF31) (.cons rfl (.nil)) (.cons (i := 0) rfl (.cons (i := 33) rfl (.cons (i := 34) rfl (.cons (i := 35) rfl (.cons (i := 39) rfl (.cons (i := 40) rfl (.nil))))))) (fun wz hw => hw.pick [] rfl) (fun v19 k35 hI K36 hK36 => ?_)
              obtain ⟨k35, t35, rfl, hF35, hN35⟩ := iter_step hI
              refine W.seqR fun Q37 hQ37 => ?_
              refine WL.q (Y.lss (.pl rfl) (.pl rfl)) rfl ?_
              refine WL.next hQ37 (.cons (i := 0) rfl (.cons (i := 33) rfl (.cons (i := 34) rfl (.cons (i := 35) rfl (.cons (i := 39) rfl (.cons (i := 40) rfl (.cons (i := 41) rfl (.cons (i := 42) rfl (.nil))))))))) ?_
              refine W.seq fun K38 hK38 => ?_
              refine W.cond (.pl rfl) (fun hC39 => ?_) (fun hC39 => ?_)
              · replace hF35 := cpos hC39 hF35
                refine W.skip ?_
                refine W.go hK38 (.cons (i := 0) rfl (.cons (i := 33) rfl (.cons (i := 34) rfl (.cons (i := 35) rfl (.cons (i := 39) rfl (.cons (i := 40) rfl (.cons (i := 41) rfl (.nil)))))))) ?_
                refine W.seq fun K40 hK40 => ?_
                refine W.block ?_
                refine W.seqR fun Q41 hQ41 => ?_
                obtain ⟨x20, hx20, hF35⟩ := bnd hF35
                refine WL.q (Y.slEl Try.underlying33 cells83 (hs10.at (hx18)) (.pl rfl) (.pl rfl) (ix_lt (hx20))) rfl ?_
                refine WL.q (Y.loadSA (enc := encAsk) (ds := (encAsk x20)) (j := 0) Try.underlying83 rfl cells83 (hs10.at (hx18)) (.pl rfl) (hx20) rfl rfl subW) rfl ?_
                refine WL.step (WO.alloc (cs := (encAsk (Ask.mk 0 0 0)).toArray) zero83 rfl rfl fun b21 => ?_)
                refine WL.step (WO.storeBA (ds := (encAsk x20)) (cs' := (encAsk x20)) cells83 (.pl rfl) (.pl rfl) rfl (oneAsk _) (i := 0) rfl (lel (o := 0) (l := 3) (m := 3) (by decide) rfl rfl) (putW rfl) ?_)
                refine WL.next hQ41 (.cons (i := 0) rfl (.cons (i := 11) rfl (.cons (i := 33) rfl (.cons (i := 34) rfl (.cons (i := 35) rfl (.cons (i := 39) rfl (.cons (i := 40) rfl (.cons (i := 41) rfl (.nil))))))))) ?_
                refine W.seqD (by kernel_rfl) (by kernel_rfl) fun R42 hR42 => ?_
                refine WD.q (Y.fieldAddr0 (off := 0) (ft := 3) Try.underlying83 rfl cells3 (.pl rfl)) rfl ?_
                refine WD.q (Y.loadB (v := .int .i64 x20.thing) Try.underlying3 rfl (.pl rfl) (i := 0) rfl (rfl)) rfl ?_
                refine WD.q (Y.lss (.pl rfl) (.pl rfl)) rfl ?_
                refine WD.q (Y.move (.pl rfl)) rfl ?_
                refine WD.g (.pl rfl rfl rfl) (fun hg => Y.fieldAddr0 (off := 0) (ft := 3) Try.underlying83 rfl cells3 (.pl rfl)) rfl ?_
                refine WD.g (.pl rfl rfl rfl) (fun hg => Y.loadB (v := .int .i64 x20.thing) Try.underlying3 rfl (.gd (hg) rfl) (i := 0) rfl (rfl)) rfl ?_
                refine WD.g (.pl rfl rfl rfl) (fun hg => Y.move (.pl rfl)) rfl ?_
                refine WD.g (.pl rfl rfl rfl) (fun hg => Y.len Try.underlying23 (.gd (hg) rfl)) rfl ?_
                refine WD.g (.pl rfl rfl rfl) (fun hg => Y.geq (.gd (hg) rfl) (.gd (hg) rfl)) rfl ?_
                refine WD.q (Y.or (.pl rfl) (fun h2 => .gd (eqf h2) rfl)) rfl ?_
                refine WD.q (Y.move (.pl rfl)) rfl ?_
                refine WD.g (.pl rfl rfl rfl) (fun hg => Y.move (.pl rfl)) rfl ?_
                refine WD.g (.pl rfl rfl rfl) (fun hg => Y.fieldAddr0 (off := 0) (ft := 3) Try.underlying83 rfl cells3 (.pl rfl)) rfl ?_
                refine WD.g (.pl rfl rfl rfl) (fun hg => Y.loadB (v := .int .i64 x20.thing) Try.underlying3 rfl (.gd (hg) rfl) (i := 0) rfl (rfl)) rfl ?_
                obtain ⟨x22, hx22, hF35⟩ := bnd hF35
                refine WD.g (.pl rfl rfl rfl) (fun hg => Y.slEl Try.underlying23 cells3 hs4 (.gd (hg) rfl) (.gd (hg) rfl) (ix_lt (gpos hg hx22))) rfl ?_
                refine WD.g (.pl rfl rfl rfl) (fun hg => Y.loadS (enc := (eI .i64)) (v := .int .i64 x22) (j := 0) Try.underlying3 rfl hs4 (.gd (hg) rfl) (gpos hg hx22) rfl rfl) rfl ?_
                refine WD.g (.pl rfl rfl rfl) (fun hg => Y.fieldAddr0 (off := 1) (ft := 3) Try.underlying83 rfl cells3 (.pl rfl)) rfl ?_
                refine WD.g (.pl rfl rfl rfl) (fun hg => Y.loadB (v := .int .i64 x20.kind) Try.underlying3 rfl (.gd (hg) rfl) (i := 0) rfl (rfl)) rfl ?_
                obtain ⟨r23, hr23, hF35⟩ := bnd hF35
                refine WD.gP (.pl rfl rfl rfl) isGo44 (fun hg => (.cons (.gd (hg) rfl) (.cons (.gd (hg) rfl) (.nil)))) rfl (fun hg wz hw => history_Fits_ok (gpos hg hr23) wz ) ?_
                refine WD.g (.pl rfl rfl rfl) (fun hg => Y.not (.gd (hg) rfl)) rfl ?_
                refine WD.q (Y.or (.pl rfl) (fun h2 => .gd (eqf h2) rfl)) rfl ?_
                refine WD.q (Y.move (.pl rfl)) rfl ?_
                refine WD.g (.pl rfl rfl rfl) (fun hg => Y.fieldAddr0 (off := 1) (ft := 3) Try.underlying83 rfl cells3 (.pl rfl)) rfl ?_
                refine WD.g (.pl rfl rfl rfl) (fun hg => Y.loadB (v := .int .i64 x20.kind) Try.underlying3 rfl (.gd (hg) rfl) (i := 0) rfl (rfl)) rfl ?_
                refine WD.g (.pl rfl rfl rfl) (fun hg => Y.fieldAddr0 (off := 2) (ft := 3) Try.underlying83 rfl cells3 (.pl rfl)) rfl ?_
                refine WD.g (.pl rfl rfl rfl) (fun hg => Y.loadB (v := .int .i64 x20.arg) Try.underlying3 rfl (.gd (hg) rfl) (i := 0) rfl (rfl)) rfl ?_
                obtain ⟨r24, hr24, hF35⟩ := bnd hF35
                refine WD.gP (.pl rfl rfl rfl) isGo45 (fun hg => (.cons (.gd (hg) rfl) (.cons (.gd (hg) rfl) (.nil)))) rfl (fun hg wz hw => history_Argument_ok (gpos hg hr24) wz ) ?_
                refine WD.g (.pl rfl rfl rfl) (fun hg => Y.not (.gd (hg) rfl)) rfl ?_
                refine WD.q (Y.or (.pl rfl) (fun h2 => .gd (eqf h2) rfl)) rfl ?_
                refine WD.next hR42 (.cons (i := 0) rfl (.cons (i := 33) rfl (.cons (i := 34) rfl (.cons (i := 35) rfl (.cons (i := 39) rfl (.cons (i := 40) rfl (.cons (i := 41) rfl (.cons (i := 73) rfl (.nil))))))))) ?_
                refine W.cond (.pl rfl) (fun hC43 => ?_) (fun hC43 => ?_)
                · replace hF35 := cpos hC43 hF35
                  refine W.seqR fun Q44 hQ44 => ?_
                  refine WL.q (Y.assign (.pl rfl)) rfl ?_
                  refine WL.next hQ44 (.cons (i := 4) rfl (.nil)) ?_
                  obtain rfl := Option.some.inj hF35
                  obtain rfl := einr hN35
                  obtain rfl := Option.some.inj hF26
                  obtain rfl := einr hN26
                  obtain rfl := Option.some.inj hF
                  refine W.retV (fn := Try.f30) (vs := [.int .i64 3]) Try.results30 ⟨.tmp rfl, trivial⟩ (fun _ _ h => h) (fun wz hw => ?_)
                  exact hR _ _ ⟨rfl, (hw.pick [] rfl)⟩
                · replace hF35 := cneg hC43 hF35
                  refine W.skip ?_
                  refine W.go hK40 (.cons (i := 0) rfl (.cons (i := 33) rfl (.cons (i := 34) rfl (.cons (i := 35) rfl (.cons (i := 39) rfl (.cons (i := 40) rfl (.cons (i := 41) rfl (.nil)))))))) ?_
                  refine W.reg ?_
                  obtain ⟨hk25, hF35⟩ := ckh hF35
                  refine WL.q (Y.add (.pl rfl) (.pl rfl) (ok64_lt (hk25))) rfl ?_
                  refine WL.q (Y.move (.pl rfl)) rfl ?_
                  refine WL.nil ?_
                  obtain rfl := Option.some.inj hF35
                  exact W.again1 hK36 (v19 + 1) k35 hN35 (Nat.lt_succ_self _) (.cons rfl (.nil)) (.cons (i := 0) rfl (.cons (i := 33) rfl (.cons (i := 34) rfl (.cons (i := 35) rfl (.cons (i := 39) rfl (.cons (i := 40) rfl (.nil))))))) (fun wz hw => hw.pick [] rfl)
              · replace hF35 := cneg hC39 hF35
                refine W.exit ?_
                obtain rfl := Option.some.inj hF35
                exact W.joinAt0 hK32  (einr hN35) (.nil) (.cons (i := 0) rfl (.cons (i := 33) rfl (.cons (i := 34) rfl (.cons (i := 35) rfl (.nil))))) (fun wz hw => hw.pick [] rfl)
            · -- behind
              rintro  rfl
              refine W.reg ?_
              obtain ⟨hk26, hF26⟩ := ckh hF26
              refine WL.q (Y.add (.pl rfl) (.pl rfl) (ok64_lt (hk26))) rfl ?_
              refine WL.q (Y.move (.pl rfl)) rfl ?_
              refine WL.nil ?_
              obtain rfl := Option.some.inj hF26
              exact W.again1 hK27 (v17 + 1) k26 hN26 (Nat.lt_succ_self _) (.cons rfl (.nil)) (.cons (i := 0) rfl (.cons (i := 33) rfl (.cons (i := 34) rfl (.nil)))) (fun wz hw => hw.pick [] rfl)
          · replace hF26 := cneg hC30 hF26
            refine W.exit ?_
            obtain rfl := Option.some.inj hF26
            exact W.joinAt0 hK24  (einr hN26) (.nil) (.nil) (fun wz hw => hw.pick [] rfl)
        · -- behind
          rintro  rfl
          refine W.seqR fun Q47 hQ47 => ?_
          refine WL.q (Y.assign (.pl rfl)) rfl ?_
          refine WL.next hQ47 (.cons (i := 4) rfl (.nil)) ?_
          obtain rfl := Option.some.inj hF
          refine W.retV (fn := Try.f30) (vs := [.int .i64 0]) Try.results30 ⟨.tmp rfl, trivial⟩ (fun _ _ h => h) (fun wz hw => ?_)
          exact hR _ _ ⟨rfl, (hw.pick [] rfl)⟩

def threads_Turns_L3 (N : Nat) (turns3 : (List Int)) (people1 : Int) : Int → Option (Int ⊕ (Unit ⊕ Int))
  | v8 =>
    cond (decide (v8 < ((turns3).length : Int)))
      (bd (ix turns3 v8) fun (x9 : Int) =>
      cond ((decide (x9 < 0)) || (decide (people1 ≤ x9)))
        (some (.inr (.inr 1)))
        (ck (ok64 (v8 + 1)) <|
        some (.inl (v8 + 1))))
      (some (.inr (.inl ())))

def threads_Turns (N : Nat) (people1 : Int) (most2 : Int) (turns3 : (List Int)) : Option Int :=
  cond (decide (most2 < ((turns3).length : Int)))
    (some 2)
    (bd (α := (Unit ⊕ Int)) (iter (threads_Turns_L3 N turns3 people1) N 0) <|
    Sum.elim (fun _ => 
      some 0) (fun p => some p))

theorem threads_Turns_ok {N : Nat} {people1 : Int} {most2 : Int} {turns3 : (List Int)} {res : Int} (hF : threads_Turns N people1 most2 turns3 = some res) (w : World) {v7 : Value} (hs6 : SlIn (eI .i64) 1 w v7 turns3) :
    Pure Try.prog 31 [.int .i64 people1, .int .i64 most2, v7] w (.int .i64 res) := by
  obtain ⟨A4, c5, rfl, hcc5, hs6⟩ := hs6.form
  refine W.enter (n := 27) Try.func31 rfl rfl Sub.refl (by simp) (St.start w) fun R hR => ?_
  unfold threads_Turns at hF
  refine W.seqR fun Q1 hQ1 => ?_
  refine WL.q (Y.assign (.pl rfl)) rfl ?_
  refine WL.next hQ1 (.cons (i := 0) rfl (.cons (i := 1) rfl (.cons (i := 2) rfl (.nil)))) ?_
  refine W.seq fun K2 hK2 => ?_
  refine W.seqR fun Q3 hQ3 => ?_
  refine WL.q (Y.move (.pl rfl)) rfl ?_
  refine WL.q (Y.len Try.underlying23 (.pl rfl)) rfl ?_
  refine WL.q (Y.move (.pl rfl)) rfl ?_
  refine WL.q (Y.gtr (.pl rfl) (.pl rfl)) rfl ?_
  refine WL.next hQ3 (.cons (i := 0) rfl (.cons (i := 2) rfl (.cons (i := 12) rfl (.nil)))) ?_
  refine W.cond (.pl rfl) (fun hC4 => ?_) (fun hC4 => ?_)
  · replace hF := cpos hC4 hF
    refine W.seqR fun Q5 hQ5 => ?_
    refine WL.q (Y.assign (.pl rfl)) rfl ?_
    refine WL.next hQ5 (.cons (i := 6) rfl (.nil)) ?_
    obtain rfl := Option.some.inj hF
    refine W.retV (fn := Try.f31) (vs := [.int .i64 2]) Try.results31 ⟨.tmp rfl, trivial⟩ (fun _ _ h => h) (fun wz hw => ?_)
    exact hR _ _ ⟨rfl, (hw.pick [] rfl)⟩
  · replace hF := cneg hC4 hF
    refine W.skip ?_
    refine W.go hK2 (.cons (i := 0) rfl (.cons (i := 2) rfl (.nil))) ?_
    obtain ⟨o6, hF6, hF⟩ := bnd hF
    refine W.join0 (Em := []) (M := []) (I := (.inl ()) = o6) (.nil) (fun K7 hK7 => ?_) ?_
    · -- up to
      refine W.seqR fun Q8 hQ8 => ?_
      refine WL.q (Y.move (.pl rfl)) rfl ?_
      refine WL.q (Y.len Try.underlying23 (.pl rfl)) rfl ?_
      refine WL.q (Y.move (.pl rfl)) rfl ?_
      refine WL.next hQ8 (.cons (i := 0) rfl (.cons (i := 13) rfl (.cons (i := 14) rfl (.cons (i := 15) rfl (.nil))))) ?_
      refine W.block ?_
      refine W.loop1 (Em := fun (v8 : Int) => [(15, .int .i64 v8)]) (M := fun v8 => []) (I := fun v8 k9 => iter (threads_Turns_L3 N turns3 people1) k9 v8 = some o6) 0 N (hF6) (.cons rfl (.nil)) (.cons (i := 0) rfl (.cons (i := 13) rfl (.cons (i := 14) rfl (.nil)))) (fun wz hw => hw.pick [] rfl) (fun v8 k9 hI K10 hK10 => ?_)
      obtain ⟨k9, t9, rfl, hF9, hN9⟩ := iter_step hI
      refine W.seqR fun Q11 hQ11 => ?_
      refine WL.q (Y.lss (.pl rfl) (.pl rfl)) rfl ?_
      refine WL.next hQ11 (.cons (i := 0) rfl (.cons (i := 13) rfl (.cons (i := 14) rfl (.cons (i := 15) rfl (.cons (i := 16) rfl (.nil)))))) ?_
      refine W.seq fun K12 hK12 => ?_
      refine W.cond (.pl rfl) (fun hC13 => ?_) (fun hC13 => ?_)
      · replace hF9 := cpos hC13 hF9
        refine W.skip ?_
        refine W.go hK12 (.cons (i := 0) rfl (.cons (i := 13) rfl (.cons (i := 14) rfl (.cons (i := 15) rfl (.nil))))) ?_
        refine W.seq fun K14 hK14 => ?_
        refine W.block ?_
        refine W.seqR fun Q15 hQ15 => ?_
        obtain ⟨x9, hx9, hF9⟩ := bnd hF9
        refine WL.q (Y.slEl Try.underlying23 cells3 hs6 (.pl rfl) (.pl rfl) (ix_lt (hx9))) rfl ?_
        refine WL.q (Y.loadS (enc := (eI .i64)) (v := .int .i64 x9) (j := 0) Try.underlying3 rfl hs6 (.pl rfl) (hx9) rfl rfl) rfl ?_
        refine WL.q (Y.assign (.pl rfl)) rfl ?_
        refine WL.next hQ15 (.cons (i := 0) rfl (.cons (i := 8) rfl (.cons (i := 13) rfl (.cons (i := 14) rfl (.cons (i := 15) rfl (.nil)))))) ?_
        refine W.seqR fun Q16 hQ16 => ?_
        refine WL.q (Y.move (.pl rfl)) rfl ?_
        refine WL.q (Y.lss (.pl rfl) (.pl rfl)) rfl ?_
        refine WL.q (Y.move (.pl rfl)) rfl ?_
        refine WL.g (.pl rfl rfl rfl) (fun hg => Y.move (.pl rfl)) rfl ?_
        refine WL.g (.pl rfl rfl rfl) (fun hg => Y.move (.pl rfl)) rfl ?_
        refine WL.g (.pl rfl rfl rfl) (fun hg => Y.geq (.gd (hg) rfl) (.gd (hg) rfl)) rfl ?_
        refine WL.q (Y.or (.pl rfl) (fun h2 => .gd (eqf h2) rfl)) rfl ?_
        refine WL.next hQ16 (.cons (i := 0) rfl (.cons (i := 13) rfl (.cons (i := 14) rfl (.cons (i := 15) rfl (.cons (i := 25) rfl (.nil)))))) ?_
        refine W.cond (.pl rfl) (fun hC17 => ?_) (fun hC17 => ?_)
        · replace hF9 := cpos hC17 hF9
          refine W.seqR fun Q18 hQ18 => ?_
          refine WL.q (Y.assign (.pl rfl)) rfl ?_
          refine WL.next hQ18 (.cons (i := 6) rfl (.nil)) ?_
          obtain rfl := Option.some.inj hF9
          obtain rfl := einr hN9
          obtain rfl := Option.some.inj hF
          refine W.retV (fn := Try.f31) (vs := [.int .i64 1]) Try.results31 ⟨.tmp rfl, trivial⟩ (fun _ _ h => h) (fun wz hw => ?_)
          exact hR _ _ ⟨rfl, (hw.pick [] rfl)⟩
        · replace hF9 := cneg hC17 hF9
          refine W.skip ?_
          refine W.go hK14 (.cons (i := 0) rfl (.cons (i := 13) rfl (.cons (i := 14) rfl (.cons (i := 15) rfl (.nil))))) ?_
          refine W.reg ?_
          obtain ⟨hk10, hF9⟩ := ckh hF9
          refine WL.q (Y.add (.pl rfl) (.pl rfl) (ok64_lt (hk10))) rfl ?_
          refine WL.q (Y.move (.pl rfl)) rfl ?_
          refine WL.nil ?_
          obtain rfl := Option.some.inj hF9
          exact W.again1 hK10 (v8 + 1) k9 hN9 (Nat.lt_succ_self _) (.cons rfl (.nil)) (.cons (i := 0) rfl (.cons (i := 13) rfl (.cons (i := 14) rfl (.nil)))) (fun wz hw => hw.pick [] rfl)
      · replace hF9 := cneg hC13 hF9
        refine W.exit ?_
        obtain rfl := Option.some.inj hF9
        exact W.joinAt0 hK7  (einr hN9) (.nil) (.nil) (fun wz hw => hw.pick [] rfl)
    · -- behind
      rintro  rfl
      refine W.seqR fun Q20 hQ20 => ?_
      refine WL.q (Y.assign (.pl rfl)) rfl ?_
      refine WL.next hQ20 (.cons (i := 6) rfl (.nil)) ?_
      obtain rfl := Option.some.inj hF
      refine W.retV (fn := Try.f31) (vs := [.int .i64 0]) Try.results31 ⟨.tmp rfl, trivial⟩ (fun _ _ h => h) (fun wz hw => ?_)
      exact hR _ _ ⟨rfl, (hw.pick [] rfl)⟩

end Go.Proofs.Ytkmmagekepoapaa
