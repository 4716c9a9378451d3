/- ObjectRows: what the code computes, and the walk. -/
import Derived.Test.YtpakplmpihhmbaaRA1
set_option linter.unusedVariables false
set_option linter.unusedSimpArgs false
set_option linter.unusedSectionVars false
set_option maxRecDepth 100000
namespace Go.Proofs.Ytpakplmpihhmbaa
open Go.RowKit
theorem isGo24 : IsGo Try.prog 24 := ⟨_, Try.func24, by kernel_rfl, rfl⟩
theorem isGo26 : IsGo Try.prog 26 := ⟨_, Try.func26, by kernel_rfl, rfl⟩
theorem ap28 : ∃ i z, Try.prog.info? 28 = some i ∧ i.zero = some z ∧ i.size = 3 ∧ i.bytes = 24 ∧ z.cells.size = 3 ∧ 0 < 3 := ⟨_, (Value.agg #[(Value.int .i64 0), (Value.int .i64 0), (Value.int .i64 0)]), rfl, by kernel_rfl, by kernel_rfl, by kernel_rfl, by kernel_rfl, by decide⟩
def alibkeep_ObjectRows_1 (N : Nat) (n1 : Int) : Option Unit :=
  some ()

theorem alibkeep_ObjectRows_1_ok {N : Nat} {n1 : Int} {res : Unit} (hF : alibkeep_ObjectRows_1 N n1 = some res) (w : World) :
    Pure Try.prog 26 [.int .i64 n1] w (.bool ((decide (n1 < 1)) || (decide (1000 < n1)))) := by
  refine W.enter (n := 9) Try.func26 rfl rfl Sub.refl (by simp) (St.start w) fun R hR => ?_
  unfold alibkeep_ObjectRows_1 at hF
  -- region 0: object.go:50
  refine W.seqR fun Q1 hQ1 => ?_
  refine WL.q (Y.assign (.pl rfl)) rfl ?_
  refine WL.next hQ1 (.cons (i := 0) rfl (.nil)) ?_
  -- region 1: object.go:50
  refine W.seqR fun Q2 hQ2 => ?_
  refine WL.q (Y.move (.pl rfl)) rfl ?_
  refine WL.q (Y.lss (.pl rfl) (.pl rfl)) rfl ?_
  refine WL.q (Y.move (.pl rfl)) rfl ?_
  refine WL.g (.pl rfl rfl rfl) (fun hg => Y.move (.pl rfl)) rfl ?_
  refine WL.g (.pl rfl rfl rfl) (fun hg => Y.gtr (.gd (hg) rfl) (.pl rfl)) rfl ?_
  refine WL.q (Y.or (.pl rfl) (fun h2 => .gd (eqf h2) rfl)) rfl ?_
  refine WL.q (Y.assign (.pl rfl)) rfl ?_
  refine WL.next hQ2 (.cons (i := 2) rfl (.nil)) ?_
  obtain rfl := Option.some.inj hF
  refine W.retV (fn := Try.f26) (vs := [.bool ((decide (n1 < 1)) || (decide (1000 < n1)))]) Try.results26 ⟨.tmp rfl, trivial⟩ (fun _ _ h => h) (fun wz hw => ?_)
  exact hR _ _ ⟨rfl, (hw.pick [] rfl)⟩

def slices_IndexFunc_int_int_1_L3 (N : Nat) (s1 : (List Int)) : Int → Option (Int ⊕ (Unit ⊕ Int))
  | v6 =>
    cond (decide (v6 < ((s1).length : Int)))
      (bd (ix s1 v6) fun (x7 : Int) =>
      bd (alibkeep_ObjectRows_1 N x7) fun (r8 : Unit) =>
      cond ((decide (x7 < 1)) || (decide (1000 < x7)))
        (some (.inr (.inr v6)))
        (ck (ok64 (v6 + 1)) <|
        some (.inl (v6 + 1))))
      (some (.inr (.inl ())))

def slices_IndexFunc_int_int_1 (N : Nat) (s1 : (List Int)) : Option Int :=
  bd (α := (Unit ⊕ Int)) (iter (slices_IndexFunc_int_int_1_L3 N s1) N 0) <|
  Sum.elim (fun _ => 
    some (-1)) (fun p => some p)

theorem slices_IndexFunc_int_int_1_ok {N : Nat} {s1 : (List Int)} {res : Int} (hF : slices_IndexFunc_int_int_1 N s1 = some res) (w : World) {v5 : Value} (hs4 : SlIn (eI .i64) 1 w v5 s1) :
    Pure Try.prog 63 [v5, .func (.func 26) #[] #[]] w (.int .i64 res) := by
  obtain ⟨A2, c3, rfl, hcc3, hs4⟩ := hs4.form
  refine W.enter (n := 19) Try.func63 rfl rfl Sub.refl (by simp) (St.start w) fun R hR => ?_
  unfold slices_IndexFunc_int_int_1 at hF
  -- region 0: slices.go:107
  refine W.seqR fun Q1 hQ1 => ?_
  refine WL.q (Y.assign (.pl rfl)) rfl ?_
  refine WL.next hQ1 (.cons (i := 0) rfl (.cons (i := 1) rfl (.nil))) ?_
  obtain ⟨o2, hF2, hF⟩ := bnd hF
  refine W.join0 (Em := []) (M := []) (I := (.inl ()) = o2) (.nil) (fun K3 hK3 => ?_) ?_
  · -- up to
    -- region 1: slices.go:108
    refine W.seqR fun Q4 hQ4 => ?_
    refine WL.q (Y.move (.pl rfl)) rfl ?_
    refine WL.q (Y.len Try.underlying22 (.pl rfl)) rfl ?_
    refine WL.q (Y.move (.pl rfl)) rfl ?_
    refine WL.next hQ4 (.cons (i := 0) rfl (.cons (i := 1) rfl (.cons (i := 7) rfl (.cons (i := 8) rfl (.nil))))) ?_
    refine W.block ?_
    refine W.loop1 (Em := fun (v6 : Int) => [(8, .int .i64 v6)]) (M := fun v6 => []) (I := fun v6 k5 => iter (slices_IndexFunc_int_int_1_L3 N s1) k5 v6 = some o2) 0 N (hF2) (.cons rfl (.nil)) (.cons (i := 0) rfl (.cons (i := 1) rfl (.cons (i := 7) rfl (.nil)))) (fun wz hw => hw.pick [] rfl) (fun v6 k5 hI K6 hK6 => ?_)
    obtain ⟨k5, t5, rfl, hF5, hN5⟩ := iter_step hI
    -- region 2: slices.go:108
    refine W.seqR fun Q7 hQ7 => ?_
    refine WL.q (Y.lss (.pl rfl) (.pl rfl)) rfl ?_
    refine WL.next hQ7 (.cons (i := 0) rfl (.cons (i := 1) rfl (.cons (i := 7) rfl (.cons (i := 8) rfl (.cons (i := 9) rfl (.nil)))))) ?_
    refine W.seq fun K8 hK8 => ?_
    refine W.cond (.pl rfl) (fun hC9 => ?_) (fun hC9 => ?_)
    · replace hF5 := cpos hC9 hF5
      refine W.skip ?_
      refine W.go hK8 (.cons (i := 0) rfl (.cons (i := 1) rfl (.cons (i := 7) rfl (.cons (i := 8) rfl (.nil))))) ?_
      refine W.seq fun K10 hK10 => ?_
      refine W.block ?_
      -- region 3: slices.go:108
      refine W.seqR fun Q11 hQ11 => ?_
      refine WL.q (Y.move (.pl rfl)) rfl ?_
      refine WL.q (Y.assign (.pl rfl)) rfl ?_
      refine WL.next hQ11 (.cons (i := 0) rfl (.cons (i := 1) rfl (.cons (i := 5) rfl (.cons (i := 7) rfl (.cons (i := 8) rfl (.nil)))))) ?_
      -- region 4: slices.go:109
      refine W.seqR fun Q12 hQ12 => ?_
      refine WL.q (Y.move (.pl rfl)) rfl ?_
      refine WL.q (Y.move (.pl rfl)) rfl ?_
      refine WL.q (Y.move (.pl rfl)) rfl ?_
      obtain ⟨x7, hx7, hF5⟩ := bnd hF5
      refine WL.q (Y.slEl Try.underlying22 cells3 hs4 (.pl rfl) (.pl rfl) (ix_lt (hx7))) rfl ?_
      refine WL.q (Y.loadS (enc := (eI .i64)) (v := .int .i64 x7) (j := 0) Try.underlying3 rfl hs4 (.pl rfl) (hx7) rfl rfl) rfl ?_
      obtain ⟨r8, hr8, hF5⟩ := bnd hF5
      refine WL.step (WO.callG (γ := Unit) (first := []) (cap := []) (fun g => .bool ((decide (x7 < 1)) || (decide (1000 < x7)))) (fun g => []) (fun g => True) isGo26 (.pl rfl) (.cons (.pl rfl) (.nil)) rfl (fun wz hw => (alibkeep_ObjectRows_1_ok (hr8) wz ).calls hw) ?_)
      rintro _ -
      refine WL.next hQ12 (.cons (i := 0) rfl (.cons (i := 1) rfl (.cons (i := 5) rfl (.cons (i := 7) rfl (.cons (i := 8) rfl (.cons (i := 16) rfl (.nil))))))) ?_
      refine W.cond (.pl rfl) (fun hC13 => ?_) (fun hC13 => ?_)
      · replace hF5 := cpos hC13 hF5
        -- region 5: slices.go:110
        refine W.seqR fun Q14 hQ14 => ?_
        refine WL.q (Y.move (.pl rfl)) rfl ?_
        refine WL.q (Y.assign (.pl rfl)) rfl ?_
        refine WL.next hQ14 (.cons (i := 4) rfl (.nil)) ?_
        obtain rfl := Option.some.inj hF5
        obtain rfl := einr hN5
        obtain rfl := Option.some.inj hF
        refine W.retV (fn := Try.f63) (vs := [.int .i64 v6]) Try.results63 ⟨.tmp rfl, trivial⟩ (fun _ _ h => h) (fun wz hw => ?_)
        exact hR _ _ ⟨rfl, (hw.pick [] rfl)⟩
      · replace hF5 := cneg hC13 hF5
        refine W.skip ?_
        refine W.go hK10 (.cons (i := 0) rfl (.cons (i := 1) rfl (.cons (i := 7) rfl (.cons (i := 8) rfl (.nil))))) ?_
        -- region 6: slices.go:108
        refine W.reg ?_
        obtain ⟨hk9, hF5⟩ := ckh hF5
        refine WL.q (Y.add (.pl rfl) (.pl rfl) (ok64_lt (hk9))) rfl ?_
        refine WL.q (Y.move (.pl rfl)) rfl ?_
        refine WL.nil ?_
        obtain rfl := Option.some.inj hF5
        exact W.again1 hK6 (v6 + 1) k5 hN5 (Nat.lt_succ_self _) (.cons rfl (.nil)) (.cons (i := 0) rfl (.cons (i := 1) rfl (.cons (i := 7) rfl (.nil)))) (fun wz hw => hw.pick [] rfl)
    · replace hF5 := cneg hC9 hF5
      refine W.exit ?_
      obtain rfl := Option.some.inj hF5
      exact W.joinAt0 hK3  (einr hN5) (.nil) (.nil) (fun wz hw => hw.pick [] rfl)
  · -- behind
    rintro  rfl
    -- region 7: slices.go:113
    refine W.seqR fun Q16 hQ16 => ?_
    refine WL.q (Y.assign (.pl rfl)) rfl ?_
    refine WL.next hQ16 (.cons (i := 4) rfl (.nil)) ?_
    obtain rfl := Option.some.inj hF
    refine W.retV (fn := Try.f63) (vs := [.int .i64 (-1)]) Try.results63 ⟨.tmp rfl, trivial⟩ (fun _ _ h => h) (fun wz hw => ?_)
    exact hR _ _ ⟨rfl, (hw.pick [] rfl)⟩

def slices_ContainsFunc_int_int_1 (N : Nat) (s1 : (List Int)) : Option Bool :=
  bd (slices_IndexFunc_int_int_1 N s1) fun (r6 : Int) =>
  some (decide (0 ≤ r6))

theorem slices_ContainsFunc_int_int_1_ok {N : Nat} {s1 : (List Int)} {res : Bool} (hF : slices_ContainsFunc_int_int_1 N s1 = some res) (w : World) {v5 : Value} (hs4 : SlIn (eI .i64) 1 w v5 s1) :
    Pure Try.prog 25 [v5, .func (.func 26) #[] #[]] w (.bool res) := by
  obtain ⟨A2, c3, rfl, hcc3, hs4⟩ := hs4.form
  refine W.enter (n := 9) Try.func25 rfl rfl Sub.refl (by simp) (St.start w) fun R hR => ?_
  unfold slices_ContainsFunc_int_int_1 at hF
  -- region 0: slices.go:124
  refine W.seqR fun Q1 hQ1 => ?_
  refine WL.q (Y.assign (.pl rfl)) rfl ?_
  refine WL.next hQ1 (.cons (i := 0) rfl (.cons (i := 1) rfl (.nil))) ?_
  -- region 1: slices.go:125
  refine W.seqR fun Q2 hQ2 => ?_
  refine WL.q (Y.move (.pl rfl)) rfl ?_
  refine WL.q (Y.move (.pl rfl)) rfl ?_
  obtain ⟨r6, hr6, hF⟩ := bnd hF
  refine WL.step (WO.callP isGo63 (.cons (.pl rfl) (.cons (.pl rfl) (.nil))) rfl (fun wz hw => slices_IndexFunc_int_int_1_ok (hr6) wz (hs4.mono hw)) ?_)
  refine WL.q (Y.geq (.pl rfl) (.pl rfl)) rfl ?_
  refine WL.q (Y.assign (.pl rfl)) rfl ?_
  refine WL.next hQ2 (.cons (i := 4) rfl (.nil)) ?_
  obtain rfl := Option.some.inj hF
  refine W.retV (fn := Try.f25) (vs := [.bool (decide (0 ≤ r6))]) Try.results25 ⟨.tmp rfl, trivial⟩ (fun _ _ h => h) (fun wz hw => ?_)
  exact hR _ _ ⟨rfl, (hw.pick [] rfl)⟩

def alibkeep_ObjectRows_L5 (N : Nat) (l1 : (List Int)) : ((List Do) × (List Do) × Int) → Option (((List Do) × (List Do) × Int) ⊕ ((List Do) × (List Do)))
  | (q17, s20, v21) =>
    cond (decide (v21 < ((l1).length : Int)))
      (bd (ix l1 v21) fun (x22 : Int) =>
      ck (limB 24 ((q17).length + (([(Do.mk 3 x22 0)] : List Do)).length)) <|
      ck (limB 24 ((s20).length + (([(Do.mk 5 x22 0)] : List Do)).length)) <|
      ck (ok64 (v21 + 1)) <|
      some (.inl ((q17 ++ ([(Do.mk 3 x22 0)] : List Do)), (s20 ++ ([(Do.mk 5 x22 0)] : List Do)), (v21 + 1))))
      (some (.inr (q17, s20)))

def alibkeep_ObjectRows_L7 (N : Nat) (l1 : (List Int)) : ((List Do) × (List Do) × Int) → Option (((List Do) × (List Do) × Int) ⊕ ((List Do) × (List Do)))
  | (q40, s43, v44) =>
    cond (decide (v44 < ((l1).length : Int)))
      (bd (ix l1 v44) fun (x45 : Int) =>
      ck (ok64 (((l1).length : Int) - 1)) <|
      ck (ok64 ((((l1).length : Int) - 1) - v44)) <|
      bd (ix l1 ((((l1).length : Int) - 1) - v44)) fun (x48 : Int) =>
      ck (limB 24 ((q40).length + (([(Do.mk 4 0 x45)] : List Do)).length)) <|
      ck (limB 24 ((s43).length + (([(Do.mk 6 0 x48)] : List Do)).length)) <|
      ck (ok64 (v44 + 1)) <|
      some (.inl ((q40 ++ ([(Do.mk 4 0 x45)] : List Do)), (s43 ++ ([(Do.mk 6 0 x48)] : List Do)), (v44 + 1))))
      (some (.inr (q40, s43)))

def alibkeep_ObjectRows (N : Nat) (l1 : (List Int)) : Option Bool :=
  bd (alibkeep_objectLives N) fun (r6 : Bool) =>
  bd ((cond (((!r6) || (decide (50 < ((l1).length : Int)))) == false) (slices_ContainsFunc_int_int_1 N l1) (some false))) fun (r7 : Bool) =>
  cond (((!r6) || (decide (50 < ((l1).length : Int)))) || r7)
    (bd (alibkeep_objectLives N) fun (r8 : Bool) =>
    some r8)
    (bd (α := ((List Do) × (List Do))) (iter (alibkeep_ObjectRows_L5 N l1) N ([], [], 0)) <|
    fun (q11, s14) => 
      bd (α := ((List Do) × (List Do))) (iter (alibkeep_ObjectRows_L7 N l1) N (q11, s14, 0)) <|
      fun (q34, s37) => 
        ck (limB 24 ((q34).length + (([(Do.mk 4 0 (-1))] : List Do)).length)) <|
        ck (limB 24 ((s37).length + (([(Do.mk 6 0 (-1))] : List Do)).length)) <|
        bd (object_Play N 2 (q34 ++ ([(Do.mk 4 0 (-1))] : List Do))) fun (r79 : (Int × Int)) =>
        bd (object_Play N 3 (s37 ++ ([(Do.mk 6 0 (-1))] : List Do))) fun (r80 : (Int × Int)) =>
        bd (alibkeep_ok N ([r79.2, r80.2] : List Int)) fun (r82 : Bool) =>
        some ((r82 && (decide (r79.1 = (((q34 ++ ([(Do.mk 4 0 (-1))] : List Do))).length : Int)))) && (decide (r80.1 = (((s37 ++ ([(Do.mk 6 0 (-1))] : List Do))).length : Int)))))

theorem alibkeep_ObjectRows_ok {N : Nat} {l1 : (List Int)} {res : Bool} (hF : alibkeep_ObjectRows N l1 = some res) (w : World) {v5 : Value} (hs4 : SlIn (eI .i64) 1 w v5 l1) :
    Pure Try.prog 3 [v5] w (.bool res) := by
  obtain ⟨A2, c3, rfl, hcc3, hs4⟩ := hs4.form
  refine W.enter (n := 101) Try.func3 rfl rfl Sub.refl (by simp) (St.start w) fun R hR => ?_
  unfold alibkeep_ObjectRows at hF
  -- region 0: object.go:49
  refine W.seqR fun Q1 hQ1 => ?_
  refine WL.q (Y.assign (.pl rfl)) rfl ?_
  refine WL.next hQ1 (.cons (i := 0) rfl (.nil)) ?_
  refine W.seq fun K2 hK2 => ?_
  -- region 1: object.go:50
  refine W.seqR fun Q3 hQ3 => ?_
  obtain ⟨r6, hr6, hF⟩ := bnd hF
  refine WL.step (WO.callP isGo24 (.nil) rfl (fun wz hw => alibkeep_objectLives_ok (hr6) wz ) ?_)
  refine WL.q (Y.not (.pl rfl)) rfl ?_
  refine WL.q (Y.move (.pl rfl)) rfl ?_
  refine WL.g (.pl rfl rfl rfl) (fun hg => Y.move (.pl rfl)) rfl ?_
  refine WL.g (.pl rfl rfl rfl) (fun hg => Y.len Try.underlying22 (.gd (hg) rfl)) rfl ?_
  refine WL.g (.pl rfl rfl rfl) (fun hg => Y.gtr (.gd (hg) rfl) (.pl rfl)) rfl ?_
  refine WL.q (Y.or (.pl rfl) (fun h2 => .gd (eqf h2) rfl)) rfl ?_
  refine WL.q (Y.move (.pl rfl)) rfl ?_
  refine WL.g (.pl rfl rfl rfl) (fun hg => Y.move (.pl rfl)) rfl ?_
  obtain ⟨r7, hr7, hF⟩ := bnd hF
  refine WL.gP (.pl rfl rfl rfl) isGo25 (fun hg => (.cons (.gd (hg) rfl) (.cons (.pl rfl) (.nil)))) rfl (fun hg wz hw => slices_ContainsFunc_int_int_1_ok (gpos hg hr7) wz (hs4.mono hw)) ?_
  refine WL.q (Y.or (.pl rfl) (fun h2 => .gd (eqf h2) rfl)) rfl ?_
  refine WL.next hQ3 (.cons (i := 0) rfl (.cons (i := 23) rfl (.nil))) ?_
  refine W.cond (.pl rfl) (fun hC4 => ?_) (fun hC4 => ?_)
  · replace hF := cpos hC4 hF
    -- region 2: object.go:51
    refine W.seqR fun Q5 hQ5 => ?_
    obtain ⟨r8, hr8, hF⟩ := bnd hF
    refine WL.step (WO.callP isGo24 (.nil) rfl (fun wz hw => alibkeep_objectLives_ok (hr8) wz ) ?_)
    refine WL.q (Y.assign (.pl rfl)) rfl ?_
    refine WL.next hQ5 (.cons (i := 2) rfl (.nil)) ?_
    obtain rfl := Option.some.inj hF
    refine W.retV (fn := Try.f3) (vs := [.bool r8]) Try.results3 ⟨.tmp rfl, trivial⟩ (fun _ _ h => h) (fun wz hw => ?_)
    exact hR _ _ ⟨rfl, (hw.pick [] rfl)⟩
  · replace hF := cneg hC4 hF
    refine W.skip ?_
    refine W.go hK2 (.cons (i := 0) rfl (.nil)) ?_
    -- region 3: object.go:53
    refine W.seqR fun Q6 hQ6 => ?_
    refine WL.q (Y.assign (.pl rfl)) rfl ?_
    refine WL.q (Y.assign (.pl rfl)) rfl ?_
    refine WL.next hQ6 (.cons (i := 0) rfl (.cons (i := 3) rfl (.cons (i := 4) rfl (.nil)))) ?_
    obtain ⟨o7, hF7, hF⟩ := bnd hF
    refine W.join6 (Em := fun (q11 : (List Do)) (s14 : (List Do)) (A9 : Option Addr) (c10 : Nat) (A12 : Option Addr) (c13 : Nat) => [(3, .slice A9 (q11).length c10), (4, .slice A12 (s14).length c13)]) (M := fun q11 s14 A9 c10 A12 c13 => [cR encDo 3 A9 c10 28 q11, cR encDo 3 A12 c13 28 s14]) (I := fun q11 s14 A9 c10 A12 c13 => (q11, s14) = o7) (.cons (i := 0) rfl (.nil)) (fun K8 hK8 => ?_) ?_
    · -- up to
      -- region 4: object.go:54
      refine W.seqR fun Q9 hQ9 => ?_
      refine WL.q (Y.move (.pl rfl)) rfl ?_
      refine WL.q (Y.len Try.underlying22 (.pl rfl)) rfl ?_
      refine WL.q (Y.move (.pl rfl)) rfl ?_
      refine WL.next hQ9 (.cons (i := 0) rfl (.cons (i := 3) rfl (.cons (i := 4) rfl (.cons (i := 25) rfl (.cons (i := 26) rfl (.cons (i := 27) rfl (.nil))))))) ?_
      refine W.block ?_
      refine W.loop7 (Em := fun (q17 : (List Do)) (s20 : (List Do)) (v21 : Int) (A15 : Option Addr) (c16 : Nat) (A18 : Option Addr) (c19 : Nat) => [(3, .slice A15 (q17).length c16), (4, .slice A18 (s20).length c19), (27, .int .i64 v21)]) (M := fun q17 s20 v21 A15 c16 A18 c19 => [cR encDo 3 A15 c16 28 q17, cR encDo 3 A18 c19 28 s20]) (I := fun q17 s20 v21 A15 c16 A18 c19 k10 => iter (alibkeep_ObjectRows_L5 N l1) k10 (q17, s20, v21) = some o7) [] [] 0 none 0 none 0 N (hF7) (.cons rfl (.cons rfl (.cons rfl (.nil)))) (.cons (i := 0) rfl (.cons (i := 25) rfl (.cons (i := 26) rfl (.nil)))) (fun wz hw => (St.nilR (St.nilR (hw.pick [] rfl) encDo 3 28) encDo 3 28).pick [1, 0] rfl) (fun q17 s20 v21 A15 c16 A18 c19 k10 hI K11 hK11 => ?_)
      obtain ⟨k10, t10, rfl, hF10, hN10⟩ := iter_step hI
      -- region 5: object.go:54
      refine W.seqR fun Q12 hQ12 => ?_
      refine WL.q (Y.lss (.pl rfl) (.pl rfl)) rfl ?_
      refine WL.next hQ12 (.cons (i := 0) rfl (.cons (i := 3) rfl (.cons (i := 4) rfl (.cons (i := 25) rfl (.cons (i := 26) rfl (.cons (i := 27) rfl (.cons (i := 28) rfl (.nil)))))))) ?_
      refine W.seq fun K13 hK13 => ?_
      refine W.cond (.pl rfl) (fun hC14 => ?_) (fun hC14 => ?_)
      · replace hF10 := cpos hC14 hF10
        refine W.skip ?_
        refine W.go hK13 (.cons (i := 0) rfl (.cons (i := 3) rfl (.cons (i := 4) rfl (.cons (i := 25) rfl (.cons (i := 26) rfl (.cons (i := 27) rfl (.nil))))))) ?_
        refine W.seq fun K15 hK15 => ?_
        refine W.block ?_
        -- region 6: object.go:54
        refine W.seqR fun Q16 hQ16 => ?_
        obtain ⟨x22, hx22, hF10⟩ := bnd hF10
        refine WL.q (Y.slEl Try.underlying22 cells3 hs4 (.pl rfl) (.pl rfl) (ix_lt (hx22))) rfl ?_
        refine WL.q (Y.loadS (enc := (eI .i64)) (v := .int .i64 x22) (j := 0) Try.underlying3 rfl hs4 (.pl rfl) (hx22) rfl rfl) rfl ?_
        refine WL.q (Y.assign (.pl rfl)) rfl ?_
        refine WL.next hQ16 (.cons (i := 0) rfl (.cons (i := 3) rfl (.cons (i := 4) rfl (.cons (i := 6) rfl (.cons (i := 25) rfl (.cons (i := 26) rfl (.cons (i := 27) rfl (.nil)))))))) ?_
        -- region 7: object.go:55
        refine W.reg ?_
        refine WL.q (Y.move (.pl rfl)) rfl ?_
        refine WL.q (Y.move (.pl rfl)) rfl ?_
        refine WL.q (Y.build (cs := (encDo (Do.mk 3 x22 0)).toArray) shape28 (.cons (.pl rfl) (.cons (.pl rfl) (.nil))) (one_parts ⟨rfl, ⟨rfl, trivial⟩⟩) rfl) rfl ?_
        refine WL.step (WO.bsliceC (enc := encDo) (ys := ([(Do.mk 3 x22 0)] : List Do)) Try.underlying26 bz28 (.cons (.pl rfl) (.nil)) rfl lenDo rfl rfl (by decide) (by decide) rfl fun b23 => ?_)
        obtain ⟨hk26, hF10⟩ := ckh hF10
        refine WL.step (WO.appendC (enc := encDo) Try.underlying26 ap28 lenDo oneDo (.pl rfl) rfl (.pl rfl) (i := 1) rfl (m2 := 0) rfl (hk26) rfl fun A24 c25 => ?_)
        refine WL.q (Y.move (.pl rfl)) rfl ?_
        refine WL.q (Y.move (.pl rfl)) rfl ?_
        refine WL.q (Y.build (cs := (encDo (Do.mk 5 x22 0)).toArray) shape28 (.cons (.pl rfl) (.cons (.pl rfl) (.nil))) (one_parts ⟨rfl, ⟨rfl, trivial⟩⟩) rfl) rfl ?_
        refine WL.step (WO.bsliceC (enc := encDo) (ys := ([(Do.mk 5 x22 0)] : List Do)) Try.underlying26 bz28 (.cons (.pl rfl) (.nil)) rfl lenDo rfl rfl (by decide) (by decide) rfl fun b27 => ?_)
        obtain ⟨hk30, hF10⟩ := ckh hF10
        refine WL.step (WO.appendC (enc := encDo) Try.underlying26 ap28 lenDo oneDo (.pl rfl) rfl (.pl rfl) (i := 3) rfl (m2 := 0) rfl (hk30) rfl fun A28 c29 => ?_)
        refine WL.q (Y.assign (.pl rfl)) rfl ?_
        refine WL.q (Y.assign (.pl rfl)) rfl ?_
        refine WL.nil ?_
        refine W.go hK15 (.cons (i := 0) rfl (.cons (i := 3) rfl (.cons (i := 4) rfl (.cons (i := 25) rfl (.cons (i := 26) rfl (.cons (i := 27) rfl (.nil))))))) ?_
        -- region 8: object.go:54
        refine W.reg ?_
        obtain ⟨hk31, hF10⟩ := ckh hF10
        refine WL.q (Y.add (.pl rfl) (.pl rfl) (ok64_lt (hk31))) rfl ?_
        refine WL.q (Y.move (.pl rfl)) rfl ?_
        refine WL.nil ?_
        obtain rfl := Option.some.inj hF10
        exact W.again7 hK11 (q17 ++ ([(Do.mk 3 x22 0)] : List Do)) (s20 ++ ([(Do.mk 5 x22 0)] : List Do)) (v21 + 1) A24 c25 A28 c29 k10 hN10 (Nat.lt_succ_self _) (.cons rfl (.cons rfl (.cons rfl (.nil)))) (.cons (i := 0) rfl (.cons (i := 25) rfl (.cons (i := 26) rfl (.nil)))) (fun wz hw => hw.pick [2, 3] rfl)
      · replace hF10 := cneg hC14 hF10
        refine W.exit ?_
        obtain rfl := Option.some.inj hF10
        exact W.joinAt6 hK8 q17 s20 A15 c16 A18 c19 (einr hN10) (.cons rfl (.cons rfl (.nil))) (.cons (i := 0) rfl (.nil)) (fun wz hw => hw.pick [0, 1] rfl)
    · -- behind
      rintro q11 s14 A9 c10 A12 c13 rfl
      obtain ⟨o19, hF19, hF⟩ := bnd hF
      refine W.join6 (Em := fun (q34 : (List Do)) (s37 : (List Do)) (A32 : Option Addr) (c33 : Nat) (A35 : Option Addr) (c36 : Nat) => [(3, .slice A32 (q34).length c33), (4, .slice A35 (s37).length c36)]) (M := fun q34 s37 A32 c33 A35 c36 => [cR encDo 3 A32 c33 28 q34, cR encDo 3 A35 c36 28 s37]) (I := fun q34 s37 A32 c33 A35 c36 => (q34, s37) = o19) (.nil) (fun K20 hK20 => ?_) ?_
      · -- up to
        -- region 9: object.go:57
        refine W.seqR fun Q21 hQ21 => ?_
        refine WL.q (Y.move (.pl rfl)) rfl ?_
        refine WL.q (Y.len Try.underlying22 (.pl rfl)) rfl ?_
        refine WL.q (Y.move (.pl rfl)) rfl ?_
        refine WL.next hQ21 (.cons (i := 0) rfl (.cons (i := 3) rfl (.cons (i := 4) rfl (.cons (i := 42) rfl (.cons (i := 43) rfl (.cons (i := 44) rfl (.nil))))))) ?_
        refine W.block ?_
        refine W.loop7 (Em := fun (q40 : (List Do)) (s43 : (List Do)) (v44 : Int) (A38 : Option Addr) (c39 : Nat) (A41 : Option Addr) (c42 : Nat) => [(3, .slice A38 (q40).length c39), (4, .slice A41 (s43).length c42), (44, .int .i64 v44)]) (M := fun q40 s43 v44 A38 c39 A41 c42 => [cR encDo 3 A38 c39 28 q40, cR encDo 3 A41 c42 28 s43]) (I := fun q40 s43 v44 A38 c39 A41 c42 k22 => iter (alibkeep_ObjectRows_L7 N l1) k22 (q40, s43, v44) = some o19) q11 s14 0 A9 c10 A12 c13 N (hF19) (.cons rfl (.cons rfl (.cons rfl (.nil)))) (.cons (i := 0) rfl (.cons (i := 42) rfl (.cons (i := 43) rfl (.nil)))) (fun wz hw => hw.pick [0, 1] rfl) (fun q40 s43 v44 A38 c39 A41 c42 k22 hI K23 hK23 => ?_)
        obtain ⟨k22, t22, rfl, hF22, hN22⟩ := iter_step hI
        -- region 10: object.go:57
        refine W.seqR fun Q24 hQ24 => ?_
        refine WL.q (Y.lss (.pl rfl) (.pl rfl)) rfl ?_
        refine WL.next hQ24 (.cons (i := 0) rfl (.cons (i := 3) rfl (.cons (i := 4) rfl (.cons (i := 42) rfl (.cons (i := 43) rfl (.cons (i := 44) rfl (.cons (i := 45) rfl (.nil)))))))) ?_
        refine W.seq fun K25 hK25 => ?_
        refine W.cond (.pl rfl) (fun hC26 => ?_) (fun hC26 => ?_)
        · replace hF22 := cpos hC26 hF22
          refine W.skip ?_
          refine W.go hK25 (.cons (i := 0) rfl (.cons (i := 3) rfl (.cons (i := 4) rfl (.cons (i := 42) rfl (.cons (i := 43) rfl (.cons (i := 44) rfl (.nil))))))) ?_
          refine W.seq fun K27 hK27 => ?_
          refine W.block ?_
          -- region 11: object.go:57
          refine W.seqR fun Q28 hQ28 => ?_
          refine WL.q (Y.move (.pl rfl)) rfl ?_
          obtain ⟨x45, hx45, hF22⟩ := bnd hF22
          refine WL.q (Y.slEl Try.underlying22 cells3 hs4 (.pl rfl) (.pl rfl) (ix_lt (hx45))) rfl ?_
          refine WL.q (Y.loadS (enc := (eI .i64)) (v := .int .i64 x45) (j := 0) Try.underlying3 rfl hs4 (.pl rfl) (hx45) rfl rfl) rfl ?_
          refine WL.q (Y.assign (.pl rfl)) rfl ?_
          refine WL.q (Y.assign (.pl rfl)) rfl ?_
          refine WL.next hQ28 (.cons (i := 0) rfl (.cons (i := 3) rfl (.cons (i := 4) rfl (.cons (i := 7) rfl (.cons (i := 8) rfl (.cons (i := 42) rfl (.cons (i := 43) rfl (.cons (i := 44) rfl (.nil))))))))) ?_
          -- region 12: object.go:58
          refine W.know (fun wz hw => (hw.row_lim (i := 0) rfl).2.2) (fun hok30 => ?_)
          refine W.regXK 16 [1] (by kernel_rfl) ?_
          refine WX.pure 0 #[true, false, false, false, false, false, false, false, false, false, false, false, false, false, false, false, false, false, false] rfl (by kernel_rfl) (fun _ _ => Y.move (.pl rfl)) rfl ?_
          refine WX.pure 1 #[true, true, false, false, false, false, false, false, false, false, false, false, false, false, false, false, false, false, false] rfl (by kernel_rfl) (fun _ _ => Y.move (.pl rfl)) rfl ?_
          refine WX.pure 2 #[true, true, true, false, false, false, false, false, false, false, false, false, false, false, false, false, false, false, false] rfl (by kernel_rfl) (fun _ _ => Y.build (cs := (encDo (Do.mk 4 0 x45)).toArray) shape28 (.cons (.pl rfl) (.cons (.pl rfl) (.nil))) (one_parts ⟨rfl, ⟨rfl, trivial⟩⟩) rfl) rfl ?_
          refine WX.pure 5 #[true, true, true, false, false, true, false, false, false, false, false, false, false, false, false, false, false, false, false] rfl (by kernel_rfl) (fun _ _ => Y.move (.pl rfl)) rfl ?_
          refine WX.pure 6 #[true, true, true, false, false, true, true, false, false, false, false, false, false, false, false, false, false, false, false] rfl (by kernel_rfl) (fun _ _ => Y.move (.pl rfl)) rfl ?_
          refine WX.pure 7 #[true, true, true, false, false, true, true, true, false, false, false, false, false, false, false, false, false, false, false] rfl (by kernel_rfl) (fun _ _ => Y.move (.pl rfl)) rfl ?_
          refine WX.take 8 #[true, true, true, false, false, true, true, true, true, false, false, false, false, false, false, false, false, false, false] (fun wz hw => hw.pick [1] rfl) rfl (by kernel_rfl) (Y.len Try.underlying22 (.pl rfl)) rfl ?_
          obtain ⟨hk46, hF22⟩ := ckh hF22
          refine WX.pure 9 #[true, true, true, false, false, true, true, true, true, true, false, false, false, false, false, false, false, false, false] rfl (by kernel_rfl) (fun _ _ => Y.sub (.pl rfl) (.pl rfl) (ok64_lt (hk46))) rfl ?_
          refine WX.pure 10 #[true, true, true, false, false, true, true, true, true, true, true, false, false, false, false, false, false, false, false] rfl (by kernel_rfl) (fun _ _ => Y.move (.pl rfl)) rfl ?_
          obtain ⟨hk47, hF22⟩ := ckh hF22
          refine WX.pure 11 #[true, true, true, false, false, true, true, true, true, true, true, true, false, false, false, false, false, false, false] rfl (by kernel_rfl) (fun _ _ => Y.sub (.pl rfl) (.pl rfl) (ok64_lt (hk47))) rfl ?_
          obtain ⟨x48, hx48, hF22⟩ := bnd hF22
          refine WX.take 12 #[true, true, true, false, false, true, true, true, true, true, true, true, true, false, false, false, false, false, false] (fun wz hw => hw.pick [1] rfl) rfl (by kernel_rfl) (Y.slEl Try.underlying22 cells3 hs4 (.pl rfl) (.pl rfl) (ix_lt (hx48))) rfl ?_
          refine WX.take 13 #[true, true, true, false, false, true, true, true, true, true, true, true, true, true, false, false, false, false, false] (fun wz hw => hw.pick [1] rfl) rfl (by kernel_rfl) (Y.loadS (enc := (eI .i64)) (v := .int .i64 x48) (j := 0) Try.underlying3 rfl hs4 (.pl rfl) (hx48) rfl rfl) rfl ?_
          refine WX.pure 14 #[true, true, true, false, false, true, true, true, true, true, true, true, true, true, true, false, false, false, false] rfl (by kernel_rfl) (fun _ _ => Y.build (cs := (encDo (Do.mk 6 0 x48)).toArray) shape28 (.cons (.pl rfl) (.cons (.pl rfl) (.nil))) (one_parts ⟨rfl, ⟨rfl, trivial⟩⟩) rfl) rfl ?_
          obtain ⟨hk52, hF22⟩ := ckh hF22
          obtain ⟨hk56, hF22⟩ := ckh hF22
          refine WX.branch [3, 15] (fun wz hw => hw.pick [1] rfl) (by kernel_rfl) ⟨?_, ?_, trivial⟩
          · skip
            refine WXI.step #[true, true, true, true, false, true, true, true, true, true, true, true, true, true, true, false, false, false, false] rfl rfl (WO.bsliceC (enc := encDo) (ys := ([(Do.mk 4 0 x45)] : List Do)) Try.underlying26 bz28 (.cons (.pl rfl) (.nil)) rfl lenDo rfl rfl (by decide) (by decide) rfl fun b49 => ?_)
            refine WX.branch [4, 15] (fun wz hw => hw.pick [2] rfl) (by kernel_rfl) ⟨?_, ?_, trivial⟩
            · skip
              refine WXI.step #[true, true, true, true, true, true, true, true, true, true, true, true, true, true, true, false, false, false, false] rfl rfl (WO.appendC (enc := encDo) Try.underlying26 ap28 lenDo oneDo (.pl rfl) rfl (.pl rfl) (i := 1) rfl (m2 := 0) rfl (hk52) rfl fun A50 c51 => ?_)
              refine WX.one 15 #[true, true, true, true, true, true, true, true, true, true, true, true, true, true, true, true, false, false, false] (fun wz hw => hw.pick [2] rfl) rfl (by kernel_rfl) (WO.bsliceC (enc := encDo) (ys := ([(Do.mk 6 0 x48)] : List Do)) Try.underlying26 bz28 (.cons (.pl rfl) (.nil)) rfl lenDo rfl rfl (by decide) (by decide) rfl fun b53 => ?_)
              refine WX.stop #[true, true, true, true, true, true, true, true, true, true, true, true, true, true, true, true, true, false, false] (fun wz hw => hw.pick [3] rfl) rfl (by kernel_rfl) (WO.appendC (enc := encDo) Try.underlying26 ap28 lenDo oneDo (.pl rfl) rfl (.pl rfl) (i := 3) rfl (m2 := 0) rfl (hk56) rfl fun A54 c55 => ?_)
              refine WA.take 17 #[true, true, true, true, true, true, true, true, true, true, true, true, true, true, true, true, true, true, false] rfl (by kernel_rfl) (fun _ _ => Y.assign (.pl rfl)) rfl ?_
              refine WA.take 18 #[true, true, true, true, true, true, true, true, true, true, true, true, true, true, true, true, true, true, true] rfl (by kernel_rfl) (fun _ _ => Y.assign (.pl rfl)) rfl ?_
              refine WA.done (by kernel_rfl) ?_
              refine W.go hK27 (.cons (i := 0) rfl (.cons (i := 3) rfl (.cons (i := 4) rfl (.cons (i := 42) rfl (.cons (i := 43) rfl (.cons (i := 44) rfl (.nil))))))) ?_
              -- region 13: object.go:57
              refine W.reg ?_
              obtain ⟨hk57, hF22⟩ := ckh hF22
              refine WL.q (Y.add (.pl rfl) (.pl rfl) (ok64_lt (hk57))) rfl ?_
              refine WL.q (Y.move (.pl rfl)) rfl ?_
              refine WL.nil ?_
              obtain rfl := Option.some.inj hF22
              exact W.again7 hK23 (q40 ++ ([(Do.mk 4 0 x45)] : List Do)) (s43 ++ ([(Do.mk 6 0 x48)] : List Do)) (v44 + 1) A50 c51 A54 c55 k22 hN22 (Nat.lt_succ_self _) (.cons rfl (.cons rfl (.cons rfl (.nil)))) (.cons (i := 0) rfl (.cons (i := 42) rfl (.cons (i := 43) rfl (.nil)))) (fun wz hw => hw.pick [2, 3] rfl)
            · skip
              refine WXI.step #[true, true, true, true, false, true, true, true, true, true, true, true, true, true, true, true, false, false, false] rfl rfl (WO.bsliceC (enc := encDo) (ys := ([(Do.mk 6 0 x48)] : List Do)) Try.underlying26 bz28 (.cons (.pl rfl) (.nil)) rfl lenDo rfl rfl (by decide) (by decide) rfl fun b58 => ?_)
              refine WX.one 4 #[true, true, true, true, true, true, true, true, true, true, true, true, true, true, true, true, false, false, false] (fun wz hw => hw.pick [3] rfl) rfl (by kernel_rfl) (WO.appendC (enc := encDo) Try.underlying26 ap28 lenDo oneDo (.pl rfl) rfl (.pl rfl) (i := 2) rfl (m2 := 1) rfl (hk52) rfl fun A59 c60 => ?_)
              refine WX.stop #[true, true, true, true, true, true, true, true, true, true, true, true, true, true, true, true, true, false, false] (fun wz hw => hw.pick [3] rfl) rfl (by kernel_rfl) (WO.appendC (enc := encDo) Try.underlying26 ap28 lenDo oneDo (.pl rfl) rfl (.pl rfl) (i := 3) rfl (m2 := 0) rfl (hk56) rfl fun A61 c62 => ?_)
              refine WA.take 17 #[true, true, true, true, true, true, true, true, true, true, true, true, true, true, true, true, true, true, false] rfl (by kernel_rfl) (fun _ _ => Y.assign (.pl rfl)) rfl ?_
              refine WA.take 18 #[true, true, true, true, true, true, true, true, true, true, true, true, true, true, true, true, true, true, true] rfl (by kernel_rfl) (fun _ _ => Y.assign (.pl rfl)) rfl ?_
              refine WA.done (by kernel_rfl) ?_
              refine W.go hK27 (.cons (i := 0) rfl (.cons (i := 3) rfl (.cons (i := 4) rfl (.cons (i := 42) rfl (.cons (i := 43) rfl (.cons (i := 44) rfl (.nil))))))) ?_
              -- region 13: object.go:57
              refine W.reg ?_
              obtain ⟨hk63, hF22⟩ := ckh hF22
              refine WL.q (Y.add (.pl rfl) (.pl rfl) (ok64_lt (hk63))) rfl ?_
              refine WL.q (Y.move (.pl rfl)) rfl ?_
              refine WL.nil ?_
              obtain rfl := Option.some.inj hF22
              exact W.again7 hK23 (q40 ++ ([(Do.mk 4 0 x45)] : List Do)) (s43 ++ ([(Do.mk 6 0 x48)] : List Do)) (v44 + 1) A59 c60 A61 c62 k22 hN22 (Nat.lt_succ_self _) (.cons rfl (.cons rfl (.cons rfl (.nil)))) (.cons (i := 0) rfl (.cons (i := 42) rfl (.cons (i := 43) rfl (.nil)))) (fun wz hw => hw.pick [2, 3] rfl)
          · skip
            refine WXI.step #[true, true, true, false, false, true, true, true, true, true, true, true, true, true, true, true, false, false, false] rfl rfl (WO.bsliceC (enc := encDo) (ys := ([(Do.mk 6 0 x48)] : List Do)) Try.underlying26 bz28 (.cons (.pl rfl) (.nil)) rfl lenDo rfl rfl (by decide) (by decide) rfl fun b64 => ?_)
            refine WX.one 3 #[true, true, true, true, false, true, true, true, true, true, true, true, true, true, true, true, false, false, false] (fun wz hw => hw.pick [2] rfl) rfl (by kernel_rfl) (WO.bsliceC (enc := encDo) (ys := ([(Do.mk 4 0 x45)] : List Do)) Try.underlying26 bz28 (.cons (.pl rfl) (.nil)) rfl lenDo rfl rfl (by decide) (by decide) rfl fun b65 => ?_)
            refine WX.one 4 #[true, true, true, true, true, true, true, true, true, true, true, true, true, true, true, true, false, false, false] (fun wz hw => hw.pick [3] rfl) rfl (by kernel_rfl) (WO.appendC (enc := encDo) Try.underlying26 ap28 lenDo oneDo (.pl rfl) rfl (.pl rfl) (i := 2) rfl (m2 := 0) rfl (hk52) rfl fun A66 c67 => ?_)
            refine WX.stop #[true, true, true, true, true, true, true, true, true, true, true, true, true, true, true, true, true, false, false] (fun wz hw => hw.pick [3] rfl) rfl (by kernel_rfl) (WO.appendC (enc := encDo) Try.underlying26 ap28 lenDo oneDo (.pl rfl) rfl (.pl rfl) (i := 3) rfl (m2 := 1) rfl (hk56) rfl fun A68 c69 => ?_)
            refine WA.take 17 #[true, true, true, true, true, true, true, true, true, true, true, true, true, true, true, true, true, true, false] rfl (by kernel_rfl) (fun _ _ => Y.assign (.pl rfl)) rfl ?_
            refine WA.take 18 #[true, true, true, true, true, true, true, true, true, true, true, true, true, true, true, true, true, true, true] rfl (by kernel_rfl) (fun _ _ => Y.assign (.pl rfl)) rfl ?_
            refine WA.done (by kernel_rfl) ?_
            refine W.go hK27 (.cons (i := 0) rfl (.cons (i := 3) rfl (.cons (i := 4) rfl (.cons (i := 42) rfl (.cons (i := 43) rfl (.cons (i := 44) rfl (.nil))))))) ?_
            -- region 13: object.go:57
            refine W.reg ?_
            obtain ⟨hk70, hF22⟩ := ckh hF22
            refine WL.q (Y.add (.pl rfl) (.pl rfl) (ok64_lt (hk70))) rfl ?_
            refine WL.q (Y.move (.pl rfl)) rfl ?_
            refine WL.nil ?_
            obtain rfl := Option.some.inj hF22
            exact W.again7 hK23 (q40 ++ ([(Do.mk 4 0 x45)] : List Do)) (s43 ++ ([(Do.mk 6 0 x48)] : List Do)) (v44 + 1) A66 c67 A68 c69 k22 hN22 (Nat.lt_succ_self _) (.cons rfl (.cons rfl (.cons rfl (.nil)))) (.cons (i := 0) rfl (.cons (i := 42) rfl (.cons (i := 43) rfl (.nil)))) (fun wz hw => hw.pick [2, 3] rfl)
        · replace hF22 := cneg hC26 hF22
          refine W.exit ?_
          obtain rfl := Option.some.inj hF22
          exact W.joinAt6 hK20 q40 s43 A38 c39 A41 c42 (einr hN22) (.cons rfl (.cons rfl (.nil))) (.nil) (fun wz hw => hw.pick [0, 1] rfl)
      · -- behind
        rintro q34 s37 A32 c33 A35 c36 rfl
        -- region 14: object.go:60
        refine W.seqR fun Q34 hQ34 => ?_
        refine WL.q (Y.move (.pl rfl)) rfl ?_
        refine WL.q (Y.build (cs := (encDo (Do.mk 4 0 (-1))).toArray) shape28 (.cons (.pl rfl) (.cons (.pl rfl) (.nil))) (one_parts ⟨rfl, ⟨rfl, trivial⟩⟩) rfl) rfl ?_
        refine WL.step (WO.bsliceC (enc := encDo) (ys := ([(Do.mk 4 0 (-1))] : List Do)) Try.underlying26 bz28 (.cons (.pl rfl) (.nil)) rfl lenDo rfl rfl (by decide) (by decide) rfl fun b71 => ?_)
        obtain ⟨hk74, hF⟩ := ckh hF
        refine WL.step (WO.appendC (enc := encDo) Try.underlying26 ap28 lenDo oneDo (.pl rfl) rfl (.pl rfl) (i := 1) rfl (m2 := 0) rfl (hk74) rfl fun A72 c73 => ?_)
        refine WL.q (Y.move (.pl rfl)) rfl ?_
        refine WL.q (Y.build (cs := (encDo (Do.mk 6 0 (-1))).toArray) shape28 (.cons (.pl rfl) (.cons (.pl rfl) (.nil))) (one_parts ⟨rfl, ⟨rfl, trivial⟩⟩) rfl) rfl ?_
        refine WL.step (WO.bsliceC (enc := encDo) (ys := ([(Do.mk 6 0 (-1))] : List Do)) Try.underlying26 bz28 (.cons (.pl rfl) (.nil)) rfl lenDo rfl rfl (by decide) (by decide) rfl fun b75 => ?_)
        obtain ⟨hk78, hF⟩ := ckh hF
        refine WL.step (WO.appendC (enc := encDo) Try.underlying26 ap28 lenDo oneDo (.pl rfl) rfl (.pl rfl) (i := 3) rfl (m2 := 0) rfl (hk78) rfl fun A76 c77 => ?_)
        refine WL.q (Y.assign (.pl rfl)) rfl ?_
        refine WL.q (Y.assign (.pl rfl)) rfl ?_
        refine WL.next hQ34 (.cons (i := 3) rfl (.cons (i := 4) rfl (.nil))) ?_
        -- region 15: object.go:61
        refine W.seqR fun Q35 hQ35 => ?_
        refine WL.q (Y.move (.pl rfl)) rfl ?_
        obtain ⟨r79, hr79, hF⟩ := bnd hF
        refine WL.step (WO.callP isGo27 (.cons (.pl rfl) (.cons (.pl rfl) (.nil))) rfl (fun wz hw => object_Play_ok (hr79) wz (SlIn.ofRow lenDo hw (i := 2) rfl)) ?_)
        refine WL.q (Y.move (.pl rfl)) rfl ?_
        refine WL.q (Y.extract (.pl rfl) rfl) rfl ?_
        refine WL.q (Y.extract (.pl rfl) rfl) rfl ?_
        refine WL.q (Y.assign (.pl rfl)) rfl ?_
        refine WL.q (Y.assign (.pl rfl)) rfl ?_
        refine WL.next hQ35 (.cons (i := 3) rfl (.cons (i := 4) rfl (.cons (i := 9) rfl (.cons (i := 10) rfl (.nil))))) ?_
        -- region 16: object.go:62
        refine W.seqR fun Q36 hQ36 => ?_
        refine WL.q (Y.move (.pl rfl)) rfl ?_
        obtain ⟨r80, hr80, hF⟩ := bnd hF
        refine WL.step (WO.callP isGo27 (.cons (.pl rfl) (.cons (.pl rfl) (.nil))) rfl (fun wz hw => object_Play_ok (hr80) wz (SlIn.ofRow lenDo hw (i := 3) rfl)) ?_)
        refine WL.q (Y.move (.pl rfl)) rfl ?_
        refine WL.q (Y.extract (.pl rfl) rfl) rfl ?_
        refine WL.q (Y.extract (.pl rfl) rfl) rfl ?_
        refine WL.q (Y.assign (.pl rfl)) rfl ?_
        refine WL.q (Y.assign (.pl rfl)) rfl ?_
        refine WL.next hQ36 (.cons (i := 3) rfl (.cons (i := 4) rfl (.cons (i := 9) rfl (.cons (i := 10) rfl (.cons (i := 11) rfl (.cons (i := 12) rfl (.nil))))))) ?_
        -- region 17: object.go:63
        refine W.seqR fun Q37 hQ37 => ?_
        refine WL.q (Y.move (.pl rfl)) rfl ?_
        refine WL.q (Y.move (.pl rfl)) rfl ?_
        refine WL.step (WO.bsliceC (enc := (eI .i64)) (ys := ([r79.2, r80.2] : List Int)) Try.underlying88 bz29 (.cons (.pl rfl) (.cons (.pl rfl) (.nil))) rfl (fun _ => rfl) rfl rfl (by decide) (by decide) rfl fun b81 => ?_)
        obtain ⟨r82, hr82, hF⟩ := bnd hF
        refine WL.step (WO.callP isGo28 (.cons (.pl rfl) (.nil)) rfl (fun wz hw => alibkeep_ok_ok (hr82) wz (SlIn.ofRow (fun _ => rfl) hw (i := 0) rfl)) ?_)
        refine WL.q (Y.move (.pl rfl)) rfl ?_
        refine WL.g (.pl rfl rfl rfl) (fun hg => Y.move (.pl rfl)) rfl ?_
        refine WL.g (.pl rfl rfl rfl) (fun hg => Y.move (.pl rfl)) rfl ?_
        refine WL.g (.pl rfl rfl rfl) (fun hg => Y.len Try.underlying26 (.gd (hg) rfl)) rfl ?_
        refine WL.g (.pl rfl rfl rfl) (fun hg => Y.eql (.gd (hg) rfl) (.gd (hg) rfl)) rfl ?_
        refine WL.q (Y.and (.pl rfl) (fun h2 => .gd (eqt h2) rfl)) rfl ?_
        refine WL.q (Y.move (.pl rfl)) rfl ?_
        refine WL.g (.pl rfl rfl rfl) (fun hg => Y.move (.pl rfl)) rfl ?_
        refine WL.g (.pl rfl rfl rfl) (fun hg => Y.move (.pl rfl)) rfl ?_
        refine WL.g (.pl rfl rfl rfl) (fun hg => Y.len Try.underlying26 (.gd (hg) rfl)) rfl ?_
        refine WL.g (.pl rfl rfl rfl) (fun hg => Y.eql (.gd (hg) rfl) (.gd (hg) rfl)) rfl ?_
        refine WL.q (Y.and (.pl rfl) (fun h2 => .gd (eqt h2) rfl)) rfl ?_
        refine WL.q (Y.assign (.pl rfl)) rfl ?_
        refine WL.next hQ37 (.cons (i := 2) rfl (.nil)) ?_
        obtain rfl := Option.some.inj hF
        refine W.retV (fn := Try.f3) (vs := [.bool ((r82 && (decide (r79.1 = (((q34 ++ ([(Do.mk 4 0 (-1))] : List Do))).length : Int)))) && (decide (r80.1 = (((s37 ++ ([(Do.mk 6 0 (-1))] : List Do))).length : Int))))]) Try.results3 ⟨.tmp rfl, trivial⟩ (fun _ _ h => h) (fun wz hw => ?_)
        exact hR _ _ ⟨rfl, (hw.pick [] rfl)⟩

end Go.Proofs.Ytpakplmpihhmbaa
