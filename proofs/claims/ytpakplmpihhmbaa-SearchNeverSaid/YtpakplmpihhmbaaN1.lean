/- SearchNever: what its code computes, and the walk. -/
import Derived.Test.YtpakplmpihhmbaaA6
set_option linter.unusedVariables false
set_option linter.unusedSimpArgs false
set_option linter.unusedSectionVars false
set_option maxRecDepth 100000
namespace Go.Proofs.Ytpakplmpihhmbaa
open Go.RowKit
theorem isGo38 : IsGo Try.prog 38 := ⟨_, Try.func38, by kernel_rfl, rfl⟩
theorem isGo39 : IsGo Try.prog 39 := ⟨_, Try.func39, by kernel_rfl, rfl⟩
theorem isGo41 : IsGo Try.prog 41 := ⟨_, Try.func41, by kernel_rfl, rfl⟩
theorem isGo42 : IsGo Try.prog 42 := ⟨_, Try.func42, by kernel_rfl, rfl⟩
def alibkeep_SearchNever_1 (N : Nat) (s1 : Step) (a3 : Int) : Option Unit :=
  some ()

theorem alibkeep_SearchNever_1_ok {N : Nat} {s1 : Step} {a3 : Int} {b2 : Nat} {res : Unit} (hF : alibkeep_SearchNever_1 N s1 a3 = some res) {w0 w : World} {T : List Chunk} (hw : St w0.heap.size w0 ([cBx b2 3 [.int .i64 a3]] ++ T) w) :
    Calls Try.prog 39 (List.toArray [.agg (encStep s1).toArray, .pointer (some ⟨b2, 0, none⟩)]) w (fun e w' => ∃ g : Unit, (True) ∧ e = .returned (.bool (decide (s1.call = a3))) ∧ St w0.heap.size w0 ([cBx b2 3 [.int .i64 a3]] ++ T) w') := by
  refine W.enter (n := 8) Try.func39 rfl rfl Sub.refl (by simp) hw fun R hR => ?_
  unfold alibkeep_SearchNever_1 at hF
  -- region 0: search.go:51
  refine W.seqR fun Q1 hQ1 => ?_
  refine WL.step (WO.boxA (.pl rfl) rfl fun b4 => ?_)
  refine WL.q (Y.assign (.pl rfl)) rfl ?_
  refine WL.next hQ1 (.cons (i := 1) rfl (.cons (i := 2) rfl (.nil))) ?_
  -- region 1: search.go:51
  refine W.seqR fun Q2 hQ2 => ?_
  refine WL.q (Y.fieldAddr0 (off := 0) (ft := 3) Try.underlying58 rfl cells3 (.pl rfl)) rfl ?_
  refine WL.q (Y.loadB (v := .int .i64 s1.call) Try.underlying3 rfl (.pl rfl) (i := 0) rfl (rfl)) rfl ?_
  refine WL.q (Y.loadB (v := .int .i64 a3) Try.underlying3 rfl (.pl rfl) (i := 1) rfl (rfl)) rfl ?_
  refine WL.q (Y.eql (.pl rfl) (.pl rfl)) rfl ?_
  refine WL.q (Y.assign (.pl rfl)) rfl ?_
  refine WL.next hQ2 (.cons (i := 3) rfl (.nil)) ?_
  obtain rfl := Option.some.inj hF
  refine W.retV (fn := Try.f39) (vs := [.bool (decide (s1.call = a3))]) Try.results39 ⟨.tmp rfl, trivial⟩ (fun _ _ h => h) (fun w hw => ?_)
  exact hR _ _ ⟨(), trivial, rfl, (hw.pickK 2 [1] rfl)⟩

def slices_IndexFunc_api_Step_api_Step_L3 (N : Nat) (s3 : (List Step)) (c5 : Int) : Int → Option (Int ⊕ (Unit ⊕ Int))
  | v6 =>
    cond (decide (v6 < ((s3).length : Int)))
      (bd (ix s3 v6) fun (x7 : Step) =>
      bd (alibkeep_SearchNever_1 N x7 c5) fun (r8 : Unit) =>
      cond (decide (x7.call = c5))
        (some (.inr (.inr v6)))
        (ck (ok64 (v6 + 1)) <|
        some (.inl (v6 + 1))))
      (some (.inr (.inl ())))

def slices_IndexFunc_api_Step_api_Step (N : Nat) (s3 : (List Step)) (c5 : Int) : Option Int :=
  bd (α := (Unit ⊕ Int)) (iter (slices_IndexFunc_api_Step_api_Step_L3 N s3 c5) N 0) <|
  Sum.elim (fun _ => 
    some (-1)) (fun p => some p)

theorem slices_IndexFunc_api_Step_api_Step_ok {N : Nat} {s3 : (List Step)} {c5 : Int} {A1 : Option Addr} {c2 : Nat} {b4 : Nat} {res : Int} (hF : slices_IndexFunc_api_Step_api_Step N s3 c5 = some res) {w0 w : World} {T : List Chunk} (hw : St w0.heap.size w0 ([cR encStep 2 A1 c2 58 s3, cBx b4 3 [.int .i64 c5]] ++ T) w) :
    Calls Try.prog 41 (List.toArray [.slice A1 (s3).length c2, .func (.func 39) #[] #[.pointer (some ⟨b4, 0, none⟩)]]) w (fun e w' => ∃ g : Unit, (True) ∧ e = .returned (.int .i64 res) ∧ St w0.heap.size w0 ([cR encStep 2 A1 c2 58 s3, cBx b4 3 [.int .i64 c5]] ++ T) w') := by
  refine W.enter (n := 19) Try.func41 rfl rfl Sub.refl (by simp) hw fun R hR => ?_
  unfold slices_IndexFunc_api_Step_api_Step at hF
  -- region 0: slices.go:107
  refine W.seqR fun Q1 hQ1 => ?_
  refine WL.q (Y.assign (.pl rfl)) rfl ?_
  refine WL.next hQ1 (.cons (i := 0) rfl (.cons (i := 1) rfl (.nil))) ?_
  obtain ⟨o2, hF2, hF⟩ := bnd hF
  refine W.join0 (Em := []) (M := ([cR encStep 2 A1 c2 58 s3, cBx b4 3 [.int .i64 c5]] ++ T)) (I := (.inl ()) = o2) (.nil) (fun K3 hK3 => ?_) ?_
  · -- up to
    -- region 1: slices.go:108
    refine W.seqR fun Q4 hQ4 => ?_
    refine WL.q (Y.move (.pl rfl)) rfl ?_
    refine WL.q (Y.len Try.underlying44 (.pl rfl)) rfl ?_
    refine WL.q (Y.move (.pl rfl)) rfl ?_
    refine WL.next hQ4 (.cons (i := 0) rfl (.cons (i := 1) rfl (.cons (i := 7) rfl (.cons (i := 8) rfl (.nil))))) ?_
    refine W.block ?_
    refine W.loop1 (Em := fun (v6 : Int) => [(8, .int .i64 v6)]) (M := fun v6 => ([cR encStep 2 A1 c2 58 s3, cBx b4 3 [.int .i64 c5]] ++ T)) (I := fun v6 k5 => iter (slices_IndexFunc_api_Step_api_Step_L3 N s3 c5) k5 v6 = some o2) 0 N (hF2) (.cons rfl (.nil)) (.cons (i := 0) rfl (.cons (i := 1) rfl (.cons (i := 7) rfl (.nil)))) (fun w hw => hw.pickK 2 [0, 1] rfl) (fun v6 k5 hI K6 hK6 => ?_)
    obtain ⟨k5, t5, rfl, hF5, hN5⟩ := iter_step hI
    -- region 2: slices.go:108
    refine W.seqR fun Q7 hQ7 => ?_
    refine WL.q (Y.lss (.pl rfl) (.pl rfl)) rfl ?_
    refine WL.next hQ7 (.cons (i := 0) rfl (.cons (i := 1) rfl (.cons (i := 7) rfl (.cons (i := 8) rfl (.cons (i := 9) rfl (.nil)))))) ?_
    refine W.seq fun K8 hK8 => ?_
    refine W.cond (.pl rfl) (fun hC9 => ?_) (fun hC9 => ?_)
    · replace hF5 := cpos hC9 hF5
      refine W.skip ?_
      refine W.go hK8 (.cons (i := 0) rfl (.cons (i := 1) rfl (.cons (i := 7) rfl (.cons (i := 8) rfl (.nil))))) ?_
      refine W.seq fun K10 hK10 => ?_
      refine W.block ?_
      -- region 3: slices.go:108
      refine W.seqR fun Q11 hQ11 => ?_
      refine WL.q (Y.move (.pl rfl)) rfl ?_
      refine WL.q (Y.assign (.pl rfl)) rfl ?_
      refine WL.next hQ11 (.cons (i := 0) rfl (.cons (i := 1) rfl (.cons (i := 5) rfl (.cons (i := 7) rfl (.cons (i := 8) rfl (.nil)))))) ?_
      -- region 4: slices.go:109
      refine W.seqR fun Q12 hQ12 => ?_
      refine WL.q (Y.move (.pl rfl)) rfl ?_
      refine WL.q (Y.move (.pl rfl)) rfl ?_
      refine WL.q (Y.move (.pl rfl)) rfl ?_
      obtain ⟨x7, hx7, hF5⟩ := bnd hF5
      refine WL.q (Y.rowEl Try.underlying44 cells58 (i := 0) rfl (.pl rfl) rfl (.pl rfl) (ix_lt (hx7))) rfl ?_
      refine WL.q (Y.loadRA (enc := encStep) (ds := (encStep x7)) (a := x7) (idx := v6) (j := 0) Try.underlying58 rfl cells58 lenStep (i := 0) rfl (.pl rfl) (ix_get (hx7)) rfl rfl subW) rfl ?_
      obtain ⟨r8, hr8, hF5⟩ := bnd hF5
      refine WL.step (WO.callG (γ := Unit) (first := []) (cap := [.pointer (some ⟨b4, 0, none⟩)]) (fun g => .bool (decide (x7.call = c5))) (fun g => ([cBx b4 3 [.int .i64 c5], cR encStep 2 A1 c2 58 s3] ++ T)) (fun _ => True) isGo39 (.pl rfl) (.cons (.pl rfl) (.nil)) rfl (fun w hw => alibkeep_SearchNever_1_ok (T := ([cR encStep 2 A1 c2 58 s3] ++ T)) (hr8) (hw.pickK 2 [1, 0] rfl) ) ?_)
      rintro _ -
      refine WL.next hQ12 (.cons (i := 0) rfl (.cons (i := 1) rfl (.cons (i := 5) rfl (.cons (i := 7) rfl (.cons (i := 8) rfl (.cons (i := 16) rfl (.nil))))))) ?_
      refine W.cond (.pl rfl) (fun hC13 => ?_) (fun hC13 => ?_)
      · replace hF5 := cpos hC13 hF5
        -- region 5: slices.go:110
        refine W.seqR fun Q14 hQ14 => ?_
        refine WL.q (Y.move (.pl rfl)) rfl ?_
        refine WL.q (Y.assign (.pl rfl)) rfl ?_
        refine WL.next hQ14 (.cons (i := 4) rfl (.nil)) ?_
        obtain rfl := Option.some.inj hF5
        obtain rfl := einr hN5
        obtain rfl := Option.some.inj hF
        refine W.retV (fn := Try.f41) (vs := [.int .i64 v6]) Try.results41 ⟨.tmp rfl, trivial⟩ (fun _ _ h => h) (fun w hw => ?_)
        exact hR _ _ ⟨(), trivial, rfl, (hw.pickK 2 [1, 0] rfl)⟩
      · replace hF5 := cneg hC13 hF5
        refine W.skip ?_
        refine W.go hK10 (.cons (i := 0) rfl (.cons (i := 1) rfl (.cons (i := 7) rfl (.cons (i := 8) rfl (.nil))))) ?_
        -- region 6: slices.go:108
        refine W.reg ?_
        obtain ⟨hk9, hF5⟩ := ckh hF5
        refine WL.q (Y.add (.pl rfl) (.pl rfl) (ok64_lt (hk9))) rfl ?_
        refine WL.q (Y.move (.pl rfl)) rfl ?_
        refine WL.nil ?_
        obtain rfl := Option.some.inj hF5
        exact W.again1 hK6 (v6 + 1) k5 hN5 (Nat.lt_succ_self _) (.cons rfl (.nil)) (.cons (i := 0) rfl (.cons (i := 1) rfl (.cons (i := 7) rfl (.nil)))) (fun w hw => hw.pickK 2 [1, 0] rfl)
    · replace hF5 := cneg hC9 hF5
      refine W.exit ?_
      obtain rfl := Option.some.inj hF5
      exact W.joinAt0 hK3  (einr hN5) (.nil) (.nil) (fun w hw => hw.pickK 2 [0, 1] rfl)
  · -- behind
    rintro  rfl
    -- region 7: slices.go:113
    refine W.seqR fun Q16 hQ16 => ?_
    refine WL.q (Y.assign (.pl rfl)) rfl ?_
    refine WL.next hQ16 (.cons (i := 4) rfl (.nil)) ?_
    obtain rfl := Option.some.inj hF
    refine W.retV (fn := Try.f41) (vs := [.int .i64 (-1)]) Try.results41 ⟨.tmp rfl, trivial⟩ (fun _ _ h => h) (fun w hw => ?_)
    exact hR _ _ ⟨(), trivial, rfl, (hw.pickK 2 [0, 1] rfl)⟩

def slices_ContainsFunc_api_Step_api_Step (N : Nat) (s3 : (List Step)) (c5 : Int) : Option Bool :=
  bd (slices_IndexFunc_api_Step_api_Step N s3 c5) fun (r6 : Int) =>
  some (decide (0 ≤ r6))

theorem slices_ContainsFunc_api_Step_api_Step_ok {N : Nat} {s3 : (List Step)} {c5 : Int} {A1 : Option Addr} {c2 : Nat} {b4 : Nat} {res : Bool} (hF : slices_ContainsFunc_api_Step_api_Step N s3 c5 = some res) {w0 w : World} {T : List Chunk} (hw : St w0.heap.size w0 ([cR encStep 2 A1 c2 58 s3, cBx b4 3 [.int .i64 c5]] ++ T) w) :
    Calls Try.prog 38 (List.toArray [.slice A1 (s3).length c2, .func (.func 39) #[] #[.pointer (some ⟨b4, 0, none⟩)]]) w (fun e w' => ∃ g : Unit, (True) ∧ e = .returned (.bool res) ∧ St w0.heap.size w0 ([cR encStep 2 A1 c2 58 s3, cBx b4 3 [.int .i64 c5]] ++ T) w') := by
  refine W.enter (n := 9) Try.func38 rfl rfl Sub.refl (by simp) hw fun R hR => ?_
  unfold slices_ContainsFunc_api_Step_api_Step at hF
  -- region 0: slices.go:124
  refine W.seqR fun Q1 hQ1 => ?_
  refine WL.q (Y.assign (.pl rfl)) rfl ?_
  refine WL.next hQ1 (.cons (i := 0) rfl (.cons (i := 1) rfl (.nil))) ?_
  -- region 1: slices.go:125
  refine W.seqR fun Q2 hQ2 => ?_
  refine WL.q (Y.move (.pl rfl)) rfl ?_
  refine WL.q (Y.move (.pl rfl)) rfl ?_
  obtain ⟨r6, hr6, hF⟩ := bnd hF
  refine WL.step (WO.call (γ := Unit) (fun g => .int .i64 r6) (fun g => ([cR encStep 2 A1 c2 58 s3, cBx b4 3 [.int .i64 c5]] ++ T)) (fun _ => True) isGo41 (.cons (.pl rfl) (.cons (.pl rfl) (.nil))) rfl (fun w hw => slices_IndexFunc_api_Step_api_Step_ok (T := ([] ++ T)) (hr6) (hw.pickK 2 [0, 1] rfl) ) ?_)
  rintro _ -
  refine WL.q (Y.geq (.pl rfl) (.pl rfl)) rfl ?_
  refine WL.q (Y.assign (.pl rfl)) rfl ?_
  refine WL.next hQ2 (.cons (i := 4) rfl (.nil)) ?_
  obtain rfl := Option.some.inj hF
  refine W.retV (fn := Try.f38) (vs := [.bool (decide (0 ≤ r6))]) Try.results38 ⟨.tmp rfl, trivial⟩ (fun _ _ h => h) (fun w hw => ?_)
  exact hR _ _ ⟨(), trivial, rfl, (hw.pickK 2 [0, 1] rfl)⟩

def alibkeep_SearchNever_2 (N : Nat) (s1 : Step) (a3 : Int) : Option Unit :=
  some ()

theorem alibkeep_SearchNever_2_ok {N : Nat} {s1 : Step} {a3 : Int} {b2 : Nat} {res : Unit} (hF : alibkeep_SearchNever_2 N s1 a3 = some res) {w0 w : World} {T : List Chunk} (hw : St w0.heap.size w0 ([cBx b2 3 [.int .i64 a3]] ++ T) w) :
    Calls Try.prog 42 (List.toArray [.agg (encStep s1).toArray, .pointer (some ⟨b2, 0, none⟩)]) w (fun e w' => ∃ g : Unit, (True) ∧ e = .returned (.bool (decide (s1.call = a3))) ∧ St w0.heap.size w0 ([cBx b2 3 [.int .i64 a3]] ++ T) w') := by
  refine W.enter (n := 8) Try.func42 rfl rfl Sub.refl (by simp) hw fun R hR => ?_
  unfold alibkeep_SearchNever_2 at hF
  -- region 0: search.go:55
  refine W.seqR fun Q1 hQ1 => ?_
  refine WL.step (WO.boxA (.pl rfl) rfl fun b4 => ?_)
  refine WL.q (Y.assign (.pl rfl)) rfl ?_
  refine WL.next hQ1 (.cons (i := 1) rfl (.cons (i := 2) rfl (.nil))) ?_
  -- region 1: search.go:55
  refine W.seqR fun Q2 hQ2 => ?_
  refine WL.q (Y.fieldAddr0 (off := 0) (ft := 3) Try.underlying58 rfl cells3 (.pl rfl)) rfl ?_
  refine WL.q (Y.loadB (v := .int .i64 s1.call) Try.underlying3 rfl (.pl rfl) (i := 0) rfl (rfl)) rfl ?_
  refine WL.q (Y.loadB (v := .int .i64 a3) Try.underlying3 rfl (.pl rfl) (i := 1) rfl (rfl)) rfl ?_
  refine WL.q (Y.eql (.pl rfl) (.pl rfl)) rfl ?_
  refine WL.q (Y.assign (.pl rfl)) rfl ?_
  refine WL.next hQ2 (.cons (i := 3) rfl (.nil)) ?_
  obtain rfl := Option.some.inj hF
  refine W.retV (fn := Try.f42) (vs := [.bool (decide (s1.call = a3))]) Try.results42 ⟨.tmp rfl, trivial⟩ (fun _ _ h => h) (fun w hw => ?_)
  exact hR _ _ ⟨(), trivial, rfl, (hw.pickK 2 [1] rfl)⟩

def slices_IndexFunc_api_Step_api_Step_1_L3 (N : Nat) (s3 : (List Step)) (c5 : Int) : Int → Option (Int ⊕ (Unit ⊕ Int))
  | v6 =>
    cond (decide (v6 < ((s3).length : Int)))
      (bd (ix s3 v6) fun (x7 : Step) =>
      bd (alibkeep_SearchNever_2 N x7 c5) fun (r8 : Unit) =>
      cond (decide (x7.call = c5))
        (some (.inr (.inr v6)))
        (ck (ok64 (v6 + 1)) <|
        some (.inl (v6 + 1))))
      (some (.inr (.inl ())))

def slices_IndexFunc_api_Step_api_Step_1 (N : Nat) (s3 : (List Step)) (c5 : Int) : Option Int :=
  bd (α := (Unit ⊕ Int)) (iter (slices_IndexFunc_api_Step_api_Step_1_L3 N s3 c5) N 0) <|
  Sum.elim (fun _ => 
    some (-1)) (fun p => some p)

theorem slices_IndexFunc_api_Step_api_Step_1_ok {N : Nat} {s3 : (List Step)} {c5 : Int} {A1 : Option Addr} {c2 : Nat} {b4 : Nat} {res : Int} (hF : slices_IndexFunc_api_Step_api_Step_1 N s3 c5 = some res) {w0 w : World} {T : List Chunk} (hw : St w0.heap.size w0 ([cR encStep 2 A1 c2 58 s3, cBx b4 3 [.int .i64 c5]] ++ T) w) :
    Calls Try.prog 41 (List.toArray [.slice A1 (s3).length c2, .func (.func 42) #[] #[.pointer (some ⟨b4, 0, none⟩)]]) w (fun e w' => ∃ g : Unit, (True) ∧ e = .returned (.int .i64 res) ∧ St w0.heap.size w0 ([cR encStep 2 A1 c2 58 s3, cBx b4 3 [.int .i64 c5]] ++ T) w') := by
  refine W.enter (n := 19) Try.func41 rfl rfl Sub.refl (by simp) hw fun R hR => ?_
  unfold slices_IndexFunc_api_Step_api_Step_1 at hF
  -- region 0: slices.go:107
  refine W.seqR fun Q1 hQ1 => ?_
  refine WL.q (Y.assign (.pl rfl)) rfl ?_
  refine WL.next hQ1 (.cons (i := 0) rfl (.cons (i := 1) rfl (.nil))) ?_
  obtain ⟨o2, hF2, hF⟩ := bnd hF
  refine W.join0 (Em := []) (M := ([cR encStep 2 A1 c2 58 s3, cBx b4 3 [.int .i64 c5]] ++ T)) (I := (.inl ()) = o2) (.nil) (fun K3 hK3 => ?_) ?_
  · -- up to
    -- region 1: slices.go:108
    refine W.seqR fun Q4 hQ4 => ?_
    refine WL.q (Y.move (.pl rfl)) rfl ?_
    refine WL.q (Y.len Try.underlying44 (.pl rfl)) rfl ?_
    refine WL.q (Y.move (.pl rfl)) rfl ?_
    refine WL.next hQ4 (.cons (i := 0) rfl (.cons (i := 1) rfl (.cons (i := 7) rfl (.cons (i := 8) rfl (.nil))))) ?_
    refine W.block ?_
    refine W.loop1 (Em := fun (v6 : Int) => [(8, .int .i64 v6)]) (M := fun v6 => ([cR encStep 2 A1 c2 58 s3, cBx b4 3 [.int .i64 c5]] ++ T)) (I := fun v6 k5 => iter (slices_IndexFunc_api_Step_api_Step_1_L3 N s3 c5) k5 v6 = some o2) 0 N (hF2) (.cons rfl (.nil)) (.cons (i := 0) rfl (.cons (i := 1) rfl (.cons (i := 7) rfl (.nil)))) (fun w hw => hw.pickK 2 [0, 1] rfl) (fun v6 k5 hI K6 hK6 => ?_)
    obtain ⟨k5, t5, rfl, hF5, hN5⟩ := iter_step hI
    -- region 2: slices.go:108
    refine W.seqR fun Q7 hQ7 => ?_
    refine WL.q (Y.lss (.pl rfl) (.pl rfl)) rfl ?_
    refine WL.next hQ7 (.cons (i := 0) rfl (.cons (i := 1) rfl (.cons (i := 7) rfl (.cons (i := 8) rfl (.cons (i := 9) rfl (.nil)))))) ?_
    refine W.seq fun K8 hK8 => ?_
    refine W.cond (.pl rfl) (fun hC9 => ?_) (fun hC9 => ?_)
    · replace hF5 := cpos hC9 hF5
      refine W.skip ?_
      refine W.go hK8 (.cons (i := 0) rfl (.cons (i := 1) rfl (.cons (i := 7) rfl (.cons (i := 8) rfl (.nil))))) ?_
      refine W.seq fun K10 hK10 => ?_
      refine W.block ?_
      -- region 3: slices.go:108
      refine W.seqR fun Q11 hQ11 => ?_
      refine WL.q (Y.move (.pl rfl)) rfl ?_
      refine WL.q (Y.assign (.pl rfl)) rfl ?_
      refine WL.next hQ11 (.cons (i := 0) rfl (.cons (i := 1) rfl (.cons (i := 5) rfl (.cons (i := 7) rfl (.cons (i := 8) rfl (.nil)))))) ?_
      -- region 4: slices.go:109
      refine W.seqR fun Q12 hQ12 => ?_
      refine WL.q (Y.move (.pl rfl)) rfl ?_
      refine WL.q (Y.move (.pl rfl)) rfl ?_
      refine WL.q (Y.move (.pl rfl)) rfl ?_
      obtain ⟨x7, hx7, hF5⟩ := bnd hF5
      refine WL.q (Y.rowEl Try.underlying44 cells58 (i := 0) rfl (.pl rfl) rfl (.pl rfl) (ix_lt (hx7))) rfl ?_
      refine WL.q (Y.loadRA (enc := encStep) (ds := (encStep x7)) (a := x7) (idx := v6) (j := 0) Try.underlying58 rfl cells58 lenStep (i := 0) rfl (.pl rfl) (ix_get (hx7)) rfl rfl subW) rfl ?_
      obtain ⟨r8, hr8, hF5⟩ := bnd hF5
      refine WL.step (WO.callG (γ := Unit) (first := []) (cap := [.pointer (some ⟨b4, 0, none⟩)]) (fun g => .bool (decide (x7.call = c5))) (fun g => ([cBx b4 3 [.int .i64 c5], cR encStep 2 A1 c2 58 s3] ++ T)) (fun _ => True) isGo42 (.pl rfl) (.cons (.pl rfl) (.nil)) rfl (fun w hw => alibkeep_SearchNever_2_ok (T := ([cR encStep 2 A1 c2 58 s3] ++ T)) (hr8) (hw.pickK 2 [1, 0] rfl) ) ?_)
      rintro _ -
      refine WL.next hQ12 (.cons (i := 0) rfl (.cons (i := 1) rfl (.cons (i := 5) rfl (.cons (i := 7) rfl (.cons (i := 8) rfl (.cons (i := 16) rfl (.nil))))))) ?_
      refine W.cond (.pl rfl) (fun hC13 => ?_) (fun hC13 => ?_)
      · replace hF5 := cpos hC13 hF5
        -- region 5: slices.go:110
        refine W.seqR fun Q14 hQ14 => ?_
        refine WL.q (Y.move (.pl rfl)) rfl ?_
        refine WL.q (Y.assign (.pl rfl)) rfl ?_
        refine WL.next hQ14 (.cons (i := 4) rfl (.nil)) ?_
        obtain rfl := Option.some.inj hF5
        obtain rfl := einr hN5
        obtain rfl := Option.some.inj hF
        refine W.retV (fn := Try.f41) (vs := [.int .i64 v6]) Try.results41 ⟨.tmp rfl, trivial⟩ (fun _ _ h => h) (fun w hw => ?_)
        exact hR _ _ ⟨(), trivial, rfl, (hw.pickK 2 [1, 0] rfl)⟩
      · replace hF5 := cneg hC13 hF5
        refine W.skip ?_
        refine W.go hK10 (.cons (i := 0) rfl (.cons (i := 1) rfl (.cons (i := 7) rfl (.cons (i := 8) rfl (.nil))))) ?_
        -- region 6: slices.go:108
        refine W.reg ?_
        obtain ⟨hk9, hF5⟩ := ckh hF5
        refine WL.q (Y.add (.pl rfl) (.pl rfl) (ok64_lt (hk9))) rfl ?_
        refine WL.q (Y.move (.pl rfl)) rfl ?_
        refine WL.nil ?_
        obtain rfl := Option.some.inj hF5
        exact W.again1 hK6 (v6 + 1) k5 hN5 (Nat.lt_succ_self _) (.cons rfl (.nil)) (.cons (i := 0) rfl (.cons (i := 1) rfl (.cons (i := 7) rfl (.nil)))) (fun w hw => hw.pickK 2 [1, 0] rfl)
    · replace hF5 := cneg hC9 hF5
      refine W.exit ?_
      obtain rfl := Option.some.inj hF5
      exact W.joinAt0 hK3  (einr hN5) (.nil) (.nil) (fun w hw => hw.pickK 2 [0, 1] rfl)
  · -- behind
    rintro  rfl
    -- region 7: slices.go:113
    refine W.seqR fun Q16 hQ16 => ?_
    refine WL.q (Y.assign (.pl rfl)) rfl ?_
    refine WL.next hQ16 (.cons (i := 4) rfl (.nil)) ?_
    obtain rfl := Option.some.inj hF
    refine W.retV (fn := Try.f41) (vs := [.int .i64 (-1)]) Try.results41 ⟨.tmp rfl, trivial⟩ (fun _ _ h => h) (fun w hw => ?_)
    exact hR _ _ ⟨(), trivial, rfl, (hw.pickK 2 [0, 1] rfl)⟩

def alibkeep_SearchNever_L3 (N : Nat) (k11 : Int) (types1 : (List Int)) (l6 : (List Event)) (r16 : ((List Call) × Int × Int)) : ((List Step) × Int) → Option (((List Step) × Int) ⊕ (Unit ⊕ Bool))
  | (w42, n43) =>
    cond (decide (n43 ≤ 1000))
      (bd (slices_IndexFunc_api_Step_api_Step_1 N w42 k11) fun (r44 : Int) =>
      bd (ix w42 r44) fun (x45 : Step) =>
      bd (search_Right N types1 l6 (w42.set r44.toNat (Step.mk x45.call n43))) fun (r46 : (Bool × Int)) =>
      cond ((decide (r46.2 = 0)) && r46.1)
        (bd (α := (Bool × Int)) (bd (ix r16.1 k11) fun (x49 : Call) =>
          ck (limB 32 (l6).length) <|
          ck (limB 32 ((l6).length + (([(Event.mk x49.who x49.thing 0 n43)] : List Event)).length)) <|
          bd (search_Find N types1 (l6 ++ ([(Event.mk x49.who x49.thing 0 n43)] : List Event))) fun (r57 : ((List Step) × Bool × Int)) =>
          some (r57.2.1, r57.2.2)) <|
        fun (again47, h48) => 
          some (.inr (.inr ((decide (h48 = 0)) && again47))))
        (ck (ok64 (n43 + 1)) <|
        some (.inl ((w42.set r44.toNat (Step.mk x45.call n43)), (n43 + 1)))))
      (some (.inr (.inl ())))

def alibkeep_SearchNever (N : Nat) (types1 : (List Int)) (l6 : (List Event)) (k11 : Int) : Option Bool :=
  bd (search_Find N types1 l6) fun (r13 : ((List Step) × Bool × Int)) =>
  bd (history_Calls N types1 l6) fun (r16 : ((List Call) × Int × Int)) =>
  bd (α := Bool) (bd (alibkeep_searchLives N) fun (r20 : Bool) =>
    cond ((!r20) == false)
      (bd (alibkeep_ok N ([r13.2.2, r16.2.2] : List Int)) fun (r22 : Bool) =>
      bd ((cond ((((((!r20) || (!r22)) || (!r13.2.1)) || (decide (k11 < 0))) || (decide (((r16.1).length : Int) ≤ k11))) == false) (ix r16.1 k11) (some Call.z))) fun (x23 : Call) =>
      some (((((((!r20) || (!r22)) || (!r13.2.1)) || (decide (k11 < 0))) || (decide (((r16.1).length : Int) ≤ k11))) || (!(decide (x23.to_ = (-1))))) || (decide (200 ≤ ((l6).length : Int)))))
      (bd ((cond ((((((!r20) || false) || (!r13.2.1)) || (decide (k11 < 0))) || (decide (((r16.1).length : Int) ≤ k11))) == false) (ix r16.1 k11) (some Call.z))) fun (x24 : Call) =>
      some (((((((!r20) || false) || (!r13.2.1)) || (decide (k11 < 0))) || (decide (((r16.1).length : Int) ≤ k11))) || (!(decide (x24.to_ = (-1))))) || (decide (200 ≤ ((l6).length : Int)))))) <|
  fun (v19 : Bool) => 
    cond v19
      (bd (alibkeep_searchLives N) fun (r25 : Bool) =>
      some r25)
      (bd (α := (List Step)) (bd (slices_ContainsFunc_api_Step_api_Step N r13.1 k11) fun (r29 : Bool) =>
        cond (!r29)
          (ck (limB 16 (r13.1).length) <|
          ck (limB 16 ((r13.1).length + (([(Step.mk k11 0)] : List Step)).length)) <|
          some (r13.1 ++ ([(Step.mk k11 0)] : List Step)))
          (some r13.1)) <|
      fun (w28 : (List Step)) => 
        bd (α := (Unit ⊕ Bool)) (iter (alibkeep_SearchNever_L3 N k11 types1 l6 r16) N (w28, (-1))) <|
        Sum.elim (fun _ => 
          bd (ix r16.1 k11) fun (x68 : Call) =>
          some ((decide (x68.kind = 10)) && (decide (1000 < ((l6).length : Int))))) (fun p => some p))

theorem alibkeep_SearchNever_ok {N : Nat} {types1 : (List Int)} {l6 : (List Event)} {k11 : Int} {res : Bool} (hF : alibkeep_SearchNever N types1 l6 k11 = some res) (w : World) {v5 : Value} (hs4 : SlIn (eI .i64) 1 w v5 types1) {v10 : Value} (hs9 : SlIn encEvent 4 w v10 l6) :
    Pure Try.prog 10 [v5, v10, .int .i64 k11] w (.bool res) := by
  obtain ⟨A2, c3, rfl, hcc3, hs4⟩ := hs4.form
  obtain ⟨A7, c8, rfl, hcc8, hs9⟩ := hs9.form
  refine W.enter (n := 141) Try.func10 rfl rfl Sub.refl (by simp) (St.start w) fun R hR => ?_
  unfold alibkeep_SearchNever at hF
  -- region 0: search.go:44
  refine W.seqR fun Q1 hQ1 => ?_
  refine WL.step (WO.box1 (.pl rfl) rfl rfl fun b12 => ?_)
  refine WL.q (Y.assign (.pl rfl)) rfl ?_
  refine WL.next hQ1 (.cons (i := 0) rfl (.cons (i := 1) rfl (.cons (i := 5) rfl (.nil)))) ?_
  -- region 1: search.go:45
  refine W.seqR fun Q2 hQ2 => ?_
  refine WL.q (Y.move (.pl rfl)) rfl ?_
  refine WL.q (Y.move (.pl rfl)) rfl ?_
  obtain ⟨r13, hr13, hF⟩ := bnd hF
  refine WL.step (WO.callM isGo34 (.cons (.pl rfl) (.cons (.pl rfl) (.nil))) rfl (fun w hw => search_Find_ok (hr13) w (hs4.mono hw) (hs9.mono hw)) ?_)
  rintro ⟨A14, c15⟩ -
  refine WL.q (Y.move (.pl rfl)) rfl ?_
  refine WL.q (Y.extract (.pl rfl) rfl) rfl ?_
  refine WL.q (Y.extract (.pl rfl) rfl) rfl ?_
  refine WL.q (Y.extract (.pl rfl) rfl) rfl ?_
  refine WL.q (Y.assign (.pl rfl)) rfl ?_
  refine WL.q (Y.assign (.pl rfl)) rfl ?_
  refine WL.q (Y.assign (.pl rfl)) rfl ?_
  refine WL.next hQ2 (.cons (i := 0) rfl (.cons (i := 1) rfl (.cons (i := 5) rfl (.cons (i := 7) rfl (.cons (i := 8) rfl (.cons (i := 9) rfl (.nil))))))) ?_
  -- region 2: search.go:46
  refine W.seqR fun Q3 hQ3 => ?_
  refine WL.q (Y.move (.pl rfl)) rfl ?_
  refine WL.q (Y.move (.pl rfl)) rfl ?_
  obtain ⟨r16, hr16, hF⟩ := bnd hF
  refine WL.step (WO.callM isGo37 (.cons (.pl rfl) (.cons (.pl rfl) (.nil))) rfl (fun w hw => history_Calls_ok (hr16) w (hs4.mono hw) (hs9.mono hw)) ?_)
  rintro ⟨A17, c18⟩ -
  refine WL.q (Y.move (.pl rfl)) rfl ?_
  refine WL.q (Y.extract (.pl rfl) rfl) rfl ?_
  refine WL.q (Y.extract (.pl rfl) rfl) rfl ?_
  refine WL.q (Y.extract (.pl rfl) rfl) rfl ?_
  refine WL.q (Y.assign (.pl rfl)) rfl ?_
  refine WL.q (Y.assign (.pl rfl)) rfl ?_
  refine WL.q (Y.assign (.pl rfl)) rfl ?_
  refine WL.next hQ3 (.cons (i := 0) rfl (.cons (i := 1) rfl (.cons (i := 5) rfl (.cons (i := 7) rfl (.cons (i := 8) rfl (.cons (i := 9) rfl (.cons (i := 10) rfl (.cons (i := 12) rfl (.nil))))))))) ?_
  refine W.seq fun K4 hK4 => ?_
  obtain ⟨o5, hF5, hF⟩ := bnd hF
  refine W.join1 (Em := fun (v19 : Bool) => [(68, .bool v19)]) (M := fun v19 => [cBx b12 3 [.int .i64 k11], cR encStep 2 A14 c15 58 r13.1, cR encCall 7 A17 c18 55 r16.1]) (I := fun v19 => v19 = o5) (.cons (i := 0) rfl (.cons (i := 1) rfl (.cons (i := 5) rfl (.cons (i := 7) rfl (.cons (i := 10) rfl (.nil)))))) (fun K6 hK6 => ?_) ?_
  · -- up to
    -- region 3: search.go:47
    refine W.reg ?_
    obtain ⟨r20, hr20, hF5⟩ := bnd hF5
    refine WL.step (WO.callP isGo35 (.nil) rfl (fun w hw => alibkeep_searchLives_ok (hr20) w ) ?_)
    refine WL.q (Y.not (.pl rfl)) rfl ?_
    refine WL.q (Y.move (.pl rfl)) rfl ?_
    refine WL.g (.pl rfl rfl rfl) (fun hg => Y.move (.pl rfl)) rfl ?_
    refine WL.g (.pl rfl rfl rfl) (fun hg => Y.move (.pl rfl)) rfl ?_
    refine bsplit ((!r20) == false) (fun hg7 => ?_) (fun hg7 => ?_)
    · replace hF5 := cpos hg7 hF5
      refine WL.gd (.pl rfl rfl rfl) (hg7) ?_
      refine WL.step (WO.bsliceC (enc := (eI .i64)) (ys := ([r13.2.2, r16.2.2] : List Int)) Try.underlying88 bz29 (.cons (.gd (hg7) rfl) (.cons (.gd (hg7) rfl) (.nil))) rfl (fun _ => rfl) rfl rfl (by decide) (by decide) rfl fun b21 => ?_)
      refine WL.gd (.pl rfl rfl rfl) (hg7) ?_
      obtain ⟨r22, hr22, hF5⟩ := bnd hF5
      refine WL.step (WO.callP isGo28 (.cons (.pl rfl) (.nil)) rfl (fun w hw => alibkeep_ok_ok (hr22) w (SlIn.ofRow (fun _ => rfl) hw (i := 0) rfl)) ?_)
      refine WL.gd (.pl rfl rfl rfl) (hg7) ?_
      refine WL.q (Y.not (.pl rfl)) rfl ?_
      refine WL.q (Y.or (.pl rfl) (fun _ => .pl rfl)) rfl ?_
      refine WL.q (Y.move (.pl rfl)) rfl ?_
      refine WL.g (.pl rfl rfl rfl) (fun hg => Y.move (.pl rfl)) rfl ?_
      refine WL.g (.pl rfl rfl rfl) (fun hg => Y.not (.gd (hg) rfl)) rfl ?_
      refine WL.q (Y.or (.pl rfl) (fun h2 => .gd (eqf h2) rfl)) rfl ?_
      refine WL.q (Y.move (.pl rfl)) rfl ?_
      refine WL.g (.pl rfl rfl rfl) (fun hg => Y.loadB (v := .int .i64 k11) Try.underlying3 rfl (.pl rfl) (i := 3) rfl (rfl)) rfl ?_
      refine WL.g (.pl rfl rfl rfl) (fun hg => Y.lss (.gd (hg) rfl) (.pl rfl)) rfl ?_
      refine WL.q (Y.or (.pl rfl) (fun h2 => .gd (eqf h2) rfl)) rfl ?_
      refine WL.q (Y.move (.pl rfl)) rfl ?_
      refine WL.g (.pl rfl rfl rfl) (fun hg => Y.loadB (v := .int .i64 k11) Try.underlying3 rfl (.pl rfl) (i := 3) rfl (rfl)) rfl ?_
      refine WL.g (.pl rfl rfl rfl) (fun hg => Y.move (.pl rfl)) rfl ?_
      refine WL.g (.pl rfl rfl rfl) (fun hg => Y.len Try.underlying51 (.gd (hg) rfl)) rfl ?_
      refine WL.g (.pl rfl rfl rfl) (fun hg => Y.geq (.gd (hg) rfl) (.gd (hg) rfl)) rfl ?_
      refine WL.q (Y.or (.pl rfl) (fun h2 => .gd (eqf h2) rfl)) rfl ?_
      refine WL.q (Y.move (.pl rfl)) rfl ?_
      refine WL.g (.pl rfl rfl rfl) (fun hg => Y.move (.pl rfl)) rfl ?_
      refine WL.g (.pl rfl rfl rfl) (fun hg => Y.loadB (v := .int .i64 k11) Try.underlying3 rfl (.pl rfl) (i := 3) rfl (rfl)) rfl ?_
      obtain ⟨x23, hx23, hF5⟩ := bnd hF5
      refine WL.g (.pl rfl rfl rfl) (fun hg => Y.rowEl Try.underlying51 cells55 (i := 1) rfl (.gd (hg) rfl) rfl (.gd (hg) rfl) (ix_lt (gpos hg hx23))) rfl ?_
      refine WL.g (.pl rfl rfl rfl) (fun hg => Y.rowField (off := 6) (ft := 3) Try.underlying55 rfl cells3 (i' := 1) rfl (ix_lt (gpos hg hx23)) (.gd (hg) rfl)) rfl ?_
      refine WL.g (.pl rfl rfl rfl) (fun hg => Y.loadR (enc := encCall) (v := .int .i64 x23.to_) (a := x23) (idx := k11) (j := 6) Try.underlying3 rfl lenCall (i := 1) rfl (.gd (hg) rfl) (ix_get (gpos hg hx23)) rfl rfl) rfl ?_
      refine WL.g (.pl rfl rfl rfl) (fun hg => Y.neq (.gd (hg) rfl) (.pl rfl)) rfl ?_
      refine WL.q (Y.or (.pl rfl) (fun h2 => .gd (eqf h2) rfl)) rfl ?_
      refine WL.q (Y.move (.pl rfl)) rfl ?_
      refine WL.g (.pl rfl rfl rfl) (fun hg => Y.move (.pl rfl)) rfl ?_
      refine WL.g (.pl rfl rfl rfl) (fun hg => Y.len Try.underlying43 (.gd (hg) rfl)) rfl ?_
      refine WL.g (.pl rfl rfl rfl) (fun hg => Y.geq (.gd (hg) rfl) (.pl rfl)) rfl ?_
      refine WL.q (Y.or (.pl rfl) (fun h2 => .gd (eqf h2) rfl)) rfl ?_
      refine WL.nil ?_
      exact W.joinAt1 hK6 (((((((!r20) || (!r22)) || (!r13.2.1)) || (decide (k11 < 0))) || (decide (((r16.1).length : Int) ≤ k11))) || (!(decide (x23.to_ = (-1))))) || (decide (200 ≤ ((l6).length : Int)))) (Option.some.inj hF5) (.cons rfl (.nil)) (.cons (i := 0) rfl (.cons (i := 1) rfl (.cons (i := 5) rfl (.cons (i := 7) rfl (.cons (i := 10) rfl (.nil)))))) (fun w hw => hw.pick [3, 2, 1] rfl)
    · replace hF5 := cneg hg7 hF5
      refine WL.gn (.pl rfl rfl rfl) hg7 rfl ?_
      refine WL.gn (.pl rfl rfl rfl) hg7 rfl ?_
      refine WL.gn (.pl rfl rfl rfl) hg7 rfl ?_
      refine WL.q (Y.or (b := false) (.pl rfl) (fun h2 => (gabsO hg7 h2).elim)) rfl ?_
      refine WL.q (Y.move (.pl rfl)) rfl ?_
      refine WL.g (.pl rfl rfl rfl) (fun hg => Y.move (.pl rfl)) rfl ?_
      refine WL.g (.pl rfl rfl rfl) (fun hg => Y.not (.gd (hg) rfl)) rfl ?_
      refine WL.q (Y.or (.pl rfl) (fun h2 => .gd (eqf h2) rfl)) rfl ?_
      refine WL.q (Y.move (.pl rfl)) rfl ?_
      refine WL.g (.pl rfl rfl rfl) (fun hg => Y.loadB (v := .int .i64 k11) Try.underlying3 rfl (.pl rfl) (i := 2) rfl (rfl)) rfl ?_
      refine WL.g (.pl rfl rfl rfl) (fun hg => Y.lss (.gd (hg) rfl) (.pl rfl)) rfl ?_
      refine WL.q (Y.or (.pl rfl) (fun h2 => .gd (eqf h2) rfl)) rfl ?_
      refine WL.q (Y.move (.pl rfl)) rfl ?_
      refine WL.g (.pl rfl rfl rfl) (fun hg => Y.loadB (v := .int .i64 k11) Try.underlying3 rfl (.pl rfl) (i := 2) rfl (rfl)) rfl ?_
      refine WL.g (.pl rfl rfl rfl) (fun hg => Y.move (.pl rfl)) rfl ?_
      refine WL.g (.pl rfl rfl rfl) (fun hg => Y.len Try.underlying51 (.gd (hg) rfl)) rfl ?_
      refine WL.g (.pl rfl rfl rfl) (fun hg => Y.geq (.gd (hg) rfl) (.gd (hg) rfl)) rfl ?_
      refine WL.q (Y.or (.pl rfl) (fun h2 => .gd (eqf h2) rfl)) rfl ?_
      refine WL.q (Y.move (.pl rfl)) rfl ?_
      refine WL.g (.pl rfl rfl rfl) (fun hg => Y.move (.pl rfl)) rfl ?_
      refine WL.g (.pl rfl rfl rfl) (fun hg => Y.loadB (v := .int .i64 k11) Try.underlying3 rfl (.pl rfl) (i := 2) rfl (rfl)) rfl ?_
      obtain ⟨x24, hx24, hF5⟩ := bnd hF5
      refine WL.g (.pl rfl rfl rfl) (fun hg => Y.rowEl Try.underlying51 cells55 (i := 0) rfl (.gd (hg) rfl) rfl (.gd (hg) rfl) (ix_lt (gpos hg hx24))) rfl ?_
      refine WL.g (.pl rfl rfl rfl) (fun hg => Y.rowField (off := 6) (ft := 3) Try.underlying55 rfl cells3 (i' := 0) rfl (ix_lt (gpos hg hx24)) (.gd (hg) rfl)) rfl ?_
      refine WL.g (.pl rfl rfl rfl) (fun hg => Y.loadR (enc := encCall) (v := .int .i64 x24.to_) (a := x24) (idx := k11) (j := 6) Try.underlying3 rfl lenCall (i := 0) rfl (.gd (hg) rfl) (ix_get (gpos hg hx24)) rfl rfl) rfl ?_
      refine WL.g (.pl rfl rfl rfl) (fun hg => Y.neq (.gd (hg) rfl) (.pl rfl)) rfl ?_
      refine WL.q (Y.or (.pl rfl) (fun h2 => .gd (eqf h2) rfl)) rfl ?_
      refine WL.q (Y.move (.pl rfl)) rfl ?_
      refine WL.g (.pl rfl rfl rfl) (fun hg => Y.move (.pl rfl)) rfl ?_
      refine WL.g (.pl rfl rfl rfl) (fun hg => Y.len Try.underlying43 (.gd (hg) rfl)) rfl ?_
      refine WL.g (.pl rfl rfl rfl) (fun hg => Y.geq (.gd (hg) rfl) (.pl rfl)) rfl ?_
      refine WL.q (Y.or (.pl rfl) (fun h2 => .gd (eqf h2) rfl)) rfl ?_
      refine WL.nil ?_
      exact W.joinAt1 hK6 (((((((!r20) || false) || (!r13.2.1)) || (decide (k11 < 0))) || (decide (((r16.1).length : Int) ≤ k11))) || (!(decide (x24.to_ = (-1))))) || (decide (200 ≤ ((l6).length : Int)))) (Option.some.inj hF5) (.cons rfl (.nil)) (.cons (i := 0) rfl (.cons (i := 1) rfl (.cons (i := 5) rfl (.cons (i := 7) rfl (.cons (i := 10) rfl (.nil)))))) (fun w hw => hw.pick [2, 1, 0] rfl)
  · -- behind
    rintro v19 rfl
    refine W.cond (.pl rfl) (fun hC8 => ?_) (fun hC8 => ?_)
    · replace hF := cpos hC8 hF
      -- region 4: search.go:48
      refine W.seqR fun Q9 hQ9 => ?_
      obtain ⟨r25, hr25, hF⟩ := bnd hF
      refine WL.step (WO.callP isGo35 (.nil) rfl (fun w hw => alibkeep_searchLives_ok (hr25) w ) ?_)
      refine WL.q (Y.assign (.pl rfl)) rfl ?_
      refine WL.next hQ9 (.cons (i := 6) rfl (.nil)) ?_
      obtain rfl := Option.some.inj hF
      refine W.retV (fn := Try.f10) (vs := [.bool r25]) Try.results10 ⟨.tmp rfl, trivial⟩ (fun _ _ h => h) (fun w hw => ?_)
      exact hR _ _ ⟨rfl, (hw.pick [] rfl)⟩
    · replace hF := cneg hC8 hF
      refine W.skip ?_
      refine W.go hK4 (.cons (i := 0) rfl (.cons (i := 1) rfl (.cons (i := 5) rfl (.cons (i := 7) rfl (.cons (i := 10) rfl (.nil)))))) ?_
      obtain ⟨o10, hF10, hF⟩ := bnd hF
      refine W.join3 (Em := fun (w28 : (List Step)) (A26 : Option Addr) (c27 : Nat) => [(7, .slice A26 (w28).length c27)]) (M := fun w28 A26 c27 => [cBx b12 3 [.int .i64 k11], cR encStep 2 A26 c27 58 w28, cR encCall 7 A17 c18 55 r16.1]) (I := fun w28 A26 c27 => w28 = o10) (.cons (i := 0) rfl (.cons (i := 1) rfl (.cons (i := 5) rfl (.cons (i := 10) rfl (.nil))))) (fun K11 hK11 => ?_) ?_
      · -- up to
        -- region 5: search.go:51
        refine W.seqR fun Q12 hQ12 => ?_
        refine WL.q (Y.move (.pl rfl)) rfl ?_
        refine WL.q (Y.fnC (.cons (.pl rfl) (.nil))) rfl ?_
        obtain ⟨r29, hr29, hF10⟩ := bnd hF10
        refine WL.step (WO.call (γ := Unit) (fun g => .bool r29) (fun g => [cR encStep 2 A14 c15 58 r13.1, cBx b12 3 [.int .i64 k11], cR encCall 7 A17 c18 55 r16.1]) (fun _ => True) isGo38 (.cons (.pl rfl) (.cons (.pl rfl) (.nil))) rfl (fun w hw => slices_ContainsFunc_api_Step_api_Step_ok (T := [cR encCall 7 A17 c18 55 r16.1]) (hr29) (hw.pick [1, 0, 2] rfl) ) ?_)
        rintro _ -
        refine WL.q (Y.not (.pl rfl)) rfl ?_
        refine WL.next hQ12 (.cons (i := 0) rfl (.cons (i := 1) rfl (.cons (i := 5) rfl (.cons (i := 7) rfl (.cons (i := 10) rfl (.cons (i := 73) rfl (.nil))))))) ?_
        refine W.cond (.pl rfl) (fun hC13 => ?_) (fun hC13 => ?_)
        · replace hF10 := cpos hC13 hF10
          -- region 6: search.go:52
          refine W.regX 5 (by kernel_rfl) ?_
          refine WX.pure 0 #[true, false, false, false, false, false, false] rfl (by kernel_rfl) (fun _ _ => Y.move (.pl rfl)) rfl ?_
          refine WX.take 2 #[true, false, true, false, false, false, false] (fun w hw => St.tail [] hw) rfl (by kernel_rfl) (Y.loadB (v := .int .i64 k11) Try.underlying3 rfl (.pl rfl) (i := 1) rfl (rfl)) rfl ?_
          refine WX.pure 3 #[true, false, true, true, false, false, false] rfl (by kernel_rfl) (fun _ _ => Y.build (cs := (encStep (Step.mk k11 0)).toArray) shape58 (.cons (.pl rfl) (.nil)) (one_parts ⟨rfl, trivial⟩) rfl) rfl ?_
          obtain ⟨hk30, hF10⟩ := ckh hF10
          obtain ⟨hk36, hF10⟩ := ckh hF10
          refine WX.branch [1, 4] (fun w hw => St.tail [] hw) (by kernel_rfl) ⟨?_, ?_, trivial⟩
          · skip
            refine WXI.step #[true, true, true, true, false, false, false] rfl rfl (WO.callM isGo40 (.cons (.pl rfl) (.nil)) rfl (fun w hw => slices_Clone_api_Step_api_Step_ok (hk30) w (SlIn.ofRow lenStep hw (i := 0) rfl)) ?_)
            rintro ⟨A31, c32⟩ -
            refine WX.one 4 #[true, true, true, true, true, false, false] (fun w hw => St.tail [_] hw) rfl (by kernel_rfl) (WO.bsliceC (enc := encStep) (ys := ([(Step.mk k11 0)] : List Step)) Try.underlying44 bz58 (.cons (.pl rfl) (.nil)) rfl lenStep rfl rfl (by decide) (by decide) rfl fun b33 => ?_)
            refine WX.stop #[true, true, true, true, true, true, false] (fun w hw => St.tail [_, _] hw) rfl (by kernel_rfl) (WO.appendC (enc := encStep) Try.underlying44 ap58 lenStep oneStep (.pl rfl) rfl (.pl rfl) (i := 1) rfl (m2 := 0) rfl (hk36) rfl fun A34 c35 => ?_)
            refine WA.take 6 #[true, true, true, true, true, true, true] rfl (by kernel_rfl) (fun _ _ => Y.assign (.pl rfl)) rfl ?_
            refine WA.done (by kernel_rfl) ?_
            exact W.joinAt3 hK11 (r13.1 ++ ([(Step.mk k11 0)] : List Step)) A34 c35 (Option.some.inj hF10) (.cons rfl (.nil)) (.cons (i := 0) rfl (.cons (i := 1) rfl (.cons (i := 5) rfl (.cons (i := 10) rfl (.nil))))) (fun w hw => hw.pick [3, 1, 4] rfl)
          · skip
            refine WXI.step #[true, false, true, true, true, false, false] rfl rfl (WO.bsliceC (enc := encStep) (ys := ([(Step.mk k11 0)] : List Step)) Try.underlying44 bz58 (.cons (.pl rfl) (.nil)) rfl lenStep rfl rfl (by decide) (by decide) rfl fun b37 => ?_)
            refine WX.one 1 #[true, true, true, true, true, false, false] (fun w hw => St.tail [_] hw) rfl (by kernel_rfl) (WO.callM isGo40 (.cons (.pl rfl) (.nil)) rfl (fun w hw => slices_Clone_api_Step_api_Step_ok (hk30) w (SlIn.ofRow lenStep hw (i := 1) rfl)) ?_)
            rintro ⟨A38, c39⟩ -
            refine WX.stop #[true, true, true, true, true, true, false] (fun w hw => St.tail [_, _] hw) rfl (by kernel_rfl) (WO.appendC (enc := encStep) Try.underlying44 ap58 lenStep oneStep (.pl rfl) rfl (.pl rfl) (i := 0) rfl (m2 := 1) rfl (hk36) rfl fun A40 c41 => ?_)
            refine WA.take 6 #[true, true, true, true, true, true, true] rfl (by kernel_rfl) (fun _ _ => Y.assign (.pl rfl)) rfl ?_
            refine WA.done (by kernel_rfl) ?_
            exact W.joinAt3 hK11 (r13.1 ++ ([(Step.mk k11 0)] : List Step)) A40 c41 (Option.some.inj hF10) (.cons rfl (.nil)) (.cons (i := 0) rfl (.cons (i := 1) rfl (.cons (i := 5) rfl (.cons (i := 10) rfl (.nil))))) (fun w hw => hw.pick [3, 0, 4] rfl)
        · replace hF10 := cneg hC13 hF10
          refine W.skip ?_
          exact W.joinAt3 hK11 r13.1 A14 c15 (Option.some.inj hF10) (.cons rfl (.nil)) (.cons (i := 0) rfl (.cons (i := 1) rfl (.cons (i := 5) rfl (.cons (i := 10) rfl (.nil))))) (fun w hw => hw.pick [1, 0, 2] rfl)
      · -- behind
        rintro w28 A26 c27 rfl
        obtain ⟨o15, hF15, hF⟩ := bnd hF
        refine W.join0 (Em := []) (M := [cBx b12 3 [.int .i64 k11], cR encCall 7 A17 c18 55 r16.1]) (I := (.inl ()) = o15) (.cons (i := 1) rfl (.cons (i := 5) rfl (.cons (i := 10) rfl (.nil)))) (fun K16 hK16 => ?_) ?_
        · -- up to
          -- region 7: search.go:54
          refine W.seqR fun Q17 hQ17 => ?_
          refine WL.q (Y.assign (.pl rfl)) rfl ?_
          refine WL.next hQ17 (.cons (i := 0) rfl (.cons (i := 1) rfl (.cons (i := 5) rfl (.cons (i := 7) rfl (.cons (i := 10) rfl (.cons (i := 13) rfl (.nil))))))) ?_
          refine W.block ?_
          refine W.loop2 (Em := fun (w42 : (List Step)) (n43 : Int) => [(7, .slice A26 (w42).length c27), (13, .int .i64 n43)]) (M := fun w42 n43 => [cBx b12 3 [.int .i64 k11], cR encStep 2 A26 c27 58 w42, cR encCall 7 A17 c18 55 r16.1]) (I := fun w42 n43 k18 => iter (alibkeep_SearchNever_L3 N k11 types1 l6 r16) k18 (w42, n43) = some o15) w28 (-1) N (hF15) (.cons rfl (.cons rfl (.nil))) (.cons (i := 0) rfl (.cons (i := 1) rfl (.cons (i := 5) rfl (.cons (i := 10) rfl (.nil))))) (fun w hw => hw.pick [0, 1, 2] rfl) (fun w42 n43 k18 hI K19 hK19 => ?_)
          obtain ⟨k18, t18, rfl, hF18, hN18⟩ := iter_step hI
          refine W.seq fun K20 hK20 => ?_
          -- region 8: search.go:54
          refine W.seqR fun Q21 hQ21 => ?_
          refine WL.q (Y.move (.pl rfl)) rfl ?_
          refine WL.q (Y.leq (.pl rfl) (.pl rfl)) rfl ?_
          refine WL.next hQ21 (.cons (i := 0) rfl (.cons (i := 1) rfl (.cons (i := 5) rfl (.cons (i := 7) rfl (.cons (i := 10) rfl (.cons (i := 13) rfl (.cons (i := 81) rfl (.nil)))))))) ?_
          refine W.cond (.pl rfl) (fun hC22 => ?_) (fun hC22 => ?_)
          · replace hF18 := cpos hC22 hF18
            refine W.skip ?_
            refine W.go hK20 (.cons (i := 0) rfl (.cons (i := 1) rfl (.cons (i := 5) rfl (.cons (i := 7) rfl (.cons (i := 10) rfl (.cons (i := 13) rfl (.nil))))))) ?_
            refine W.seq fun K23 hK23 => ?_
            refine W.block ?_
            -- region 10: search.go:55
            refine W.seqR fun Q24 hQ24 => ?_
            refine WL.q (Y.move (.pl rfl)) rfl ?_
            refine WL.q (Y.move (.pl rfl)) rfl ?_
            refine WL.q (Y.fnC (.cons (.pl rfl) (.nil))) rfl ?_
            obtain ⟨r44, hr44, hF18⟩ := bnd hF18
            refine WL.step (WO.call (γ := Unit) (fun g => .int .i64 r44) (fun g => [cR encStep 2 A26 c27 58 w42, cBx b12 3 [.int .i64 k11], cR encCall 7 A17 c18 55 r16.1]) (fun _ => True) isGo41 (.cons (.pl rfl) (.cons (.pl rfl) (.nil))) rfl (fun w hw => slices_IndexFunc_api_Step_api_Step_1_ok (T := [cR encCall 7 A17 c18 55 r16.1]) (hr44) (hw.pick [1, 0, 2] rfl) ) ?_)
            rintro _ -
            refine WL.q (Y.move (.pl rfl)) rfl ?_
            obtain ⟨x45, hx45, hF18⟩ := bnd hF18
            refine WL.q (Y.rowEl Try.underlying44 cells58 (i := 0) rfl (.pl rfl) rfl (.pl rfl) (ix_lt (hx45))) rfl ?_
            refine WL.q (Y.rowField (off := 1) (ft := 3) Try.underlying58 rfl cells3 (i' := 0) rfl (ix_lt (hx45)) (.pl rfl)) rfl ?_
            refine WL.step (WO.storeS (enc := encStep) (a := x45) (a' := (Step.mk x45.call n43)) (idx := r44) (j := 1) cells3 (.pl rfl) (.pl rfl) rfl lenStep (i := 0) rfl (ix_get (hx45)) rfl (by decide) rfl ?_)
            refine WL.next hQ24 (.cons (i := 0) rfl (.cons (i := 1) rfl (.cons (i := 5) rfl (.cons (i := 7) rfl (.cons (i := 10) rfl (.cons (i := 13) rfl (.nil))))))) ?_
            -- region 11: search.go:56
            refine W.seqR fun Q25 hQ25 => ?_
            refine WL.q (Y.move (.pl rfl)) rfl ?_
            refine WL.q (Y.move (.pl rfl)) rfl ?_
            refine WL.q (Y.move (.pl rfl)) rfl ?_
            obtain ⟨r46, hr46, hF18⟩ := bnd hF18
            refine WL.step (WO.callP isGo43 (.cons (.pl rfl) (.cons (.pl rfl) (.cons (.pl rfl) (.nil)))) rfl (fun w hw => search_Right_ok (hr46) w (hs4.mono hw) (hs9.mono hw) (SlIn.ofRow lenStep hw (i := 0) rfl (by simp))) ?_)
            refine WL.q (Y.move (.pl rfl)) rfl ?_
            refine WL.q (Y.extract (.pl rfl) rfl) rfl ?_
            refine WL.q (Y.extract (.pl rfl) rfl) rfl ?_
            refine WL.q (Y.assign (.pl rfl)) rfl ?_
            refine WL.q (Y.assign (.pl rfl)) rfl ?_
            refine WL.next hQ25 (.cons (i := 0) rfl (.cons (i := 1) rfl (.cons (i := 5) rfl (.cons (i := 7) rfl (.cons (i := 10) rfl (.cons (i := 13) rfl (.cons (i := 14) rfl (.cons (i := 15) rfl (.nil))))))))) ?_
            -- region 12: search.go:56
            refine W.seqR fun Q26 hQ26 => ?_
            refine WL.q (Y.move (.pl rfl)) rfl ?_
            refine WL.q (Y.eql (.pl rfl) (.pl rfl)) rfl ?_
            refine WL.q (Y.move (.pl rfl)) rfl ?_
            refine WL.g (.pl rfl rfl rfl) (fun hg => Y.move (.pl rfl)) rfl ?_
            refine WL.q (Y.and (.pl rfl) (fun h2 => .gd (eqt h2) rfl)) rfl ?_
            refine WL.next hQ26 (.cons (i := 0) rfl (.cons (i := 1) rfl (.cons (i := 5) rfl (.cons (i := 7) rfl (.cons (i := 10) rfl (.cons (i := 13) rfl (.cons (i := 102) rfl (.nil)))))))) ?_
            refine W.cond (.pl rfl) (fun hC27 => ?_) (fun hC27 => ?_)
            · replace hF18 := cpos hC27 hF18
              obtain ⟨o28, hF28, hF18⟩ := bnd hF18
              refine W.join2 (Em := fun (again47 : Bool) (h48 : Int) => [(17, .bool again47), (18, .int .i64 h48)]) (M := fun again47 h48 => []) (I := fun again47 h48 => (again47, h48) = o28) (.nil) (fun K29 hK29 => ?_) ?_
              · -- up to
                -- region 13: search.go:57
                refine W.regX 16 (by kernel_rfl) ?_
                refine WX.pure 0 #[true, false, false, false, false, false, false, false, false, false, false, false, false, false, false, false, false, false, false, false, false, false, false, false, false] rfl (by kernel_rfl) (fun _ _ => Y.move (.pl rfl)) rfl ?_
                refine WX.pure 1 #[true, true, false, false, false, false, false, false, false, false, false, false, false, false, false, false, false, false, false, false, false, false, false, false, false] rfl (by kernel_rfl) (fun _ _ => Y.move (.pl rfl)) rfl ?_
                refine WX.pure 3 #[true, true, false, true, false, false, false, false, false, false, false, false, false, false, false, false, false, false, false, false, false, false, false, false, false] rfl (by kernel_rfl) (fun _ _ => Y.move (.pl rfl)) rfl ?_
                refine WX.take 4 #[true, true, false, true, true, false, false, false, false, false, false, false, false, false, false, false, false, false, false, false, false, false, false, false, false] (fun w hw => St.tail [] hw) rfl (by kernel_rfl) (Y.loadB (v := .int .i64 k11) Try.underlying3 rfl (.pl rfl) (i := 1) rfl (rfl)) rfl ?_
                obtain ⟨x49, hx49, hF28⟩ := bnd hF28
                refine WX.take 5 #[true, true, false, true, true, true, false, false, false, false, false, false, false, false, false, false, false, false, false, false, false, false, false, false, false] (fun w hw => St.tail [] hw) rfl (by kernel_rfl) (Y.rowEl Try.underlying51 cells55 (i := 2) rfl (.pl rfl) rfl (.pl rfl) (ix_lt (hx49))) rfl ?_
                refine WX.take 6 #[true, true, false, true, true, true, true, false, false, false, false, false, false, false, false, false, false, false, false, false, false, false, false, false, false] (fun w hw => St.tail [] hw) rfl (by kernel_rfl) (Y.rowField (off := 0) (ft := 3) Try.underlying55 rfl cells3 (i' := 2) rfl (ix_lt (hx49)) (.pl rfl)) rfl ?_
                refine WX.take 7 #[true, true, false, true, true, true, true, true, false, false, false, false, false, false, false, false, false, false, false, false, false, false, false, false, false] (fun w hw => St.tail [] hw) rfl (by kernel_rfl) (Y.loadR (enc := encCall) (v := .int .i64 x49.who) (a := x49) (idx := k11) (j := 0) Try.underlying3 rfl lenCall (i := 2) rfl (.pl rfl) (ix_get (hx49)) rfl rfl) rfl ?_
                refine WX.pure 8 #[true, true, false, true, true, true, true, true, true, false, false, false, false, false, false, false, false, false, false, false, false, false, false, false, false] rfl (by kernel_rfl) (fun _ _ => Y.move (.pl rfl)) rfl ?_
                refine WX.take 9 #[true, true, false, true, true, true, true, true, true, true, false, false, false, false, false, false, false, false, false, false, false, false, false, false, false] (fun w hw => St.tail [] hw) rfl (by kernel_rfl) (Y.loadB (v := .int .i64 k11) Try.underlying3 rfl (.pl rfl) (i := 1) rfl (rfl)) rfl ?_
                refine WX.take 10 #[true, true, false, true, true, true, true, true, true, true, true, false, false, false, false, false, false, false, false, false, false, false, false, false, false] (fun w hw => St.tail [] hw) rfl (by kernel_rfl) (Y.rowEl Try.underlying51 cells55 (i := 2) rfl (.pl rfl) rfl (.pl rfl) (ix_lt (hx49))) rfl ?_
                refine WX.take 11 #[true, true, false, true, true, true, true, true, true, true, true, true, false, false, false, false, false, false, false, false, false, false, false, false, false] (fun w hw => St.tail [] hw) rfl (by kernel_rfl) (Y.rowField (off := 1) (ft := 3) Try.underlying55 rfl cells3 (i' := 2) rfl (ix_lt (hx49)) (.pl rfl)) rfl ?_
                refine WX.take 12 #[true, true, false, true, true, true, true, true, true, true, true, true, true, false, false, false, false, false, false, false, false, false, false, false, false] (fun w hw => St.tail [] hw) rfl (by kernel_rfl) (Y.loadR (enc := encCall) (v := .int .i64 x49.thing) (a := x49) (idx := k11) (j := 1) Try.underlying3 rfl lenCall (i := 2) rfl (.pl rfl) (ix_get (hx49)) rfl rfl) rfl ?_
                refine WX.pure 13 #[true, true, false, true, true, true, true, true, true, true, true, true, true, true, false, false, false, false, false, false, false, false, false, false, false] rfl (by kernel_rfl) (fun _ _ => Y.move (.pl rfl)) rfl ?_
                refine WX.pure 14 #[true, true, false, true, true, true, true, true, true, true, true, true, true, true, true, false, false, false, false, false, false, false, false, false, false] rfl (by kernel_rfl) (fun _ _ => Y.build (cs := (encEvent (Event.mk x49.who x49.thing 0 n43)).toArray) shape49 (.cons (.pl rfl) (.cons (.pl rfl) (.cons (.pl rfl) (.nil)))) (one_parts ⟨rfl, ⟨rfl, ⟨rfl, trivial⟩⟩⟩) rfl) rfl ?_
                obtain ⟨hk50, hF28⟩ := ckh hF28
                obtain ⟨hk56, hF28⟩ := ckh hF28
                obtain ⟨r57, hr57, hF28⟩ := bnd hF28
                refine WX.branch [2, 15] (fun w hw => St.tail [] hw) (by kernel_rfl) ⟨?_, ?_, trivial⟩
                · skip
                  refine WXI.step #[true, true, true, true, true, true, true, true, true, true, true, true, true, true, true, false, false, false, false, false, false, false, false, false, false] rfl rfl (WO.callM isGo36 (.cons (.pl rfl) (.nil)) rfl (fun w hw => slices_Clone_api_Event_api_Event_ok (hk50) w (hs9.mono hw)) ?_)
                  rintro ⟨A51, c52⟩ -
                  refine WX.one 15 #[true, true, true, true, true, true, true, true, true, true, true, true, true, true, true, true, false, false, false, false, false, false, false, false, false] (fun w hw => St.tail [_] hw) rfl (by kernel_rfl) (WO.bsliceC (enc := encEvent) (ys := ([(Event.mk x49.who x49.thing 0 n43)] : List Event)) Try.underlying43 bz49 (.cons (.pl rfl) (.nil)) rfl lenEvent rfl rfl (by decide) (by decide) rfl fun b53 => ?_)
                  refine WX.stop #[true, true, true, true, true, true, true, true, true, true, true, true, true, true, true, true, true, false, false, false, false, false, false, false, false] (fun w hw => St.tail [_, _] hw) rfl (by kernel_rfl) (WO.appendC (enc := encEvent) Try.underlying43 ap49 lenEvent oneEvent (.pl rfl) rfl (.pl rfl) (i := 1) rfl (m2 := 0) rfl (hk56) rfl fun A54 c55 => ?_)
                  refine WA.branch [17] (by kernel_rfl) ⟨?_, trivial⟩
                  refine WI.step #[true, true, true, true, true, true, true, true, true, true, true, true, true, true, true, true, true, true, false, false, false, false, false, false, false] rfl rfl (WO.callM isGo34 (.cons (.pl rfl) (.cons (.pl rfl) (.nil))) rfl (fun w hw => search_Find_ok (hr57) w (hs4.mono hw) (SlIn.ofRow lenEvent hw (i := 1) rfl)) ?_)
                  rintro ⟨A58, c59⟩ -
                  refine WA.take 18 #[true, true, true, true, true, true, true, true, true, true, true, true, true, true, true, true, true, true, true, false, false, false, false, false, false] rfl (by kernel_rfl) (fun _ _ => Y.move (.pl rfl)) rfl ?_
                  refine WA.take 19 #[true, true, true, true, true, true, true, true, true, true, true, true, true, true, true, true, true, true, true, true, false, false, false, false, false] rfl (by kernel_rfl) (fun _ _ => Y.extract (.pl rfl) rfl) rfl ?_
                  refine WA.take 20 #[true, true, true, true, true, true, true, true, true, true, true, true, true, true, true, true, true, true, true, true, true, false, false, false, false] rfl (by kernel_rfl) (fun _ _ => Y.extract (.pl rfl) rfl) rfl ?_
                  refine WA.take 21 #[true, true, true, true, true, true, true, true, true, true, true, true, true, true, true, true, true, true, true, true, true, true, false, false, false] rfl (by kernel_rfl) (fun _ _ => Y.extract (.pl rfl) rfl) rfl ?_
                  refine WA.take 22 #[true, true, true, true, true, true, true, true, true, true, true, true, true, true, true, true, true, true, true, true, true, true, true, false, false] rfl (by kernel_rfl) (fun _ _ => Y.assign (.pl rfl)) rfl ?_
                  refine WA.take 23 #[true, true, true, true, true, true, true, true, true, true, true, true, true, true, true, true, true, true, true, true, true, true, true, true, false] rfl (by kernel_rfl) (fun _ _ => Y.assign (.pl rfl)) rfl ?_
                  refine WA.take 24 #[true, true, true, true, true, true, true, true, true, true, true, true, true, true, true, true, true, true, true, true, true, true, true, true, true] rfl (by kernel_rfl) (fun _ _ => Y.assign (.pl rfl)) rfl ?_
                  refine WA.done (by kernel_rfl) ?_
                  exact W.joinAt2 hK29 r57.2.1 r57.2.2 (Option.some.inj hF28) (.cons rfl (.cons rfl (.nil))) (.nil) (fun w hw => hw.pick [] rfl)
                · skip
                  refine WXI.step #[true, true, false, true, true, true, true, true, true, true, true, true, true, true, true, true, false, false, false, false, false, false, false, false, false] rfl rfl (WO.bsliceC (enc := encEvent) (ys := ([(Event.mk x49.who x49.thing 0 n43)] : List Event)) Try.underlying43 bz49 (.cons (.pl rfl) (.nil)) rfl lenEvent rfl rfl (by decide) (by decide) rfl fun b60 => ?_)
                  refine WX.one 2 #[true, true, true, true, true, true, true, true, true, true, true, true, true, true, true, true, false, false, false, false, false, false, false, false, false] (fun w hw => St.tail [_] hw) rfl (by kernel_rfl) (WO.callM isGo36 (.cons (.pl rfl) (.nil)) rfl (fun w hw => slices_Clone_api_Event_api_Event_ok (hk50) w (hs9.mono hw)) ?_)
                  rintro ⟨A61, c62⟩ -
                  refine WX.stop #[true, true, true, true, true, true, true, true, true, true, true, true, true, true, true, true, true, false, false, false, false, false, false, false, false] (fun w hw => St.tail [_, _] hw) rfl (by kernel_rfl) (WO.appendC (enc := encEvent) Try.underlying43 ap49 lenEvent oneEvent (.pl rfl) rfl (.pl rfl) (i := 0) rfl (m2 := 1) rfl (hk56) rfl fun A63 c64 => ?_)
                  refine WA.branch [17] (by kernel_rfl) ⟨?_, trivial⟩
                  refine WI.step #[true, true, true, true, true, true, true, true, true, true, true, true, true, true, true, true, true, true, false, false, false, false, false, false, false] rfl rfl (WO.callM isGo34 (.cons (.pl rfl) (.cons (.pl rfl) (.nil))) rfl (fun w hw => search_Find_ok (hr57) w (hs4.mono hw) (SlIn.ofRow lenEvent hw (i := 0) rfl)) ?_)
                  rintro ⟨A65, c66⟩ -
                  refine WA.take 18 #[true, true, true, true, true, true, true, true, true, true, true, true, true, true, true, true, true, true, true, false, false, false, false, false, false] rfl (by kernel_rfl) (fun _ _ => Y.move (.pl rfl)) rfl ?_
                  refine WA.take 19 #[true, true, true, true, true, true, true, true, true, true, true, true, true, true, true, true, true, true, true, true, false, false, false, false, false] rfl (by kernel_rfl) (fun _ _ => Y.extract (.pl rfl) rfl) rfl ?_
                  refine WA.take 20 #[true, true, true, true, true, true, true, true, true, true, true, true, true, true, true, true, true, true, true, true, true, false, false, false, false] rfl (by kernel_rfl) (fun _ _ => Y.extract (.pl rfl) rfl) rfl ?_
                  refine WA.take 21 #[true, true, true, true, true, true, true, true, true, true, true, true, true, true, true, true, true, true, true, true, true, true, false, false, false] rfl (by kernel_rfl) (fun _ _ => Y.extract (.pl rfl) rfl) rfl ?_
                  refine WA.take 22 #[true, true, true, true, true, true, true, true, true, true, true, true, true, true, true, true, true, true, true, true, true, true, true, false, false] rfl (by kernel_rfl) (fun _ _ => Y.assign (.pl rfl)) rfl ?_
                  refine WA.take 23 #[true, true, true, true, true, true, true, true, true, true, true, true, true, true, true, true, true, true, true, true, true, true, true, true, false] rfl (by kernel_rfl) (fun _ _ => Y.assign (.pl rfl)) rfl ?_
                  refine WA.take 24 #[true, true, true, true, true, true, true, true, true, true, true, true, true, true, true, true, true, true, true, true, true, true, true, true, true] rfl (by kernel_rfl) (fun _ _ => Y.assign (.pl rfl)) rfl ?_
                  refine WA.done (by kernel_rfl) ?_
                  exact W.joinAt2 hK29 r57.2.1 r57.2.2 (Option.some.inj hF28) (.cons rfl (.cons rfl (.nil))) (.nil) (fun w hw => hw.pick [] rfl)
              · -- behind
                rintro again47 h48 rfl
                -- region 14: search.go:58
                refine W.seqR fun Q31 hQ31 => ?_
                refine WL.q (Y.move (.pl rfl)) rfl ?_
                refine WL.q (Y.eql (.pl rfl) (.pl rfl)) rfl ?_
                refine WL.q (Y.move (.pl rfl)) rfl ?_
                refine WL.g (.pl rfl rfl rfl) (fun hg => Y.move (.pl rfl)) rfl ?_
                refine WL.q (Y.and (.pl rfl) (fun h2 => .gd (eqt h2) rfl)) rfl ?_
                refine WL.q (Y.assign (.pl rfl)) rfl ?_
                refine WL.next hQ31 (.cons (i := 6) rfl (.nil)) ?_
                obtain rfl := Option.some.inj hF18
                obtain rfl := einr hN18
                obtain rfl := Option.some.inj hF
                refine W.retV (fn := Try.f10) (vs := [.bool ((decide (h48 = 0)) && again47)]) Try.results10 ⟨.tmp rfl, trivial⟩ (fun _ _ h => h) (fun w hw => ?_)
                exact hR _ _ ⟨rfl, (hw.pick [] rfl)⟩
            · replace hF18 := cneg hC27 hF18
              refine W.skip ?_
              refine W.go hK23 (.cons (i := 0) rfl (.cons (i := 1) rfl (.cons (i := 5) rfl (.cons (i := 7) rfl (.cons (i := 10) rfl (.cons (i := 13) rfl (.nil))))))) ?_
              -- region 9: search.go:54
              refine W.reg ?_
              refine WL.q (Y.move (.pl rfl)) rfl ?_
              obtain ⟨hk67, hF18⟩ := ckh hF18
              refine WL.q (Y.add (.pl rfl) (.pl rfl) (ok64_lt (hk67))) rfl ?_
              refine WL.q (Y.assign (.pl rfl)) rfl ?_
              refine WL.nil ?_
              obtain rfl := Option.some.inj hF18
              exact W.again2 hK19 (w42.set r44.toNat (Step.mk x45.call n43)) (n43 + 1) k18 hN18 (Nat.lt_succ_self _) (.cons (eqSl (by simp)) (.cons rfl (.nil))) (.cons (i := 0) rfl (.cons (i := 1) rfl (.cons (i := 5) rfl (.cons (i := 10) rfl (.nil))))) (fun w hw => hw.pick [1, 0, 2] rfl)
          · replace hF18 := cneg hC22 hF18
            refine W.exit ?_
            obtain rfl := Option.some.inj hF18
            exact W.joinAt0 hK16  (einr hN18) (.nil) (.cons (i := 1) rfl (.cons (i := 5) rfl (.cons (i := 10) rfl (.nil)))) (fun w hw => hw.pick [0, 2] rfl)
        · -- behind
          rintro  rfl
          -- region 15: search.go:61
          refine W.seqR fun Q33 hQ33 => ?_
          refine WL.q (Y.move (.pl rfl)) rfl ?_
          refine WL.q (Y.loadB (v := .int .i64 k11) Try.underlying3 rfl (.pl rfl) (i := 0) rfl (rfl)) rfl ?_
          obtain ⟨x68, hx68, hF⟩ := bnd hF
          refine WL.q (Y.rowEl Try.underlying51 cells55 (i := 1) rfl (.pl rfl) rfl (.pl rfl) (ix_lt (hx68))) rfl ?_
          refine WL.q (Y.rowField (off := 2) (ft := 3) Try.underlying55 rfl cells3 (i' := 1) rfl (ix_lt (hx68)) (.pl rfl)) rfl ?_
          refine WL.q (Y.loadR (enc := encCall) (v := .int .i64 x68.kind) (a := x68) (idx := k11) (j := 2) Try.underlying3 rfl lenCall (i := 1) rfl (.pl rfl) (ix_get (hx68)) rfl rfl) rfl ?_
          refine WL.q (Y.eql (.pl rfl) (.pl rfl)) rfl ?_
          refine WL.q (Y.move (.pl rfl)) rfl ?_
          refine WL.g (.pl rfl rfl rfl) (fun hg => Y.move (.pl rfl)) rfl ?_
          refine WL.g (.pl rfl rfl rfl) (fun hg => Y.len Try.underlying43 (.gd (hg) rfl)) rfl ?_
          refine WL.g (.pl rfl rfl rfl) (fun hg => Y.gtr (.gd (hg) rfl) (.pl rfl)) rfl ?_
          refine WL.q (Y.and (.pl rfl) (fun h2 => .gd (eqt h2) rfl)) rfl ?_
          refine WL.q (Y.assign (.pl rfl)) rfl ?_
          refine WL.next hQ33 (.cons (i := 6) rfl (.nil)) ?_
          obtain rfl := Option.some.inj hF
          refine W.retV (fn := Try.f10) (vs := [.bool ((decide (x68.kind = 10)) && (decide (1000 < ((l6).length : Int))))]) Try.results10 ⟨.tmp rfl, trivial⟩ (fun _ _ h => h) (fun w hw => ?_)
          exact hR _ _ ⟨rfl, (hw.pick [] rfl)⟩

end Go.Proofs.Ytpakplmpihhmbaa
