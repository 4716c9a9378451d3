/- The laws of bags: what their code computes, and the walks. -/
import Derived.Test.YtolneilkgjglkaaB1
set_option linter.unusedVariables false
set_option linter.unusedSimpArgs false
set_option linter.unusedSectionVars false
set_option maxRecDepth 100000
namespace Go.Proofs.Ytolneilkgjglkaa
open Go.RowKit
theorem cells24 : Try.prog.cellsOf 24 = 0 + 1 := by kernel_rfl
theorem isGo22 : IsGo Try.prog 22 := ⟨_, Try.func22, by kernel_rfl, rfl⟩
theorem isGo28 : IsGo Try.prog 28 := ⟨_, Try.func28, by kernel_rfl, rfl⟩
theorem isGo35 : IsGo Try.prog 35 := ⟨_, Try.func35, by kernel_rfl, rfl⟩
theorem isGo37 : IsGo Try.prog 37 := ⟨_, Try.func37, by kernel_rfl, rfl⟩
theorem isGo39 : IsGo Try.prog 39 := ⟨_, Try.func39, by kernel_rfl, rfl⟩
theorem isGo40 : IsGo Try.prog 40 := ⟨_, Try.func40, by kernel_rfl, rfl⟩
theorem isGo41 : IsGo Try.prog 41 := ⟨_, Try.func41, by kernel_rfl, rfl⟩
theorem isGo42 : IsGo Try.prog 42 := ⟨_, Try.func42, by kernel_rfl, rfl⟩
theorem isGo71 : IsGo Try.prog 71 := ⟨_, Try.func71, by kernel_rfl, rfl⟩
theorem bz24 : ∃ i, Try.prog.info? 24 = some i ∧ i.zero = some (Value.int .i64 0) ∧ i.size = 1 := ⟨_, rfl, by kernel_rfl, by kernel_rfl⟩
theorem bz126 : ∃ i, Try.prog.info? 126 = some i ∧ i.zero = some (Value.agg #[(Value.int .i64 0), (Value.int .i64 0), (Value.int .i64 0)]) ∧ i.size = 3 := ⟨_, rfl, by kernel_rfl, by kernel_rfl⟩
theorem eqs39 : EqShape Try.prog 39 [true, true, true, true] := ⟨_, Try.underlying39, by kernel_rfl, by kernel_rfl, by kernel_rfl⟩
theorem shape39 : Shape Try.prog 39 [(0, 1), (1, 1), (2, 1), (3, 1)] #[(Value.int .i64 0), (Value.int .i64 0), (Value.int .i64 0), (Value.int .i64 0)] := ⟨_, _, Value.agg #[(Value.int .i64 0), (Value.int .i64 0), (Value.int .i64 0), (Value.int .i64 0)], Try.underlying39, rfl, by kernel_rfl, rfl, by kernel_rfl, by decide⟩
theorem shape126 : Shape Try.prog 126 [(0, 1), (1, 1), (2, 1)] #[(Value.int .i64 0), (Value.int .i64 0), (Value.int .i64 0)] := ⟨_, _, Value.agg #[(Value.int .i64 0), (Value.int .i64 0), (Value.int .i64 0)], Try.underlying126, rfl, by kernel_rfl, rfl, by kernel_rfl, by decide⟩
def alibkeep_ok_L3 (N : Nat) (l1 : (List Int)) : Int → Option (Int ⊕ (Unit ⊕ Bool))
  | v6 =>
    cond (decide (v6 < ((l1).length : Int)))
      (bd (ix l1 v6) fun (x7 : Int) =>
      cond (!(decide (x7 = 0)))
        (some (.inr (.inr false)))
        (ck (ok64 (v6 + 1)) <|
        some (.inl (v6 + 1))))
      (some (.inr (.inl ())))

def alibkeep_ok (N : Nat) (l1 : (List Int)) : Option Bool :=
  bd (α := (Unit ⊕ Bool)) (iter (alibkeep_ok_L3 N l1) N 0) <|
  Sum.elim (fun _ => 
    some true) (fun p => some p)

theorem alibkeep_ok_ok {N : Nat} {l1 : (List Int)} {res : Bool} (hF : alibkeep_ok N l1 = some res) (w : World) {v5 : Value} (hs4 : SlIn (eI .i64) 1 w v5 l1) :
    Pure Try.prog 28 [v5] w (.bool res) := by
  obtain ⟨A2, c3, rfl, hcc3, hs4⟩ := hs4.form
  refine W.enter (n := 14) Try.func28 rfl rfl Sub.refl (by simp) (St.start w) fun R hR => ?_
  unfold alibkeep_ok at hF
  -- region 0: order.go:22
  refine W.seqR fun Q1 hQ1 => ?_
  refine WL.q (Y.assign (.pl rfl)) rfl ?_
  refine WL.next hQ1 (.cons (i := 0) rfl (.nil)) ?_
  obtain ⟨o2, hF2, hF⟩ := bnd hF
  refine W.join0 (Em := []) (M := []) (I := (.inl ()) = o2) (.nil) (fun K3 hK3 => ?_) ?_
  · -- up to
    -- region 1: order.go:23
    refine W.seqR fun Q4 hQ4 => ?_
    refine WL.q (Y.move (.pl rfl)) rfl ?_
    refine WL.q (Y.len Try.underlying106 (.pl rfl)) rfl ?_
    refine WL.q (Y.move (.pl rfl)) rfl ?_
    refine WL.next hQ4 (.cons (i := 5) rfl (.cons (i := 6) rfl (.cons (i := 7) rfl (.nil)))) ?_
    refine W.block ?_
    refine W.loop1 (Em := fun (v6 : Int) => [(7, .int .i64 v6)]) (M := fun v6 => []) (I := fun v6 k5 => iter (alibkeep_ok_L3 N l1) k5 v6 = some o2) 0 N (hF2) (.cons rfl (.nil)) (.cons (i := 5) rfl (.cons (i := 6) rfl (.nil))) (fun wz hw => hw.pick [] rfl) (fun v6 k5 hI K6 hK6 => ?_)
    obtain ⟨k5, t5, rfl, hF5, hN5⟩ := iter_step hI
    -- region 2: order.go:23
    refine W.seqR fun Q7 hQ7 => ?_
    refine WL.q (Y.lss (.pl rfl) (.pl rfl)) rfl ?_
    refine WL.next hQ7 (.cons (i := 5) rfl (.cons (i := 6) rfl (.cons (i := 7) rfl (.cons (i := 8) rfl (.nil))))) ?_
    refine W.seq fun K8 hK8 => ?_
    refine W.cond (.pl rfl) (fun hC9 => ?_) (fun hC9 => ?_)
    · replace hF5 := cpos hC9 hF5
      refine W.skip ?_
      refine W.go hK8 (.cons (i := 5) rfl (.cons (i := 6) rfl (.cons (i := 7) rfl (.nil)))) ?_
      refine W.seq fun K10 hK10 => ?_
      refine W.block ?_
      -- region 3: order.go:23
      refine W.seqR fun Q11 hQ11 => ?_
      obtain ⟨x7, hx7, hF5⟩ := bnd hF5
      refine WL.q (Y.slEl Try.underlying106 cells24 hs4 (.pl rfl) (.pl rfl) (ix_lt (hx7))) rfl ?_
      refine WL.q (Y.loadS (enc := (eI .i64)) (v := .int .i64 x7) (j := 0) Try.underlying24 rfl hs4 (.pl rfl) (hx7) rfl rfl) rfl ?_
      refine WL.q (Y.assign (.pl rfl)) rfl ?_
      refine WL.next hQ11 (.cons (i := 4) rfl (.cons (i := 5) rfl (.cons (i := 6) rfl (.cons (i := 7) rfl (.nil))))) ?_
      -- region 4: order.go:24
      refine W.seqR fun Q12 hQ12 => ?_
      refine WL.q (Y.move (.pl rfl)) rfl ?_
      refine WL.q (Y.neq (.pl rfl) (.pl rfl)) rfl ?_
      refine WL.next hQ12 (.cons (i := 5) rfl (.cons (i := 6) rfl (.cons (i := 7) rfl (.cons (i := 12) rfl (.nil))))) ?_
      refine W.cond (.pl rfl) (fun hC13 => ?_) (fun hC13 => ?_)
      · replace hF5 := cpos hC13 hF5
        -- region 5: order.go:25
        refine W.seqR fun Q14 hQ14 => ?_
        refine WL.q (Y.assign (.pl rfl)) rfl ?_
        refine WL.next hQ14 (.cons (i := 2) rfl (.nil)) ?_
        obtain rfl := Option.some.inj hF5
        obtain rfl := einr hN5
        obtain rfl := Option.some.inj hF
        refine W.retV (fn := Try.f28) (vs := [.bool false]) Try.results28 ⟨.tmp rfl, trivial⟩ (fun _ _ h => h) (fun wz hw => ?_)
        exact hR _ _ ⟨rfl, (hw.pick [] rfl)⟩
      · replace hF5 := cneg hC13 hF5
        refine W.skip ?_
        refine W.go hK10 (.cons (i := 5) rfl (.cons (i := 6) rfl (.cons (i := 7) rfl (.nil)))) ?_
        -- region 6: order.go:23
        refine W.reg ?_
        obtain ⟨hk8, hF5⟩ := ckh hF5
        refine WL.q (Y.add (.pl rfl) (.pl rfl) (ok64_lt (hk8))) rfl ?_
        refine WL.q (Y.move (.pl rfl)) rfl ?_
        refine WL.nil ?_
        obtain rfl := Option.some.inj hF5
        exact W.again1 hK6 (v6 + 1) k5 hN5 (Nat.lt_succ_self _) (.cons rfl (.nil)) (.cons (i := 5) rfl (.cons (i := 6) rfl (.nil))) (fun wz hw => hw.pick [] rfl)
    · replace hF5 := cneg hC9 hF5
      refine W.exit ?_
      obtain rfl := Option.some.inj hF5
      exact W.joinAt0 hK3  (einr hN5) (.nil) (.nil) (fun wz hw => hw.pick [] rfl)
  · -- behind
    rintro  rfl
    -- region 7: order.go:28
    refine W.seqR fun Q16 hQ16 => ?_
    refine WL.q (Y.assign (.pl rfl)) rfl ?_
    refine WL.next hQ16 (.cons (i := 2) rfl (.nil)) ?_
    obtain rfl := Option.some.inj hF
    refine W.retV (fn := Try.f28) (vs := [.bool true]) Try.results28 ⟨.tmp rfl, trivial⟩ (fun _ _ h => h) (fun wz hw => ?_)
    exact hR _ _ ⟨rfl, (hw.pick [] rfl)⟩

def slices_Equal_int_int_L3 (N : Nat) (s11 : (List Int)) (s26 : (List Int)) : Int → Option (Int ⊕ (Unit ⊕ Bool))
  | v11 =>
    cond (decide (v11 < ((s11).length : Int)))
      (bd (ix s11 v11) fun (x12 : Int) =>
      bd (ix s26 v11) fun (x13 : Int) =>
      cond (!(decide (x12 = x13)))
        (some (.inr (.inr false)))
        (ck (ok64 (v11 + 1)) <|
        some (.inl (v11 + 1))))
      (some (.inr (.inl ())))

def slices_Equal_int_int (N : Nat) (s11 : (List Int)) (s26 : (List Int)) : Option Bool :=
  cond (!(decide (((s11).length : Int) = ((s26).length : Int))))
    (some false)
    (bd (α := (Unit ⊕ Bool)) (iter (slices_Equal_int_int_L3 N s11 s26) N 0) <|
    Sum.elim (fun _ => 
      some true) (fun p => some p))

theorem slices_Equal_int_int_ok {N : Nat} {s11 : (List Int)} {s26 : (List Int)} {res : Bool} (hF : slices_Equal_int_int N s11 s26 = some res) (w : World) {v5 : Value} (hs4 : SlIn (eI .i64) 1 w v5 s11) {v10 : Value} (hs9 : SlIn (eI .i64) 1 w v10 s26) :
    Pure Try.prog 40 [v5, v10] w (.bool res) := by
  obtain ⟨A2, c3, rfl, hcc3, hs4⟩ := hs4.form
  obtain ⟨A7, c8, rfl, hcc8, hs9⟩ := hs9.form
  refine W.enter (n := 26) Try.func40 rfl rfl Sub.refl (by simp) (St.start w) fun R hR => ?_
  unfold slices_Equal_int_int at hF
  -- region 0: slices.go:20
  refine W.seqR fun Q1 hQ1 => ?_
  refine WL.q (Y.assign (.pl rfl)) rfl ?_
  refine WL.next hQ1 (.cons (i := 0) rfl (.cons (i := 1) rfl (.nil))) ?_
  refine W.seq fun K2 hK2 => ?_
  -- region 1: slices.go:21
  refine W.seqR fun Q3 hQ3 => ?_
  refine WL.q (Y.move (.pl rfl)) rfl ?_
  refine WL.q (Y.len Try.underlying45 (.pl rfl)) rfl ?_
  refine WL.q (Y.move (.pl rfl)) rfl ?_
  refine WL.q (Y.len Try.underlying45 (.pl rfl)) rfl ?_
  refine WL.q (Y.neq (.pl rfl) (.pl rfl)) rfl ?_
  refine WL.next hQ3 (.cons (i := 0) rfl (.cons (i := 1) rfl (.cons (i := 10) rfl (.nil)))) ?_
  refine W.cond (.pl rfl) (fun hC4 => ?_) (fun hC4 => ?_)
  · replace hF := cpos hC4 hF
    -- region 2: slices.go:22
    refine W.seqR fun Q5 hQ5 => ?_
    refine WL.q (Y.assign (.pl rfl)) rfl ?_
    refine WL.next hQ5 (.cons (i := 4) rfl (.nil)) ?_
    obtain rfl := Option.some.inj hF
    refine W.retV (fn := Try.f40) (vs := [.bool false]) Try.results40 ⟨.tmp rfl, trivial⟩ (fun _ _ h => h) (fun wz hw => ?_)
    exact hR _ _ ⟨rfl, (hw.pick [] rfl)⟩
  · replace hF := cneg hC4 hF
    refine W.skip ?_
    refine W.go hK2 (.cons (i := 0) rfl (.cons (i := 1) rfl (.nil))) ?_
    obtain ⟨o6, hF6, hF⟩ := bnd hF
    refine W.join0 (Em := []) (M := []) (I := (.inl ()) = o6) (.nil) (fun K7 hK7 => ?_) ?_
    · -- up to
      -- region 3: slices.go:24
      refine W.seqR fun Q8 hQ8 => ?_
      refine WL.q (Y.move (.pl rfl)) rfl ?_
      refine WL.q (Y.len Try.underlying45 (.pl rfl)) rfl ?_
      refine WL.q (Y.move (.pl rfl)) rfl ?_
      refine WL.next hQ8 (.cons (i := 0) rfl (.cons (i := 1) rfl (.cons (i := 12) rfl (.cons (i := 13) rfl (.nil))))) ?_
      refine W.block ?_
      refine W.loop1 (Em := fun (v11 : Int) => [(13, .int .i64 v11)]) (M := fun v11 => []) (I := fun v11 k9 => iter (slices_Equal_int_int_L3 N s11 s26) k9 v11 = some o6) 0 N (hF6) (.cons rfl (.nil)) (.cons (i := 0) rfl (.cons (i := 1) rfl (.cons (i := 12) rfl (.nil)))) (fun wz hw => hw.pick [] rfl) (fun v11 k9 hI K10 hK10 => ?_)
      obtain ⟨k9, t9, rfl, hF9, hN9⟩ := iter_step hI
      -- region 4: slices.go:24
      refine W.seqR fun Q11 hQ11 => ?_
      refine WL.q (Y.lss (.pl rfl) (.pl rfl)) rfl ?_
      refine WL.next hQ11 (.cons (i := 0) rfl (.cons (i := 1) rfl (.cons (i := 12) rfl (.cons (i := 13) rfl (.cons (i := 14) rfl (.nil)))))) ?_
      refine W.seq fun K12 hK12 => ?_
      refine W.cond (.pl rfl) (fun hC13 => ?_) (fun hC13 => ?_)
      · replace hF9 := cpos hC13 hF9
        refine W.skip ?_
        refine W.go hK12 (.cons (i := 0) rfl (.cons (i := 1) rfl (.cons (i := 12) rfl (.cons (i := 13) rfl (.nil))))) ?_
        refine W.seq fun K14 hK14 => ?_
        refine W.block ?_
        -- region 5: slices.go:24
        refine W.seqR fun Q15 hQ15 => ?_
        refine WL.q (Y.move (.pl rfl)) rfl ?_
        refine WL.q (Y.assign (.pl rfl)) rfl ?_
        refine WL.next hQ15 (.cons (i := 0) rfl (.cons (i := 1) rfl (.cons (i := 5) rfl (.cons (i := 12) rfl (.cons (i := 13) rfl (.nil)))))) ?_
        -- region 6: slices.go:25
        refine W.seqD (by kernel_rfl) (by kernel_rfl) fun R16 hR16 => ?_
        refine WD.q (Y.move (.pl rfl)) rfl ?_
        refine WD.q (Y.move (.pl rfl)) rfl ?_
        obtain ⟨x12, hx12, hF9⟩ := bnd hF9
        refine WD.q (Y.slEl Try.underlying45 cells3 hs4 (.pl rfl) (.pl rfl) (ix_lt (hx12))) rfl ?_
        refine WD.q (Y.loadS (enc := (eI .i64)) (v := .int .i64 x12) (j := 0) Try.underlying3 rfl hs4 (.pl rfl) (hx12) rfl rfl) rfl ?_
        refine WD.q (Y.move (.pl rfl)) rfl ?_
        refine WD.q (Y.move (.pl rfl)) rfl ?_
        obtain ⟨x13, hx13, hF9⟩ := bnd hF9
        refine WD.q (Y.slEl Try.underlying45 cells3 hs9 (.pl rfl) (.pl rfl) (ix_lt (hx13))) rfl ?_
        refine WD.q (Y.loadS (enc := (eI .i64)) (v := .int .i64 x13) (j := 0) Try.underlying3 rfl hs9 (.pl rfl) (hx13) rfl rfl) rfl ?_
        refine WD.q (Y.neq (.pl rfl) (.pl rfl)) rfl ?_
        refine WD.next hR16 (.cons (i := 0) rfl (.cons (i := 1) rfl (.cons (i := 12) rfl (.cons (i := 13) rfl (.cons (i := 24) rfl (.nil)))))) ?_
        refine W.cond (.pl rfl) (fun hC17 => ?_) (fun hC17 => ?_)
        · replace hF9 := cpos hC17 hF9
          -- region 7: slices.go:26
          refine W.seqR fun Q18 hQ18 => ?_
          refine WL.q (Y.assign (.pl rfl)) rfl ?_
          refine WL.next hQ18 (.cons (i := 4) rfl (.nil)) ?_
          obtain rfl := Option.some.inj hF9
          obtain rfl := einr hN9
          obtain rfl := Option.some.inj hF
          refine W.retV (fn := Try.f40) (vs := [.bool false]) Try.results40 ⟨.tmp rfl, trivial⟩ (fun _ _ h => h) (fun wz hw => ?_)
          exact hR _ _ ⟨rfl, (hw.pick [] rfl)⟩
        · replace hF9 := cneg hC17 hF9
          refine W.skip ?_
          refine W.go hK14 (.cons (i := 0) rfl (.cons (i := 1) rfl (.cons (i := 12) rfl (.cons (i := 13) rfl (.nil))))) ?_
          -- region 8: slices.go:24
          refine W.reg ?_
          obtain ⟨hk14, hF9⟩ := ckh hF9
          refine WL.q (Y.add (.pl rfl) (.pl rfl) (ok64_lt (hk14))) rfl ?_
          refine WL.q (Y.move (.pl rfl)) rfl ?_
          refine WL.nil ?_
          obtain rfl := Option.some.inj hF9
          exact W.again1 hK10 (v11 + 1) k9 hN9 (Nat.lt_succ_self _) (.cons rfl (.nil)) (.cons (i := 0) rfl (.cons (i := 1) rfl (.cons (i := 12) rfl (.nil)))) (fun wz hw => hw.pick [] rfl)
      · replace hF9 := cneg hC13 hF9
        refine W.exit ?_
        obtain rfl := Option.some.inj hF9
        exact W.joinAt0 hK7  (einr hN9) (.nil) (.nil) (fun wz hw => hw.pick [] rfl)
    · -- behind
      rintro  rfl
      -- region 9: slices.go:29
      refine W.seqR fun Q20 hQ20 => ?_
      refine WL.q (Y.assign (.pl rfl)) rfl ?_
      refine WL.next hQ20 (.cons (i := 4) rfl (.nil)) ?_
      obtain rfl := Option.some.inj hF
      refine W.retV (fn := Try.f40) (vs := [.bool true]) Try.results40 ⟨.tmp rfl, trivial⟩ (fun _ _ h => h) (fun wz hw => ?_)
      exact hR _ _ ⟨rfl, (hw.pick [] rfl)⟩

def slices_Equal_api_Event_api_Event_L3 (N : Nat) (s11 : (List Event)) (s26 : (List Event)) : Int → Option (Int ⊕ (Unit ⊕ Bool))
  | v11 =>
    cond (decide (v11 < ((s11).length : Int)))
      (bd (ix s11 v11) fun (x12 : Event) =>
      bd (ix s26 v11) fun (x13 : Event) =>
      cond (!(decide (x12 = x13)))
        (some (.inr (.inr false)))
        (ck (ok64 (v11 + 1)) <|
        some (.inl (v11 + 1))))
      (some (.inr (.inl ())))

def slices_Equal_api_Event_api_Event (N : Nat) (s11 : (List Event)) (s26 : (List Event)) : Option Bool :=
  cond (!(decide (((s11).length : Int) = ((s26).length : Int))))
    (some false)
    (bd (α := (Unit ⊕ Bool)) (iter (slices_Equal_api_Event_api_Event_L3 N s11 s26) N 0) <|
    Sum.elim (fun _ => 
      some true) (fun p => some p))

theorem slices_Equal_api_Event_api_Event_ok {N : Nat} {s11 : (List Event)} {s26 : (List Event)} {res : Bool} (hF : slices_Equal_api_Event_api_Event N s11 s26 = some res) (w : World) {v5 : Value} (hs4 : SlIn encEvent 4 w v5 s11) {v10 : Value} (hs9 : SlIn encEvent 4 w v10 s26) :
    Pure Try.prog 42 [v5, v10] w (.bool res) := by
  obtain ⟨A2, c3, rfl, hcc3, hs4⟩ := hs4.form
  obtain ⟨A7, c8, rfl, hcc8, hs9⟩ := hs9.form
  refine W.enter (n := 26) Try.func42 rfl rfl Sub.refl (by simp) (St.start w) fun R hR => ?_
  unfold slices_Equal_api_Event_api_Event at hF
  -- region 0: slices.go:20
  refine W.seqR fun Q1 hQ1 => ?_
  refine WL.q (Y.assign (.pl rfl)) rfl ?_
  refine WL.next hQ1 (.cons (i := 0) rfl (.cons (i := 1) rfl (.nil))) ?_
  refine W.seq fun K2 hK2 => ?_
  -- region 1: slices.go:21
  refine W.seqR fun Q3 hQ3 => ?_
  refine WL.q (Y.move (.pl rfl)) rfl ?_
  refine WL.q (Y.len Try.underlying22 (.pl rfl)) rfl ?_
  refine WL.q (Y.move (.pl rfl)) rfl ?_
  refine WL.q (Y.len Try.underlying22 (.pl rfl)) rfl ?_
  refine WL.q (Y.neq (.pl rfl) (.pl rfl)) rfl ?_
  refine WL.next hQ3 (.cons (i := 0) rfl (.cons (i := 1) rfl (.cons (i := 10) rfl (.nil)))) ?_
  refine W.cond (.pl rfl) (fun hC4 => ?_) (fun hC4 => ?_)
  · replace hF := cpos hC4 hF
    -- region 2: slices.go:22
    refine W.seqR fun Q5 hQ5 => ?_
    refine WL.q (Y.assign (.pl rfl)) rfl ?_
    refine WL.next hQ5 (.cons (i := 4) rfl (.nil)) ?_
    obtain rfl := Option.some.inj hF
    refine W.retV (fn := Try.f42) (vs := [.bool false]) Try.results42 ⟨.tmp rfl, trivial⟩ (fun _ _ h => h) (fun wz hw => ?_)
    exact hR _ _ ⟨rfl, (hw.pick [] rfl)⟩
  · replace hF := cneg hC4 hF
    refine W.skip ?_
    refine W.go hK2 (.cons (i := 0) rfl (.cons (i := 1) rfl (.nil))) ?_
    obtain ⟨o6, hF6, hF⟩ := bnd hF
    refine W.join0 (Em := []) (M := []) (I := (.inl ()) = o6) (.nil) (fun K7 hK7 => ?_) ?_
    · -- up to
      -- region 3: slices.go:24
      refine W.seqR fun Q8 hQ8 => ?_
      refine WL.q (Y.move (.pl rfl)) rfl ?_
      refine WL.q (Y.len Try.underlying22 (.pl rfl)) rfl ?_
      refine WL.q (Y.move (.pl rfl)) rfl ?_
      refine WL.next hQ8 (.cons (i := 0) rfl (.cons (i := 1) rfl (.cons (i := 12) rfl (.cons (i := 13) rfl (.nil))))) ?_
      refine W.block ?_
      refine W.loop1 (Em := fun (v11 : Int) => [(13, .int .i64 v11)]) (M := fun v11 => []) (I := fun v11 k9 => iter (slices_Equal_api_Event_api_Event_L3 N s11 s26) k9 v11 = some o6) 0 N (hF6) (.cons rfl (.nil)) (.cons (i := 0) rfl (.cons (i := 1) rfl (.cons (i := 12) rfl (.nil)))) (fun wz hw => hw.pick [] rfl) (fun v11 k9 hI K10 hK10 => ?_)
      obtain ⟨k9, t9, rfl, hF9, hN9⟩ := iter_step hI
      -- region 4: slices.go:24
      refine W.seqR fun Q11 hQ11 => ?_
      refine WL.q (Y.lss (.pl rfl) (.pl rfl)) rfl ?_
      refine WL.next hQ11 (.cons (i := 0) rfl (.cons (i := 1) rfl (.cons (i := 12) rfl (.cons (i := 13) rfl (.cons (i := 14) rfl (.nil)))))) ?_
      refine W.seq fun K12 hK12 => ?_
      refine W.cond (.pl rfl) (fun hC13 => ?_) (fun hC13 => ?_)
      · replace hF9 := cpos hC13 hF9
        refine W.skip ?_
        refine W.go hK12 (.cons (i := 0) rfl (.cons (i := 1) rfl (.cons (i := 12) rfl (.cons (i := 13) rfl (.nil))))) ?_
        refine W.seq fun K14 hK14 => ?_
        refine W.block ?_
        -- region 5: slices.go:24
        refine W.seqR fun Q15 hQ15 => ?_
        refine WL.q (Y.move (.pl rfl)) rfl ?_
        refine WL.q (Y.assign (.pl rfl)) rfl ?_
        refine WL.next hQ15 (.cons (i := 0) rfl (.cons (i := 1) rfl (.cons (i := 5) rfl (.cons (i := 12) rfl (.cons (i := 13) rfl (.nil)))))) ?_
        -- region 6: slices.go:25
        refine W.seqD (by kernel_rfl) (by kernel_rfl) fun R16 hR16 => ?_
        refine WD.q (Y.move (.pl rfl)) rfl ?_
        refine WD.q (Y.move (.pl rfl)) rfl ?_
        obtain ⟨x12, hx12, hF9⟩ := bnd hF9
        refine WD.q (Y.slEl Try.underlying22 cells39 hs4 (.pl rfl) (.pl rfl) (ix_lt (hx12))) rfl ?_
        refine WD.q (Y.loadSA (enc := encEvent) (ds := (encEvent x12)) (j := 0) Try.underlying39 rfl cells39 hs4 (.pl rfl) (hx12) rfl rfl subW) rfl ?_
        refine WD.q (Y.move (.pl rfl)) rfl ?_
        refine WD.q (Y.move (.pl rfl)) rfl ?_
        obtain ⟨x13, hx13, hF9⟩ := bnd hF9
        refine WD.q (Y.slEl Try.underlying22 cells39 hs9 (.pl rfl) (.pl rfl) (ix_lt (hx13))) rfl ?_
        refine WD.q (Y.loadSA (enc := encEvent) (ds := (encEvent x13)) (j := 0) Try.underlying39 rfl cells39 hs9 (.pl rfl) (hx13) rfl rfl subW) rfl ?_
        refine WD.q (Y.neqS eqs39 (.pl rfl) (.pl rfl) (eqEvent x12 x13)) rfl ?_
        refine WD.next hR16 (.cons (i := 0) rfl (.cons (i := 1) rfl (.cons (i := 12) rfl (.cons (i := 13) rfl (.cons (i := 24) rfl (.nil)))))) ?_
        refine W.cond (.pl rfl) (fun hC17 => ?_) (fun hC17 => ?_)
        · replace hF9 := cpos hC17 hF9
          -- region 7: slices.go:26
          refine W.seqR fun Q18 hQ18 => ?_
          refine WL.q (Y.assign (.pl rfl)) rfl ?_
          refine WL.next hQ18 (.cons (i := 4) rfl (.nil)) ?_
          obtain rfl := Option.some.inj hF9
          obtain rfl := einr hN9
          obtain rfl := Option.some.inj hF
          refine W.retV (fn := Try.f42) (vs := [.bool false]) Try.results42 ⟨.tmp rfl, trivial⟩ (fun _ _ h => h) (fun wz hw => ?_)
          exact hR _ _ ⟨rfl, (hw.pick [] rfl)⟩
        · replace hF9 := cneg hC17 hF9
          refine W.skip ?_
          refine W.go hK14 (.cons (i := 0) rfl (.cons (i := 1) rfl (.cons (i := 12) rfl (.cons (i := 13) rfl (.nil))))) ?_
          -- region 8: slices.go:24
          refine W.reg ?_
          obtain ⟨hk14, hF9⟩ := ckh hF9
          refine WL.q (Y.add (.pl rfl) (.pl rfl) (ok64_lt (hk14))) rfl ?_
          refine WL.q (Y.move (.pl rfl)) rfl ?_
          refine WL.nil ?_
          obtain rfl := Option.some.inj hF9
          exact W.again1 hK10 (v11 + 1) k9 hN9 (Nat.lt_succ_self _) (.cons rfl (.nil)) (.cons (i := 0) rfl (.cons (i := 1) rfl (.cons (i := 12) rfl (.nil)))) (fun wz hw => hw.pick [] rfl)
      · replace hF9 := cneg hC13 hF9
        refine W.exit ?_
        obtain rfl := Option.some.inj hF9
        exact W.joinAt0 hK7  (einr hN9) (.nil) (.nil) (fun wz hw => hw.pick [] rfl)
    · -- behind
      rintro  rfl
      -- region 9: slices.go:29
      refine W.seqR fun Q20 hQ20 => ?_
      refine WL.q (Y.assign (.pl rfl)) rfl ?_
      refine WL.next hQ20 (.cons (i := 4) rfl (.nil)) ?_
      obtain rfl := Option.some.inj hF
      refine W.retV (fn := Try.f42) (vs := [.bool true]) Try.results42 ⟨.tmp rfl, trivial⟩ (fun _ _ h => h) (fun wz hw => ?_)
      exact hR _ _ ⟨rfl, (hw.pick [] rfl)⟩

def alibkeep_bagsLives_L3 (N : Nat) : ((List Event) × Int) → Option (((List Event) × Int) ⊕ (List Event))
  | (l7, v8) =>
    cond (decide (v8 < ((([(Do.mk 7 1 1), (Do.mk 7 2 1), (Do.mk 7 1 1)] : List Do)).length : Int)))
      (bd (ix ([(Do.mk 7 1 1), (Do.mk 7 2 1), (Do.mk 7 1 1)] : List Do) v8) fun (x9 : Do) =>
      ck (limB 32 ((l7).length + (([(Event.mk 0 0 x9.kind x9.arg), (Event.mk 0 0 0 x9.res)] : List Event)).length)) <|
      ck (ok64 (v8 + 1)) <|
      some (.inl ((l7 ++ ([(Event.mk 0 0 x9.kind x9.arg), (Event.mk 0 0 0 x9.res)] : List Event)), (v8 + 1))))
      (some (.inr l7))

def alibkeep_bagsLives (N : Nat) : Option Bool :=
  bd (α := (List Event)) (iter (alibkeep_bagsLives_L3 N) N ([], 0)) <|
  fun (l3 : (List Event)) => 
    bd (bags_Check N l3) fun (r16 : ((List Int) × Int)) =>
    ck (slB (l3).length 0 4) <|
    bd (bags_Check N (l3.take (4 : Int).toNat)) fun (r20 : ((List Int) × Int)) =>
    bd (bags_Part N l3 2) fun (r23 : ((List Event) × Int)) =>
    bd (α := Bool) (bd (alibkeep_ok N ([r16.2, r20.2, r23.2] : List Int)) fun (r28 : Bool) =>
      cond (r28 == true)
        (bd (slices_Equal_int_int N r16.1 ([1] : List Int)) fun (r30 : Bool) =>
        ck (!(((r28 && r30) && (decide (((r20.1).length : Int) = 0))) == true) || (slB (l3).length 2 4)) <|
        bd ((cond (((r28 && r30) && (decide (((r20.1).length : Int) = 0))) == true) (slices_Equal_api_Event_api_Event N r23.1 ((l3.take (4 : Int).toNat).drop (2 : Int).toNat)) (some false))) fun (r32 : Bool) =>
        some (((r28 && r30) && (decide (((r20.1).length : Int) = 0))) && r32))
        (ck (!(((r28 && false) && (decide (((r20.1).length : Int) = 0))) == true) || (slB (l3).length 2 4)) <|
        bd ((cond (((r28 && false) && (decide (((r20.1).length : Int) = 0))) == true) (slices_Equal_api_Event_api_Event N r23.1 ((l3.take (4 : Int).toNat).drop (2 : Int).toNat)) (some false))) fun (r34 : Bool) =>
        some (((r28 && false) && (decide (((r20.1).length : Int) = 0))) && r34))) <|
    fun (v26 : Bool) => 
      some v26

theorem alibkeep_bagsLives_ok {N : Nat} {res : Bool} (hF : alibkeep_bagsLives N = some res) (w : World) :
    Pure Try.prog 39 [] w (.bool res) := by
  refine W.enter (n := 68) Try.func39 rfl rfl Sub.refl (by simp) (St.start w) fun R hR => ?_
  unfold alibkeep_bagsLives at hF
  -- region 0: bags.go:12
  refine W.seqR fun Q1 hQ1 => ?_
  refine WL.q (Y.assign (.pl rfl)) rfl ?_
  refine WL.next hQ1 (.nil) ?_
  -- region 1: bags.go:13
  refine W.seqR fun Q2 hQ2 => ?_
  refine WL.q (Y.assign (.pl rfl)) rfl ?_
  refine WL.next hQ2 (.cons (i := 1) rfl (.nil)) ?_
  obtain ⟨o3, hF3, hF⟩ := bnd hF
  refine W.join3 (Em := fun (l3 : (List Event)) (A1 : Option Addr) (c2 : Nat) => [(1, .slice A1 (l3).length c2)]) (M := fun l3 A1 c2 => [cR encEvent 4 A1 c2 39 l3]) (I := fun l3 A1 c2 => l3 = o3) (.nil) (fun K4 hK4 => ?_) ?_
  · -- up to
    -- region 2: bags.go:14
    refine W.seqR fun Q5 hQ5 => ?_
    refine WL.q (Y.build (cs := (encDo (Do.mk 7 1 1)).toArray) shape126 (.cons (.pl rfl) (.cons (.pl rfl) (.cons (.pl rfl) (.nil)))) (one_parts ⟨rfl, ⟨rfl, ⟨rfl, trivial⟩⟩⟩) rfl) rfl ?_
    refine WL.q (Y.build (cs := (encDo (Do.mk 7 2 1)).toArray) shape126 (.cons (.pl rfl) (.cons (.pl rfl) (.cons (.pl rfl) (.nil)))) (one_parts ⟨rfl, ⟨rfl, ⟨rfl, trivial⟩⟩⟩) rfl) rfl ?_
    refine WL.q (Y.build (cs := (encDo (Do.mk 7 1 1)).toArray) shape126 (.cons (.pl rfl) (.cons (.pl rfl) (.cons (.pl rfl) (.nil)))) (one_parts ⟨rfl, ⟨rfl, ⟨rfl, trivial⟩⟩⟩) rfl) rfl ?_
    refine WL.step (WO.bsliceC (enc := encDo) (ys := ([(Do.mk 7 1 1), (Do.mk 7 2 1), (Do.mk 7 1 1)] : List Do)) Try.underlying127 bz126 (.cons (.pl rfl) (.cons (.pl rfl) (.cons (.pl rfl) (.nil)))) rfl lenDo rfl rfl (by decide) (by decide) rfl fun b4 => ?_)
    refine WL.q (Y.len Try.underlying127 (.pl rfl)) rfl ?_
    refine WL.q (Y.move (.pl rfl)) rfl ?_
    refine WL.next hQ5 (.cons (i := 1) rfl (.cons (i := 13) rfl (.cons (i := 14) rfl (.cons (i := 15) rfl (.nil))))) ?_
    refine W.block ?_
    refine W.loop4 (Em := fun (l7 : (List Event)) (v8 : Int) (A5 : Option Addr) (c6 : Nat) => [(1, .slice A5 (l7).length c6), (15, .int .i64 v8)]) (M := fun l7 v8 A5 c6 => [cR encEvent 4 A5 c6 39 l7, cR encDo 3 (some ⟨b4, 0, none⟩) (([(Do.mk 7 1 1), (Do.mk 7 2 1), (Do.mk 7 1 1)] : List Do)).length 126 ([(Do.mk 7 1 1), (Do.mk 7 2 1), (Do.mk 7 1 1)] : List Do)]) (I := fun l7 v8 A5 c6 k6 => iter (alibkeep_bagsLives_L3 N) k6 (l7, v8) = some o3) [] 0 none 0 N (hF3) (.cons rfl (.cons rfl (.nil))) (.cons (i := 13) rfl (.cons (i := 14) rfl (.nil))) (fun wz hw => (St.nilR (hw.pick [0] rfl) encEvent 4 39).pick [0, 1] rfl) (fun l7 v8 A5 c6 k6 hI K7 hK7 => ?_)
    obtain ⟨k6, t6, rfl, hF6, hN6⟩ := iter_step hI
    -- region 3: bags.go:14
    refine W.seqR fun Q8 hQ8 => ?_
    refine WL.q (Y.lss (.pl rfl) (.pl rfl)) rfl ?_
    refine WL.next hQ8 (.cons (i := 1) rfl (.cons (i := 13) rfl (.cons (i := 14) rfl (.cons (i := 15) rfl (.cons (i := 16) rfl (.nil)))))) ?_
    refine W.seq fun K9 hK9 => ?_
    refine W.cond (.pl rfl) (fun hC10 => ?_) (fun hC10 => ?_)
    · replace hF6 := cpos hC10 hF6
      refine W.skip ?_
      refine W.go hK9 (.cons (i := 1) rfl (.cons (i := 13) rfl (.cons (i := 14) rfl (.cons (i := 15) rfl (.nil))))) ?_
      refine W.seq fun K11 hK11 => ?_
      refine W.block ?_
      -- region 4: bags.go:14
      refine W.seqR fun Q12 hQ12 => ?_
      obtain ⟨x9, hx9, hF6⟩ := bnd hF6
      refine WL.q (Y.litEl (xs := ([(Do.mk 7 1 1), (Do.mk 7 2 1), (Do.mk 7 1 1)] : List Do)) Try.underlying127 cells126 (.pl rfl) rfl (.pl rfl) (ix_lt (hx9))) rfl ?_
      refine WL.q (Y.loadRA (enc := encDo) (ds := (encDo x9)) (a := x9) (idx := v8) (j := 0) Try.underlying126 rfl cells126 lenDo (i := 1) rfl (.pl rfl) (ix_get (hx9)) rfl rfl subW) rfl ?_
      refine WL.step (WO.alloc (cs := (encDo (Do.mk 0 0 0)).toArray) zero126 rfl rfl fun b10 => ?_)
      refine WL.step (WO.storeBA (ds := (encDo x9)) (cs' := (encDo x9)) cells126 (.pl rfl) (.pl rfl) rfl (oneDo _) (i := 0) rfl (lel (o := 0) (l := 3) (m := 3) (by decide) rfl rfl) (putW rfl) ?_)
      refine WL.next hQ12 (.cons (i := 1) rfl (.cons (i := 3) rfl (.cons (i := 13) rfl (.cons (i := 14) rfl (.cons (i := 15) rfl (.nil)))))) ?_
      -- region 5: bags.go:15
      refine W.reg ?_
      refine WL.q (Y.move (.pl rfl)) rfl ?_
      refine WL.q (Y.fieldAddr0 (off := 0) (ft := 3) Try.underlying126 rfl cells3 (.pl rfl)) rfl ?_
      refine WL.q (Y.loadB (v := .int .i64 x9.kind) Try.underlying3 rfl (.pl rfl) (i := 0) rfl (rfl)) rfl ?_
      refine WL.q (Y.fieldAddr0 (off := 1) (ft := 3) Try.underlying126 rfl cells3 (.pl rfl)) rfl ?_
      refine WL.q (Y.loadB (v := .int .i64 x9.arg) Try.underlying3 rfl (.pl rfl) (i := 0) rfl (rfl)) rfl ?_
      refine WL.q (Y.build (cs := (encEvent (Event.mk 0 0 x9.kind x9.arg)).toArray) shape39 (.cons (.pl rfl) (.cons (.pl rfl) (.nil))) (one_parts ⟨rfl, ⟨rfl, trivial⟩⟩) rfl) rfl ?_
      refine WL.q (Y.fieldAddr0 (off := 2) (ft := 3) Try.underlying126 rfl cells3 (.pl rfl)) rfl ?_
      refine WL.q (Y.loadB (v := .int .i64 x9.res) Try.underlying3 rfl (.pl rfl) (i := 0) rfl (rfl)) rfl ?_
      refine WL.q (Y.build (cs := (encEvent (Event.mk 0 0 0 x9.res)).toArray) shape39 (.cons (.pl rfl) (.nil)) (one_parts ⟨rfl, trivial⟩) rfl) rfl ?_
      refine WL.step (WO.bsliceC (enc := encEvent) (ys := ([(Event.mk 0 0 x9.kind x9.arg), (Event.mk 0 0 0 x9.res)] : List Event)) Try.underlying22 bz39 (.cons (.pl rfl) (.cons (.pl rfl) (.nil))) rfl lenEvent rfl rfl (by decide) (by decide) rfl fun b11 => ?_)
      obtain ⟨hk14, hF6⟩ := ckh hF6
      refine WL.step (WO.appendC (enc := encEvent) Try.underlying22 ap39 lenEvent oneEvent (.pl rfl) rfl (.pl rfl) (i := 2) rfl (m2 := 0) rfl (hk14) rfl fun A12 c13 => ?_)
      refine WL.q (Y.assign (.pl rfl)) rfl ?_
      refine WL.nil ?_
      refine W.go hK11 (.cons (i := 1) rfl (.cons (i := 13) rfl (.cons (i := 14) rfl (.cons (i := 15) rfl (.nil))))) ?_
      -- region 6: bags.go:14
      refine W.reg ?_
      obtain ⟨hk15, hF6⟩ := ckh hF6
      refine WL.q (Y.add (.pl rfl) (.pl rfl) (ok64_lt (hk15))) rfl ?_
      refine WL.q (Y.move (.pl rfl)) rfl ?_
      refine WL.nil ?_
      obtain rfl := Option.some.inj hF6
      exact W.again4 hK7 (l7 ++ ([(Event.mk 0 0 x9.kind x9.arg), (Event.mk 0 0 0 x9.res)] : List Event)) (v8 + 1) A12 c13 k6 hN6 (Nat.lt_succ_self _) (.cons rfl (.cons rfl (.nil))) (.cons (i := 13) rfl (.cons (i := 14) rfl (.nil))) (fun wz hw => hw.pick [2, 3] rfl)
    · replace hF6 := cneg hC10 hF6
      refine W.exit ?_
      obtain rfl := Option.some.inj hF6
      exact W.joinAt3 hK4 l7 A5 c6 (einr hN6) (.cons rfl (.nil)) (.nil) (fun wz hw => hw.pick [0] rfl)
  · -- behind
    rintro l3 A1 c2 rfl
    -- region 7: bags.go:17
    refine W.seqR fun Q15 hQ15 => ?_
    refine WL.q (Y.move (.pl rfl)) rfl ?_
    obtain ⟨r16, hr16, hF⟩ := bnd hF
    refine WL.step (WO.callM isGo37 (.cons (.pl rfl) (.nil)) rfl (fun wz hw => bags_Check_ok (hr16) wz (SlIn.ofRow lenEvent hw (i := 0) rfl)) ?_)
    rintro ⟨A17, c18⟩ -
    refine WL.q (Y.move (.pl rfl)) rfl ?_
    refine WL.q (Y.extract (.pl rfl) rfl) rfl ?_
    refine WL.q (Y.extract (.pl rfl) rfl) rfl ?_
    refine WL.q (Y.assign (.pl rfl)) rfl ?_
    refine WL.q (Y.assign (.pl rfl)) rfl ?_
    refine WL.next hQ15 (.cons (i := 1) rfl (.cons (i := 4) rfl (.cons (i := 5) rfl (.nil)))) ?_
    -- region 8: bags.go:18
    refine W.seqR fun Q16 hQ16 => ?_
    refine WL.q (Y.move (.pl rfl)) rfl ?_
    obtain ⟨hk19, hF⟩ := ckh hF
    refine WL.q (Y.sliceR0 Try.underlying22 cells39 (i := 1) rfl (.pl rfl) rfl (.pl rfl) (hk19)) rfl ?_
    obtain ⟨r20, hr20, hF⟩ := bnd hF
    refine WL.step (WO.callM isGo37 (.cons (.pl rfl) (.nil)) rfl (fun wz hw => bags_Check_ok (hr20) wz (SlIn.sub0 (SlIn.ofRow (enc := encEvent) (sz := 4) lenEvent hw (i := 1) rfl) (slB_nat0 (hk19)))) ?_)
    rintro ⟨A21, c22⟩ -
    refine WL.q (Y.move (.pl rfl)) rfl ?_
    refine WL.q (Y.extract (.pl rfl) rfl) rfl ?_
    refine WL.q (Y.extract (.pl rfl) rfl) rfl ?_
    refine WL.q (Y.assign (.pl rfl)) rfl ?_
    refine WL.q (Y.assign (.pl rfl)) rfl ?_
    refine WL.next hQ16 (.cons (i := 1) rfl (.cons (i := 4) rfl (.cons (i := 5) rfl (.cons (i := 6) rfl (.cons (i := 7) rfl (.nil)))))) ?_
    -- region 9: bags.go:19
    refine W.seqR fun Q17 hQ17 => ?_
    refine WL.q (Y.move (.pl rfl)) rfl ?_
    obtain ⟨r23, hr23, hF⟩ := bnd hF
    refine WL.step (WO.callM isGo41 (.cons (.pl rfl) (.cons (.pl rfl) (.nil))) rfl (fun wz hw => bags_Part_ok (hr23) wz (SlIn.ofRow lenEvent hw (i := 2) rfl)) ?_)
    rintro ⟨A24, c25⟩ -
    refine WL.q (Y.move (.pl rfl)) rfl ?_
    refine WL.q (Y.extract (.pl rfl) rfl) rfl ?_
    refine WL.q (Y.extract (.pl rfl) rfl) rfl ?_
    refine WL.q (Y.assign (.pl rfl)) rfl ?_
    refine WL.q (Y.assign (.pl rfl)) rfl ?_
    refine WL.next hQ17 (.cons (i := 1) rfl (.cons (i := 4) rfl (.cons (i := 5) rfl (.cons (i := 6) rfl (.cons (i := 7) rfl (.cons (i := 8) rfl (.cons (i := 9) rfl (.nil)))))))) ?_
    obtain ⟨o18, hF18, hF⟩ := bnd hF
    refine W.join1 (Em := fun (v26 : Bool) => [(0, .bool v26)]) (M := fun v26 => []) (I := fun v26 => v26 = o18) (.nil) (fun K19 hK19 => ?_) ?_
    · -- up to
      -- region 10: bags.go:20
      refine W.reg ?_
      refine WL.q (Y.move (.pl rfl)) rfl ?_
      refine WL.q (Y.move (.pl rfl)) rfl ?_
      refine WL.q (Y.move (.pl rfl)) rfl ?_
      refine WL.step (WO.bsliceC (enc := (eI .i64)) (ys := ([r16.2, r20.2, r23.2] : List Int)) Try.underlying106 bz24 (.cons (.pl rfl) (.cons (.pl rfl) (.cons (.pl rfl) (.nil)))) rfl (fun _ => rfl) rfl rfl (by decide) (by decide) rfl fun b27 => ?_)
      obtain ⟨r28, hr28, hF18⟩ := bnd hF18
      refine WL.step (WO.callP isGo28 (.cons (.pl rfl) (.nil)) rfl (fun wz hw => alibkeep_ok_ok (hr28) wz (SlIn.ofRow (fun _ => rfl) hw (i := 0) rfl)) ?_)
      refine WL.q (Y.move (.pl rfl)) rfl ?_
      refine WL.g (.pl rfl rfl rfl) (fun hg => Y.move (.pl rfl)) rfl ?_
      refine bsplit (r28 == true) (fun hg20 => ?_) (fun hg20 => ?_)
      · replace hF18 := cpos hg20 hF18
        refine WL.gd (.pl rfl rfl rfl) (hg20) ?_
        refine WL.step (WO.bsliceC (enc := (eI .i64)) (ys := ([1] : List Int)) Try.underlying45 bz3 (.cons (.pl rfl) (.nil)) rfl (fun _ => rfl) rfl rfl (by decide) (by decide) rfl fun b29 => ?_)
        refine WL.gd (.pl rfl rfl rfl) (hg20) ?_
        obtain ⟨r30, hr30, hF18⟩ := bnd hF18
        refine WL.step (WO.callP isGo40 (.cons (.gd (hg20) rfl) (.cons (.pl rfl) (.nil))) rfl (fun wz hw => slices_Equal_int_int_ok (hr30) wz (SlIn.ofRow (fun _ => rfl) hw (i := 4) rfl) (SlIn.ofRow (fun _ => rfl) hw (i := 0) rfl)) ?_)
        refine WL.q (Y.and (.pl rfl) (fun _ => .pl rfl)) rfl ?_
        refine WL.q (Y.move (.pl rfl)) rfl ?_
        refine WL.g (.pl rfl rfl rfl) (fun hg => Y.move (.pl rfl)) rfl ?_
        refine WL.g (.pl rfl rfl rfl) (fun hg => Y.len Try.underlying45 (.gd (hg) rfl)) rfl ?_
        refine WL.g (.pl rfl rfl rfl) (fun hg => Y.eql (.gd (hg) rfl) (.pl rfl)) rfl ?_
        refine WL.q (Y.and (.pl rfl) (fun h2 => .gd (eqt h2) rfl)) rfl ?_
        refine WL.q (Y.move (.pl rfl)) rfl ?_
        refine WL.g (.pl rfl rfl rfl) (fun hg => Y.move (.pl rfl)) rfl ?_
        refine WL.g (.pl rfl rfl rfl) (fun hg => Y.move (.pl rfl)) rfl ?_
        obtain ⟨hk31, hF18⟩ := ckh hF18
        refine WL.g (.pl rfl rfl rfl) (fun hg => Y.sliceR2 Try.underlying22 cells39 (i := 5) rfl (.gd (hg) rfl) rfl (.pl rfl) (.pl rfl) (gor hg hk31)) rfl ?_
        obtain ⟨r32, hr32, hF18⟩ := bnd hF18
        refine WL.gP (.pl rfl rfl rfl) isGo42 (fun hg => (.cons (.gd (hg) rfl) (.cons (.gd (hg) rfl) (.nil)))) rfl (fun hg wz hw => slices_Equal_api_Event_api_Event_ok (gpos hg hr32) wz (SlIn.ofRow lenEvent hw (i := 2) rfl) (SlIn.sub (SlIn.ofRow (enc := encEvent) (sz := 4) lenEvent hw (i := 5) rfl) (slB_nat (gor hg hk31)))) ?_
        refine WL.q (Y.and (.pl rfl) (fun h2 => .gd (eqt h2) rfl)) rfl ?_
        refine WL.q (Y.assign (.pl rfl)) rfl ?_
        refine WL.nil ?_
        exact W.joinAt1 hK19 (((r28 && r30) && (decide (((r20.1).length : Int) = 0))) && r32) (Option.some.inj hF18) (.cons rfl (.nil)) (.nil) (fun wz hw => hw.pick [] rfl)
      · replace hF18 := cneg hg20 hF18
        refine WL.gn (.pl rfl rfl rfl) hg20 rfl ?_
        refine WL.gn (.pl rfl rfl rfl) hg20 rfl ?_
        refine WL.q (Y.and (b := false) (.pl rfl) (fun h2 => (gabsA hg20 h2).elim)) rfl ?_
        refine WL.q (Y.move (.pl rfl)) rfl ?_
        refine WL.g (.pl rfl rfl rfl) (fun hg => Y.move (.pl rfl)) rfl ?_
        refine WL.g (.pl rfl rfl rfl) (fun hg => Y.len Try.underlying45 (.gd (hg) rfl)) rfl ?_
        refine WL.g (.pl rfl rfl rfl) (fun hg => Y.eql (.gd (hg) rfl) (.pl rfl)) rfl ?_
        refine WL.q (Y.and (.pl rfl) (fun h2 => .gd (eqt h2) rfl)) rfl ?_
        refine WL.q (Y.move (.pl rfl)) rfl ?_
        refine WL.g (.pl rfl rfl rfl) (fun hg => Y.move (.pl rfl)) rfl ?_
        refine WL.g (.pl rfl rfl rfl) (fun hg => Y.move (.pl rfl)) rfl ?_
        obtain ⟨hk33, hF18⟩ := ckh hF18
        refine WL.g (.pl rfl rfl rfl) (fun hg => Y.sliceR2 Try.underlying22 cells39 (i := 4) rfl (.gd (hg) rfl) rfl (.pl rfl) (.pl rfl) (gor hg hk33)) rfl ?_
        obtain ⟨r34, hr34, hF18⟩ := bnd hF18
        refine WL.gP (.pl rfl rfl rfl) isGo42 (fun hg => (.cons (.gd (hg) rfl) (.cons (.gd (hg) rfl) (.nil)))) rfl (fun hg wz hw => slices_Equal_api_Event_api_Event_ok (gpos hg hr34) wz (SlIn.ofRow lenEvent hw (i := 1) rfl) (SlIn.sub (SlIn.ofRow (enc := encEvent) (sz := 4) lenEvent hw (i := 4) rfl) (slB_nat (gor hg hk33)))) ?_
        refine WL.q (Y.and (.pl rfl) (fun h2 => .gd (eqt h2) rfl)) rfl ?_
        refine WL.q (Y.assign (.pl rfl)) rfl ?_
        refine WL.nil ?_
        exact W.joinAt1 hK19 (((r28 && false) && (decide (((r20.1).length : Int) = 0))) && r34) (Option.some.inj hF18) (.cons rfl (.nil)) (.nil) (fun wz hw => hw.pick [] rfl)
    · -- behind
      rintro v26 rfl
      obtain rfl := Option.some.inj hF
      refine W.retV (fn := Try.f39) (vs := [.bool v26]) Try.results39 ⟨.tmp rfl, trivial⟩ (fun _ _ h => h) (fun wz hw => ?_)
      exact hR _ _ ⟨rfl, (hw.pick [] rfl)⟩

def slices_Index_int_int_L3 (N : Nat) (s1 : (List Int)) (v6 : Int) : Int → Option (Int ⊕ (Unit ⊕ Int))
  | v7 =>
    cond (decide (v7 < ((s1).length : Int)))
      (bd (ix s1 v7) fun (x8 : Int) =>
      cond (decide (v6 = x8))
        (some (.inr (.inr v7)))
        (ck (ok64 (v7 + 1)) <|
        some (.inl (v7 + 1))))
      (some (.inr (.inl ())))

def slices_Index_int_int (N : Nat) (s1 : (List Int)) (v6 : Int) : Option Int :=
  bd (α := (Unit ⊕ Int)) (iter (slices_Index_int_int_L3 N s1 v6) N 0) <|
  Sum.elim (fun _ => 
    some (-1)) (fun p => some p)

theorem slices_Index_int_int_ok {N : Nat} {s1 : (List Int)} {v6 : Int} {res : Int} (hF : slices_Index_int_int N s1 v6 = some res) (w : World) {v5 : Value} (hs4 : SlIn (eI .i64) 1 w v5 s1) :
    Pure Try.prog 71 [v5, .int .i64 v6] w (.int .i64 res) := by
  obtain ⟨A2, c3, rfl, hcc3, hs4⟩ := hs4.form
  refine W.enter (n := 19) Try.func71 rfl rfl Sub.refl (by simp) (St.start w) fun R hR => ?_
  unfold slices_Index_int_int at hF
  -- region 0: slices.go:96
  refine W.seqR fun Q1 hQ1 => ?_
  refine WL.q (Y.assign (.pl rfl)) rfl ?_
  refine WL.next hQ1 (.cons (i := 0) rfl (.cons (i := 1) rfl (.nil))) ?_
  obtain ⟨o2, hF2, hF⟩ := bnd hF
  refine W.join0 (Em := []) (M := []) (I := (.inl ()) = o2) (.nil) (fun K3 hK3 => ?_) ?_
  · -- up to
    -- region 1: slices.go:97
    refine W.seqR fun Q4 hQ4 => ?_
    refine WL.q (Y.move (.pl rfl)) rfl ?_
    refine WL.q (Y.len Try.underlying45 (.pl rfl)) rfl ?_
    refine WL.q (Y.move (.pl rfl)) rfl ?_
    refine WL.next hQ4 (.cons (i := 0) rfl (.cons (i := 1) rfl (.cons (i := 7) rfl (.cons (i := 8) rfl (.nil))))) ?_
    refine W.block ?_
    refine W.loop1 (Em := fun (v7 : Int) => [(8, .int .i64 v7)]) (M := fun v7 => []) (I := fun v7 k5 => iter (slices_Index_int_int_L3 N s1 v6) k5 v7 = some o2) 0 N (hF2) (.cons rfl (.nil)) (.cons (i := 0) rfl (.cons (i := 1) rfl (.cons (i := 7) rfl (.nil)))) (fun wz hw => hw.pick [] rfl) (fun v7 k5 hI K6 hK6 => ?_)
    obtain ⟨k5, t5, rfl, hF5, hN5⟩ := iter_step hI
    -- region 2: slices.go:97
    refine W.seqR fun Q7 hQ7 => ?_
    refine WL.q (Y.lss (.pl rfl) (.pl rfl)) rfl ?_
    refine WL.next hQ7 (.cons (i := 0) rfl (.cons (i := 1) rfl (.cons (i := 7) rfl (.cons (i := 8) rfl (.cons (i := 9) rfl (.nil)))))) ?_
    refine W.seq fun K8 hK8 => ?_
    refine W.cond (.pl rfl) (fun hC9 => ?_) (fun hC9 => ?_)
    · replace hF5 := cpos hC9 hF5
      refine W.skip ?_
      refine W.go hK8 (.cons (i := 0) rfl (.cons (i := 1) rfl (.cons (i := 7) rfl (.cons (i := 8) rfl (.nil))))) ?_
      refine W.seq fun K10 hK10 => ?_
      refine W.block ?_
      -- region 3: slices.go:97
      refine W.seqR fun Q11 hQ11 => ?_
      refine WL.q (Y.move (.pl rfl)) rfl ?_
      refine WL.q (Y.assign (.pl rfl)) rfl ?_
      refine WL.next hQ11 (.cons (i := 0) rfl (.cons (i := 1) rfl (.cons (i := 5) rfl (.cons (i := 7) rfl (.cons (i := 8) rfl (.nil)))))) ?_
      -- region 4: slices.go:98
      refine W.seqR fun Q12 hQ12 => ?_
      refine WL.q (Y.move (.pl rfl)) rfl ?_
      refine WL.q (Y.move (.pl rfl)) rfl ?_
      refine WL.q (Y.move (.pl rfl)) rfl ?_
      obtain ⟨x8, hx8, hF5⟩ := bnd hF5
      refine WL.q (Y.slEl Try.underlying45 cells3 hs4 (.pl rfl) (.pl rfl) (ix_lt (hx8))) rfl ?_
      refine WL.q (Y.loadS (enc := (eI .i64)) (v := .int .i64 x8) (j := 0) Try.underlying3 rfl hs4 (.pl rfl) (hx8) rfl rfl) rfl ?_
      refine WL.q (Y.eql (.pl rfl) (.pl rfl)) rfl ?_
      refine WL.next hQ12 (.cons (i := 0) rfl (.cons (i := 1) rfl (.cons (i := 5) rfl (.cons (i := 7) rfl (.cons (i := 8) rfl (.cons (i := 16) rfl (.nil))))))) ?_
      refine W.cond (.pl rfl) (fun hC13 => ?_) (fun hC13 => ?_)
      · replace hF5 := cpos hC13 hF5
        -- region 5: slices.go:99
        refine W.seqR fun Q14 hQ14 => ?_
        refine WL.q (Y.move (.pl rfl)) rfl ?_
        refine WL.q (Y.assign (.pl rfl)) rfl ?_
        refine WL.next hQ14 (.cons (i := 4) rfl (.nil)) ?_
        obtain rfl := Option.some.inj hF5
        obtain rfl := einr hN5
        obtain rfl := Option.some.inj hF
        refine W.retV (fn := Try.f71) (vs := [.int .i64 v7]) Try.results71 ⟨.tmp rfl, trivial⟩ (fun _ _ h => h) (fun wz hw => ?_)
        exact hR _ _ ⟨rfl, (hw.pick [] rfl)⟩
      · replace hF5 := cneg hC13 hF5
        refine W.skip ?_
        refine W.go hK10 (.cons (i := 0) rfl (.cons (i := 1) rfl (.cons (i := 7) rfl (.cons (i := 8) rfl (.nil))))) ?_
        -- region 6: slices.go:97
        refine W.reg ?_
        obtain ⟨hk9, hF5⟩ := ckh hF5
        refine WL.q (Y.add (.pl rfl) (.pl rfl) (ok64_lt (hk9))) rfl ?_
        refine WL.q (Y.move (.pl rfl)) rfl ?_
        refine WL.nil ?_
        obtain rfl := Option.some.inj hF5
        exact W.again1 hK6 (v7 + 1) k5 hN5 (Nat.lt_succ_self _) (.cons rfl (.nil)) (.cons (i := 0) rfl (.cons (i := 1) rfl (.cons (i := 7) rfl (.nil)))) (fun wz hw => hw.pick [] rfl)
    · replace hF5 := cneg hC9 hF5
      refine W.exit ?_
      obtain rfl := Option.some.inj hF5
      exact W.joinAt0 hK3  (einr hN5) (.nil) (.nil) (fun wz hw => hw.pick [] rfl)
  · -- behind
    rintro  rfl
    -- region 7: slices.go:102
    refine W.seqR fun Q16 hQ16 => ?_
    refine WL.q (Y.assign (.pl rfl)) rfl ?_
    refine WL.next hQ16 (.cons (i := 4) rfl (.nil)) ?_
    obtain rfl := Option.some.inj hF
    refine W.retV (fn := Try.f71) (vs := [.int .i64 (-1)]) Try.results71 ⟨.tmp rfl, trivial⟩ (fun _ _ h => h) (fun wz hw => ?_)
    exact hR _ _ ⟨rfl, (hw.pick [] rfl)⟩

def slices_Contains_int_int (N : Nat) (s1 : (List Int)) (v6 : Int) : Option Bool :=
  bd (slices_Index_int_int N s1 v6) fun (r7 : Int) =>
  some (decide (0 ≤ r7))

theorem slices_Contains_int_int_ok {N : Nat} {s1 : (List Int)} {v6 : Int} {res : Bool} (hF : slices_Contains_int_int N s1 v6 = some res) (w : World) {v5 : Value} (hs4 : SlIn (eI .i64) 1 w v5 s1) :
    Pure Try.prog 35 [v5, .int .i64 v6] w (.bool res) := by
  obtain ⟨A2, c3, rfl, hcc3, hs4⟩ := hs4.form
  refine W.enter (n := 9) Try.func35 rfl rfl Sub.refl (by simp) (St.start w) fun R hR => ?_
  unfold slices_Contains_int_int at hF
  -- region 0: slices.go:117
  refine W.seqR fun Q1 hQ1 => ?_
  refine WL.q (Y.assign (.pl rfl)) rfl ?_
  refine WL.next hQ1 (.cons (i := 0) rfl (.cons (i := 1) rfl (.nil))) ?_
  -- region 1: slices.go:118
  refine W.seqR fun Q2 hQ2 => ?_
  refine WL.q (Y.move (.pl rfl)) rfl ?_
  refine WL.q (Y.move (.pl rfl)) rfl ?_
  obtain ⟨r7, hr7, hF⟩ := bnd hF
  refine WL.step (WO.callP isGo71 (.cons (.pl rfl) (.cons (.pl rfl) (.nil))) rfl (fun wz hw => slices_Index_int_int_ok (hr7) wz (hs4.mono hw)) ?_)
  refine WL.q (Y.geq (.pl rfl) (.pl rfl)) rfl ?_
  refine WL.q (Y.assign (.pl rfl)) rfl ?_
  refine WL.next hQ2 (.cons (i := 4) rfl (.nil)) ?_
  obtain rfl := Option.some.inj hF
  refine W.retV (fn := Try.f35) (vs := [.bool (decide (0 ≤ r7))]) Try.results35 ⟨.tmp rfl, trivial⟩ (fun _ _ h => h) (fun wz hw => ?_)
  exact hR _ _ ⟨rfl, (hw.pick [] rfl)⟩

def alibkeep_BagsOwn (N : Nat) (l1 : (List Event)) (n6 : Int) : Option Bool :=
  bd (bags_Check N l1) fun (r7 : ((List Int) × Int)) =>
  bd (bags_Part N l1 n6) fun (r10 : ((List Event) × Int)) =>
  bd (α := Bool) (bd (alibkeep_bagsLives N) fun (r14 : Bool) =>
    cond ((!r14) == false)
      (bd (alibkeep_ok N ([r7.2, r10.2] : List Int)) fun (r16 : Bool) =>
      some ((!r14) || (!r16)))
      (some ((!r14) || false))) <|
  fun (v13 : Bool) => 
    cond v13
      (bd (alibkeep_bagsLives N) fun (r17 : Bool) =>
      some r17)
      (bd (bags_Check N r10.1) fun (r18 : ((List Int) × Int)) =>
      bd (bags_Part N r10.1 n6) fun (r21 : ((List Event) × Int)) =>
      bd (alibkeep_ok N ([r18.2, r21.2] : List Int)) fun (r25 : Bool) =>
      bd ((cond ((!r25) == false) (slices_Equal_api_Event_api_Event N r21.1 r10.1) (some false))) fun (r26 : Bool) =>
      cond ((!r25) || (!r26))
        (some false)
        (bd (slices_Contains_int_int N r7.1 n6) fun (r27 : Bool) =>
        cond r27
          (bd (slices_Equal_int_int N r18.1 ([n6] : List Int)) fun (r29 : Bool) =>
          some r29)
          (some (decide (((r18.1).length : Int) = 0)))))

theorem alibkeep_BagsOwn_ok {N : Nat} {l1 : (List Event)} {n6 : Int} {res : Bool} (hF : alibkeep_BagsOwn N l1 n6 = some res) (w : World) {v5 : Value} (hs4 : SlIn encEvent 4 w v5 l1) :
    Pure Try.prog 13 [v5, .int .i64 n6] w (.bool res) := by
  obtain ⟨A2, c3, rfl, hcc3, hs4⟩ := hs4.form
  refine W.enter (n := 66) Try.func13 rfl rfl Sub.refl (by simp) (St.start w) fun R hR => ?_
  unfold alibkeep_BagsOwn at hF
  -- region 0: bags.go:34
  refine W.seqR fun Q1 hQ1 => ?_
  refine WL.q (Y.assign (.pl rfl)) rfl ?_
  refine WL.next hQ1 (.cons (i := 0) rfl (.cons (i := 1) rfl (.nil))) ?_
  -- region 1: bags.go:35
  refine W.seqR fun Q2 hQ2 => ?_
  refine WL.q (Y.move (.pl rfl)) rfl ?_
  obtain ⟨r7, hr7, hF⟩ := bnd hF
  refine WL.step (WO.callM isGo37 (.cons (.pl rfl) (.nil)) rfl (fun wz hw => bags_Check_ok (hr7) wz (hs4.mono hw)) ?_)
  rintro ⟨A8, c9⟩ -
  refine WL.q (Y.move (.pl rfl)) rfl ?_
  refine WL.q (Y.extract (.pl rfl) rfl) rfl ?_
  refine WL.q (Y.extract (.pl rfl) rfl) rfl ?_
  refine WL.q (Y.assign (.pl rfl)) rfl ?_
  refine WL.q (Y.assign (.pl rfl)) rfl ?_
  refine WL.next hQ2 (.cons (i := 0) rfl (.cons (i := 1) rfl (.cons (i := 5) rfl (.cons (i := 6) rfl (.nil))))) ?_
  -- region 2: bags.go:36
  refine W.seqR fun Q3 hQ3 => ?_
  refine WL.q (Y.move (.pl rfl)) rfl ?_
  refine WL.q (Y.move (.pl rfl)) rfl ?_
  obtain ⟨r10, hr10, hF⟩ := bnd hF
  refine WL.step (WO.callM isGo41 (.cons (.pl rfl) (.cons (.pl rfl) (.nil))) rfl (fun wz hw => bags_Part_ok (hr10) wz (hs4.mono hw)) ?_)
  rintro ⟨A11, c12⟩ -
  refine WL.q (Y.move (.pl rfl)) rfl ?_
  refine WL.q (Y.extract (.pl rfl) rfl) rfl ?_
  refine WL.q (Y.extract (.pl rfl) rfl) rfl ?_
  refine WL.q (Y.assign (.pl rfl)) rfl ?_
  refine WL.q (Y.assign (.pl rfl)) rfl ?_
  refine WL.next hQ3 (.cons (i := 1) rfl (.cons (i := 5) rfl (.cons (i := 6) rfl (.cons (i := 7) rfl (.cons (i := 8) rfl (.nil)))))) ?_
  refine W.seq fun K4 hK4 => ?_
  obtain ⟨o5, hF5, hF⟩ := bnd hF
  refine W.join1 (Em := fun (v13 : Bool) => [(32, .bool v13)]) (M := fun v13 => [cR (eI .i64) 1 A8 c9 3 r7.1, cR encEvent 4 A11 c12 39 r10.1]) (I := fun v13 => v13 = o5) (.cons (i := 1) rfl (.cons (i := 5) rfl (.cons (i := 7) rfl (.nil)))) (fun K6 hK6 => ?_) ?_
  · -- up to
    -- region 3: bags.go:37
    refine W.reg ?_
    obtain ⟨r14, hr14, hF5⟩ := bnd hF5
    refine WL.step (WO.callP isGo39 (.nil) rfl (fun wz hw => alibkeep_bagsLives_ok (hr14) wz ) ?_)
    refine WL.q (Y.not (.pl rfl)) rfl ?_
    refine WL.q (Y.move (.pl rfl)) rfl ?_
    refine WL.g (.pl rfl rfl rfl) (fun hg => Y.move (.pl rfl)) rfl ?_
    refine WL.g (.pl rfl rfl rfl) (fun hg => Y.move (.pl rfl)) rfl ?_
    refine bsplit ((!r14) == false) (fun hg7 => ?_) (fun hg7 => ?_)
    · replace hF5 := cpos hg7 hF5
      refine WL.gd (.pl rfl rfl rfl) (hg7) ?_
      refine WL.step (WO.bsliceC (enc := (eI .i64)) (ys := ([r7.2, r10.2] : List Int)) Try.underlying106 bz24 (.cons (.gd (hg7) rfl) (.cons (.gd (hg7) rfl) (.nil))) rfl (fun _ => rfl) rfl rfl (by decide) (by decide) rfl fun b15 => ?_)
      refine WL.gd (.pl rfl rfl rfl) (hg7) ?_
      obtain ⟨r16, hr16, hF5⟩ := bnd hF5
      refine WL.step (WO.callP isGo28 (.cons (.pl rfl) (.nil)) rfl (fun wz hw => alibkeep_ok_ok (hr16) wz (SlIn.ofRow (fun _ => rfl) hw (i := 0) rfl)) ?_)
      refine WL.gd (.pl rfl rfl rfl) (hg7) ?_
      refine WL.q (Y.not (.pl rfl)) rfl ?_
      refine WL.q (Y.or (.pl rfl) (fun _ => .pl rfl)) rfl ?_
      refine WL.nil ?_
      exact W.joinAt1 hK6 ((!r14) || (!r16)) (Option.some.inj hF5) (.cons rfl (.nil)) (.cons (i := 1) rfl (.cons (i := 5) rfl (.cons (i := 7) rfl (.nil)))) (fun wz hw => hw.pick [2, 1] rfl)
    · replace hF5 := cneg hg7 hF5
      refine WL.gn (.pl rfl rfl rfl) hg7 rfl ?_
      refine WL.gn (.pl rfl rfl rfl) hg7 rfl ?_
      refine WL.gn (.pl rfl rfl rfl) hg7 rfl ?_
      refine WL.q (Y.or (b := false) (.pl rfl) (fun h2 => (gabsO hg7 h2).elim)) rfl ?_
      refine WL.nil ?_
      exact W.joinAt1 hK6 ((!r14) || false) (Option.some.inj hF5) (.cons rfl (.nil)) (.cons (i := 1) rfl (.cons (i := 5) rfl (.cons (i := 7) rfl (.nil)))) (fun wz hw => hw.pick [1, 0] rfl)
  · -- behind
    rintro v13 rfl
    refine W.cond (.pl rfl) (fun hC8 => ?_) (fun hC8 => ?_)
    · replace hF := cpos hC8 hF
      -- region 4: bags.go:38
      refine W.seqR fun Q9 hQ9 => ?_
      obtain ⟨r17, hr17, hF⟩ := bnd hF
      refine WL.step (WO.callP isGo39 (.nil) rfl (fun wz hw => alibkeep_bagsLives_ok (hr17) wz ) ?_)
      refine WL.q (Y.assign (.pl rfl)) rfl ?_
      refine WL.next hQ9 (.cons (i := 4) rfl (.nil)) ?_
      obtain rfl := Option.some.inj hF
      refine W.retV (fn := Try.f13) (vs := [.bool r17]) Try.results13 ⟨.tmp rfl, trivial⟩ (fun _ _ h => h) (fun wz hw => ?_)
      exact hR _ _ ⟨rfl, (hw.pick [] rfl)⟩
    · replace hF := cneg hC8 hF
      refine W.skip ?_
      refine W.go hK4 (.cons (i := 1) rfl (.cons (i := 5) rfl (.cons (i := 7) rfl (.nil)))) ?_
      -- region 5: bags.go:40
      refine W.seqR fun Q10 hQ10 => ?_
      refine WL.q (Y.move (.pl rfl)) rfl ?_
      obtain ⟨r18, hr18, hF⟩ := bnd hF
      refine WL.step (WO.callM isGo37 (.cons (.pl rfl) (.nil)) rfl (fun wz hw => bags_Check_ok (hr18) wz (SlIn.ofRow lenEvent hw (i := 1) rfl)) ?_)
      rintro ⟨A19, c20⟩ -
      refine WL.q (Y.move (.pl rfl)) rfl ?_
      refine WL.q (Y.extract (.pl rfl) rfl) rfl ?_
      refine WL.q (Y.extract (.pl rfl) rfl) rfl ?_
      refine WL.q (Y.assign (.pl rfl)) rfl ?_
      refine WL.q (Y.assign (.pl rfl)) rfl ?_
      refine WL.next hQ10 (.cons (i := 1) rfl (.cons (i := 5) rfl (.cons (i := 7) rfl (.cons (i := 9) rfl (.cons (i := 10) rfl (.nil)))))) ?_
      -- region 6: bags.go:41
      refine W.seqR fun Q11 hQ11 => ?_
      refine WL.q (Y.move (.pl rfl)) rfl ?_
      refine WL.q (Y.move (.pl rfl)) rfl ?_
      obtain ⟨r21, hr21, hF⟩ := bnd hF
      refine WL.step (WO.callM isGo41 (.cons (.pl rfl) (.cons (.pl rfl) (.nil))) rfl (fun wz hw => bags_Part_ok (hr21) wz (SlIn.ofRow lenEvent hw (i := 2) rfl)) ?_)
      rintro ⟨A22, c23⟩ -
      refine WL.q (Y.move (.pl rfl)) rfl ?_
      refine WL.q (Y.extract (.pl rfl) rfl) rfl ?_
      refine WL.q (Y.extract (.pl rfl) rfl) rfl ?_
      refine WL.q (Y.assign (.pl rfl)) rfl ?_
      refine WL.q (Y.assign (.pl rfl)) rfl ?_
      refine WL.next hQ11 (.cons (i := 1) rfl (.cons (i := 5) rfl (.cons (i := 7) rfl (.cons (i := 9) rfl (.cons (i := 10) rfl (.cons (i := 11) rfl (.cons (i := 12) rfl (.nil)))))))) ?_
      refine W.seq fun K12 hK12 => ?_
      -- region 7: bags.go:42
      refine W.seqR fun Q13 hQ13 => ?_
      refine WL.q (Y.move (.pl rfl)) rfl ?_
      refine WL.q (Y.move (.pl rfl)) rfl ?_
      refine WL.step (WO.bsliceC (enc := (eI .i64)) (ys := ([r18.2, r21.2] : List Int)) Try.underlying106 bz24 (.cons (.pl rfl) (.cons (.pl rfl) (.nil))) rfl (fun _ => rfl) rfl rfl (by decide) (by decide) rfl fun b24 => ?_)
      obtain ⟨r25, hr25, hF⟩ := bnd hF
      refine WL.step (WO.callP isGo28 (.cons (.pl rfl) (.nil)) rfl (fun wz hw => alibkeep_ok_ok (hr25) wz (SlIn.ofRow (fun _ => rfl) hw (i := 0) rfl)) ?_)
      refine WL.q (Y.not (.pl rfl)) rfl ?_
      refine WL.q (Y.move (.pl rfl)) rfl ?_
      refine WL.g (.pl rfl rfl rfl) (fun hg => Y.move (.pl rfl)) rfl ?_
      refine WL.g (.pl rfl rfl rfl) (fun hg => Y.move (.pl rfl)) rfl ?_
      obtain ⟨r26, hr26, hF⟩ := bnd hF
      refine WL.gP (.pl rfl rfl rfl) isGo42 (fun hg => (.cons (.gd (hg) rfl) (.cons (.gd (hg) rfl) (.nil)))) rfl (fun hg wz hw => slices_Equal_api_Event_api_Event_ok (gpos hg hr26) wz (SlIn.ofRow lenEvent hw (i := 1) rfl) (SlIn.ofRow lenEvent hw (i := 4) rfl)) ?_
      refine WL.g (.pl rfl rfl rfl) (fun hg => Y.not (.gd (hg) rfl)) rfl ?_
      refine WL.q (Y.or (.pl rfl) (fun h2 => .gd (eqf h2) rfl)) rfl ?_
      refine WL.next hQ13 (.cons (i := 1) rfl (.cons (i := 5) rfl (.cons (i := 9) rfl (.cons (i := 55) rfl (.nil))))) ?_
      refine W.cond (.pl rfl) (fun hC14 => ?_) (fun hC14 => ?_)
      · replace hF := cpos hC14 hF
        -- region 8: bags.go:43
        refine W.seqR fun Q15 hQ15 => ?_
        refine WL.q (Y.assign (.pl rfl)) rfl ?_
        refine WL.next hQ15 (.cons (i := 4) rfl (.nil)) ?_
        obtain rfl := Option.some.inj hF
        refine W.retV (fn := Try.f13) (vs := [.bool false]) Try.results13 ⟨.tmp rfl, trivial⟩ (fun _ _ h => h) (fun wz hw => ?_)
        exact hR _ _ ⟨rfl, (hw.pick [] rfl)⟩
      · replace hF := cneg hC14 hF
        refine W.skip ?_
        refine W.go hK12 (.cons (i := 1) rfl (.cons (i := 5) rfl (.cons (i := 9) rfl (.nil)))) ?_
        refine W.seq fun K16 hK16 => ?_
        -- region 9: bags.go:45
        refine W.seqR fun Q17 hQ17 => ?_
        refine WL.q (Y.move (.pl rfl)) rfl ?_
        refine WL.q (Y.move (.pl rfl)) rfl ?_
        obtain ⟨r27, hr27, hF⟩ := bnd hF
        refine WL.step (WO.callP isGo35 (.cons (.pl rfl) (.cons (.pl rfl) (.nil))) rfl (fun wz hw => slices_Contains_int_int_ok (hr27) wz (SlIn.ofRow (fun _ => rfl) hw (i := 3) rfl)) ?_)
        refine WL.next hQ17 (.cons (i := 1) rfl (.cons (i := 9) rfl (.cons (i := 58) rfl (.nil)))) ?_
        refine W.cond (.pl rfl) (fun hC18 => ?_) (fun hC18 => ?_)
        · replace hF := cpos hC18 hF
          -- region 10: bags.go:46
          refine W.seqR fun Q19 hQ19 => ?_
          refine WL.q (Y.move (.pl rfl)) rfl ?_
          refine WL.q (Y.move (.pl rfl)) rfl ?_
          refine WL.step (WO.bsliceC (enc := (eI .i64)) (ys := ([n6] : List Int)) Try.underlying45 bz3 (.cons (.pl rfl) (.nil)) rfl (fun _ => rfl) rfl rfl (by decide) (by decide) rfl fun b28 => ?_)
          obtain ⟨r29, hr29, hF⟩ := bnd hF
          refine WL.step (WO.callP isGo40 (.cons (.pl rfl) (.cons (.pl rfl) (.nil))) rfl (fun wz hw => slices_Equal_int_int_ok (hr29) wz (SlIn.ofRow (fun _ => rfl) hw (i := 3) rfl) (SlIn.ofRow (fun _ => rfl) hw (i := 0) rfl)) ?_)
          refine WL.q (Y.assign (.pl rfl)) rfl ?_
          refine WL.next hQ19 (.cons (i := 4) rfl (.nil)) ?_
          obtain rfl := Option.some.inj hF
          refine W.retV (fn := Try.f13) (vs := [.bool r29]) Try.results13 ⟨.tmp rfl, trivial⟩ (fun _ _ h => h) (fun wz hw => ?_)
          exact hR _ _ ⟨rfl, (hw.pick [] rfl)⟩
        · replace hF := cneg hC18 hF
          refine W.skip ?_
          refine W.go hK16 (.cons (i := 9) rfl (.nil)) ?_
          -- region 11: bags.go:48
          refine W.seqR fun Q20 hQ20 => ?_
          refine WL.q (Y.move (.pl rfl)) rfl ?_
          refine WL.q (Y.len Try.underlying45 (.pl rfl)) rfl ?_
          refine WL.q (Y.eql (.pl rfl) (.pl rfl)) rfl ?_
          refine WL.q (Y.assign (.pl rfl)) rfl ?_
          refine WL.next hQ20 (.cons (i := 4) rfl (.nil)) ?_
          obtain rfl := Option.some.inj hF
          refine W.retV (fn := Try.f13) (vs := [.bool (decide (((r18.1).length : Int) = 0))]) Try.results13 ⟨.tmp rfl, trivial⟩ (fun _ _ h => h) (fun wz hw => ?_)
          exact hR _ _ ⟨rfl, (hw.pick [] rfl)⟩

/-- slices.Clone -/
theorem slices_Clone_api_Event_api_Event_ok {xs : List Event} (hb : limB 32 xs.length = true) (w : World) {v : Value} (h : SlIn encEvent 4 w v xs) :
    Made Try.prog 22 [v] w (fun g : Option Addr × Nat => .slice g.1 xs.length g.2) (fun g => [cR encEvent 4 g.1 g.2 39 xs]) (fun _ => True) := by
  obtain ⟨A1, c1, rfl, hc1, hs⟩ := h.form
  refine W.enter (n := 8) Try.func22 rfl rfl Sub.refl (by simp) (St.start w) fun R hR => ?_
  refine W.seqR fun Q1 hQ1 => ?_
  refine WL.q (Y.assign (.pl rfl)) rfl ?_
  refine WL.next hQ1 (.cons (i := 0) rfl (.nil)) ?_
  refine W.seq fun K2 hK2 => ?_
  refine W.seqR fun Q3 hQ3 => ?_
  refine WL.q (Y.move (.pl rfl)) rfl ?_
  refine WL.q (Y.eqNil Try.underlying22 (.pl rfl)) rfl ?_
  refine WL.next hQ3 (.cons (i := 0) rfl (.cons (i := 4) rfl (.nil))) ?_
  refine W.cond (.pl rfl) (fun hC => ?_) (fun hC => ?_)
  · refine W.seqR fun Q4 hQ4 => ?_
    refine WL.q (Y.assign (.pl rfl)) rfl ?_
    refine WL.next hQ4 (.cons (i := 2) rfl (.nil)) ?_
    have hx : xs = [] := by
      cases xs with
      | nil => rfl
      | cons a r =>
        have := (hs.okA' (idx := 0) ⟨Int.le_refl _, by simp⟩).1
        rw [Option.isNone_iff_eq_none] at hC
        rw [hC] at this; cases this
    subst hx
    refine W.retV (fn := Try.f22) (vs := [.slice none 0 0]) Try.results22 ⟨.tmp rfl, trivial⟩ (fun _ _ h => h) (fun w hw => ?_)
    exact hR _ _ ⟨(none, 0), trivial, rfl, St.nilR hw encEvent 4 39⟩
  · refine W.skip ?_
    refine W.go hK2 (.cons (i := 0) rfl (.nil)) ?_
    obtain ⟨a1, rfl⟩ : ∃ a, A1 = some a := by cases A1 with
      | none => cases hC
      | some a => exact ⟨a, rfl⟩
    refine W.seqR fun Q5 hQ5 => ?_
    refine WL.step (WO.bsliceC (enc := encEvent) (ys := []) Try.underlying22 bz39 (.nil) rfl lenEvent rfl rfl (by decide) (by decide) rfl fun b => ?_)
    refine WL.q (Y.move (.pl rfl)) rfl ?_
    refine WL.step (WO.appendS (enc := encEvent) (ys := xs) (xs := []) Try.underlying22 ap39 lenEvent oneEvent (.pl rfl) rfl (.pl rfl) (i := 0) rfl (fun w hw => hs.mono hw) (by simpa using hb) rfl fun A c => ?_)
    refine WL.q (Y.assign (.pl rfl)) rfl ?_
    refine WL.next hQ5 (.cons (i := 2) rfl (.nil)) ?_
    refine W.retV (fn := Try.f22) (vs := [.slice A xs.length c]) Try.results22 ⟨.tmp rfl, trivial⟩ (fun _ _ h => h) (fun w hw => ?_)
    exact hR _ _ ⟨(A, c), trivial, rfl, hw⟩

def alibkeep_BagsNames_L5 (N : Nat) (l1 : (List Event)) (more6 : Int) : ((List Event) × Int) → Option (((List Event) × Int) ⊕ (List Event))
  | (m16, v17) =>
    cond (decide (v17 < ((l1).length : Int)))
      (bd (ix m16 v17) fun (x18 : Event) =>
      cond (!(decide (x18.kind = 0)))
        (ck (ok64 (x18.value + more6)) <|
        ck (ok64 (v17 + 1)) <|
        some (.inl ((m16.set v17.toNat (Event.mk x18.who x18.thing x18.kind (x18.value + more6))), (v17 + 1))))
        (ck (ok64 (v17 + 1)) <|
        some (.inl (m16, (v17 + 1)))))
      (some (.inr m16))

def alibkeep_BagsNames_L7 (N : Nat) (r7 : ((List Int) × Int)) (more6 : Int) : ((List Int) × Int) → Option (((List Int) × Int) ⊕ (List Int))
  | (b26, v27) =>
    cond (decide (v27 < ((r7.1).length : Int)))
      (bd (ix b26 v27) fun (x28 : Int) =>
      ck (ok64 (x28 + more6)) <|
      ck (ok64 (v27 + 1)) <|
      some (.inl ((b26.set v27.toNat (x28 + more6)), (v27 + 1))))
      (some (.inr b26))

def alibkeep_BagsNames (N : Nat) (l1 : (List Event)) (more6 : Int) : Option Bool :=
  bd (bags_Check N l1) fun (r7 : ((List Int) × Int)) =>
  bd (alibkeep_bagsLives N) fun (r10 : Bool) =>
  cond ((((!r10) || (!(decide (r7.2 = 0)))) || (decide (more6 < 0))) || (decide (1000 < more6)))
    (bd (alibkeep_bagsLives N) fun (r11 : Bool) =>
    some r11)
    (ck (limB 32 (l1).length) <|
    bd (α := (List Event)) (iter (alibkeep_BagsNames_L5 N l1 more6) N (l1, 0)) <|
    fun (m15 : (List Event)) => 
      bd (bags_Check N m15) fun (r22 : ((List Int) × Int)) =>
      bd (α := (List Int)) (iter (alibkeep_BagsNames_L7 N r7 more6) N (r7.1, 0)) <|
      fun (b25 : (List Int)) => 
        bd ((cond ((!(decide (r22.2 = 0))) == false) (slices_Equal_int_int N b25 r22.1) (some false))) fun (r31 : Bool) =>
        some ((!(decide (r22.2 = 0))) || r31))

theorem alibkeep_BagsNames_ok {N : Nat} {l1 : (List Event)} {more6 : Int} {res : Bool} (hF : alibkeep_BagsNames N l1 more6 = some res) (w : World) {v5 : Value} (hs4 : SlIn encEvent 4 w v5 l1) :
    Pure Try.prog 12 [v5, .int .i64 more6] w (.bool res) := by
  obtain ⟨A2, c3, rfl, hcc3, hs4⟩ := hs4.form
  refine W.enter (n := 80) Try.func12 rfl rfl Sub.refl (by simp) (St.start w) fun R hR => ?_
  unfold alibkeep_BagsNames at hF
  -- region 0: bags.go:52
  refine W.seqR fun Q1 hQ1 => ?_
  refine WL.q (Y.assign (.pl rfl)) rfl ?_
  refine WL.next hQ1 (.cons (i := 0) rfl (.cons (i := 1) rfl (.nil))) ?_
  -- region 1: bags.go:53
  refine W.seqR fun Q2 hQ2 => ?_
  refine WL.q (Y.move (.pl rfl)) rfl ?_
  obtain ⟨r7, hr7, hF⟩ := bnd hF
  refine WL.step (WO.callM isGo37 (.cons (.pl rfl) (.nil)) rfl (fun wz hw => bags_Check_ok (hr7) wz (hs4.mono hw)) ?_)
  rintro ⟨A8, c9⟩ -
  refine WL.q (Y.move (.pl rfl)) rfl ?_
  refine WL.q (Y.extract (.pl rfl) rfl) rfl ?_
  refine WL.q (Y.extract (.pl rfl) rfl) rfl ?_
  refine WL.q (Y.assign (.pl rfl)) rfl ?_
  refine WL.q (Y.assign (.pl rfl)) rfl ?_
  refine WL.next hQ2 (.cons (i := 0) rfl (.cons (i := 1) rfl (.cons (i := 5) rfl (.cons (i := 6) rfl (.nil))))) ?_
  refine W.seq fun K3 hK3 => ?_
  -- region 2: bags.go:54
  refine W.seqR fun Q4 hQ4 => ?_
  obtain ⟨r10, hr10, hF⟩ := bnd hF
  refine WL.step (WO.callP isGo39 (.nil) rfl (fun wz hw => alibkeep_bagsLives_ok (hr10) wz ) ?_)
  refine WL.q (Y.not (.pl rfl)) rfl ?_
  refine WL.q (Y.move (.pl rfl)) rfl ?_
  refine WL.g (.pl rfl rfl rfl) (fun hg => Y.move (.pl rfl)) rfl ?_
  refine WL.g (.pl rfl rfl rfl) (fun hg => Y.neq (.gd (hg) rfl) (.pl rfl)) rfl ?_
  refine WL.q (Y.or (.pl rfl) (fun h2 => .gd (eqf h2) rfl)) rfl ?_
  refine WL.q (Y.move (.pl rfl)) rfl ?_
  refine WL.g (.pl rfl rfl rfl) (fun hg => Y.move (.pl rfl)) rfl ?_
  refine WL.g (.pl rfl rfl rfl) (fun hg => Y.lss (.gd (hg) rfl) (.pl rfl)) rfl ?_
  refine WL.q (Y.or (.pl rfl) (fun h2 => .gd (eqf h2) rfl)) rfl ?_
  refine WL.q (Y.move (.pl rfl)) rfl ?_
  refine WL.g (.pl rfl rfl rfl) (fun hg => Y.move (.pl rfl)) rfl ?_
  refine WL.g (.pl rfl rfl rfl) (fun hg => Y.gtr (.gd (hg) rfl) (.pl rfl)) rfl ?_
  refine WL.q (Y.or (.pl rfl) (fun h2 => .gd (eqf h2) rfl)) rfl ?_
  refine WL.next hQ4 (.cons (i := 0) rfl (.cons (i := 1) rfl (.cons (i := 5) rfl (.cons (i := 30) rfl (.nil))))) ?_
  refine W.cond (.pl rfl) (fun hC5 => ?_) (fun hC5 => ?_)
  · replace hF := cpos hC5 hF
    -- region 3: bags.go:55
    refine W.seqR fun Q6 hQ6 => ?_
    obtain ⟨r11, hr11, hF⟩ := bnd hF
    refine WL.step (WO.callP isGo39 (.nil) rfl (fun wz hw => alibkeep_bagsLives_ok (hr11) wz ) ?_)
    refine WL.q (Y.assign (.pl rfl)) rfl ?_
    refine WL.next hQ6 (.cons (i := 4) rfl (.nil)) ?_
    obtain rfl := Option.some.inj hF
    refine W.retV (fn := Try.f12) (vs := [.bool r11]) Try.results12 ⟨.tmp rfl, trivial⟩ (fun _ _ h => h) (fun wz hw => ?_)
    exact hR _ _ ⟨rfl, (hw.pick [] rfl)⟩
  · replace hF := cneg hC5 hF
    refine W.skip ?_
    refine W.go hK3 (.cons (i := 0) rfl (.cons (i := 1) rfl (.cons (i := 5) rfl (.nil)))) ?_
    -- region 4: bags.go:57
    refine W.seqR fun Q7 hQ7 => ?_
    refine WL.q (Y.move (.pl rfl)) rfl ?_
    obtain ⟨hk12, hF⟩ := ckh hF
    refine WL.step (WO.callM isGo22 (.cons (.pl rfl) (.nil)) rfl (fun wz hw => slices_Clone_api_Event_api_Event_ok (hk12) wz (hs4.mono hw)) ?_)
    rintro ⟨A13, c14⟩ -
    refine WL.q (Y.assign (.pl rfl)) rfl ?_
    refine WL.next hQ7 (.cons (i := 1) rfl (.cons (i := 5) rfl (.cons (i := 7) rfl (.nil)))) ?_
    obtain ⟨o8, hF8, hF⟩ := bnd hF
    refine W.join1 (Em := fun (m15 : (List Event)) => [(7, .slice A13 (m15).length c14)]) (M := fun m15 => [cR (eI .i64) 1 A8 c9 3 r7.1, cR encEvent 4 A13 c14 39 m15]) (I := fun m15 => m15 = o8) (.cons (i := 1) rfl (.cons (i := 5) rfl (.nil))) (fun K9 hK9 => ?_) ?_
    · -- up to
      -- region 5: bags.go:58
      refine W.seqR fun Q10 hQ10 => ?_
      refine WL.q (Y.move (.pl rfl)) rfl ?_
      refine WL.q (Y.len Try.underlying22 (.pl rfl)) rfl ?_
      refine WL.q (Y.move (.pl rfl)) rfl ?_
      refine WL.next hQ10 (.cons (i := 1) rfl (.cons (i := 5) rfl (.cons (i := 7) rfl (.cons (i := 35) rfl (.cons (i := 36) rfl (.nil)))))) ?_
      refine W.block ?_
      refine W.loop2 (Em := fun (m16 : (List Event)) (v17 : Int) => [(7, .slice A13 (m16).length c14), (36, .int .i64 v17)]) (M := fun m16 v17 => [cR (eI .i64) 1 A8 c9 3 r7.1, cR encEvent 4 A13 c14 39 m16]) (I := fun m16 v17 k11 => iter (alibkeep_BagsNames_L5 N l1 more6) k11 (m16, v17) = some o8) l1 0 N (hF8) (.cons rfl (.cons rfl (.nil))) (.cons (i := 1) rfl (.cons (i := 5) rfl (.cons (i := 35) rfl (.nil)))) (fun wz hw => hw.pick [1, 0] rfl) (fun m16 v17 k11 hI K12 hK12 => ?_)
      obtain ⟨k11, t11, rfl, hF11, hN11⟩ := iter_step hI
      -- region 6: bags.go:58
      refine W.seqR fun Q13 hQ13 => ?_
      refine WL.q (Y.lss (.pl rfl) (.pl rfl)) rfl ?_
      refine WL.next hQ13 (.cons (i := 1) rfl (.cons (i := 5) rfl (.cons (i := 7) rfl (.cons (i := 35) rfl (.cons (i := 36) rfl (.cons (i := 37) rfl (.nil))))))) ?_
      refine W.seq fun K14 hK14 => ?_
      refine W.cond (.pl rfl) (fun hC15 => ?_) (fun hC15 => ?_)
      · replace hF11 := cpos hC15 hF11
        refine W.skip ?_
        refine W.go hK14 (.cons (i := 1) rfl (.cons (i := 5) rfl (.cons (i := 7) rfl (.cons (i := 35) rfl (.cons (i := 36) rfl (.nil)))))) ?_
        refine W.seq fun K16 hK16 => ?_
        refine W.block ?_
        -- region 7: bags.go:58
        refine W.seqR fun Q17 hQ17 => ?_
        refine WL.q (Y.move (.pl rfl)) rfl ?_
        refine WL.q (Y.assign (.pl rfl)) rfl ?_
        refine WL.next hQ17 (.cons (i := 1) rfl (.cons (i := 5) rfl (.cons (i := 7) rfl (.cons (i := 8) rfl (.cons (i := 35) rfl (.cons (i := 36) rfl (.nil))))))) ?_
        -- region 8: bags.go:59
        refine W.seqR fun Q18 hQ18 => ?_
        refine WL.q (Y.move (.pl rfl)) rfl ?_
        refine WL.q (Y.move (.pl rfl)) rfl ?_
        obtain ⟨x18, hx18, hF11⟩ := bnd hF11
        refine WL.q (Y.rowEl Try.underlying22 cells39 (i := 1) rfl (.pl rfl) rfl (.pl rfl) (ix_lt (hx18))) rfl ?_
        refine WL.q (Y.rowField (off := 2) (ft := 3) Try.underlying39 rfl cells3 (i' := 1) rfl (ix_lt (hx18)) (.pl rfl)) rfl ?_
        refine WL.q (Y.loadR (enc := encEvent) (v := .int .i64 x18.kind) (a := x18) (idx := v17) (j := 2) Try.underlying3 rfl lenEvent (i := 1) rfl (.pl rfl) (ix_get (hx18)) rfl rfl) rfl ?_
        refine WL.q (Y.neq (.pl rfl) (.pl rfl)) rfl ?_
        refine WL.next hQ18 (.cons (i := 1) rfl (.cons (i := 5) rfl (.cons (i := 7) rfl (.cons (i := 8) rfl (.cons (i := 35) rfl (.cons (i := 36) rfl (.cons (i := 44) rfl (.nil)))))))) ?_
        refine W.cond (.pl rfl) (fun hC19 => ?_) (fun hC19 => ?_)
        · replace hF11 := cpos hC19 hF11
          -- region 9: bags.go:60
          refine W.reg ?_
          refine WL.q (Y.move (.pl rfl)) rfl ?_
          refine WL.q (Y.move (.pl rfl)) rfl ?_
          refine WL.q (Y.rowEl Try.underlying22 cells39 (i := 1) rfl (.pl rfl) rfl (.pl rfl) (ix_lt (hx18))) rfl ?_
          refine WL.q (Y.rowField (off := 3) (ft := 3) Try.underlying39 rfl cells3 (i' := 1) rfl (ix_lt (hx18)) (.pl rfl)) rfl ?_
          refine WL.q (Y.loadR (enc := encEvent) (v := .int .i64 x18.value) (a := x18) (idx := v17) (j := 3) Try.underlying3 rfl lenEvent (i := 1) rfl (.pl rfl) (ix_get (hx18)) rfl rfl) rfl ?_
          refine WL.q (Y.move (.pl rfl)) rfl ?_
          obtain ⟨hk19, hF11⟩ := ckh hF11
          refine WL.q (Y.add (.pl rfl) (.pl rfl) (ok64_lt (hk19))) rfl ?_
          refine WL.q (Y.rowEl Try.underlying22 cells39 (i := 1) rfl (.pl rfl) rfl (.pl rfl) (ix_lt (hx18))) rfl ?_
          refine WL.q (Y.rowField (off := 3) (ft := 3) Try.underlying39 rfl cells3 (i' := 1) rfl (ix_lt (hx18)) (.pl rfl)) rfl ?_
          refine WL.step (WO.storeS (enc := encEvent) (a := x18) (a' := (Event.mk x18.who x18.thing x18.kind (x18.value + more6))) (idx := v17) (j := 3) cells3 (.pl rfl) (.pl rfl) rfl lenEvent (i := 1) rfl (ix_get (hx18)) rfl (by decide) rfl ?_)
          refine WL.nil ?_
          refine W.go hK16 (.cons (i := 1) rfl (.cons (i := 5) rfl (.cons (i := 7) rfl (.cons (i := 35) rfl (.cons (i := 36) rfl (.nil)))))) ?_
          -- region 10: bags.go:58
          refine W.reg ?_
          obtain ⟨hk20, hF11⟩ := ckh hF11
          refine WL.q (Y.add (.pl rfl) (.pl rfl) (ok64_lt (hk20))) rfl ?_
          refine WL.q (Y.move (.pl rfl)) rfl ?_
          refine WL.nil ?_
          obtain rfl := Option.some.inj hF11
          exact W.again2 hK12 (m16.set v17.toNat (Event.mk x18.who x18.thing x18.kind (x18.value + more6))) (v17 + 1) k11 hN11 (Nat.lt_succ_self _) (.cons (eqSl (by simp)) (.cons rfl (.nil))) (.cons (i := 1) rfl (.cons (i := 5) rfl (.cons (i := 35) rfl (.nil)))) (fun wz hw => hw.pick [0, 1] rfl)
        · replace hF11 := cneg hC19 hF11
          refine W.skip ?_
          refine W.go hK16 (.cons (i := 1) rfl (.cons (i := 5) rfl (.cons (i := 7) rfl (.cons (i := 35) rfl (.cons (i := 36) rfl (.nil)))))) ?_
          -- region 10: bags.go:58
          refine W.reg ?_
          obtain ⟨hk21, hF11⟩ := ckh hF11
          refine WL.q (Y.add (.pl rfl) (.pl rfl) (ok64_lt (hk21))) rfl ?_
          refine WL.q (Y.move (.pl rfl)) rfl ?_
          refine WL.nil ?_
          obtain rfl := Option.some.inj hF11
          exact W.again2 hK12 m16 (v17 + 1) k11 hN11 (Nat.lt_succ_self _) (.cons rfl (.cons rfl (.nil))) (.cons (i := 1) rfl (.cons (i := 5) rfl (.cons (i := 35) rfl (.nil)))) (fun wz hw => hw.pick [0, 1] rfl)
      · replace hF11 := cneg hC15 hF11
        refine W.exit ?_
        obtain rfl := Option.some.inj hF11
        exact W.joinAt1 hK9 m16 (einr hN11) (.cons rfl (.nil)) (.cons (i := 1) rfl (.cons (i := 5) rfl (.nil))) (fun wz hw => hw.pick [0, 1] rfl)
    · -- behind
      rintro m15 rfl
      -- region 11: bags.go:63
      refine W.seqR fun Q23 hQ23 => ?_
      refine WL.q (Y.move (.pl rfl)) rfl ?_
      obtain ⟨r22, hr22, hF⟩ := bnd hF
      refine WL.step (WO.callM isGo37 (.cons (.pl rfl) (.nil)) rfl (fun wz hw => bags_Check_ok (hr22) wz (SlIn.ofRow lenEvent hw (i := 1) rfl)) ?_)
      rintro ⟨A23, c24⟩ -
      refine WL.q (Y.move (.pl rfl)) rfl ?_
      refine WL.q (Y.extract (.pl rfl) rfl) rfl ?_
      refine WL.q (Y.extract (.pl rfl) rfl) rfl ?_
      refine WL.q (Y.assign (.pl rfl)) rfl ?_
      refine WL.q (Y.assign (.pl rfl)) rfl ?_
      refine WL.next hQ23 (.cons (i := 1) rfl (.cons (i := 5) rfl (.cons (i := 9) rfl (.cons (i := 10) rfl (.nil))))) ?_
      obtain ⟨o24, hF24, hF⟩ := bnd hF
      refine W.join1 (Em := fun (b25 : (List Int)) => [(5, .slice A8 (b25).length c9)]) (M := fun b25 => [cR (eI .i64) 1 A8 c9 3 b25, cR (eI .i64) 1 A23 c24 3 r22.1]) (I := fun b25 => b25 = o24) (.cons (i := 9) rfl (.cons (i := 10) rfl (.nil))) (fun K25 hK25 => ?_) ?_
      · -- up to
        -- region 12: bags.go:64
        refine W.seqR fun Q26 hQ26 => ?_
        refine WL.q (Y.move (.pl rfl)) rfl ?_
        refine WL.q (Y.len Try.underlying45 (.pl rfl)) rfl ?_
        refine WL.q (Y.move (.pl rfl)) rfl ?_
        refine WL.next hQ26 (.cons (i := 1) rfl (.cons (i := 5) rfl (.cons (i := 9) rfl (.cons (i := 10) rfl (.cons (i := 61) rfl (.cons (i := 62) rfl (.nil))))))) ?_
        refine W.block ?_
        refine W.loop2 (Em := fun (b26 : (List Int)) (v27 : Int) => [(5, .slice A8 (b26).length c9), (62, .int .i64 v27)]) (M := fun b26 v27 => [cR (eI .i64) 1 A8 c9 3 b26, cR (eI .i64) 1 A23 c24 3 r22.1]) (I := fun b26 v27 k27 => iter (alibkeep_BagsNames_L7 N r7 more6) k27 (b26, v27) = some o24) r7.1 0 N (hF24) (.cons rfl (.cons rfl (.nil))) (.cons (i := 1) rfl (.cons (i := 9) rfl (.cons (i := 10) rfl (.cons (i := 61) rfl (.nil))))) (fun wz hw => hw.pick [1, 0] rfl) (fun b26 v27 k27 hI K28 hK28 => ?_)
        obtain ⟨k27, t27, rfl, hF27, hN27⟩ := iter_step hI
        -- region 13: bags.go:64
        refine W.seqR fun Q29 hQ29 => ?_
        refine WL.q (Y.lss (.pl rfl) (.pl rfl)) rfl ?_
        refine WL.next hQ29 (.cons (i := 1) rfl (.cons (i := 5) rfl (.cons (i := 9) rfl (.cons (i := 10) rfl (.cons (i := 61) rfl (.cons (i := 62) rfl (.cons (i := 63) rfl (.nil)))))))) ?_
        refine W.seq fun K30 hK30 => ?_
        refine W.cond (.pl rfl) (fun hC31 => ?_) (fun hC31 => ?_)
        · replace hF27 := cpos hC31 hF27
          refine W.skip ?_
          refine W.go hK30 (.cons (i := 1) rfl (.cons (i := 5) rfl (.cons (i := 9) rfl (.cons (i := 10) rfl (.cons (i := 61) rfl (.cons (i := 62) rfl (.nil))))))) ?_
          refine W.seq fun K32 hK32 => ?_
          refine W.block ?_
          -- region 14: bags.go:64
          refine W.seqR fun Q33 hQ33 => ?_
          refine WL.q (Y.move (.pl rfl)) rfl ?_
          refine WL.q (Y.assign (.pl rfl)) rfl ?_
          refine WL.next hQ33 (.cons (i := 1) rfl (.cons (i := 5) rfl (.cons (i := 9) rfl (.cons (i := 10) rfl (.cons (i := 11) rfl (.cons (i := 61) rfl (.cons (i := 62) rfl (.nil)))))))) ?_
          -- region 15: bags.go:65
          refine W.reg ?_
          refine WL.q (Y.move (.pl rfl)) rfl ?_
          refine WL.q (Y.move (.pl rfl)) rfl ?_
          obtain ⟨x28, hx28, hF27⟩ := bnd hF27
          refine WL.q (Y.rowEl Try.underlying45 cells3 (i := 0) rfl (.pl rfl) rfl (.pl rfl) (ix_lt (hx28))) rfl ?_
          refine WL.q (Y.loadR (enc := (eI .i64)) (v := .int .i64 x28) (a := x28) (idx := v27) (j := 0) Try.underlying3 rfl (fun _ => rfl) (i := 0) rfl (.pl rfl) (ix_get (hx28)) rfl rfl) rfl ?_
          refine WL.q (Y.move (.pl rfl)) rfl ?_
          obtain ⟨hk29, hF27⟩ := ckh hF27
          refine WL.q (Y.add (.pl rfl) (.pl rfl) (ok64_lt (hk29))) rfl ?_
          refine WL.q (Y.rowEl Try.underlying45 cells3 (i := 0) rfl (.pl rfl) rfl (.pl rfl) (ix_lt (hx28))) rfl ?_
          refine WL.step (WO.storeS (enc := (eI .i64)) (a := x28) (a' := (x28 + more6)) (idx := v27) (j := 0) cells3 (.pl rfl) (.pl rfl) rfl (fun _ => rfl) (i := 0) rfl (ix_get (hx28)) rfl (by decide) rfl ?_)
          refine WL.nil ?_
          refine W.go hK32 (.cons (i := 1) rfl (.cons (i := 5) rfl (.cons (i := 9) rfl (.cons (i := 10) rfl (.cons (i := 61) rfl (.cons (i := 62) rfl (.nil))))))) ?_
          -- region 16: bags.go:64
          refine W.reg ?_
          obtain ⟨hk30, hF27⟩ := ckh hF27
          refine WL.q (Y.add (.pl rfl) (.pl rfl) (ok64_lt (hk30))) rfl ?_
          refine WL.q (Y.move (.pl rfl)) rfl ?_
          refine WL.nil ?_
          obtain rfl := Option.some.inj hF27
          exact W.again2 hK28 (b26.set v27.toNat (x28 + more6)) (v27 + 1) k27 hN27 (Nat.lt_succ_self _) (.cons (eqSl (by simp)) (.cons rfl (.nil))) (.cons (i := 1) rfl (.cons (i := 9) rfl (.cons (i := 10) rfl (.cons (i := 61) rfl (.nil))))) (fun wz hw => hw.pick [0, 1] rfl)
        · replace hF27 := cneg hC31 hF27
          refine W.exit ?_
          obtain rfl := Option.some.inj hF27
          exact W.joinAt1 hK25 b26 (einr hN27) (.cons rfl (.nil)) (.cons (i := 9) rfl (.cons (i := 10) rfl (.nil))) (fun wz hw => hw.pick [0, 1] rfl)
      · -- behind
        rintro b25 rfl
        -- region 17: bags.go:67
        refine W.seqR fun Q36 hQ36 => ?_
        refine WL.q (Y.move (.pl rfl)) rfl ?_
        refine WL.q (Y.neq (.pl rfl) (.pl rfl)) rfl ?_
        refine WL.q (Y.move (.pl rfl)) rfl ?_
        refine WL.g (.pl rfl rfl rfl) (fun hg => Y.move (.pl rfl)) rfl ?_
        refine WL.g (.pl rfl rfl rfl) (fun hg => Y.move (.pl rfl)) rfl ?_
        obtain ⟨r31, hr31, hF⟩ := bnd hF
        refine WL.gP (.pl rfl rfl rfl) isGo40 (fun hg => (.cons (.gd (hg) rfl) (.cons (.gd (hg) rfl) (.nil)))) rfl (fun hg wz hw => slices_Equal_int_int_ok (gpos hg hr31) wz (SlIn.ofRow (fun _ => rfl) hw (i := 0) rfl) (SlIn.ofRow (fun _ => rfl) hw (i := 1) rfl)) ?_
        refine WL.q (Y.or (.pl rfl) (fun h2 => .gd (eqf h2) rfl)) rfl ?_
        refine WL.q (Y.assign (.pl rfl)) rfl ?_
        refine WL.next hQ36 (.cons (i := 4) rfl (.nil)) ?_
        obtain rfl := Option.some.inj hF
        refine W.retV (fn := Try.f12) (vs := [.bool ((!(decide (r22.2 = 0))) || r31)]) Try.results12 ⟨.tmp rfl, trivial⟩ (fun _ _ h => h) (fun wz hw => ?_)
        exact hR _ _ ⟨rfl, (hw.pick [] rfl)⟩

def alibkeep_BagsSearch (N : Nat) (l1 : (List Event)) : Option Bool :=
  bd (bags_Check N l1) fun (r6 : ((List Int) × Int)) =>
  bd (search_Find N ([4] : List Int) l1) fun (r10 : ((List Step) × Bool × Int)) =>
  bd (alibkeep_bagsLives N) fun (r13 : Bool) =>
  cond ((!r13) || (!(decide (r6.2 = 0))))
    (bd (alibkeep_bagsLives N) fun (r14 : Bool) =>
    some (r14 && (decide (((r6.1).length : Int) = 0))))
    (some ((!(decide (r10.2.2 = 0))) || (r10.2.1 == (decide (((r6.1).length : Int) = 0)))))

theorem alibkeep_BagsSearch_ok {N : Nat} {l1 : (List Event)} {res : Bool} (hF : alibkeep_BagsSearch N l1 = some res) (w : World) {v5 : Value} (hs4 : SlIn encEvent 4 w v5 l1) :
    Pure Try.prog 11 [v5] w (.bool res) := by
  obtain ⟨A2, c3, rfl, hcc3, hs4⟩ := hs4.form
  refine W.enter (n := 41) Try.func11 rfl rfl Sub.refl (by simp) (St.start w) fun R hR => ?_
  unfold alibkeep_BagsSearch at hF
  -- region 0: bags.go:24
  refine W.seqR fun Q1 hQ1 => ?_
  refine WL.q (Y.assign (.pl rfl)) rfl ?_
  refine WL.next hQ1 (.cons (i := 0) rfl (.nil)) ?_
  -- region 1: bags.go:25
  refine W.seqR fun Q2 hQ2 => ?_
  refine WL.q (Y.move (.pl rfl)) rfl ?_
  obtain ⟨r6, hr6, hF⟩ := bnd hF
  refine WL.step (WO.callM isGo37 (.cons (.pl rfl) (.nil)) rfl (fun wz hw => bags_Check_ok (hr6) wz (hs4.mono hw)) ?_)
  rintro ⟨A7, c8⟩ -
  refine WL.q (Y.move (.pl rfl)) rfl ?_
  refine WL.q (Y.extract (.pl rfl) rfl) rfl ?_
  refine WL.q (Y.extract (.pl rfl) rfl) rfl ?_
  refine WL.q (Y.assign (.pl rfl)) rfl ?_
  refine WL.q (Y.assign (.pl rfl)) rfl ?_
  refine WL.next hQ2 (.cons (i := 0) rfl (.cons (i := 3) rfl (.cons (i := 4) rfl (.nil)))) ?_
  -- region 2: bags.go:26
  refine W.seqR fun Q3 hQ3 => ?_
  refine WL.step (WO.bsliceC (enc := (eI .i64)) (ys := ([4] : List Int)) Try.underlying45 bz3 (.cons (.pl rfl) (.nil)) rfl (fun _ => rfl) rfl rfl (by decide) (by decide) rfl fun b9 => ?_)
  refine WL.q (Y.move (.pl rfl)) rfl ?_
  obtain ⟨r10, hr10, hF⟩ := bnd hF
  refine WL.step (WO.callM isGo38 (.cons (.pl rfl) (.cons (.pl rfl) (.nil))) rfl (fun wz hw => search_Find_ok (hr10) wz (SlIn.ofRow (fun _ => rfl) hw (i := 0) rfl) (hs4.mono hw)) ?_)
  rintro ⟨A11, c12⟩ -
  refine WL.q (Y.move (.pl rfl)) rfl ?_
  refine WL.q (Y.extract (.pl rfl) rfl) rfl ?_
  refine WL.q (Y.extract (.pl rfl) rfl) rfl ?_
  refine WL.q (Y.extract (.pl rfl) rfl) rfl ?_
  refine WL.q (Y.assign (.pl rfl)) rfl ?_
  refine WL.q (Y.assign (.pl rfl)) rfl ?_
  refine WL.q (Y.assign (.pl rfl)) rfl ?_
  refine WL.next hQ3 (.cons (i := 3) rfl (.cons (i := 4) rfl (.cons (i := 6) rfl (.cons (i := 7) rfl (.nil))))) ?_
  refine W.seq fun K4 hK4 => ?_
  -- region 3: bags.go:27
  refine W.seqR fun Q5 hQ5 => ?_
  obtain ⟨r13, hr13, hF⟩ := bnd hF
  refine WL.step (WO.callP isGo39 (.nil) rfl (fun wz hw => alibkeep_bagsLives_ok (hr13) wz ) ?_)
  refine WL.q (Y.not (.pl rfl)) rfl ?_
  refine WL.q (Y.move (.pl rfl)) rfl ?_
  refine WL.g (.pl rfl rfl rfl) (fun hg => Y.move (.pl rfl)) rfl ?_
  refine WL.g (.pl rfl rfl rfl) (fun hg => Y.neq (.gd (hg) rfl) (.pl rfl)) rfl ?_
  refine WL.q (Y.or (.pl rfl) (fun h2 => .gd (eqf h2) rfl)) rfl ?_
  refine WL.next hQ5 (.cons (i := 3) rfl (.cons (i := 6) rfl (.cons (i := 7) rfl (.cons (i := 25) rfl (.nil))))) ?_
  refine W.cond (.pl rfl) (fun hC6 => ?_) (fun hC6 => ?_)
  · replace hF := cpos hC6 hF
    -- region 4: bags.go:28
    refine W.seqR fun Q7 hQ7 => ?_
    obtain ⟨r14, hr14, hF⟩ := bnd hF
    refine WL.step (WO.callP isGo39 (.nil) rfl (fun wz hw => alibkeep_bagsLives_ok (hr14) wz ) ?_)
    refine WL.q (Y.move (.pl rfl)) rfl ?_
    refine WL.g (.pl rfl rfl rfl) (fun hg => Y.move (.pl rfl)) rfl ?_
    refine WL.g (.pl rfl rfl rfl) (fun hg => Y.len Try.underlying45 (.gd (hg) rfl)) rfl ?_
    refine WL.g (.pl rfl rfl rfl) (fun hg => Y.eql (.gd (hg) rfl) (.pl rfl)) rfl ?_
    refine WL.q (Y.and (.pl rfl) (fun h2 => .gd (eqt h2) rfl)) rfl ?_
    refine WL.q (Y.assign (.pl rfl)) rfl ?_
    refine WL.next hQ7 (.cons (i := 2) rfl (.nil)) ?_
    obtain rfl := Option.some.inj hF
    refine W.retV (fn := Try.f11) (vs := [.bool (r14 && (decide (((r6.1).length : Int) = 0)))]) Try.results11 ⟨.tmp rfl, trivial⟩ (fun _ _ h => h) (fun wz hw => ?_)
    exact hR _ _ ⟨rfl, (hw.pick [] rfl)⟩
  · replace hF := cneg hC6 hF
    refine W.skip ?_
    refine W.go hK4 (.cons (i := 3) rfl (.cons (i := 6) rfl (.cons (i := 7) rfl (.nil)))) ?_
    -- region 5: bags.go:30
    refine W.seqR fun Q8 hQ8 => ?_
    refine WL.q (Y.move (.pl rfl)) rfl ?_
    refine WL.q (Y.neq (.pl rfl) (.pl rfl)) rfl ?_
    refine WL.q (Y.move (.pl rfl)) rfl ?_
    refine WL.g (.pl rfl rfl rfl) (fun hg => Y.move (.pl rfl)) rfl ?_
    refine WL.g (.pl rfl rfl rfl) (fun hg => Y.move (.pl rfl)) rfl ?_
    refine WL.g (.pl rfl rfl rfl) (fun hg => Y.len Try.underlying45 (.gd (hg) rfl)) rfl ?_
    refine WL.g (.pl rfl rfl rfl) (fun hg => Y.eql (.gd (hg) rfl) (.pl rfl)) rfl ?_
    refine WL.g (.pl rfl rfl rfl) (fun hg => Y.eqlB Try.underlying4 (.gd (hg) rfl) (.gd (hg) rfl)) rfl ?_
    refine WL.q (Y.or (.pl rfl) (fun h2 => .gd (eqf h2) rfl)) rfl ?_
    refine WL.q (Y.assign (.pl rfl)) rfl ?_
    refine WL.next hQ8 (.cons (i := 2) rfl (.nil)) ?_
    obtain rfl := Option.some.inj hF
    refine W.retV (fn := Try.f11) (vs := [.bool ((!(decide (r10.2.2 = 0))) || (r10.2.1 == (decide (((r6.1).length : Int) = 0))))]) Try.results11 ⟨.tmp rfl, trivial⟩ (fun _ _ h => h) (fun wz hw => ?_)
    exact hR _ _ ⟨rfl, (hw.pick [] rfl)⟩

end Go.Proofs.Ytolneilkgjglkaa
