/- SitesLive: what the code computes, and the walk. -/
import Derived.Test.YteklmleiiiodfaaE6
set_option linter.unusedVariables false
set_option linter.unusedSimpArgs false
set_option linter.unusedSectionVars false
set_option maxRecDepth 100000
namespace Go.Proofs.Yteklmleiiiodfaa
open Go.RowKit
theorem cells28 : Try.prog.cellsOf 28 = 0 + 1 := by kernel_rfl
theorem isGo25 : IsGo Try.prog 25 := ⟨_, Try.func25, by kernel_rfl, rfl⟩
theorem isGo28 : IsGo Try.prog 28 := ⟨_, Try.func28, by kernel_rfl, rfl⟩
theorem isGo29 : IsGo Try.prog 29 := ⟨_, Try.func29, by kernel_rfl, rfl⟩
theorem isGo30 : IsGo Try.prog 30 := ⟨_, Try.func30, by kernel_rfl, rfl⟩
theorem isGo58 : IsGo Try.prog 58 := ⟨_, Try.func58, by kernel_rfl, rfl⟩
theorem zero39 : ∃ i, Try.prog.info? 39 = some i ∧ i.zero = some (Value.agg #[(Value.int .i64 0), (Value.int .i64 0), (Value.int .i64 0), (Value.bool false)]) := ⟨_, rfl, by kernel_rfl⟩
theorem bz28 : ∃ i, Try.prog.info? 28 = some i ∧ i.zero = some (Value.int .i64 0) ∧ i.size = 1 := ⟨_, rfl, by kernel_rfl, by kernel_rfl⟩
/-- slices.Clone -/
theorem slices_Clone_api_Act_api_Act_ok {xs : List Act} (hb : limB 16 xs.length = true) (w : World) {v : Value} (h : SlIn encAct 2 w v xs) :
    Made Try.prog 25 [v] w (fun g : Option Addr × Nat => .slice g.1 xs.length g.2) (fun g => [cR encAct 2 g.1 g.2 25 xs]) (fun _ => True) := by
  obtain ⟨A1, c1, rfl, hc1, hs⟩ := h.form
  refine W.enter (n := 8) Try.func25 rfl rfl Sub.refl (by simp) (St.start w) fun R hR => ?_
  refine W.seqR fun Q1 hQ1 => ?_
  refine WL.q (Y.assign (.pl rfl)) rfl ?_
  refine WL.next hQ1 (.cons (i := 0) rfl (.nil)) ?_
  refine W.seq fun K2 hK2 => ?_
  refine W.seqR fun Q3 hQ3 => ?_
  refine WL.q (Y.move (.pl rfl)) rfl ?_
  refine WL.q (Y.eqNil Try.underlying23 (.pl rfl)) rfl ?_
  refine WL.next hQ3 (.cons (i := 0) rfl (.cons (i := 4) rfl (.nil))) ?_
  refine W.cond (.pl rfl) (fun hC => ?_) (fun hC => ?_)
  · refine W.seqR fun Q4 hQ4 => ?_
    refine WL.q (Y.assign (.pl rfl)) rfl ?_
    refine WL.next hQ4 (.cons (i := 2) rfl (.nil)) ?_
    have hx : xs = [] := by
      cases xs with
      | nil => rfl
      | cons a r =>
        have := (hs.okA' (idx := 0) ⟨Int.le_refl _, by simp⟩).1
        rw [Option.isNone_iff_eq_none] at hC
        rw [hC] at this; cases this
    subst hx
    refine W.retV (fn := Try.f25) (vs := [.slice none 0 0]) Try.results25 ⟨.tmp rfl, trivial⟩ (fun _ _ h => h) (fun w hw => ?_)
    exact hR _ _ ⟨(none, 0), trivial, rfl, St.nilR hw encAct 2 25⟩
  · refine W.skip ?_
    refine W.go hK2 (.cons (i := 0) rfl (.nil)) ?_
    obtain ⟨a1, rfl⟩ : ∃ a, A1 = some a := by cases A1 with
      | none => cases hC
      | some a => exact ⟨a, rfl⟩
    refine W.seqR fun Q5 hQ5 => ?_
    refine WL.step (WO.bsliceC (enc := encAct) (ys := []) Try.underlying23 bz25 (.nil) rfl lenAct rfl rfl (by decide) (by decide) rfl fun b => ?_)
    refine WL.q (Y.move (.pl rfl)) rfl ?_
    refine WL.step (WO.appendS (enc := encAct) (ys := xs) (xs := []) Try.underlying23 ap25 lenAct oneAct (.pl rfl) rfl (.pl rfl) (i := 0) rfl (fun w hw => hs.mono hw) (by simpa using hb) rfl fun A c => ?_)
    refine WL.q (Y.assign (.pl rfl)) rfl ?_
    refine WL.next hQ5 (.cons (i := 2) rfl (.nil)) ?_
    refine W.retV (fn := Try.f25) (vs := [.slice A xs.length c]) Try.results25 ⟨.tmp rfl, trivial⟩ (fun _ _ h => h) (fun w hw => ?_)
    exact hR _ _ ⟨(A, c), trivial, rfl, hw⟩

def alibkeep_ok_L3 (N : Nat) (l1 : (List Int)) : Int → Option (Int ⊕ (Unit ⊕ Bool))
  | v6 =>
    cond (decide (v6 < ((l1).length : Int)))
      (bd (ix l1 v6) fun (x7 : Int) =>
      cond (!(decide (x7 = 0)))
        (some (.inr (.inr false)))
        (ck (ok64 (v6 + 1)) <|
        some (.inl (v6 + 1))))
      (some (.inr (.inl ())))

def alibkeep_ok (N : Nat) (l1 : (List Int)) : Option Bool :=
  bd (α := (Unit ⊕ Bool)) (iter (alibkeep_ok_L3 N l1) N 0) <|
  Sum.elim (fun _ => 
    some true) (fun p => some p)

theorem alibkeep_ok_ok {N : Nat} {l1 : (List Int)} {res : Bool} (hF : alibkeep_ok N l1 = some res) (w : World) {v5 : Value} (hs4 : SlIn (eI .i64) 1 w v5 l1) :
    Pure Try.prog 28 [v5] w (.bool res) := by
  obtain ⟨A2, c3, rfl, hcc3, hs4⟩ := hs4.form
  refine W.enter (n := 14) Try.func28 rfl rfl Sub.refl (by simp) (St.start w) fun R hR => ?_
  unfold alibkeep_ok at hF
  -- region 0: order.go:22
  refine W.seqR fun Q1 hQ1 => ?_
  refine WL.q (Y.assign (.pl rfl)) rfl ?_
  refine WL.next hQ1 (.cons (i := 0) rfl (.nil)) ?_
  obtain ⟨o2, hF2, hF⟩ := bnd hF
  refine W.join0 (Em := []) (M := []) (I := (.inl ()) = o2) (.nil) (fun K3 hK3 => ?_) ?_
  · -- up to
    -- region 1: order.go:23
    refine W.seqR fun Q4 hQ4 => ?_
    refine WL.q (Y.move (.pl rfl)) rfl ?_
    refine WL.q (Y.len Try.underlying108 (.pl rfl)) rfl ?_
    refine WL.q (Y.move (.pl rfl)) rfl ?_
    refine WL.next hQ4 (.cons (i := 5) rfl (.cons (i := 6) rfl (.cons (i := 7) rfl (.nil)))) ?_
    refine W.block ?_
    refine W.loop1 (Em := fun (v6 : Int) => [(7, .int .i64 v6)]) (M := fun v6 => []) (I := fun v6 k5 => iter (alibkeep_ok_L3 N l1) k5 v6 = some o2) 0 N (hF2) (.cons rfl (.nil)) (.cons (i := 5) rfl (.cons (i := 6) rfl (.nil))) (fun wz hw => hw.pick [] rfl) (fun v6 k5 hI K6 hK6 => ?_)
    obtain ⟨k5, t5, rfl, hF5, hN5⟩ := iter_step hI
    -- region 2: order.go:23
    refine W.seqR fun Q7 hQ7 => ?_
    refine WL.q (Y.lss (.pl rfl) (.pl rfl)) rfl ?_
    refine WL.next hQ7 (.cons (i := 5) rfl (.cons (i := 6) rfl (.cons (i := 7) rfl (.cons (i := 8) rfl (.nil))))) ?_
    refine W.seq fun K8 hK8 => ?_
    refine W.cond (.pl rfl) (fun hC9 => ?_) (fun hC9 => ?_)
    · replace hF5 := cpos hC9 hF5
      refine W.skip ?_
      refine W.go hK8 (.cons (i := 5) rfl (.cons (i := 6) rfl (.cons (i := 7) rfl (.nil)))) ?_
      refine W.seq fun K10 hK10 => ?_
      refine W.block ?_
      -- region 3: order.go:23
      refine W.seqR fun Q11 hQ11 => ?_
      obtain ⟨x7, hx7, hF5⟩ := bnd hF5
      refine WL.q (Y.slEl Try.underlying108 cells28 hs4 (.pl rfl) (.pl rfl) (ix_lt (hx7))) rfl ?_
      refine WL.q (Y.loadS (enc := (eI .i64)) (v := .int .i64 x7) (j := 0) Try.underlying28 rfl hs4 (.pl rfl) (hx7) rfl rfl) rfl ?_
      refine WL.q (Y.assign (.pl rfl)) rfl ?_
      refine WL.next hQ11 (.cons (i := 4) rfl (.cons (i := 5) rfl (.cons (i := 6) rfl (.cons (i := 7) rfl (.nil))))) ?_
      -- region 4: order.go:24
      refine W.seqR fun Q12 hQ12 => ?_
      refine WL.q (Y.move (.pl rfl)) rfl ?_
      refine WL.q (Y.neq (.pl rfl) (.pl rfl)) rfl ?_
      refine WL.next hQ12 (.cons (i := 5) rfl (.cons (i := 6) rfl (.cons (i := 7) rfl (.cons (i := 12) rfl (.nil))))) ?_
      refine W.cond (.pl rfl) (fun hC13 => ?_) (fun hC13 => ?_)
      · replace hF5 := cpos hC13 hF5
        -- region 5: order.go:25
        refine W.seqR fun Q14 hQ14 => ?_
        refine WL.q (Y.assign (.pl rfl)) rfl ?_
        refine WL.next hQ14 (.cons (i := 2) rfl (.nil)) ?_
        obtain rfl := Option.some.inj hF5
        obtain rfl := einr hN5
        obtain rfl := Option.some.inj hF
        refine W.retV (fn := Try.f28) (vs := [.bool false]) Try.results28 ⟨.tmp rfl, trivial⟩ (fun _ _ h => h) (fun wz hw => ?_)
        exact hR _ _ ⟨rfl, (hw.pick [] rfl)⟩
      · replace hF5 := cneg hC13 hF5
        refine W.skip ?_
        refine W.go hK10 (.cons (i := 5) rfl (.cons (i := 6) rfl (.cons (i := 7) rfl (.nil)))) ?_
        -- region 6: order.go:23
        refine W.reg ?_
        obtain ⟨hk8, hF5⟩ := ckh hF5
        refine WL.q (Y.add (.pl rfl) (.pl rfl) (ok64_lt (hk8))) rfl ?_
        refine WL.q (Y.move (.pl rfl)) rfl ?_
        refine WL.nil ?_
        obtain rfl := Option.some.inj hF5
        exact W.again1 hK6 (v6 + 1) k5 hN5 (Nat.lt_succ_self _) (.cons rfl (.nil)) (.cons (i := 5) rfl (.cons (i := 6) rfl (.nil))) (fun wz hw => hw.pick [] rfl)
    · replace hF5 := cneg hC9 hF5
      refine W.exit ?_
      obtain rfl := Option.some.inj hF5
      exact W.joinAt0 hK3  (einr hN5) (.nil) (.nil) (fun wz hw => hw.pick [] rfl)
  · -- behind
    rintro  rfl
    -- region 7: order.go:28
    refine W.seqR fun Q16 hQ16 => ?_
    refine WL.q (Y.assign (.pl rfl)) rfl ?_
    refine WL.next hQ16 (.cons (i := 2) rfl (.nil)) ?_
    obtain rfl := Option.some.inj hF
    refine W.retV (fn := Try.f28) (vs := [.bool true]) Try.results28 ⟨.tmp rfl, trivial⟩ (fun _ _ h => h) (fun wz hw => ?_)
    exact hR _ _ ⟨rfl, (hw.pick [] rfl)⟩

def alibkeep_SitesLive_1 (N : Nat) (x1 : Call) : Option Unit :=
  some ()

theorem alibkeep_SitesLive_1_ok {N : Nat} {x1 : Call} {res : Unit} (hF : alibkeep_SitesLive_1 N x1 = some res) (w : World) :
    Pure Try.prog 30 [.agg (encCall x1).toArray] w (.bool (decide (x1.to_ = (-1)))) := by
  refine W.enter (n := 6) Try.func30 rfl rfl Sub.refl (by simp) (St.start w) fun R hR => ?_
  unfold alibkeep_SitesLive_1 at hF
  -- region 0: sites.go:75
  refine W.seqR fun Q1 hQ1 => ?_
  refine WL.step (WO.boxA (.pl rfl) rfl fun b2 => ?_)
  refine WL.q (Y.assign (.pl rfl)) rfl ?_
  refine WL.next hQ1 (.cons (i := 1) rfl (.nil)) ?_
  -- region 1: sites.go:75
  refine W.seqR fun Q2 hQ2 => ?_
  refine WL.q (Y.fieldAddr0 (off := 6) (ft := 3) Try.underlying51 rfl cells3 (.pl rfl)) rfl ?_
  refine WL.q (Y.loadB (v := .int .i64 x1.to_) Try.underlying3 rfl (.pl rfl) (i := 0) rfl (rfl)) rfl ?_
  refine WL.q (Y.eql (.pl rfl) (.pl rfl)) rfl ?_
  refine WL.q (Y.assign (.pl rfl)) rfl ?_
  refine WL.next hQ2 (.cons (i := 2) rfl (.nil)) ?_
  obtain rfl := Option.some.inj hF
  refine W.retV (fn := Try.f30) (vs := [.bool (decide (x1.to_ = (-1)))]) Try.results30 ⟨.tmp rfl, trivial⟩ (fun _ _ h => h) (fun wz hw => ?_)
  exact hR _ _ ⟨rfl, (hw.pick [] rfl)⟩

def slices_IndexFunc_api_Call_api_Call_L3 (N : Nat) (s1 : (List Call)) : Int → Option (Int ⊕ (Unit ⊕ Int))
  | v6 =>
    cond (decide (v6 < ((s1).length : Int)))
      (bd (ix s1 v6) fun (x7 : Call) =>
      bd (alibkeep_SitesLive_1 N x7) fun (r8 : Unit) =>
      cond (decide (x7.to_ = (-1)))
        (some (.inr (.inr v6)))
        (ck (ok64 (v6 + 1)) <|
        some (.inl (v6 + 1))))
      (some (.inr (.inl ())))

def slices_IndexFunc_api_Call_api_Call (N : Nat) (s1 : (List Call)) : Option Int :=
  bd (α := (Unit ⊕ Int)) (iter (slices_IndexFunc_api_Call_api_Call_L3 N s1) N 0) <|
  Sum.elim (fun _ => 
    some (-1)) (fun p => some p)

theorem slices_IndexFunc_api_Call_api_Call_ok {N : Nat} {s1 : (List Call)} {res : Int} (hF : slices_IndexFunc_api_Call_api_Call N s1 = some res) (w : World) {v5 : Value} (hs4 : SlIn encCall 7 w v5 s1) :
    Pure Try.prog 58 [v5, .func (.func 30) #[] #[]] w (.int .i64 res) := by
  obtain ⟨A2, c3, rfl, hcc3, hs4⟩ := hs4.form
  refine W.enter (n := 19) Try.func58 rfl rfl Sub.refl (by simp) (St.start w) fun R hR => ?_
  unfold slices_IndexFunc_api_Call_api_Call at hF
  -- region 0: slices.go:107
  refine W.seqR fun Q1 hQ1 => ?_
  refine WL.q (Y.assign (.pl rfl)) rfl ?_
  refine WL.next hQ1 (.cons (i := 0) rfl (.cons (i := 1) rfl (.nil))) ?_
  obtain ⟨o2, hF2, hF⟩ := bnd hF
  refine W.join0 (Em := []) (M := []) (I := (.inl ()) = o2) (.nil) (fun K3 hK3 => ?_) ?_
  · -- up to
    -- region 1: slices.go:108
    refine W.seqR fun Q4 hQ4 => ?_
    refine WL.q (Y.move (.pl rfl)) rfl ?_
    refine WL.q (Y.len Try.underlying44 (.pl rfl)) rfl ?_
    refine WL.q (Y.move (.pl rfl)) rfl ?_
    refine WL.next hQ4 (.cons (i := 0) rfl (.cons (i := 1) rfl (.cons (i := 7) rfl (.cons (i := 8) rfl (.nil))))) ?_
    refine W.block ?_
    refine W.loop1 (Em := fun (v6 : Int) => [(8, .int .i64 v6)]) (M := fun v6 => []) (I := fun v6 k5 => iter (slices_IndexFunc_api_Call_api_Call_L3 N s1) k5 v6 = some o2) 0 N (hF2) (.cons rfl (.nil)) (.cons (i := 0) rfl (.cons (i := 1) rfl (.cons (i := 7) rfl (.nil)))) (fun wz hw => hw.pick [] rfl) (fun v6 k5 hI K6 hK6 => ?_)
    obtain ⟨k5, t5, rfl, hF5, hN5⟩ := iter_step hI
    -- region 2: slices.go:108
    refine W.seqR fun Q7 hQ7 => ?_
    refine WL.q (Y.lss (.pl rfl) (.pl rfl)) rfl ?_
    refine WL.next hQ7 (.cons (i := 0) rfl (.cons (i := 1) rfl (.cons (i := 7) rfl (.cons (i := 8) rfl (.cons (i := 9) rfl (.nil)))))) ?_
    refine W.seq fun K8 hK8 => ?_
    refine W.cond (.pl rfl) (fun hC9 => ?_) (fun hC9 => ?_)
    · replace hF5 := cpos hC9 hF5
      refine W.skip ?_
      refine W.go hK8 (.cons (i := 0) rfl (.cons (i := 1) rfl (.cons (i := 7) rfl (.cons (i := 8) rfl (.nil))))) ?_
      refine W.seq fun K10 hK10 => ?_
      refine W.block ?_
      -- region 3: slices.go:108
      refine W.seqR fun Q11 hQ11 => ?_
      refine WL.q (Y.move (.pl rfl)) rfl ?_
      refine WL.q (Y.assign (.pl rfl)) rfl ?_
      refine WL.next hQ11 (.cons (i := 0) rfl (.cons (i := 1) rfl (.cons (i := 5) rfl (.cons (i := 7) rfl (.cons (i := 8) rfl (.nil)))))) ?_
      -- region 4: slices.go:109
      refine W.seqR fun Q12 hQ12 => ?_
      refine WL.q (Y.move (.pl rfl)) rfl ?_
      refine WL.q (Y.move (.pl rfl)) rfl ?_
      refine WL.q (Y.move (.pl rfl)) rfl ?_
      obtain ⟨x7, hx7, hF5⟩ := bnd hF5
      refine WL.q (Y.slEl Try.underlying44 cells51 hs4 (.pl rfl) (.pl rfl) (ix_lt (hx7))) rfl ?_
      refine WL.q (Y.loadSA (enc := encCall) (ds := (encCall x7)) (j := 0) Try.underlying51 rfl cells51 hs4 (.pl rfl) (hx7) rfl rfl subW) rfl ?_
      obtain ⟨r8, hr8, hF5⟩ := bnd hF5
      refine WL.step (WO.callG (γ := Unit) (first := []) (cap := []) (fun g => .bool (decide (x7.to_ = (-1)))) (fun g => []) (fun g => True) isGo30 (.pl rfl) (.cons (.pl rfl) (.nil)) rfl (fun wz hw => (alibkeep_SitesLive_1_ok (hr8) wz ).calls hw) ?_)
      rintro _ -
      refine WL.next hQ12 (.cons (i := 0) rfl (.cons (i := 1) rfl (.cons (i := 5) rfl (.cons (i := 7) rfl (.cons (i := 8) rfl (.cons (i := 16) rfl (.nil))))))) ?_
      refine W.cond (.pl rfl) (fun hC13 => ?_) (fun hC13 => ?_)
      · replace hF5 := cpos hC13 hF5
        -- region 5: slices.go:110
        refine W.seqR fun Q14 hQ14 => ?_
        refine WL.q (Y.move (.pl rfl)) rfl ?_
        refine WL.q (Y.assign (.pl rfl)) rfl ?_
        refine WL.next hQ14 (.cons (i := 4) rfl (.nil)) ?_
        obtain rfl := Option.some.inj hF5
        obtain rfl := einr hN5
        obtain rfl := Option.some.inj hF
        refine W.retV (fn := Try.f58) (vs := [.int .i64 v6]) Try.results58 ⟨.tmp rfl, trivial⟩ (fun _ _ h => h) (fun wz hw => ?_)
        exact hR _ _ ⟨rfl, (hw.pick [] rfl)⟩
      · replace hF5 := cneg hC13 hF5
        refine W.skip ?_
        refine W.go hK10 (.cons (i := 0) rfl (.cons (i := 1) rfl (.cons (i := 7) rfl (.cons (i := 8) rfl (.nil))))) ?_
        -- region 6: slices.go:108
        refine W.reg ?_
        obtain ⟨hk9, hF5⟩ := ckh hF5
        refine WL.q (Y.add (.pl rfl) (.pl rfl) (ok64_lt (hk9))) rfl ?_
        refine WL.q (Y.move (.pl rfl)) rfl ?_
        refine WL.nil ?_
        obtain rfl := Option.some.inj hF5
        exact W.again1 hK6 (v6 + 1) k5 hN5 (Nat.lt_succ_self _) (.cons rfl (.nil)) (.cons (i := 0) rfl (.cons (i := 1) rfl (.cons (i := 7) rfl (.nil)))) (fun wz hw => hw.pick [] rfl)
    · replace hF5 := cneg hC9 hF5
      refine W.exit ?_
      obtain rfl := Option.some.inj hF5
      exact W.joinAt0 hK3  (einr hN5) (.nil) (.nil) (fun wz hw => hw.pick [] rfl)
  · -- behind
    rintro  rfl
    -- region 7: slices.go:113
    refine W.seqR fun Q16 hQ16 => ?_
    refine WL.q (Y.assign (.pl rfl)) rfl ?_
    refine WL.next hQ16 (.cons (i := 4) rfl (.nil)) ?_
    obtain rfl := Option.some.inj hF
    refine W.retV (fn := Try.f58) (vs := [.int .i64 (-1)]) Try.results58 ⟨.tmp rfl, trivial⟩ (fun _ _ h => h) (fun wz hw => ?_)
    exact hR _ _ ⟨rfl, (hw.pick [] rfl)⟩

def slices_ContainsFunc_api_Call_api_Call (N : Nat) (s1 : (List Call)) : Option Bool :=
  bd (slices_IndexFunc_api_Call_api_Call N s1) fun (r6 : Int) =>
  some (decide (0 ≤ r6))

theorem slices_ContainsFunc_api_Call_api_Call_ok {N : Nat} {s1 : (List Call)} {res : Bool} (hF : slices_ContainsFunc_api_Call_api_Call N s1 = some res) (w : World) {v5 : Value} (hs4 : SlIn encCall 7 w v5 s1) :
    Pure Try.prog 29 [v5, .func (.func 30) #[] #[]] w (.bool res) := by
  obtain ⟨A2, c3, rfl, hcc3, hs4⟩ := hs4.form
  refine W.enter (n := 9) Try.func29 rfl rfl Sub.refl (by simp) (St.start w) fun R hR => ?_
  unfold slices_ContainsFunc_api_Call_api_Call at hF
  -- region 0: slices.go:124
  refine W.seqR fun Q1 hQ1 => ?_
  refine WL.q (Y.assign (.pl rfl)) rfl ?_
  refine WL.next hQ1 (.cons (i := 0) rfl (.cons (i := 1) rfl (.nil))) ?_
  -- region 1: slices.go:125
  refine W.seqR fun Q2 hQ2 => ?_
  refine WL.q (Y.move (.pl rfl)) rfl ?_
  refine WL.q (Y.move (.pl rfl)) rfl ?_
  obtain ⟨r6, hr6, hF⟩ := bnd hF
  refine WL.step (WO.callP isGo58 (.cons (.pl rfl) (.cons (.pl rfl) (.nil))) rfl (fun wz hw => slices_IndexFunc_api_Call_api_Call_ok (hr6) wz (hs4.mono hw)) ?_)
  refine WL.q (Y.geq (.pl rfl) (.pl rfl)) rfl ?_
  refine WL.q (Y.assign (.pl rfl)) rfl ?_
  refine WL.next hQ2 (.cons (i := 4) rfl (.nil)) ?_
  obtain rfl := Option.some.inj hF
  refine W.retV (fn := Try.f29) (vs := [.bool (decide (0 ≤ r6))]) Try.results29 ⟨.tmp rfl, trivial⟩ (fun _ _ h => h) (fun wz hw => ?_)
  exact hR _ _ ⟨rfl, (hw.pick [] rfl)⟩

def alibkeep_SitesLive_L31 (N : Nat) (r13 : ((List Event) × (List Site) × Int)) : (Int × Int) → Option ((Int × Int) ⊕ Int)
  | (down21, v22) =>
    cond (decide (v22 < ((r13.2.1).length : Int)))
      (bd (ix r13.2.1 v22) fun (x23 : Site) =>
      cond x23.down
        (ck (ok64 (down21 + 1)) <|
        ck (ok64 (v22 + 1)) <|
        some (.inl ((down21 + 1), (v22 + 1))))
        (ck (ok64 (v22 + 1)) <|
        some (.inl (down21, (v22 + 1)))))
      (some (.inr down21))

def alibkeep_SitesLive_L33 (N : Nat) (people3 : (List (List Ask))) : (Int × Int) → Option ((Int × Int) ⊕ Int)
  | (asks29, v30) =>
    cond (decide (v30 < ((people3).length : Int)))
      (bd (ix people3 v30) fun (x31 : (List Ask)) =>
      ck (ok64 (asks29 + ((x31).length : Int))) <|
      ck (ok64 (v30 + 1)) <|
      some (.inl ((asks29 + ((x31).length : Int)), (v30 + 1))))
      (some (.inr asks29))

def alibkeep_SitesLive_L59 (N : Nat) (people3 : (List (List Ask))) : ((List Act) × Int) → Option (((List Act) × Int) ⊕ (List Act))
  | (all52, v53) =>
    cond (decide (v53 < ((people3).length : Int)))
      (ck (limB 16 ((all52).length + (([(Act.mk 1 v53)] : List Act)).length)) <|
      ck (ok64 (v53 + 1)) <|
      some (.inl ((all52 ++ ([(Act.mk 1 v53)] : List Act)), (v53 + 1))))
      (some (.inr all52))

def alibkeep_SitesLive_L55 (N : Nat) (asks28 : Int) (people3 : (List (List Ask))) (n1 : Int) : ((List Act) × Int) → Option (((List Act) × Int) ⊕ (List Act))
  | (all42, v43) =>
    cond (decide (v43 < asks28))
      (bd (α := (List Act)) (bd (α := (List Act)) (iter (alibkeep_SitesLive_L59 N people3) N (all42, 0)) <|
        fun (all49 : (List Act)) => 
          ck (ok64 (2 * n1)) <|
          ck (ok64 ((2 * n1) * asks28)) <|
          bd (alibkeep_letters N 0 ((2 * n1) * asks28)) fun (r61 : (List Act)) =>
          ck (limB 16 ((all49).length + (r61).length)) <|
          some (all49 ++ r61)) <|
      fun (all46 : (List Act)) => 
        ck (ok64 (v43 + 1)) <|
        some (.inl (all46, (v43 + 1))))
      (some (.inr all42))

def alibkeep_SitesLive (N : Nat) (n1 : Int) (fast2 : Bool) (people3 : (List (List Ask))) (acts8 : (List Act)) : Option Bool :=
  bd (sites_Play_1 N n1 fast2 people3 acts8) fun (r13 : ((List Event) × (List Site) × Int)) =>
  bd (alibkeep_sitesLives N) fun (r18 : Bool) =>
  cond (((!r18) || (!(decide (r13.2.2 = 0)))) || (!(decide (((r13.2.1).length : Int) = n1))))
    (bd (alibkeep_sitesLives N) fun (r19 : Bool) =>
    some (r19 && (!(decide (r13.2.2 = 0)))))
    (bd (α := Int) (iter (alibkeep_SitesLive_L31 N r13) N (0, 0)) <|
    fun (down20 : Int) => 
      bd (α := Int) (iter (alibkeep_SitesLive_L33 N people3) N (0, 0)) <|
      fun (asks28 : Int) => 
        ck (limB 16 (acts8).length) <|
        bd (α := (List Act)) (iter (alibkeep_SitesLive_L55 N asks28 people3 n1) N (acts8, 0)) <|
        fun (all39 : (List Act)) => 
          ck (ok64 (2 * down20)) <|
          cond ((decide (n1 ≤ (2 * down20))) || (decide (1000 < ((all39).length : Int))))
            (some true)
            (bd (sites_Play_1 N n1 fast2 people3 all39) fun (r69 : ((List Event) × (List Site) × Int)) =>
            bd (history_Calls N ([1] : List Int) r69.1) fun (r75 : ((List Call) × Int × Int)) =>
            bd (alibkeep_ok N ([r69.2.2, r75.2.2] : List Int)) fun (r79 : Bool) =>
            bd ((cond ((r79 && (decide (((r75.1).length : Int) = asks28))) == true) (slices_ContainsFunc_api_Call_api_Call N r75.1) (some false))) fun (r80 : Bool) =>
            some ((r79 && (decide (((r75.1).length : Int) = asks28))) && (!r80))))

theorem alibkeep_SitesLive_ok {N : Nat} {n1 : Int} {fast2 : Bool} {people3 : (List (List Ask))} {acts8 : (List Act)} {A4 : Option Addr} {c5 : Nat} {hd6 : List Hd} {res : Bool} (hF : alibkeep_SitesLive N n1 fast2 people3 acts8 = some res) (w : World) (hs7 : SlNN encAsk 3 w A4 c5 hd6 people3) {v12 : Value} (hs11 : SlIn encAct 2 w v12 acts8) :
    Pure Try.prog 5 [.int .i64 n1, .bool fast2, .slice A4 (people3).length c5, v12] w (.bool res) := by
  obtain ⟨A9, c10, rfl, hcc10, hs11⟩ := hs11.form
  refine W.enter (n := 138) Try.func5 rfl rfl Sub.refl (by simp) (St.start w) fun R hR => ?_
  unfold alibkeep_SitesLive at hF
  -- region 0: sites.go:49
  refine W.seqR fun Q1 hQ1 => ?_
  refine WL.q (Y.assign (.pl rfl)) rfl ?_
  refine WL.next hQ1 (.cons (i := 0) rfl (.cons (i := 1) rfl (.cons (i := 2) rfl (.cons (i := 3) rfl (.nil))))) ?_
  -- region 1: sites.go:50
  refine W.seqR fun Q2 hQ2 => ?_
  refine WL.q (Y.move (.pl rfl)) rfl ?_
  refine WL.q (Y.move (.pl rfl)) rfl ?_
  refine WL.q (Y.move (.pl rfl)) rfl ?_
  refine WL.q (Y.move (.pl rfl)) rfl ?_
  obtain ⟨r13, hr13, hF⟩ := bnd hF
  refine WL.step (WO.callM isGo20 (.cons (.pl rfl) (.cons (.pl rfl) (.cons (.pl rfl) (.cons (.pl rfl) (.nil))))) rfl (fun wz hw => sites_Play_1_ok (hr13) wz (hs7.mono hw) (hs11.mono hw)) ?_)
  rintro ⟨A14, c15, A16, c17⟩ -
  refine WL.q (Y.move (.pl rfl)) rfl ?_
  refine WL.q (Y.extract (.pl rfl) rfl) rfl ?_
  refine WL.q (Y.extract (.pl rfl) rfl) rfl ?_
  refine WL.q (Y.extract (.pl rfl) rfl) rfl ?_
  refine WL.q (Y.assign (.pl rfl)) rfl ?_
  refine WL.q (Y.assign (.pl rfl)) rfl ?_
  refine WL.q (Y.assign (.pl rfl)) rfl ?_
  refine WL.next hQ2 (.cons (i := 0) rfl (.cons (i := 1) rfl (.cons (i := 2) rfl (.cons (i := 3) rfl (.cons (i := 10) rfl (.cons (i := 11) rfl (.nil))))))) ?_
  refine W.seq fun K3 hK3 => ?_
  -- region 2: sites.go:51
  refine W.seqR fun Q4 hQ4 => ?_
  obtain ⟨r18, hr18, hF⟩ := bnd hF
  refine WL.step (WO.callP isGo21 (.nil) rfl (fun wz hw => alibkeep_sitesLives_ok (hr18) wz ) ?_)
  refine WL.q (Y.not (.pl rfl)) rfl ?_
  refine WL.q (Y.move (.pl rfl)) rfl ?_
  refine WL.g (.pl rfl rfl rfl) (fun hg => Y.move (.pl rfl)) rfl ?_
  refine WL.g (.pl rfl rfl rfl) (fun hg => Y.neq (.gd (hg) rfl) (.pl rfl)) rfl ?_
  refine WL.q (Y.or (.pl rfl) (fun h2 => .gd (eqf h2) rfl)) rfl ?_
  refine WL.q (Y.move (.pl rfl)) rfl ?_
  refine WL.g (.pl rfl rfl rfl) (fun hg => Y.move (.pl rfl)) rfl ?_
  refine WL.g (.pl rfl rfl rfl) (fun hg => Y.len Try.underlying27 (.gd (hg) rfl)) rfl ?_
  refine WL.g (.pl rfl rfl rfl) (fun hg => Y.move (.pl rfl)) rfl ?_
  refine WL.g (.pl rfl rfl rfl) (fun hg => Y.neq (.gd (hg) rfl) (.gd (hg) rfl)) rfl ?_
  refine WL.q (Y.or (.pl rfl) (fun h2 => .gd (eqf h2) rfl)) rfl ?_
  refine WL.next hQ4 (.cons (i := 0) rfl (.cons (i := 1) rfl (.cons (i := 2) rfl (.cons (i := 3) rfl (.cons (i := 10) rfl (.cons (i := 11) rfl (.cons (i := 46) rfl (.nil)))))))) ?_
  refine W.cond (.pl rfl) (fun hC5 => ?_) (fun hC5 => ?_)
  · replace hF := cpos hC5 hF
    -- region 3: sites.go:52
    refine W.seqR fun Q6 hQ6 => ?_
    obtain ⟨r19, hr19, hF⟩ := bnd hF
    refine WL.step (WO.callP isGo21 (.nil) rfl (fun wz hw => alibkeep_sitesLives_ok (hr19) wz ) ?_)
    refine WL.q (Y.move (.pl rfl)) rfl ?_
    refine WL.g (.pl rfl rfl rfl) (fun hg => Y.move (.pl rfl)) rfl ?_
    refine WL.g (.pl rfl rfl rfl) (fun hg => Y.neq (.gd (hg) rfl) (.pl rfl)) rfl ?_
    refine WL.q (Y.and (.pl rfl) (fun h2 => .gd (eqt h2) rfl)) rfl ?_
    refine WL.q (Y.assign (.pl rfl)) rfl ?_
    refine WL.next hQ6 (.cons (i := 8) rfl (.nil)) ?_
    obtain rfl := Option.some.inj hF
    refine W.retV (fn := Try.f5) (vs := [.bool (r19 && (!(decide (r13.2.2 = 0))))]) Try.results5 ⟨.tmp rfl, trivial⟩ (fun _ _ h => h) (fun wz hw => ?_)
    exact hR _ _ ⟨rfl, (hw.pick [] rfl)⟩
  · replace hF := cneg hC5 hF
    refine W.skip ?_
    refine W.go hK3 (.cons (i := 0) rfl (.cons (i := 1) rfl (.cons (i := 2) rfl (.cons (i := 3) rfl (.cons (i := 10) rfl (.nil)))))) ?_
    -- region 4: sites.go:54
    refine W.seqR fun Q7 hQ7 => ?_
    refine WL.q (Y.assign (.pl rfl)) rfl ?_
    refine WL.q (Y.assign (.pl rfl)) rfl ?_
    refine WL.next hQ7 (.cons (i := 0) rfl (.cons (i := 1) rfl (.cons (i := 2) rfl (.cons (i := 3) rfl (.cons (i := 10) rfl (.cons (i := 12) rfl (.cons (i := 13) rfl (.nil)))))))) ?_
    obtain ⟨o8, hF8, hF⟩ := bnd hF
    refine W.join1 (Em := fun (down20 : Int) => [(12, .int .i64 down20)]) (M := fun down20 => []) (I := fun down20 => down20 = o8) (.cons (i := 0) rfl (.cons (i := 1) rfl (.cons (i := 2) rfl (.cons (i := 3) rfl (.cons (i := 13) rfl (.nil)))))) (fun K9 hK9 => ?_) ?_
    · -- up to
      -- region 5: sites.go:55
      refine W.seqR fun Q10 hQ10 => ?_
      refine WL.q (Y.move (.pl rfl)) rfl ?_
      refine WL.q (Y.len Try.underlying27 (.pl rfl)) rfl ?_
      refine WL.q (Y.move (.pl rfl)) rfl ?_
      refine WL.next hQ10 (.cons (i := 0) rfl (.cons (i := 1) rfl (.cons (i := 2) rfl (.cons (i := 3) rfl (.cons (i := 12) rfl (.cons (i := 13) rfl (.cons (i := 52) rfl (.cons (i := 53) rfl (.cons (i := 54) rfl (.nil)))))))))) ?_
      refine W.block ?_
      refine W.loop2 (Em := fun (down21 : Int) (v22 : Int) => [(12, .int .i64 down21), (54, .int .i64 v22)]) (M := fun down21 v22 => [cR encSite 4 A16 c17 39 r13.2.1]) (I := fun down21 v22 k11 => iter (alibkeep_SitesLive_L31 N r13) k11 (down21, v22) = some o8) 0 0 N (hF8) (.cons rfl (.cons rfl (.nil))) (.cons (i := 0) rfl (.cons (i := 1) rfl (.cons (i := 2) rfl (.cons (i := 3) rfl (.cons (i := 13) rfl (.cons (i := 52) rfl (.cons (i := 53) rfl (.nil)))))))) (fun wz hw => hw.pick [1] rfl) (fun down21 v22 k11 hI K12 hK12 => ?_)
      obtain ⟨k11, t11, rfl, hF11, hN11⟩ := iter_step hI
      -- region 6: sites.go:55
      refine W.seqR fun Q13 hQ13 => ?_
      refine WL.q (Y.lss (.pl rfl) (.pl rfl)) rfl ?_
      refine WL.next hQ13 (.cons (i := 0) rfl (.cons (i := 1) rfl (.cons (i := 2) rfl (.cons (i := 3) rfl (.cons (i := 12) rfl (.cons (i := 13) rfl (.cons (i := 52) rfl (.cons (i := 53) rfl (.cons (i := 54) rfl (.cons (i := 55) rfl (.nil))))))))))) ?_
      refine W.seq fun K14 hK14 => ?_
      refine W.cond (.pl rfl) (fun hC15 => ?_) (fun hC15 => ?_)
      · replace hF11 := cpos hC15 hF11
        refine W.skip ?_
        refine W.go hK14 (.cons (i := 0) rfl (.cons (i := 1) rfl (.cons (i := 2) rfl (.cons (i := 3) rfl (.cons (i := 12) rfl (.cons (i := 13) rfl (.cons (i := 52) rfl (.cons (i := 53) rfl (.cons (i := 54) rfl (.nil)))))))))) ?_
        refine W.seq fun K16 hK16 => ?_
        refine W.block ?_
        -- region 7: sites.go:55
        refine W.seqR fun Q17 hQ17 => ?_
        obtain ⟨x23, hx23, hF11⟩ := bnd hF11
        refine WL.q (Y.rowEl Try.underlying27 cells39 (i := 0) rfl (.pl rfl) rfl (.pl rfl) (ix_lt (hx23))) rfl ?_
        refine WL.q (Y.loadRA (enc := encSite) (ds := (encSite x23)) (a := x23) (idx := v22) (j := 0) Try.underlying39 rfl cells39 lenSite (i := 0) rfl (.pl rfl) (ix_get (hx23)) rfl rfl subW) rfl ?_
        refine WL.step (WO.alloc (cs := (encSite (Site.mk 0 0 0 false)).toArray) zero39 rfl rfl fun b24 => ?_)
        refine WL.step (WO.storeBA (ds := (encSite x23)) (cs' := (encSite x23)) cells39 (.pl rfl) (.pl rfl) rfl (oneSite _) (i := 0) rfl (lel (o := 0) (l := 4) (m := 4) (by decide) rfl rfl) (putW rfl) ?_)
        refine WL.next hQ17 (.cons (i := 0) rfl (.cons (i := 1) rfl (.cons (i := 2) rfl (.cons (i := 3) rfl (.cons (i := 12) rfl (.cons (i := 13) rfl (.cons (i := 15) rfl (.cons (i := 52) rfl (.cons (i := 53) rfl (.cons (i := 54) rfl (.nil))))))))))) ?_
        -- region 8: sites.go:56
        refine W.seqR fun Q18 hQ18 => ?_
        refine WL.q (Y.fieldAddr0 (off := 3) (ft := 4) Try.underlying39 rfl cells4 (.pl rfl)) rfl ?_
        refine WL.q (Y.loadB (v := .bool x23.down) Try.underlying4 rfl (.pl rfl) (i := 0) rfl (rfl)) rfl ?_
        refine WL.next hQ18 (.cons (i := 0) rfl (.cons (i := 1) rfl (.cons (i := 2) rfl (.cons (i := 3) rfl (.cons (i := 12) rfl (.cons (i := 13) rfl (.cons (i := 52) rfl (.cons (i := 53) rfl (.cons (i := 54) rfl (.cons (i := 59) rfl (.nil))))))))))) ?_
        refine W.cond (.pl rfl) (fun hC19 => ?_) (fun hC19 => ?_)
        · replace hF11 := cpos hC19 hF11
          -- region 9: sites.go:57
          refine W.reg ?_
          refine WL.q (Y.move (.pl rfl)) rfl ?_
          obtain ⟨hk25, hF11⟩ := ckh hF11
          refine WL.q (Y.add (.pl rfl) (.pl rfl) (ok64_lt (hk25))) rfl ?_
          refine WL.q (Y.assign (.pl rfl)) rfl ?_
          refine WL.nil ?_
          refine W.go hK16 (.cons (i := 0) rfl (.cons (i := 1) rfl (.cons (i := 2) rfl (.cons (i := 3) rfl (.cons (i := 12) rfl (.cons (i := 13) rfl (.cons (i := 52) rfl (.cons (i := 53) rfl (.cons (i := 54) rfl (.nil)))))))))) ?_
          -- region 10: sites.go:55
          refine W.reg ?_
          obtain ⟨hk26, hF11⟩ := ckh hF11
          refine WL.q (Y.add (.pl rfl) (.pl rfl) (ok64_lt (hk26))) rfl ?_
          refine WL.q (Y.move (.pl rfl)) rfl ?_
          refine WL.nil ?_
          obtain rfl := Option.some.inj hF11
          exact W.again2 hK12 (down21 + 1) (v22 + 1) k11 hN11 (Nat.lt_succ_self _) (.cons rfl (.cons rfl (.nil))) (.cons (i := 0) rfl (.cons (i := 1) rfl (.cons (i := 2) rfl (.cons (i := 3) rfl (.cons (i := 13) rfl (.cons (i := 52) rfl (.cons (i := 53) rfl (.nil)))))))) (fun wz hw => hw.pick [1] rfl)
        · replace hF11 := cneg hC19 hF11
          refine W.skip ?_
          refine W.go hK16 (.cons (i := 0) rfl (.cons (i := 1) rfl (.cons (i := 2) rfl (.cons (i := 3) rfl (.cons (i := 12) rfl (.cons (i := 13) rfl (.cons (i := 52) rfl (.cons (i := 53) rfl (.cons (i := 54) rfl (.nil)))))))))) ?_
          -- region 10: sites.go:55
          refine W.reg ?_
          obtain ⟨hk27, hF11⟩ := ckh hF11
          refine WL.q (Y.add (.pl rfl) (.pl rfl) (ok64_lt (hk27))) rfl ?_
          refine WL.q (Y.move (.pl rfl)) rfl ?_
          refine WL.nil ?_
          obtain rfl := Option.some.inj hF11
          exact W.again2 hK12 down21 (v22 + 1) k11 hN11 (Nat.lt_succ_self _) (.cons rfl (.cons rfl (.nil))) (.cons (i := 0) rfl (.cons (i := 1) rfl (.cons (i := 2) rfl (.cons (i := 3) rfl (.cons (i := 13) rfl (.cons (i := 52) rfl (.cons (i := 53) rfl (.nil)))))))) (fun wz hw => hw.pick [1] rfl)
      · replace hF11 := cneg hC15 hF11
        refine W.exit ?_
        obtain rfl := Option.some.inj hF11
        exact W.joinAt1 hK9 down21 (einr hN11) (.cons rfl (.nil)) (.cons (i := 0) rfl (.cons (i := 1) rfl (.cons (i := 2) rfl (.cons (i := 3) rfl (.cons (i := 13) rfl (.nil)))))) (fun wz hw => hw.pick [] rfl)
    · -- behind
      rintro down20 rfl
      obtain ⟨o23, hF23, hF⟩ := bnd hF
      refine W.join1 (Em := fun (asks28 : Int) => [(13, .int .i64 asks28)]) (M := fun asks28 => []) (I := fun asks28 => asks28 = o23) (.cons (i := 0) rfl (.cons (i := 1) rfl (.cons (i := 2) rfl (.cons (i := 3) rfl (.cons (i := 12) rfl (.nil)))))) (fun K24 hK24 => ?_) ?_
      · -- up to
        -- region 11: sites.go:60
        refine W.seqR fun Q25 hQ25 => ?_
        refine WL.q (Y.move (.pl rfl)) rfl ?_
        refine WL.q (Y.len Try.underlying22 (.pl rfl)) rfl ?_
        refine WL.q (Y.move (.pl rfl)) rfl ?_
        refine WL.next hQ25 (.cons (i := 0) rfl (.cons (i := 1) rfl (.cons (i := 2) rfl (.cons (i := 3) rfl (.cons (i := 12) rfl (.cons (i := 13) rfl (.cons (i := 63) rfl (.cons (i := 64) rfl (.cons (i := 65) rfl (.nil)))))))))) ?_
        refine W.block ?_
        refine W.loop2 (Em := fun (asks29 : Int) (v30 : Int) => [(13, .int .i64 asks29), (65, .int .i64 v30)]) (M := fun asks29 v30 => []) (I := fun asks29 v30 k26 => iter (alibkeep_SitesLive_L33 N people3) k26 (asks29, v30) = some o23) 0 0 N (hF23) (.cons rfl (.cons rfl (.nil))) (.cons (i := 0) rfl (.cons (i := 1) rfl (.cons (i := 2) rfl (.cons (i := 3) rfl (.cons (i := 12) rfl (.cons (i := 63) rfl (.cons (i := 64) rfl (.nil)))))))) (fun wz hw => hw.pick [] rfl) (fun asks29 v30 k26 hI K27 hK27 => ?_)
        obtain ⟨k26, t26, rfl, hF26, hN26⟩ := iter_step hI
        -- region 12: sites.go:60
        refine W.seqR fun Q28 hQ28 => ?_
        refine WL.q (Y.lss (.pl rfl) (.pl rfl)) rfl ?_
        refine WL.next hQ28 (.cons (i := 0) rfl (.cons (i := 1) rfl (.cons (i := 2) rfl (.cons (i := 3) rfl (.cons (i := 12) rfl (.cons (i := 13) rfl (.cons (i := 63) rfl (.cons (i := 64) rfl (.cons (i := 65) rfl (.cons (i := 66) rfl (.nil))))))))))) ?_
        refine W.seq fun K29 hK29 => ?_
        refine W.cond (.pl rfl) (fun hC30 => ?_) (fun hC30 => ?_)
        · replace hF26 := cpos hC30 hF26
          refine W.skip ?_
          refine W.go hK29 (.cons (i := 0) rfl (.cons (i := 1) rfl (.cons (i := 2) rfl (.cons (i := 3) rfl (.cons (i := 12) rfl (.cons (i := 13) rfl (.cons (i := 63) rfl (.cons (i := 64) rfl (.cons (i := 65) rfl (.nil)))))))))) ?_
          refine W.seq fun K31 hK31 => ?_
          refine W.block ?_
          -- region 13: sites.go:60
          refine W.seqR fun Q32 hQ32 => ?_
          obtain ⟨x31, hx31, hF26⟩ := bnd hF26
          refine WL.q (Y.nnEl Try.underlying22 cells41 hs7 (.pl rfl) (.pl rfl) (ix_lt (hx31))) rfl ?_
          refine WL.q (Y.loadNN Try.underlying41 rfl hs7 (.pl rfl) (hx31) rfl) rfl ?_
          refine WL.q (Y.assign (.pl rfl)) rfl ?_
          refine WL.next hQ32 (.cons (i := 0) rfl (.cons (i := 1) rfl (.cons (i := 2) rfl (.cons (i := 3) rfl (.cons (i := 12) rfl (.cons (i := 13) rfl (.cons (i := 17) rfl (.cons (i := 63) rfl (.cons (i := 64) rfl (.cons (i := 65) rfl (.nil))))))))))) ?_
          -- region 14: sites.go:61
          refine W.reg ?_
          refine WL.q (Y.move (.pl rfl)) rfl ?_
          refine WL.q (Y.move (.pl rfl)) rfl ?_
          refine WL.q (Y.len Try.underlying41 (.pl rfl)) rfl ?_
          obtain ⟨hk32, hF26⟩ := ckh hF26
          refine WL.q (Y.add (.pl rfl) (.pl rfl) (ok64_lt (hk32))) rfl ?_
          refine WL.q (Y.assign (.pl rfl)) rfl ?_
          refine WL.nil ?_
          refine W.go hK31 (.cons (i := 0) rfl (.cons (i := 1) rfl (.cons (i := 2) rfl (.cons (i := 3) rfl (.cons (i := 12) rfl (.cons (i := 13) rfl (.cons (i := 63) rfl (.cons (i := 64) rfl (.cons (i := 65) rfl (.nil)))))))))) ?_
          -- region 15: sites.go:60
          refine W.reg ?_
          obtain ⟨hk33, hF26⟩ := ckh hF26
          refine WL.q (Y.add (.pl rfl) (.pl rfl) (ok64_lt (hk33))) rfl ?_
          refine WL.q (Y.move (.pl rfl)) rfl ?_
          refine WL.nil ?_
          obtain rfl := Option.some.inj hF26
          exact W.again2 hK27 (asks29 + ((x31).length : Int)) (v30 + 1) k26 hN26 (Nat.lt_succ_self _) (.cons rfl (.cons rfl (.nil))) (.cons (i := 0) rfl (.cons (i := 1) rfl (.cons (i := 2) rfl (.cons (i := 3) rfl (.cons (i := 12) rfl (.cons (i := 63) rfl (.cons (i := 64) rfl (.nil)))))))) (fun wz hw => hw.pick [] rfl)
        · replace hF26 := cneg hC30 hF26
          refine W.exit ?_
          obtain rfl := Option.some.inj hF26
          exact W.joinAt1 hK24 asks29 (einr hN26) (.cons rfl (.nil)) (.cons (i := 0) rfl (.cons (i := 1) rfl (.cons (i := 2) rfl (.cons (i := 3) rfl (.cons (i := 12) rfl (.nil)))))) (fun wz hw => hw.pick [] rfl)
      · -- behind
        rintro asks28 rfl
        -- region 16: sites.go:63
        refine W.seqR fun Q35 hQ35 => ?_
        refine WL.q (Y.move (.pl rfl)) rfl ?_
        obtain ⟨hk34, hF⟩ := ckh hF
        refine WL.step (WO.callM isGo25 (.cons (.pl rfl) (.nil)) rfl (fun wz hw => slices_Clone_api_Act_api_Act_ok (hk34) wz (hs11.mono hw)) ?_)
        rintro ⟨A35, c36⟩ -
        refine WL.q (Y.assign (.pl rfl)) rfl ?_
        refine WL.next hQ35 (.cons (i := 0) rfl (.cons (i := 1) rfl (.cons (i := 2) rfl (.cons (i := 12) rfl (.cons (i := 13) rfl (.cons (i := 18) rfl (.nil))))))) ?_
        obtain ⟨o36, hF36, hF⟩ := bnd hF
        refine W.join3 (Em := fun (all39 : (List Act)) (A37 : Option Addr) (c38 : Nat) => [(18, .slice A37 (all39).length c38)]) (M := fun all39 A37 c38 => [cR encAct 2 A37 c38 25 all39]) (I := fun all39 A37 c38 => all39 = o36) (.cons (i := 0) rfl (.cons (i := 1) rfl (.cons (i := 2) rfl (.cons (i := 12) rfl (.cons (i := 13) rfl (.nil)))))) (fun K37 hK37 => ?_) ?_
        · -- up to
          -- region 17: sites.go:64
          refine W.seqR fun Q38 hQ38 => ?_
          refine WL.q (Y.move (.pl rfl)) rfl ?_
          refine WL.q (Y.move (.pl rfl)) rfl ?_
          refine WL.next hQ38 (.cons (i := 0) rfl (.cons (i := 1) rfl (.cons (i := 2) rfl (.cons (i := 12) rfl (.cons (i := 13) rfl (.cons (i := 18) rfl (.cons (i := 76) rfl (.cons (i := 77) rfl (.nil))))))))) ?_
          refine W.block ?_
          refine W.loop4 (Em := fun (all42 : (List Act)) (v43 : Int) (A40 : Option Addr) (c41 : Nat) => [(18, .slice A40 (all42).length c41), (77, .int .i64 v43)]) (M := fun all42 v43 A40 c41 => [cR encAct 2 A40 c41 25 all42]) (I := fun all42 v43 A40 c41 k39 => iter (alibkeep_SitesLive_L55 N asks28 people3 n1) k39 (all42, v43) = some o36) acts8 0 A35 c36 N (hF36) (.cons rfl (.cons rfl (.nil))) (.cons (i := 0) rfl (.cons (i := 1) rfl (.cons (i := 2) rfl (.cons (i := 12) rfl (.cons (i := 13) rfl (.cons (i := 76) rfl (.nil))))))) (fun wz hw => hw.pick [0] rfl) (fun all42 v43 A40 c41 k39 hI K40 hK40 => ?_)
          obtain ⟨k39, t39, rfl, hF39, hN39⟩ := iter_step hI
          -- region 18: sites.go:64
          refine W.seqR fun Q41 hQ41 => ?_
          refine WL.q (Y.lss (.pl rfl) (.pl rfl)) rfl ?_
          refine WL.next hQ41 (.cons (i := 0) rfl (.cons (i := 1) rfl (.cons (i := 2) rfl (.cons (i := 12) rfl (.cons (i := 13) rfl (.cons (i := 18) rfl (.cons (i := 76) rfl (.cons (i := 77) rfl (.cons (i := 78) rfl (.nil)))))))))) ?_
          refine W.seq fun K42 hK42 => ?_
          refine W.cond (.pl rfl) (fun hC43 => ?_) (fun hC43 => ?_)
          · replace hF39 := cpos hC43 hF39
            refine W.skip ?_
            refine W.go hK42 (.cons (i := 0) rfl (.cons (i := 1) rfl (.cons (i := 2) rfl (.cons (i := 12) rfl (.cons (i := 13) rfl (.cons (i := 18) rfl (.cons (i := 76) rfl (.cons (i := 77) rfl (.nil))))))))) ?_
            obtain ⟨o44, hF44, hF39⟩ := bnd hF39
            refine W.join3 (Em := fun (all46 : (List Act)) (A44 : Option Addr) (c45 : Nat) => [(18, .slice A44 (all46).length c45)]) (M := fun all46 A44 c45 => [cR encAct 2 A44 c45 25 all46]) (I := fun all46 A44 c45 => all46 = o44) (.cons (i := 0) rfl (.cons (i := 1) rfl (.cons (i := 2) rfl (.cons (i := 12) rfl (.cons (i := 13) rfl (.cons (i := 76) rfl (.cons (i := 77) rfl (.nil)))))))) (fun K45 hK45 => ?_) ?_
            · -- up to
              refine W.block ?_
              obtain ⟨o46, hF46, hF44⟩ := bnd hF44
              refine W.join3 (Em := fun (all49 : (List Act)) (A47 : Option Addr) (c48 : Nat) => [(18, .slice A47 (all49).length c48)]) (M := fun all49 A47 c48 => [cR encAct 2 A47 c48 25 all49]) (I := fun all49 A47 c48 => all49 = o46) (.cons (i := 0) rfl (.cons (i := 1) rfl (.cons (i := 2) rfl (.cons (i := 12) rfl (.cons (i := 13) rfl (.cons (i := 76) rfl (.cons (i := 77) rfl (.nil)))))))) (fun K47 hK47 => ?_) ?_
              · -- up to
                -- region 19: sites.go:65
                refine W.seqR fun Q48 hQ48 => ?_
                refine WL.q (Y.move (.pl rfl)) rfl ?_
                refine WL.q (Y.len Try.underlying22 (.pl rfl)) rfl ?_
                refine WL.q (Y.move (.pl rfl)) rfl ?_
                refine WL.next hQ48 (.cons (i := 0) rfl (.cons (i := 1) rfl (.cons (i := 2) rfl (.cons (i := 12) rfl (.cons (i := 13) rfl (.cons (i := 18) rfl (.cons (i := 76) rfl (.cons (i := 77) rfl (.cons (i := 80) rfl (.cons (i := 81) rfl (.nil))))))))))) ?_
                refine W.block ?_
                refine W.loop4 (Em := fun (all52 : (List Act)) (v53 : Int) (A50 : Option Addr) (c51 : Nat) => [(18, .slice A50 (all52).length c51), (81, .int .i64 v53)]) (M := fun all52 v53 A50 c51 => [cR encAct 2 A50 c51 25 all52]) (I := fun all52 v53 A50 c51 k49 => iter (alibkeep_SitesLive_L59 N people3) k49 (all52, v53) = some o46) all42 0 A40 c41 N (hF46) (.cons rfl (.cons rfl (.nil))) (.cons (i := 0) rfl (.cons (i := 1) rfl (.cons (i := 2) rfl (.cons (i := 12) rfl (.cons (i := 13) rfl (.cons (i := 76) rfl (.cons (i := 77) rfl (.cons (i := 80) rfl (.nil))))))))) (fun wz hw => hw.pick [0] rfl) (fun all52 v53 A50 c51 k49 hI K50 hK50 => ?_)
                obtain ⟨k49, t49, rfl, hF49, hN49⟩ := iter_step hI
                -- region 20: sites.go:65
                refine W.seqR fun Q51 hQ51 => ?_
                refine WL.q (Y.lss (.pl rfl) (.pl rfl)) rfl ?_
                refine WL.next hQ51 (.cons (i := 0) rfl (.cons (i := 1) rfl (.cons (i := 2) rfl (.cons (i := 12) rfl (.cons (i := 13) rfl (.cons (i := 18) rfl (.cons (i := 76) rfl (.cons (i := 77) rfl (.cons (i := 80) rfl (.cons (i := 81) rfl (.cons (i := 82) rfl (.nil)))))))))))) ?_
                refine W.seq fun K52 hK52 => ?_
                refine W.cond (.pl rfl) (fun hC53 => ?_) (fun hC53 => ?_)
                · replace hF49 := cpos hC53 hF49
                  refine W.skip ?_
                  refine W.go hK52 (.cons (i := 0) rfl (.cons (i := 1) rfl (.cons (i := 2) rfl (.cons (i := 12) rfl (.cons (i := 13) rfl (.cons (i := 18) rfl (.cons (i := 76) rfl (.cons (i := 77) rfl (.cons (i := 80) rfl (.cons (i := 81) rfl (.nil))))))))))) ?_
                  refine W.seq fun K54 hK54 => ?_
                  refine W.block ?_
                  -- region 21: sites.go:65
                  refine W.seqR fun Q55 hQ55 => ?_
                  refine WL.q (Y.move (.pl rfl)) rfl ?_
                  refine WL.q (Y.assign (.pl rfl)) rfl ?_
                  refine WL.next hQ55 (.cons (i := 0) rfl (.cons (i := 1) rfl (.cons (i := 2) rfl (.cons (i := 12) rfl (.cons (i := 13) rfl (.cons (i := 18) rfl (.cons (i := 19) rfl (.cons (i := 76) rfl (.cons (i := 77) rfl (.cons (i := 80) rfl (.cons (i := 81) rfl (.nil)))))))))))) ?_
                  -- region 22: sites.go:66
                  refine W.reg ?_
                  refine WL.q (Y.move (.pl rfl)) rfl ?_
                  refine WL.q (Y.move (.pl rfl)) rfl ?_
                  refine WL.q (Y.build (cs := (encAct (Act.mk 1 v53)).toArray) shape25 (.cons (.pl rfl) (.cons (.pl rfl) (.nil))) (one_parts ⟨rfl, ⟨rfl, trivial⟩⟩) rfl) rfl ?_
                  refine WL.step (WO.bsliceC (enc := encAct) (ys := ([(Act.mk 1 v53)] : List Act)) Try.underlying23 bz25 (.cons (.pl rfl) (.nil)) rfl lenAct rfl rfl (by decide) (by decide) rfl fun b54 => ?_)
                  obtain ⟨hk57, hF49⟩ := ckh hF49
                  refine WL.step (WO.appendC (enc := encAct) Try.underlying23 ap25 lenAct oneAct (.pl rfl) rfl (.pl rfl) (i := 1) rfl (m2 := 0) rfl (hk57) rfl fun A55 c56 => ?_)
                  refine WL.q (Y.assign (.pl rfl)) rfl ?_
                  refine WL.nil ?_
                  refine W.go hK54 (.cons (i := 0) rfl (.cons (i := 1) rfl (.cons (i := 2) rfl (.cons (i := 12) rfl (.cons (i := 13) rfl (.cons (i := 18) rfl (.cons (i := 76) rfl (.cons (i := 77) rfl (.cons (i := 80) rfl (.cons (i := 81) rfl (.nil))))))))))) ?_
                  -- region 23: sites.go:65
                  refine W.reg ?_
                  obtain ⟨hk58, hF49⟩ := ckh hF49
                  refine WL.q (Y.add (.pl rfl) (.pl rfl) (ok64_lt (hk58))) rfl ?_
                  refine WL.q (Y.move (.pl rfl)) rfl ?_
                  refine WL.nil ?_
                  obtain rfl := Option.some.inj hF49
                  exact W.again4 hK50 (all52 ++ ([(Act.mk 1 v53)] : List Act)) (v53 + 1) A55 c56 k49 hN49 (Nat.lt_succ_self _) (.cons rfl (.cons rfl (.nil))) (.cons (i := 0) rfl (.cons (i := 1) rfl (.cons (i := 2) rfl (.cons (i := 12) rfl (.cons (i := 13) rfl (.cons (i := 76) rfl (.cons (i := 77) rfl (.cons (i := 80) rfl (.nil))))))))) (fun wz hw => hw.pick [1] rfl)
                · replace hF49 := cneg hC53 hF49
                  refine W.exit ?_
                  obtain rfl := Option.some.inj hF49
                  exact W.joinAt3 hK47 all52 A50 c51 (einr hN49) (.cons rfl (.nil)) (.cons (i := 0) rfl (.cons (i := 1) rfl (.cons (i := 2) rfl (.cons (i := 12) rfl (.cons (i := 13) rfl (.cons (i := 76) rfl (.cons (i := 77) rfl (.nil)))))))) (fun wz hw => hw.pick [0] rfl)
              · -- behind
                rintro all49 A47 c48 rfl
                -- region 24: sites.go:68
                refine W.reg ?_
                refine WL.q (Y.move (.pl rfl)) rfl ?_
                refine WL.q (Y.move (.pl rfl)) rfl ?_
                obtain ⟨hk59, hF44⟩ := ckh hF44
                refine WL.q (Y.mul (.pl rfl) (.pl rfl) (ok64_lt (hk59))) rfl ?_
                refine WL.q (Y.move (.pl rfl)) rfl ?_
                obtain ⟨hk60, hF44⟩ := ckh hF44
                refine WL.q (Y.mul (.pl rfl) (.pl rfl) (ok64_lt (hk60))) rfl ?_
                obtain ⟨r61, hr61, hF44⟩ := bnd hF44
                refine WL.step (WO.callM isGo26 (.cons (.pl rfl) (.cons (.pl rfl) (.nil))) rfl (fun wz hw => alibkeep_letters_ok (hr61) wz ) ?_)
                rintro ⟨A62, c63⟩ -
                obtain ⟨hk66, hF44⟩ := ckh hF44
                refine WL.step (WO.appendSO (enc := encAct) (ys := r61) (xs := all49) Try.underlying23 ap25 lenAct oneAct (.pl rfl) rfl (.pl rfl) (i := 1) rfl (fun wz hw => (SlIn.ofRow lenAct hw (i := 0) rfl)) (hk66) rfl fun A64 c65 => ?_)
                refine WL.q (Y.assign (.pl rfl)) rfl ?_
                refine WL.nil ?_
                exact W.joinAt3 hK45 (all49 ++ r61) A64 c65 (Option.some.inj hF44) (.cons rfl (.nil)) (.cons (i := 0) rfl (.cons (i := 1) rfl (.cons (i := 2) rfl (.cons (i := 12) rfl (.cons (i := 13) rfl (.cons (i := 76) rfl (.cons (i := 77) rfl (.nil)))))))) (fun wz hw => hw.pick [1] rfl)
            · -- behind
              rintro all46 A44 c45 rfl
              -- region 25: sites.go:64
              refine W.reg ?_
              obtain ⟨hk67, hF39⟩ := ckh hF39
              refine WL.q (Y.add (.pl rfl) (.pl rfl) (ok64_lt (hk67))) rfl ?_
              refine WL.q (Y.move (.pl rfl)) rfl ?_
              refine WL.nil ?_
              obtain rfl := Option.some.inj hF39
              exact W.again4 hK40 all46 (v43 + 1) A44 c45 k39 hN39 (Nat.lt_succ_self _) (.cons rfl (.cons rfl (.nil))) (.cons (i := 0) rfl (.cons (i := 1) rfl (.cons (i := 2) rfl (.cons (i := 12) rfl (.cons (i := 13) rfl (.cons (i := 76) rfl (.nil))))))) (fun wz hw => hw.pick [0] rfl)
          · replace hF39 := cneg hC43 hF39
            refine W.exit ?_
            obtain rfl := Option.some.inj hF39
            exact W.joinAt3 hK37 all42 A40 c41 (einr hN39) (.cons rfl (.nil)) (.cons (i := 0) rfl (.cons (i := 1) rfl (.cons (i := 2) rfl (.cons (i := 12) rfl (.cons (i := 13) rfl (.nil)))))) (fun wz hw => hw.pick [0] rfl)
        · -- behind
          rintro all39 A37 c38 rfl
          refine W.seq fun K60 hK60 => ?_
          -- region 26: sites.go:70
          refine W.seqR fun Q61 hQ61 => ?_
          refine WL.q (Y.move (.pl rfl)) rfl ?_
          obtain ⟨hk68, hF⟩ := ckh hF
          refine WL.q (Y.mul (.pl rfl) (.pl rfl) (ok64_lt (hk68))) rfl ?_
          refine WL.q (Y.move (.pl rfl)) rfl ?_
          refine WL.q (Y.geq (.pl rfl) (.pl rfl)) rfl ?_
          refine WL.q (Y.move (.pl rfl)) rfl ?_
          refine WL.g (.pl rfl rfl rfl) (fun hg => Y.move (.pl rfl)) rfl ?_
          refine WL.g (.pl rfl rfl rfl) (fun hg => Y.len Try.underlying23 (.gd (hg) rfl)) rfl ?_
          refine WL.g (.pl rfl rfl rfl) (fun hg => Y.gtr (.gd (hg) rfl) (.pl rfl)) rfl ?_
          refine WL.q (Y.or (.pl rfl) (fun h2 => .gd (eqf h2) rfl)) rfl ?_
          refine WL.next hQ61 (.cons (i := 0) rfl (.cons (i := 1) rfl (.cons (i := 2) rfl (.cons (i := 13) rfl (.cons (i := 18) rfl (.cons (i := 106) rfl (.nil))))))) ?_
          refine W.cond (.pl rfl) (fun hC62 => ?_) (fun hC62 => ?_)
          · replace hF := cpos hC62 hF
            -- region 27: sites.go:71
            refine W.seqR fun Q63 hQ63 => ?_
            refine WL.q (Y.assign (.pl rfl)) rfl ?_
            refine WL.next hQ63 (.cons (i := 8) rfl (.nil)) ?_
            obtain rfl := Option.some.inj hF
            refine W.retV (fn := Try.f5) (vs := [.bool true]) Try.results5 ⟨.tmp rfl, trivial⟩ (fun _ _ h => h) (fun wz hw => ?_)
            exact hR _ _ ⟨rfl, (hw.pick [] rfl)⟩
          · replace hF := cneg hC62 hF
            refine W.skip ?_
            refine W.go hK60 (.cons (i := 0) rfl (.cons (i := 1) rfl (.cons (i := 2) rfl (.cons (i := 13) rfl (.cons (i := 18) rfl (.nil)))))) ?_
            -- region 28: sites.go:73
            refine W.seqR fun Q64 hQ64 => ?_
            refine WL.q (Y.move (.pl rfl)) rfl ?_
            refine WL.q (Y.move (.pl rfl)) rfl ?_
            refine WL.q (Y.move (.pl rfl)) rfl ?_
            refine WL.q (Y.move (.pl rfl)) rfl ?_
            obtain ⟨r69, hr69, hF⟩ := bnd hF
            refine WL.step (WO.callM isGo20 (.cons (.pl rfl) (.cons (.pl rfl) (.cons (.pl rfl) (.cons (.pl rfl) (.nil))))) rfl (fun wz hw => sites_Play_1_ok (hr69) wz (hs7.mono hw) (SlIn.ofRow lenAct hw (i := 0) rfl)) ?_)
            rintro ⟨A70, c71, A72, c73⟩ -
            refine WL.q (Y.move (.pl rfl)) rfl ?_
            refine WL.q (Y.extract (.pl rfl) rfl) rfl ?_
            refine WL.q (Y.extract (.pl rfl) rfl) rfl ?_
            refine WL.q (Y.extract (.pl rfl) rfl) rfl ?_
            refine WL.q (Y.assign (.pl rfl)) rfl ?_
            refine WL.q (Y.assign (.pl rfl)) rfl ?_
            refine WL.q (Y.assign (.pl rfl)) rfl ?_
            refine WL.next hQ64 (.cons (i := 13) rfl (.cons (i := 20) rfl (.cons (i := 22) rfl (.nil)))) ?_
            -- region 29: sites.go:74
            refine W.seqR fun Q65 hQ65 => ?_
            refine WL.step (WO.bsliceC (enc := (eI .i64)) (ys := ([1] : List Int)) Try.underlying47 bz3 (.cons (.pl rfl) (.nil)) rfl (fun _ => rfl) rfl rfl (by decide) (by decide) rfl fun b74 => ?_)
            refine WL.q (Y.move (.pl rfl)) rfl ?_
            obtain ⟨r75, hr75, hF⟩ := bnd hF
            refine WL.step (WO.callM isGo27 (.cons (.pl rfl) (.cons (.pl rfl) (.nil))) rfl (fun wz hw => history_Calls_ok (hr75) wz (SlIn.ofRow (fun _ => rfl) hw (i := 0) rfl) (SlIn.ofRow lenEvent hw (i := 1) rfl)) ?_)
            rintro ⟨A76, c77⟩ -
            refine WL.q (Y.move (.pl rfl)) rfl ?_
            refine WL.q (Y.extract (.pl rfl) rfl) rfl ?_
            refine WL.q (Y.extract (.pl rfl) rfl) rfl ?_
            refine WL.q (Y.extract (.pl rfl) rfl) rfl ?_
            refine WL.q (Y.assign (.pl rfl)) rfl ?_
            refine WL.q (Y.assign (.pl rfl)) rfl ?_
            refine WL.q (Y.assign (.pl rfl)) rfl ?_
            refine WL.next hQ65 (.cons (i := 13) rfl (.cons (i := 22) rfl (.cons (i := 23) rfl (.cons (i := 25) rfl (.nil))))) ?_
            -- region 30: sites.go:75
            refine W.seqR fun Q66 hQ66 => ?_
            refine WL.q (Y.move (.pl rfl)) rfl ?_
            refine WL.q (Y.move (.pl rfl)) rfl ?_
            refine WL.step (WO.bsliceC (enc := (eI .i64)) (ys := ([r69.2.2, r75.2.2] : List Int)) Try.underlying108 bz28 (.cons (.pl rfl) (.cons (.pl rfl) (.nil))) rfl (fun _ => rfl) rfl rfl (by decide) (by decide) rfl fun b78 => ?_)
            obtain ⟨r79, hr79, hF⟩ := bnd hF
            refine WL.step (WO.callP isGo28 (.cons (.pl rfl) (.nil)) rfl (fun wz hw => alibkeep_ok_ok (hr79) wz (SlIn.ofRow (fun _ => rfl) hw (i := 0) rfl)) ?_)
            refine WL.q (Y.move (.pl rfl)) rfl ?_
            refine WL.g (.pl rfl rfl rfl) (fun hg => Y.move (.pl rfl)) rfl ?_
            refine WL.g (.pl rfl rfl rfl) (fun hg => Y.len Try.underlying44 (.gd (hg) rfl)) rfl ?_
            refine WL.g (.pl rfl rfl rfl) (fun hg => Y.move (.pl rfl)) rfl ?_
            refine WL.g (.pl rfl rfl rfl) (fun hg => Y.eql (.gd (hg) rfl) (.gd (hg) rfl)) rfl ?_
            refine WL.q (Y.and (.pl rfl) (fun h2 => .gd (eqt h2) rfl)) rfl ?_
            refine WL.q (Y.move (.pl rfl)) rfl ?_
            refine WL.g (.pl rfl rfl rfl) (fun hg => Y.move (.pl rfl)) rfl ?_
            obtain ⟨r80, hr80, hF⟩ := bnd hF
            refine WL.gP (.pl rfl rfl rfl) isGo29 (fun hg => (.cons (.gd (hg) rfl) (.cons (.pl rfl) (.nil)))) rfl (fun hg wz hw => slices_ContainsFunc_api_Call_api_Call_ok (gpos hg hr80) wz (SlIn.ofRow lenCall hw (i := 1) rfl)) ?_
            refine WL.g (.pl rfl rfl rfl) (fun hg => Y.not (.gd (hg) rfl)) rfl ?_
            refine WL.q (Y.and (.pl rfl) (fun h2 => .gd (eqt h2) rfl)) rfl ?_
            refine WL.q (Y.assign (.pl rfl)) rfl ?_
            refine WL.next hQ66 (.cons (i := 8) rfl (.nil)) ?_
            obtain rfl := Option.some.inj hF
            refine W.retV (fn := Try.f5) (vs := [.bool ((r79 && (decide (((r75.1).length : Int) = asks28))) && (!r80))]) Try.results5 ⟨.tmp rfl, trivial⟩ (fun _ _ h => h) (fun wz hw => ?_)
            exact hR _ _ ⟨rfl, (hw.pick [] rfl)⟩

end Go.Proofs.Yteklmleiiiodfaa
