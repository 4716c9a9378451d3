/- SitesStop, SitesGrow: what their code computes, and the walks. -/
import Derived.Test.YteklmleiiiodfaaS7
set_option linter.unusedVariables false
set_option linter.unusedSimpArgs false
set_option linter.unusedSectionVars false
set_option maxRecDepth 100000
namespace Go.Proofs.Yteklmleiiiodfaa
open Go.RowKit
theorem isGo21 : IsGo Try.prog 21 := ⟨_, Try.func21, by kernel_rfl, rfl⟩
theorem isGo22 : IsGo Try.prog 22 := ⟨_, Try.func22, by kernel_rfl, rfl⟩
theorem isGo23 : IsGo Try.prog 23 := ⟨_, Try.func23, by kernel_rfl, rfl⟩
theorem isGo24 : IsGo Try.prog 24 := ⟨_, Try.func24, by kernel_rfl, rfl⟩
theorem isGo55 : IsGo Try.prog 55 := ⟨_, Try.func55, by kernel_rfl, rfl⟩
theorem zero39 : ∃ i, Try.prog.info? 39 = some i ∧ i.zero = some (Value.agg #[(Value.int .i64 0), (Value.int .i64 0), (Value.int .i64 0), (Value.bool false)]) := ⟨_, rfl, by kernel_rfl⟩
def alibkeep_SitesStop_1 (N : Nat) (x1 : Event) : Option Unit :=
  some ()

theorem alibkeep_SitesStop_1_ok {N : Nat} {x1 : Event} {res : Unit} (hF : alibkeep_SitesStop_1 N x1 = some res) (w : World) :
    Pure Try.prog 23 [.agg (encEvent x1).toArray] w (.bool (decide (x1.kind = 0))) := by
  refine W.enter (n := 6) Try.func23 rfl rfl Sub.refl (by simp) (St.start w) fun R hR => ?_
  unfold alibkeep_SitesStop_1 at hF
  -- region 0: sites.go:88
  refine W.seqR fun Q1 hQ1 => ?_
  refine WL.step (WO.boxA (.pl rfl) rfl fun b2 => ?_)
  refine WL.q (Y.assign (.pl rfl)) rfl ?_
  refine WL.next hQ1 (.cons (i := 1) rfl (.nil)) ?_
  -- region 1: sites.go:88
  refine W.seqR fun Q2 hQ2 => ?_
  refine WL.q (Y.fieldAddr0 (off := 2) (ft := 3) Try.underlying34 rfl cells3 (.pl rfl)) rfl ?_
  refine WL.q (Y.loadB (v := .int .i64 x1.kind) Try.underlying3 rfl (.pl rfl) (i := 0) rfl (rfl)) rfl ?_
  refine WL.q (Y.eql (.pl rfl) (.pl rfl)) rfl ?_
  refine WL.q (Y.assign (.pl rfl)) rfl ?_
  refine WL.next hQ2 (.cons (i := 2) rfl (.nil)) ?_
  obtain rfl := Option.some.inj hF
  refine W.retV (fn := Try.f23) (vs := [.bool (decide (x1.kind = 0))]) Try.results23 ⟨.tmp rfl, trivial⟩ (fun _ _ h => h) (fun wz hw => ?_)
  exact hR _ _ ⟨rfl, (hw.pick [] rfl)⟩

def slices_IndexFunc_api_Event_api_Event_L3 (N : Nat) (s1 : (List Event)) : Int → Option (Int ⊕ (Unit ⊕ Int))
  | v6 =>
    cond (decide (v6 < ((s1).length : Int)))
      (bd (ix s1 v6) fun (x7 : Event) =>
      bd (alibkeep_SitesStop_1 N x7) fun (r8 : Unit) =>
      cond (decide (x7.kind = 0))
        (some (.inr (.inr v6)))
        (ck (ok64 (v6 + 1)) <|
        some (.inl (v6 + 1))))
      (some (.inr (.inl ())))

def slices_IndexFunc_api_Event_api_Event (N : Nat) (s1 : (List Event)) : Option Int :=
  bd (α := (Unit ⊕ Int)) (iter (slices_IndexFunc_api_Event_api_Event_L3 N s1) N 0) <|
  Sum.elim (fun _ => 
    some (-1)) (fun p => some p)

theorem slices_IndexFunc_api_Event_api_Event_ok {N : Nat} {s1 : (List Event)} {res : Int} (hF : slices_IndexFunc_api_Event_api_Event N s1 = some res) (w : World) {v5 : Value} (hs4 : SlIn encEvent 4 w v5 s1) :
    Pure Try.prog 55 [v5, .func (.func 23) #[] #[]] w (.int .i64 res) := by
  obtain ⟨A2, c3, rfl, hcc3, hs4⟩ := hs4.form
  refine W.enter (n := 19) Try.func55 rfl rfl Sub.refl (by simp) (St.start w) fun R hR => ?_
  unfold slices_IndexFunc_api_Event_api_Event at hF
  -- region 0: slices.go:107
  refine W.seqR fun Q1 hQ1 => ?_
  refine WL.q (Y.assign (.pl rfl)) rfl ?_
  refine WL.next hQ1 (.cons (i := 0) rfl (.cons (i := 1) rfl (.nil))) ?_
  obtain ⟨o2, hF2, hF⟩ := bnd hF
  refine W.join0 (Em := []) (M := []) (I := (.inl ()) = o2) (.nil) (fun K3 hK3 => ?_) ?_
  · -- up to
    -- region 1: slices.go:108
    refine W.seqR fun Q4 hQ4 => ?_
    refine WL.q (Y.move (.pl rfl)) rfl ?_
    refine WL.q (Y.len Try.underlying26 (.pl rfl)) rfl ?_
    refine WL.q (Y.move (.pl rfl)) rfl ?_
    refine WL.next hQ4 (.cons (i := 0) rfl (.cons (i := 1) rfl (.cons (i := 7) rfl (.cons (i := 8) rfl (.nil))))) ?_
    refine W.block ?_
    refine W.loop1 (Em := fun (v6 : Int) => [(8, .int .i64 v6)]) (M := fun v6 => []) (I := fun v6 k5 => iter (slices_IndexFunc_api_Event_api_Event_L3 N s1) k5 v6 = some o2) 0 N (hF2) (.cons rfl (.nil)) (.cons (i := 0) rfl (.cons (i := 1) rfl (.cons (i := 7) rfl (.nil)))) (fun wz hw => hw.pick [] rfl) (fun v6 k5 hI K6 hK6 => ?_)
    obtain ⟨k5, t5, rfl, hF5, hN5⟩ := iter_step hI
    -- region 2: slices.go:108
    refine W.seqR fun Q7 hQ7 => ?_
    refine WL.q (Y.lss (.pl rfl) (.pl rfl)) rfl ?_
    refine WL.next hQ7 (.cons (i := 0) rfl (.cons (i := 1) rfl (.cons (i := 7) rfl (.cons (i := 8) rfl (.cons (i := 9) rfl (.nil)))))) ?_
    refine W.seq fun K8 hK8 => ?_
    refine W.cond (.pl rfl) (fun hC9 => ?_) (fun hC9 => ?_)
    · replace hF5 := cpos hC9 hF5
      refine W.skip ?_
      refine W.go hK8 (.cons (i := 0) rfl (.cons (i := 1) rfl (.cons (i := 7) rfl (.cons (i := 8) rfl (.nil))))) ?_
      refine W.seq fun K10 hK10 => ?_
      refine W.block ?_
      -- region 3: slices.go:108
      refine W.seqR fun Q11 hQ11 => ?_
      refine WL.q (Y.move (.pl rfl)) rfl ?_
      refine WL.q (Y.assign (.pl rfl)) rfl ?_
      refine WL.next hQ11 (.cons (i := 0) rfl (.cons (i := 1) rfl (.cons (i := 5) rfl (.cons (i := 7) rfl (.cons (i := 8) rfl (.nil)))))) ?_
      -- region 4: slices.go:109
      refine W.seqR fun Q12 hQ12 => ?_
      refine WL.q (Y.move (.pl rfl)) rfl ?_
      refine WL.q (Y.move (.pl rfl)) rfl ?_
      refine WL.q (Y.move (.pl rfl)) rfl ?_
      obtain ⟨x7, hx7, hF5⟩ := bnd hF5
      refine WL.q (Y.slEl Try.underlying26 cells34 hs4 (.pl rfl) (.pl rfl) (ix_lt (hx7))) rfl ?_
      refine WL.q (Y.loadSA (enc := encEvent) (ds := (encEvent x7)) (j := 0) Try.underlying34 rfl cells34 hs4 (.pl rfl) (hx7) rfl rfl subW) rfl ?_
      obtain ⟨r8, hr8, hF5⟩ := bnd hF5
      refine WL.step (WO.callG (γ := Unit) (first := []) (cap := []) (fun g => .bool (decide (x7.kind = 0))) (fun g => []) (fun g => True) isGo23 (.pl rfl) (.cons (.pl rfl) (.nil)) rfl (fun wz hw => (alibkeep_SitesStop_1_ok (hr8) wz ).calls hw) ?_)
      rintro _ -
      refine WL.next hQ12 (.cons (i := 0) rfl (.cons (i := 1) rfl (.cons (i := 5) rfl (.cons (i := 7) rfl (.cons (i := 8) rfl (.cons (i := 16) rfl (.nil))))))) ?_
      refine W.cond (.pl rfl) (fun hC13 => ?_) (fun hC13 => ?_)
      · replace hF5 := cpos hC13 hF5
        -- region 5: slices.go:110
        refine W.seqR fun Q14 hQ14 => ?_
        refine WL.q (Y.move (.pl rfl)) rfl ?_
        refine WL.q (Y.assign (.pl rfl)) rfl ?_
        refine WL.next hQ14 (.cons (i := 4) rfl (.nil)) ?_
        obtain rfl := Option.some.inj hF5
        obtain rfl := einr hN5
        obtain rfl := Option.some.inj hF
        refine W.retV (fn := Try.f55) (vs := [.int .i64 v6]) Try.results55 ⟨.tmp rfl, trivial⟩ (fun _ _ h => h) (fun wz hw => ?_)
        exact hR _ _ ⟨rfl, (hw.pick [] rfl)⟩
      · replace hF5 := cneg hC13 hF5
        refine W.skip ?_
        refine W.go hK10 (.cons (i := 0) rfl (.cons (i := 1) rfl (.cons (i := 7) rfl (.cons (i := 8) rfl (.nil))))) ?_
        -- region 6: slices.go:108
        refine W.reg ?_
        obtain ⟨hk9, hF5⟩ := ckh hF5
        refine WL.q (Y.add (.pl rfl) (.pl rfl) (ok64_lt (hk9))) rfl ?_
        refine WL.q (Y.move (.pl rfl)) rfl ?_
        refine WL.nil ?_
        obtain rfl := Option.some.inj hF5
        exact W.again1 hK6 (v6 + 1) k5 hN5 (Nat.lt_succ_self _) (.cons rfl (.nil)) (.cons (i := 0) rfl (.cons (i := 1) rfl (.cons (i := 7) rfl (.nil)))) (fun wz hw => hw.pick [] rfl)
    · replace hF5 := cneg hC9 hF5
      refine W.exit ?_
      obtain rfl := Option.some.inj hF5
      exact W.joinAt0 hK3  (einr hN5) (.nil) (.nil) (fun wz hw => hw.pick [] rfl)
  · -- behind
    rintro  rfl
    -- region 7: slices.go:113
    refine W.seqR fun Q16 hQ16 => ?_
    refine WL.q (Y.assign (.pl rfl)) rfl ?_
    refine WL.next hQ16 (.cons (i := 4) rfl (.nil)) ?_
    obtain rfl := Option.some.inj hF
    refine W.retV (fn := Try.f55) (vs := [.int .i64 (-1)]) Try.results55 ⟨.tmp rfl, trivial⟩ (fun _ _ h => h) (fun wz hw => ?_)
    exact hR _ _ ⟨rfl, (hw.pick [] rfl)⟩

def slices_ContainsFunc_api_Event_api_Event (N : Nat) (s1 : (List Event)) : Option Bool :=
  bd (slices_IndexFunc_api_Event_api_Event N s1) fun (r6 : Int) =>
  some (decide (0 ≤ r6))

theorem slices_ContainsFunc_api_Event_api_Event_ok {N : Nat} {s1 : (List Event)} {res : Bool} (hF : slices_ContainsFunc_api_Event_api_Event N s1 = some res) (w : World) {v5 : Value} (hs4 : SlIn encEvent 4 w v5 s1) :
    Pure Try.prog 22 [v5, .func (.func 23) #[] #[]] w (.bool res) := by
  obtain ⟨A2, c3, rfl, hcc3, hs4⟩ := hs4.form
  refine W.enter (n := 9) Try.func22 rfl rfl Sub.refl (by simp) (St.start w) fun R hR => ?_
  unfold slices_ContainsFunc_api_Event_api_Event at hF
  -- region 0: slices.go:124
  refine W.seqR fun Q1 hQ1 => ?_
  refine WL.q (Y.assign (.pl rfl)) rfl ?_
  refine WL.next hQ1 (.cons (i := 0) rfl (.cons (i := 1) rfl (.nil))) ?_
  -- region 1: slices.go:125
  refine W.seqR fun Q2 hQ2 => ?_
  refine WL.q (Y.move (.pl rfl)) rfl ?_
  refine WL.q (Y.move (.pl rfl)) rfl ?_
  obtain ⟨r6, hr6, hF⟩ := bnd hF
  refine WL.step (WO.callP isGo55 (.cons (.pl rfl) (.cons (.pl rfl) (.nil))) rfl (fun wz hw => slices_IndexFunc_api_Event_api_Event_ok (hr6) wz (hs4.mono hw)) ?_)
  refine WL.q (Y.geq (.pl rfl) (.pl rfl)) rfl ?_
  refine WL.q (Y.assign (.pl rfl)) rfl ?_
  refine WL.next hQ2 (.cons (i := 4) rfl (.nil)) ?_
  obtain rfl := Option.some.inj hF
  refine W.retV (fn := Try.f22) (vs := [.bool (decide (0 ≤ r6))]) Try.results22 ⟨.tmp rfl, trivial⟩ (fun _ _ h => h) (fun wz hw => ?_)
  exact hR _ _ ⟨rfl, (hw.pick [] rfl)⟩

def alibkeep_SitesStop_L3 (N : Nat) (n1 : Int) : ((List Act) × Int) → Option (((List Act) × Int) ⊕ (List Act))
  | (all18, v19) =>
    cond (decide (v19 < (quoI .i64 (max 0 (min (IntKind.i64.wrap (n1 + 1)) 6)) 2)))
      (ck (limB 16 ((all18).length + (([(Act.mk 4 v19)] : List Act)).length)) <|
      ck (ok64 (v19 + 1)) <|
      some (.inl ((all18 ++ ([(Act.mk 4 v19)] : List Act)), (v19 + 1))))
      (some (.inr all18))

def alibkeep_SitesStop (N : Nat) (n1 : Int) (fast2 : Bool) (people3 : (List (List Ask))) (acts8 : (List Act)) : Option Bool :=
  bd (α := (List Act)) (iter (alibkeep_SitesStop_L3 N n1) N ([], 0)) <|
  fun (all15 : (List Act)) => 
    ck (limB 16 ((all15).length + (acts8).length)) <|
    bd (sites_Play_1 N n1 fast2 people3 (all15 ++ acts8)) fun (r28 : ((List Event) × (List Site) × Int)) =>
    bd (alibkeep_sitesLives N) fun (r33 : Bool) =>
    cond ((!r33) || (!(decide (r28.2.2 = 0))))
      (bd (alibkeep_sitesLives N) fun (r34 : Bool) =>
      some (r34 && (decide (((r28.1).length : Int) = 0))))
      (bd (slices_ContainsFunc_api_Event_api_Event N r28.1) fun (r35 : Bool) =>
      some (!r35))

theorem alibkeep_SitesStop_ok {N : Nat} {n1 : Int} {fast2 : Bool} {people3 : (List (List Ask))} {acts8 : (List Act)} {A4 : Option Addr} {c5 : Nat} {hd6 : List Hd} {res : Bool} (hF : alibkeep_SitesStop N n1 fast2 people3 acts8 = some res) (w : World) (hs7 : SlNN encAsk 3 w A4 c5 hd6 people3) {v12 : Value} (hs11 : SlIn encAct 2 w v12 acts8) :
    Pure Try.prog 3 [.int .i64 n1, .bool fast2, .slice A4 (people3).length c5, v12] w (.bool res) := by
  obtain ⟨A9, c10, rfl, hcc10, hs11⟩ := hs11.form
  refine W.enter (n := 54) Try.func3 rfl rfl Sub.refl (by simp) (St.start w) fun R hR => ?_
  unfold alibkeep_SitesStop at hF
  -- region 0: sites.go:79
  refine W.seqR fun Q1 hQ1 => ?_
  refine WL.q (Y.assign (.pl rfl)) rfl ?_
  refine WL.next hQ1 (.cons (i := 0) rfl (.cons (i := 1) rfl (.cons (i := 2) rfl (.cons (i := 3) rfl (.nil))))) ?_
  -- region 1: sites.go:80
  refine W.seqR fun Q2 hQ2 => ?_
  refine WL.q (Y.assign (.pl rfl)) rfl ?_
  refine WL.next hQ2 (.cons (i := 0) rfl (.cons (i := 1) rfl (.cons (i := 2) rfl (.cons (i := 3) rfl (.cons (i := 9) rfl (.nil)))))) ?_
  obtain ⟨o3, hF3, hF⟩ := bnd hF
  refine W.join3 (Em := fun (all15 : (List Act)) (A13 : Option Addr) (c14 : Nat) => [(9, .slice A13 (all15).length c14)]) (M := fun all15 A13 c14 => [cR encAct 2 A13 c14 25 all15]) (I := fun all15 A13 c14 => all15 = o3) (.cons (i := 0) rfl (.cons (i := 1) rfl (.cons (i := 2) rfl (.cons (i := 3) rfl (.nil))))) (fun K4 hK4 => ?_) ?_
  · -- up to
    -- region 2: sites.go:81
    refine W.seqR fun Q5 hQ5 => ?_
    refine WL.q (Y.move (.pl rfl)) rfl ?_
    refine WL.q (Y.addW (.pl rfl) (.pl rfl)) rfl ?_
    refine WL.q (Y.min (.pl rfl) (.pl rfl)) rfl ?_
    refine WL.q (Y.max (.pl rfl) (.pl rfl)) rfl ?_
    refine WL.q (Y.quo (.pl rfl) (.pl rfl) (by decide)) rfl ?_
    refine WL.q (Y.move (.pl rfl)) rfl ?_
    refine WL.next hQ5 (.cons (i := 0) rfl (.cons (i := 1) rfl (.cons (i := 2) rfl (.cons (i := 3) rfl (.cons (i := 9) rfl (.cons (i := 18) rfl (.cons (i := 19) rfl (.nil)))))))) ?_
    refine W.block ?_
    refine W.loop4 (Em := fun (all18 : (List Act)) (v19 : Int) (A16 : Option Addr) (c17 : Nat) => [(9, .slice A16 (all18).length c17), (19, .int .i64 v19)]) (M := fun all18 v19 A16 c17 => [cR encAct 2 A16 c17 25 all18]) (I := fun all18 v19 A16 c17 k6 => iter (alibkeep_SitesStop_L3 N n1) k6 (all18, v19) = some o3) [] 0 none 0 N (hF3) (.cons rfl (.cons rfl (.nil))) (.cons (i := 0) rfl (.cons (i := 1) rfl (.cons (i := 2) rfl (.cons (i := 3) rfl (.cons (i := 18) rfl (.nil)))))) (fun wz hw => (St.nilR (hw.pick [] rfl) encAct 2 25).pick [0] rfl) (fun all18 v19 A16 c17 k6 hI K7 hK7 => ?_)
    obtain ⟨k6, t6, rfl, hF6, hN6⟩ := iter_step hI
    -- region 3: sites.go:81
    refine W.seqR fun Q8 hQ8 => ?_
    refine WL.q (Y.lss (.pl rfl) (.pl rfl)) rfl ?_
    refine WL.next hQ8 (.cons (i := 0) rfl (.cons (i := 1) rfl (.cons (i := 2) rfl (.cons (i := 3) rfl (.cons (i := 9) rfl (.cons (i := 18) rfl (.cons (i := 19) rfl (.cons (i := 20) rfl (.nil))))))))) ?_
    refine W.seq fun K9 hK9 => ?_
    refine W.cond (.pl rfl) (fun hC10 => ?_) (fun hC10 => ?_)
    · replace hF6 := cpos hC10 hF6
      refine W.skip ?_
      refine W.go hK9 (.cons (i := 0) rfl (.cons (i := 1) rfl (.cons (i := 2) rfl (.cons (i := 3) rfl (.cons (i := 9) rfl (.cons (i := 18) rfl (.cons (i := 19) rfl (.nil)))))))) ?_
      refine W.seq fun K11 hK11 => ?_
      refine W.block ?_
      -- region 4: sites.go:81
      refine W.seqR fun Q12 hQ12 => ?_
      refine WL.q (Y.move (.pl rfl)) rfl ?_
      refine WL.q (Y.assign (.pl rfl)) rfl ?_
      refine WL.next hQ12 (.cons (i := 0) rfl (.cons (i := 1) rfl (.cons (i := 2) rfl (.cons (i := 3) rfl (.cons (i := 9) rfl (.cons (i := 10) rfl (.cons (i := 18) rfl (.cons (i := 19) rfl (.nil))))))))) ?_
      -- region 5: sites.go:82
      refine W.reg ?_
      refine WL.q (Y.move (.pl rfl)) rfl ?_
      refine WL.q (Y.move (.pl rfl)) rfl ?_
      refine WL.q (Y.build (cs := (encAct (Act.mk 4 v19)).toArray) shape25 (.cons (.pl rfl) (.cons (.pl rfl) (.nil))) (one_parts ⟨rfl, ⟨rfl, trivial⟩⟩) rfl) rfl ?_
      refine WL.step (WO.bsliceC (enc := encAct) (ys := ([(Act.mk 4 v19)] : List Act)) Try.underlying23 bz25 (.cons (.pl rfl) (.nil)) rfl lenAct rfl rfl (by decide) (by decide) rfl fun b20 => ?_)
      obtain ⟨hk23, hF6⟩ := ckh hF6
      refine WL.step (WO.appendC (enc := encAct) Try.underlying23 ap25 lenAct oneAct (.pl rfl) rfl (.pl rfl) (i := 1) rfl (m2 := 0) rfl (hk23) rfl fun A21 c22 => ?_)
      refine WL.q (Y.assign (.pl rfl)) rfl ?_
      refine WL.nil ?_
      refine W.go hK11 (.cons (i := 0) rfl (.cons (i := 1) rfl (.cons (i := 2) rfl (.cons (i := 3) rfl (.cons (i := 9) rfl (.cons (i := 18) rfl (.cons (i := 19) rfl (.nil)))))))) ?_
      -- region 6: sites.go:81
      refine W.reg ?_
      obtain ⟨hk24, hF6⟩ := ckh hF6
      refine WL.q (Y.add (.pl rfl) (.pl rfl) (ok64_lt (hk24))) rfl ?_
      refine WL.q (Y.move (.pl rfl)) rfl ?_
      refine WL.nil ?_
      obtain rfl := Option.some.inj hF6
      exact W.again4 hK7 (all18 ++ ([(Act.mk 4 v19)] : List Act)) (v19 + 1) A21 c22 k6 hN6 (Nat.lt_succ_self _) (.cons rfl (.cons rfl (.nil))) (.cons (i := 0) rfl (.cons (i := 1) rfl (.cons (i := 2) rfl (.cons (i := 3) rfl (.cons (i := 18) rfl (.nil)))))) (fun wz hw => hw.pick [1] rfl)
    · replace hF6 := cneg hC10 hF6
      refine W.exit ?_
      obtain rfl := Option.some.inj hF6
      exact W.joinAt3 hK4 all18 A16 c17 (einr hN6) (.cons rfl (.nil)) (.cons (i := 0) rfl (.cons (i := 1) rfl (.cons (i := 2) rfl (.cons (i := 3) rfl (.nil))))) (fun wz hw => hw.pick [0] rfl)
  · -- behind
    rintro all15 A13 c14 rfl
    -- region 7: sites.go:84
    refine W.seqR fun Q15 hQ15 => ?_
    refine WL.q (Y.move (.pl rfl)) rfl ?_
    refine WL.q (Y.move (.pl rfl)) rfl ?_
    refine WL.q (Y.move (.pl rfl)) rfl ?_
    refine WL.q (Y.move (.pl rfl)) rfl ?_
    refine WL.q (Y.move (.pl rfl)) rfl ?_
    obtain ⟨hk27, hF⟩ := ckh hF
    refine WL.step (WO.appendSO (enc := encAct) (ys := acts8) (xs := all15) Try.underlying23 ap25 lenAct oneAct (.pl rfl) rfl (.pl rfl) (i := 0) rfl (fun wz hw => (hs11.mono hw)) (hk27) rfl fun A25 c26 => ?_)
    obtain ⟨r28, hr28, hF⟩ := bnd hF
    refine WL.step (WO.callM isGo20 (.cons (.pl rfl) (.cons (.pl rfl) (.cons (.pl rfl) (.cons (.pl rfl) (.nil))))) rfl (fun wz hw => sites_Play_1_ok (hr28) wz (hs7.mono hw) (SlIn.ofRow lenAct hw (i := 0) rfl)) ?_)
    rintro ⟨A29, c30, A31, c32⟩ -
    refine WL.q (Y.move (.pl rfl)) rfl ?_
    refine WL.q (Y.extract (.pl rfl) rfl) rfl ?_
    refine WL.q (Y.extract (.pl rfl) rfl) rfl ?_
    refine WL.q (Y.extract (.pl rfl) rfl) rfl ?_
    refine WL.q (Y.assign (.pl rfl)) rfl ?_
    refine WL.q (Y.assign (.pl rfl)) rfl ?_
    refine WL.q (Y.assign (.pl rfl)) rfl ?_
    refine WL.next hQ15 (.cons (i := 11) rfl (.cons (i := 13) rfl (.nil))) ?_
    refine W.seq fun K16 hK16 => ?_
    -- region 8: sites.go:85
    refine W.seqR fun Q17 hQ17 => ?_
    obtain ⟨r33, hr33, hF⟩ := bnd hF
    refine WL.step (WO.callP isGo21 (.nil) rfl (fun wz hw => alibkeep_sitesLives_ok (hr33) wz ) ?_)
    refine WL.q (Y.not (.pl rfl)) rfl ?_
    refine WL.q (Y.move (.pl rfl)) rfl ?_
    refine WL.g (.pl rfl rfl rfl) (fun hg => Y.move (.pl rfl)) rfl ?_
    refine WL.g (.pl rfl rfl rfl) (fun hg => Y.neq (.gd (hg) rfl) (.pl rfl)) rfl ?_
    refine WL.q (Y.or (.pl rfl) (fun h2 => .gd (eqf h2) rfl)) rfl ?_
    refine WL.next hQ17 (.cons (i := 11) rfl (.cons (i := 44) rfl (.nil))) ?_
    refine W.cond (.pl rfl) (fun hC18 => ?_) (fun hC18 => ?_)
    · replace hF := cpos hC18 hF
      -- region 9: sites.go:86
      refine W.seqR fun Q19 hQ19 => ?_
      obtain ⟨r34, hr34, hF⟩ := bnd hF
      refine WL.step (WO.callP isGo21 (.nil) rfl (fun wz hw => alibkeep_sitesLives_ok (hr34) wz ) ?_)
      refine WL.q (Y.move (.pl rfl)) rfl ?_
      refine WL.g (.pl rfl rfl rfl) (fun hg => Y.move (.pl rfl)) rfl ?_
      refine WL.g (.pl rfl rfl rfl) (fun hg => Y.len Try.underlying26 (.gd (hg) rfl)) rfl ?_
      refine WL.g (.pl rfl rfl rfl) (fun hg => Y.eql (.gd (hg) rfl) (.pl rfl)) rfl ?_
      refine WL.q (Y.and (.pl rfl) (fun h2 => .gd (eqt h2) rfl)) rfl ?_
      refine WL.q (Y.assign (.pl rfl)) rfl ?_
      refine WL.next hQ19 (.cons (i := 8) rfl (.nil)) ?_
      obtain rfl := Option.some.inj hF
      refine W.retV (fn := Try.f3) (vs := [.bool (r34 && (decide (((r28.1).length : Int) = 0)))]) Try.results3 ⟨.tmp rfl, trivial⟩ (fun _ _ h => h) (fun wz hw => ?_)
      exact hR _ _ ⟨rfl, (hw.pick [] rfl)⟩
    · replace hF := cneg hC18 hF
      refine W.skip ?_
      refine W.go hK16 (.cons (i := 11) rfl (.nil)) ?_
      -- region 10: sites.go:88
      refine W.seqR fun Q20 hQ20 => ?_
      refine WL.q (Y.move (.pl rfl)) rfl ?_
      obtain ⟨r35, hr35, hF⟩ := bnd hF
      refine WL.step (WO.callP isGo22 (.cons (.pl rfl) (.cons (.pl rfl) (.nil))) rfl (fun wz hw => slices_ContainsFunc_api_Event_api_Event_ok (hr35) wz (SlIn.ofRow lenEvent hw (i := 0) rfl)) ?_)
      refine WL.q (Y.not (.pl rfl)) rfl ?_
      refine WL.q (Y.assign (.pl rfl)) rfl ?_
      refine WL.next hQ20 (.cons (i := 8) rfl (.nil)) ?_
      obtain rfl := Option.some.inj hF
      refine W.retV (fn := Try.f3) (vs := [.bool (!r35)]) Try.results3 ⟨.tmp rfl, trivial⟩ (fun _ _ h => h) (fun wz hw => ?_)
      exact hR _ _ ⟨rfl, (hw.pick [] rfl)⟩

def slices_Equal_api_Event_api_Event_L3 (N : Nat) (s11 : (List Event)) (s26 : (List Event)) : Int → Option (Int ⊕ (Unit ⊕ Bool))
  | v11 =>
    cond (decide (v11 < ((s11).length : Int)))
      (bd (ix s11 v11) fun (x12 : Event) =>
      bd (ix s26 v11) fun (x13 : Event) =>
      cond (!(decide (x12 = x13)))
        (some (.inr (.inr false)))
        (ck (ok64 (v11 + 1)) <|
        some (.inl (v11 + 1))))
      (some (.inr (.inl ())))

def slices_Equal_api_Event_api_Event (N : Nat) (s11 : (List Event)) (s26 : (List Event)) : Option Bool :=
  cond (!(decide (((s11).length : Int) = ((s26).length : Int))))
    (some false)
    (bd (α := (Unit ⊕ Bool)) (iter (slices_Equal_api_Event_api_Event_L3 N s11 s26) N 0) <|
    Sum.elim (fun _ => 
      some true) (fun p => some p))

theorem slices_Equal_api_Event_api_Event_ok {N : Nat} {s11 : (List Event)} {s26 : (List Event)} {res : Bool} (hF : slices_Equal_api_Event_api_Event N s11 s26 = some res) (w : World) {v5 : Value} (hs4 : SlIn encEvent 4 w v5 s11) {v10 : Value} (hs9 : SlIn encEvent 4 w v10 s26) :
    Pure Try.prog 24 [v5, v10] w (.bool res) := by
  obtain ⟨A2, c3, rfl, hcc3, hs4⟩ := hs4.form
  obtain ⟨A7, c8, rfl, hcc8, hs9⟩ := hs9.form
  refine W.enter (n := 26) Try.func24 rfl rfl Sub.refl (by simp) (St.start w) fun R hR => ?_
  unfold slices_Equal_api_Event_api_Event at hF
  -- region 0: slices.go:20
  refine W.seqR fun Q1 hQ1 => ?_
  refine WL.q (Y.assign (.pl rfl)) rfl ?_
  refine WL.next hQ1 (.cons (i := 0) rfl (.cons (i := 1) rfl (.nil))) ?_
  refine W.seq fun K2 hK2 => ?_
  -- region 1: slices.go:21
  refine W.seqR fun Q3 hQ3 => ?_
  refine WL.q (Y.move (.pl rfl)) rfl ?_
  refine WL.q (Y.len Try.underlying26 (.pl rfl)) rfl ?_
  refine WL.q (Y.move (.pl rfl)) rfl ?_
  refine WL.q (Y.len Try.underlying26 (.pl rfl)) rfl ?_
  refine WL.q (Y.neq (.pl rfl) (.pl rfl)) rfl ?_
  refine WL.next hQ3 (.cons (i := 0) rfl (.cons (i := 1) rfl (.cons (i := 10) rfl (.nil)))) ?_
  refine W.cond (.pl rfl) (fun hC4 => ?_) (fun hC4 => ?_)
  · replace hF := cpos hC4 hF
    -- region 2: slices.go:22
    refine W.seqR fun Q5 hQ5 => ?_
    refine WL.q (Y.assign (.pl rfl)) rfl ?_
    refine WL.next hQ5 (.cons (i := 4) rfl (.nil)) ?_
    obtain rfl := Option.some.inj hF
    refine W.retV (fn := Try.f24) (vs := [.bool false]) Try.results24 ⟨.tmp rfl, trivial⟩ (fun _ _ h => h) (fun wz hw => ?_)
    exact hR _ _ ⟨rfl, (hw.pick [] rfl)⟩
  · replace hF := cneg hC4 hF
    refine W.skip ?_
    refine W.go hK2 (.cons (i := 0) rfl (.cons (i := 1) rfl (.nil))) ?_
    obtain ⟨o6, hF6, hF⟩ := bnd hF
    refine W.join0 (Em := []) (M := []) (I := (.inl ()) = o6) (.nil) (fun K7 hK7 => ?_) ?_
    · -- up to
      -- region 3: slices.go:24
      refine W.seqR fun Q8 hQ8 => ?_
      refine WL.q (Y.move (.pl rfl)) rfl ?_
      refine WL.q (Y.len Try.underlying26 (.pl rfl)) rfl ?_
      refine WL.q (Y.move (.pl rfl)) rfl ?_
      refine WL.next hQ8 (.cons (i := 0) rfl (.cons (i := 1) rfl (.cons (i := 12) rfl (.cons (i := 13) rfl (.nil))))) ?_
      refine W.block ?_
      refine W.loop1 (Em := fun (v11 : Int) => [(13, .int .i64 v11)]) (M := fun v11 => []) (I := fun v11 k9 => iter (slices_Equal_api_Event_api_Event_L3 N s11 s26) k9 v11 = some o6) 0 N (hF6) (.cons rfl (.nil)) (.cons (i := 0) rfl (.cons (i := 1) rfl (.cons (i := 12) rfl (.nil)))) (fun wz hw => hw.pick [] rfl) (fun v11 k9 hI K10 hK10 => ?_)
      obtain ⟨k9, t9, rfl, hF9, hN9⟩ := iter_step hI
      -- region 4: slices.go:24
      refine W.seqR fun Q11 hQ11 => ?_
      refine WL.q (Y.lss (.pl rfl) (.pl rfl)) rfl ?_
      refine WL.next hQ11 (.cons (i := 0) rfl (.cons (i := 1) rfl (.cons (i := 12) rfl (.cons (i := 13) rfl (.cons (i := 14) rfl (.nil)))))) ?_
      refine W.seq fun K12 hK12 => ?_
      refine W.cond (.pl rfl) (fun hC13 => ?_) (fun hC13 => ?_)
      · replace hF9 := cpos hC13 hF9
        refine W.skip ?_
        refine W.go hK12 (.cons (i := 0) rfl (.cons (i := 1) rfl (.cons (i := 12) rfl (.cons (i := 13) rfl (.nil))))) ?_
        refine W.seq fun K14 hK14 => ?_
        refine W.block ?_
        -- region 5: slices.go:24
        refine W.seqR fun Q15 hQ15 => ?_
        refine WL.q (Y.move (.pl rfl)) rfl ?_
        refine WL.q (Y.assign (.pl rfl)) rfl ?_
        refine WL.next hQ15 (.cons (i := 0) rfl (.cons (i := 1) rfl (.cons (i := 5) rfl (.cons (i := 12) rfl (.cons (i := 13) rfl (.nil)))))) ?_
        -- region 6: slices.go:25
        refine W.seqD (by kernel_rfl) (by kernel_rfl) fun R16 hR16 => ?_
        refine WD.q (Y.move (.pl rfl)) rfl ?_
        refine WD.q (Y.move (.pl rfl)) rfl ?_
        obtain ⟨x12, hx12, hF9⟩ := bnd hF9
        refine WD.q (Y.slEl Try.underlying26 cells34 hs4 (.pl rfl) (.pl rfl) (ix_lt (hx12))) rfl ?_
        refine WD.q (Y.loadSA (enc := encEvent) (ds := (encEvent x12)) (j := 0) Try.underlying34 rfl cells34 hs4 (.pl rfl) (hx12) rfl rfl subW) rfl ?_
        refine WD.q (Y.move (.pl rfl)) rfl ?_
        refine WD.q (Y.move (.pl rfl)) rfl ?_
        obtain ⟨x13, hx13, hF9⟩ := bnd hF9
        refine WD.q (Y.slEl Try.underlying26 cells34 hs9 (.pl rfl) (.pl rfl) (ix_lt (hx13))) rfl ?_
        refine WD.q (Y.loadSA (enc := encEvent) (ds := (encEvent x13)) (j := 0) Try.underlying34 rfl cells34 hs9 (.pl rfl) (hx13) rfl rfl subW) rfl ?_
        refine WD.q (Y.neqS eqs34 (.pl rfl) (.pl rfl) (eqEvent x12 x13)) rfl ?_
        refine WD.next hR16 (.cons (i := 0) rfl (.cons (i := 1) rfl (.cons (i := 12) rfl (.cons (i := 13) rfl (.cons (i := 24) rfl (.nil)))))) ?_
        refine W.cond (.pl rfl) (fun hC17 => ?_) (fun hC17 => ?_)
        · replace hF9 := cpos hC17 hF9
          -- region 7: slices.go:26
          refine W.seqR fun Q18 hQ18 => ?_
          refine WL.q (Y.assign (.pl rfl)) rfl ?_
          refine WL.next hQ18 (.cons (i := 4) rfl (.nil)) ?_
          obtain rfl := Option.some.inj hF9
          obtain rfl := einr hN9
          obtain rfl := Option.some.inj hF
          refine W.retV (fn := Try.f24) (vs := [.bool false]) Try.results24 ⟨.tmp rfl, trivial⟩ (fun _ _ h => h) (fun wz hw => ?_)
          exact hR _ _ ⟨rfl, (hw.pick [] rfl)⟩
        · replace hF9 := cneg hC17 hF9
          refine W.skip ?_
          refine W.go hK14 (.cons (i := 0) rfl (.cons (i := 1) rfl (.cons (i := 12) rfl (.cons (i := 13) rfl (.nil))))) ?_
          -- region 8: slices.go:24
          refine W.reg ?_
          obtain ⟨hk14, hF9⟩ := ckh hF9
          refine WL.q (Y.add (.pl rfl) (.pl rfl) (ok64_lt (hk14))) rfl ?_
          refine WL.q (Y.move (.pl rfl)) rfl ?_
          refine WL.nil ?_
          obtain rfl := Option.some.inj hF9
          exact W.again1 hK10 (v11 + 1) k9 hN9 (Nat.lt_succ_self _) (.cons rfl (.nil)) (.cons (i := 0) rfl (.cons (i := 1) rfl (.cons (i := 12) rfl (.nil)))) (fun wz hw => hw.pick [] rfl)
      · replace hF9 := cneg hC13 hF9
        refine W.exit ?_
        obtain rfl := Option.some.inj hF9
        exact W.joinAt0 hK7  (einr hN9) (.nil) (.nil) (fun wz hw => hw.pick [] rfl)
    · -- behind
      rintro  rfl
      -- region 9: slices.go:29
      refine W.seqR fun Q20 hQ20 => ?_
      refine WL.q (Y.assign (.pl rfl)) rfl ?_
      refine WL.next hQ20 (.cons (i := 4) rfl (.nil)) ?_
      obtain rfl := Option.some.inj hF
      refine W.retV (fn := Try.f24) (vs := [.bool true]) Try.results24 ⟨.tmp rfl, trivial⟩ (fun _ _ h => h) (fun wz hw => ?_)
      exact hR _ _ ⟨rfl, (hw.pick [] rfl)⟩

def alibkeep_SitesGrow_L3 (N : Nat) (r14 : ((List Event) × (List Site) × Int)) (r22 : ((List Event) × (List Site) × Int)) : Int → Option (Int ⊕ (Unit ⊕ Bool))
  | v29 =>
    cond (decide (v29 < ((r14.2.1).length : Int)))
      (bd (α := (Int × Int × Int × Bool × Int × Int × Int × Bool)) (bd (ix r22.2.1 v29) fun (x40 : Site) =>
        bd (ix r14.2.1 v29) fun (x41 : Site) =>
        some (x40.stamp, x40.who, x40.value, x40.down, x41.stamp, x41.who, x41.value, x41.down)) <|
      fun (Stamp31, Who32, Value33, Down34, Stamp36, Who37, Value38, Down39) => 
        cond (((decide (Stamp36 < Stamp31)) || ((decide (Stamp31 = Stamp36)) && ((decide (Who37 < Who32)) || ((decide (Who32 = Who37)) && (!(decide (Value33 = Value38))))))) || (Down34 && ((!Down39) || (!(decide ((Site.mk Stamp31 Who32 Value33 Down34) = (Site.mk Stamp36 Who37 Value38 Down39)))))))
          (some (.inr (.inr false)))
          (ck (ok64 (v29 + 1)) <|
          some (.inl (v29 + 1))))
      (some (.inr (.inl ())))

def alibkeep_SitesGrow (N : Nat) (n1 : Int) (fast2 : Bool) (people3 : (List (List Ask))) (acts8 : (List Act)) (k13 : Int) : Option Bool :=
  bd (sites_Play_1 N n1 fast2 people3 acts8) fun (r14 : ((List Event) × (List Site) × Int)) =>
  bd (alibkeep_sitesLives N) fun (r19 : Bool) =>
  cond ((((!r19) || (!(decide (r14.2.2 = 0)))) || (decide (k13 < 0))) || (decide (((acts8).length : Int) < k13)))
    (bd (alibkeep_sitesLives N) fun (r20 : Bool) =>
    some r20)
    (ck (slB (acts8).length 0 k13) <|
    bd (sites_Play_1 N n1 fast2 people3 (acts8.take k13.toNat)) fun (r22 : ((List Event) × (List Site) × Int)) =>
    ck (!(((!(decide (r22.2.2 = 0))) || (decide (((r14.1).length : Int) < ((r22.1).length : Int)))) == false) || (slB (r14.1).length 0 ((r22.1).length : Int))) <|
    bd ((cond (((!(decide (r22.2.2 = 0))) || (decide (((r14.1).length : Int) < ((r22.1).length : Int)))) == false) (slices_Equal_api_Event_api_Event N (r14.1.take ((r22.1).length : Int).toNat) r22.1) (some false))) fun (r28 : Bool) =>
    cond (((((!(decide (r22.2.2 = 0))) || (decide (((r14.1).length : Int) < ((r22.1).length : Int)))) || (!r28)) || (!(decide (((r14.2.1).length : Int) = n1)))) || (!(decide (((r22.2.1).length : Int) = n1))))
      (some false)
      (bd (α := (Unit ⊕ Bool)) (iter (alibkeep_SitesGrow_L3 N r14 r22) N 0) <|
      Sum.elim (fun _ => 
        some true) (fun p => some p)))

theorem alibkeep_SitesGrow_ok {N : Nat} {n1 : Int} {fast2 : Bool} {people3 : (List (List Ask))} {acts8 : (List Act)} {k13 : Int} {A4 : Option Addr} {c5 : Nat} {hd6 : List Hd} {res : Bool} (hF : alibkeep_SitesGrow N n1 fast2 people3 acts8 k13 = some res) (w : World) (hs7 : SlNN encAsk 3 w A4 c5 hd6 people3) {v12 : Value} (hs11 : SlIn encAct 2 w v12 acts8) :
    Pure Try.prog 4 [.int .i64 n1, .bool fast2, .slice A4 (people3).length c5, v12, .int .i64 k13] w (.bool res) := by
  obtain ⟨A9, c10, rfl, hcc10, hs11⟩ := hs11.form
  refine W.enter (n := 148) Try.func4 rfl rfl Sub.refl (by simp) (St.start w) fun R hR => ?_
  unfold alibkeep_SitesGrow at hF
  -- region 0: sites.go:92
  refine W.seqR fun Q1 hQ1 => ?_
  refine WL.q (Y.assign (.pl rfl)) rfl ?_
  refine WL.next hQ1 (.cons (i := 0) rfl (.cons (i := 1) rfl (.cons (i := 2) rfl (.cons (i := 3) rfl (.cons (i := 4) rfl (.nil)))))) ?_
  -- region 1: sites.go:93
  refine W.seqR fun Q2 hQ2 => ?_
  refine WL.q (Y.move (.pl rfl)) rfl ?_
  refine WL.q (Y.move (.pl rfl)) rfl ?_
  refine WL.q (Y.move (.pl rfl)) rfl ?_
  refine WL.q (Y.move (.pl rfl)) rfl ?_
  obtain ⟨r14, hr14, hF⟩ := bnd hF
  refine WL.step (WO.callM isGo20 (.cons (.pl rfl) (.cons (.pl rfl) (.cons (.pl rfl) (.cons (.pl rfl) (.nil))))) rfl (fun wz hw => sites_Play_1_ok (hr14) wz (hs7.mono hw) (hs11.mono hw)) ?_)
  rintro ⟨A15, c16, A17, c18⟩ -
  refine WL.q (Y.move (.pl rfl)) rfl ?_
  refine WL.q (Y.extract (.pl rfl) rfl) rfl ?_
  refine WL.q (Y.extract (.pl rfl) rfl) rfl ?_
  refine WL.q (Y.extract (.pl rfl) rfl) rfl ?_
  refine WL.q (Y.assign (.pl rfl)) rfl ?_
  refine WL.q (Y.assign (.pl rfl)) rfl ?_
  refine WL.q (Y.assign (.pl rfl)) rfl ?_
  refine WL.next hQ2 (.cons (i := 0) rfl (.cons (i := 1) rfl (.cons (i := 2) rfl (.cons (i := 3) rfl (.cons (i := 4) rfl (.cons (i := 11) rfl (.cons (i := 12) rfl (.cons (i := 13) rfl (.nil))))))))) ?_
  refine W.seq fun K3 hK3 => ?_
  -- region 2: sites.go:94
  refine W.seqR fun Q4 hQ4 => ?_
  obtain ⟨r19, hr19, hF⟩ := bnd hF
  refine WL.step (WO.callP isGo21 (.nil) rfl (fun wz hw => alibkeep_sitesLives_ok (hr19) wz ) ?_)
  refine WL.q (Y.not (.pl rfl)) rfl ?_
  refine WL.q (Y.move (.pl rfl)) rfl ?_
  refine WL.g (.pl rfl rfl rfl) (fun hg => Y.move (.pl rfl)) rfl ?_
  refine WL.g (.pl rfl rfl rfl) (fun hg => Y.neq (.gd (hg) rfl) (.pl rfl)) rfl ?_
  refine WL.q (Y.or (.pl rfl) (fun h2 => .gd (eqf h2) rfl)) rfl ?_
  refine WL.q (Y.move (.pl rfl)) rfl ?_
  refine WL.g (.pl rfl rfl rfl) (fun hg => Y.move (.pl rfl)) rfl ?_
  refine WL.g (.pl rfl rfl rfl) (fun hg => Y.lss (.gd (hg) rfl) (.pl rfl)) rfl ?_
  refine WL.q (Y.or (.pl rfl) (fun h2 => .gd (eqf h2) rfl)) rfl ?_
  refine WL.q (Y.move (.pl rfl)) rfl ?_
  refine WL.g (.pl rfl rfl rfl) (fun hg => Y.move (.pl rfl)) rfl ?_
  refine WL.g (.pl rfl rfl rfl) (fun hg => Y.move (.pl rfl)) rfl ?_
  refine WL.g (.pl rfl rfl rfl) (fun hg => Y.len Try.underlying23 (.gd (hg) rfl)) rfl ?_
  refine WL.g (.pl rfl rfl rfl) (fun hg => Y.gtr (.gd (hg) rfl) (.gd (hg) rfl)) rfl ?_
  refine WL.q (Y.or (.pl rfl) (fun h2 => .gd (eqf h2) rfl)) rfl ?_
  refine WL.next hQ4 (.cons (i := 0) rfl (.cons (i := 1) rfl (.cons (i := 2) rfl (.cons (i := 3) rfl (.cons (i := 4) rfl (.cons (i := 11) rfl (.cons (i := 12) rfl (.cons (i := 44) rfl (.nil))))))))) ?_
  refine W.cond (.pl rfl) (fun hC5 => ?_) (fun hC5 => ?_)
  · replace hF := cpos hC5 hF
    -- region 3: sites.go:95
    refine W.seqR fun Q6 hQ6 => ?_
    obtain ⟨r20, hr20, hF⟩ := bnd hF
    refine WL.step (WO.callP isGo21 (.nil) rfl (fun wz hw => alibkeep_sitesLives_ok (hr20) wz ) ?_)
    refine WL.q (Y.assign (.pl rfl)) rfl ?_
    refine WL.next hQ6 (.cons (i := 10) rfl (.nil)) ?_
    obtain rfl := Option.some.inj hF
    refine W.retV (fn := Try.f4) (vs := [.bool r20]) Try.results4 ⟨.tmp rfl, trivial⟩ (fun _ _ h => h) (fun wz hw => ?_)
    exact hR _ _ ⟨rfl, (hw.pick [] rfl)⟩
  · replace hF := cneg hC5 hF
    refine W.skip ?_
    refine W.go hK3 (.cons (i := 0) rfl (.cons (i := 1) rfl (.cons (i := 2) rfl (.cons (i := 3) rfl (.cons (i := 4) rfl (.cons (i := 11) rfl (.cons (i := 12) rfl (.nil)))))))) ?_
    -- region 4: sites.go:97
    refine W.seqR fun Q7 hQ7 => ?_
    refine WL.q (Y.move (.pl rfl)) rfl ?_
    refine WL.q (Y.move (.pl rfl)) rfl ?_
    refine WL.q (Y.move (.pl rfl)) rfl ?_
    refine WL.q (Y.move (.pl rfl)) rfl ?_
    refine WL.q (Y.move (.pl rfl)) rfl ?_
    obtain ⟨hk21, hF⟩ := ckh hF
    refine WL.q (Y.slice0 (xs := acts8) Try.underlying23 cells25 (.pl rfl) rfl (hs11).cap_le (.pl rfl) (hk21)) rfl ?_
    obtain ⟨r22, hr22, hF⟩ := bnd hF
    refine WL.step (WO.callM isGo20 (.cons (.pl rfl) (.cons (.pl rfl) (.cons (.pl rfl) (.cons (.pl rfl) (.nil))))) rfl (fun wz hw => sites_Play_1_ok (hr22) wz (hs7.mono hw) ((SlIn.sub0 hs11 (slB_nat0 (hk21))).mono hw)) ?_)
    rintro ⟨A23, c24, A25, c26⟩ -
    refine WL.q (Y.move (.pl rfl)) rfl ?_
    refine WL.q (Y.extract (.pl rfl) rfl) rfl ?_
    refine WL.q (Y.extract (.pl rfl) rfl) rfl ?_
    refine WL.q (Y.extract (.pl rfl) rfl) rfl ?_
    refine WL.q (Y.assign (.pl rfl)) rfl ?_
    refine WL.q (Y.assign (.pl rfl)) rfl ?_
    refine WL.q (Y.assign (.pl rfl)) rfl ?_
    refine WL.next hQ7 (.cons (i := 0) rfl (.cons (i := 11) rfl (.cons (i := 12) rfl (.cons (i := 14) rfl (.cons (i := 15) rfl (.cons (i := 16) rfl (.nil))))))) ?_
    refine W.seq fun K8 hK8 => ?_
    -- region 5: sites.go:98
    refine W.seqR fun Q9 hQ9 => ?_
    refine WL.q (Y.move (.pl rfl)) rfl ?_
    refine WL.q (Y.neq (.pl rfl) (.pl rfl)) rfl ?_
    refine WL.q (Y.move (.pl rfl)) rfl ?_
    refine WL.g (.pl rfl rfl rfl) (fun hg => Y.move (.pl rfl)) rfl ?_
    refine WL.g (.pl rfl rfl rfl) (fun hg => Y.len Try.underlying26 (.gd (hg) rfl)) rfl ?_
    refine WL.g (.pl rfl rfl rfl) (fun hg => Y.move (.pl rfl)) rfl ?_
    refine WL.g (.pl rfl rfl rfl) (fun hg => Y.len Try.underlying26 (.gd (hg) rfl)) rfl ?_
    refine WL.g (.pl rfl rfl rfl) (fun hg => Y.gtr (.gd (hg) rfl) (.gd (hg) rfl)) rfl ?_
    refine WL.q (Y.or (.pl rfl) (fun h2 => .gd (eqf h2) rfl)) rfl ?_
    refine WL.q (Y.move (.pl rfl)) rfl ?_
    refine WL.g (.pl rfl rfl rfl) (fun hg => Y.move (.pl rfl)) rfl ?_
    refine WL.g (.pl rfl rfl rfl) (fun hg => Y.move (.pl rfl)) rfl ?_
    refine WL.g (.pl rfl rfl rfl) (fun hg => Y.len Try.underlying26 (.gd (hg) rfl)) rfl ?_
    obtain ⟨hk27, hF⟩ := ckh hF
    refine WL.g (.pl rfl rfl rfl) (fun hg => Y.sliceR0 Try.underlying26 cells34 (i := 2) rfl (.gd (hg) rfl) rfl (.gd (hg) rfl) (gor hg hk27)) rfl ?_
    refine WL.g (.pl rfl rfl rfl) (fun hg => Y.move (.pl rfl)) rfl ?_
    obtain ⟨r28, hr28, hF⟩ := bnd hF
    refine WL.gP (.pl rfl rfl rfl) isGo24 (fun hg => (.cons (.gd (hg) rfl) (.cons (.gd (hg) rfl) (.nil)))) rfl (fun hg wz hw => slices_Equal_api_Event_api_Event_ok (gpos hg hr28) wz (SlIn.sub0 (SlIn.ofRow (enc := encEvent) (sz := 4) lenEvent hw (i := 2) rfl) (slB_nat0 (gor hg hk27))) (SlIn.ofRow lenEvent hw (i := 0) rfl)) ?_
    refine WL.g (.pl rfl rfl rfl) (fun hg => Y.not (.gd (hg) rfl)) rfl ?_
    refine WL.q (Y.or (.pl rfl) (fun h2 => .gd (eqf h2) rfl)) rfl ?_
    refine WL.q (Y.move (.pl rfl)) rfl ?_
    refine WL.g (.pl rfl rfl rfl) (fun hg => Y.move (.pl rfl)) rfl ?_
    refine WL.g (.pl rfl rfl rfl) (fun hg => Y.len Try.underlying27 (.gd (hg) rfl)) rfl ?_
    refine WL.g (.pl rfl rfl rfl) (fun hg => Y.move (.pl rfl)) rfl ?_
    refine WL.g (.pl rfl rfl rfl) (fun hg => Y.neq (.gd (hg) rfl) (.gd (hg) rfl)) rfl ?_
    refine WL.q (Y.or (.pl rfl) (fun h2 => .gd (eqf h2) rfl)) rfl ?_
    refine WL.q (Y.move (.pl rfl)) rfl ?_
    refine WL.g (.pl rfl rfl rfl) (fun hg => Y.move (.pl rfl)) rfl ?_
    refine WL.g (.pl rfl rfl rfl) (fun hg => Y.len Try.underlying27 (.gd (hg) rfl)) rfl ?_
    refine WL.g (.pl rfl rfl rfl) (fun hg => Y.move (.pl rfl)) rfl ?_
    refine WL.g (.pl rfl rfl rfl) (fun hg => Y.neq (.gd (hg) rfl) (.gd (hg) rfl)) rfl ?_
    refine WL.q (Y.or (.pl rfl) (fun h2 => .gd (eqf h2) rfl)) rfl ?_
    refine WL.next hQ9 (.cons (i := 12) rfl (.cons (i := 15) rfl (.cons (i := 86) rfl (.nil)))) ?_
    refine W.cond (.pl rfl) (fun hC10 => ?_) (fun hC10 => ?_)
    · replace hF := cpos hC10 hF
      -- region 6: sites.go:99
      refine W.seqR fun Q11 hQ11 => ?_
      refine WL.q (Y.assign (.pl rfl)) rfl ?_
      refine WL.next hQ11 (.cons (i := 10) rfl (.nil)) ?_
      obtain rfl := Option.some.inj hF
      refine W.retV (fn := Try.f4) (vs := [.bool false]) Try.results4 ⟨.tmp rfl, trivial⟩ (fun _ _ h => h) (fun wz hw => ?_)
      exact hR _ _ ⟨rfl, (hw.pick [] rfl)⟩
    · replace hF := cneg hC10 hF
      refine W.skip ?_
      refine W.go hK8 (.cons (i := 12) rfl (.cons (i := 15) rfl (.nil))) ?_
      obtain ⟨o12, hF12, hF⟩ := bnd hF
      refine W.join0 (Em := []) (M := []) (I := (.inl ()) = o12) (.nil) (fun K13 hK13 => ?_) ?_
      · -- up to
        -- region 7: sites.go:101
        refine W.seqR fun Q14 hQ14 => ?_
        refine WL.q (Y.move (.pl rfl)) rfl ?_
        refine WL.q (Y.len Try.underlying27 (.pl rfl)) rfl ?_
        refine WL.q (Y.move (.pl rfl)) rfl ?_
        refine WL.next hQ14 (.cons (i := 12) rfl (.cons (i := 15) rfl (.cons (i := 88) rfl (.cons (i := 89) rfl (.nil))))) ?_
        refine W.block ?_
        refine W.loop1 (Em := fun (v29 : Int) => [(89, .int .i64 v29)]) (M := fun v29 => [cR encSite 4 A17 c18 39 r14.2.1, cR encSite 4 A25 c26 39 r22.2.1]) (I := fun v29 k15 => iter (alibkeep_SitesGrow_L3 N r14 r22) k15 v29 = some o12) 0 N (hF12) (.cons rfl (.nil)) (.cons (i := 12) rfl (.cons (i := 15) rfl (.cons (i := 88) rfl (.nil)))) (fun wz hw => hw.pick [3, 1] rfl) (fun v29 k15 hI K16 hK16 => ?_)
        obtain ⟨k15, t15, rfl, hF15, hN15⟩ := iter_step hI
        -- region 8: sites.go:101
        refine W.seqR fun Q17 hQ17 => ?_
        refine WL.q (Y.lss (.pl rfl) (.pl rfl)) rfl ?_
        refine WL.next hQ17 (.cons (i := 12) rfl (.cons (i := 15) rfl (.cons (i := 88) rfl (.cons (i := 89) rfl (.cons (i := 90) rfl (.nil)))))) ?_
        refine W.seq fun K18 hK18 => ?_
        refine W.cond (.pl rfl) (fun hC19 => ?_) (fun hC19 => ?_)
        · replace hF15 := cpos hC19 hF15
          refine W.skip ?_
          refine W.go hK18 (.cons (i := 12) rfl (.cons (i := 15) rfl (.cons (i := 88) rfl (.cons (i := 89) rfl (.nil))))) ?_
          refine W.seq fun K20 hK20 => ?_
          refine W.block ?_
          -- region 9: sites.go:101
          refine W.seqR fun Q21 hQ21 => ?_
          refine WL.q (Y.move (.pl rfl)) rfl ?_
          refine WL.q (Y.assign (.pl rfl)) rfl ?_
          refine WL.next hQ21 (.cons (i := 12) rfl (.cons (i := 15) rfl (.cons (i := 17) rfl (.cons (i := 88) rfl (.cons (i := 89) rfl (.nil)))))) ?_
          obtain ⟨o22, hF22, hF15⟩ := bnd hF15
          refine W.join10 (Em := fun (Stamp31 : Int) (Who32 : Int) (Value33 : Int) (Down34 : Bool) (Stamp36 : Int) (Who37 : Int) (Value38 : Int) (Down39 : Bool) (b30 : Nat) (b35 : Nat) => [(18, .pointer (some ⟨b30, 0, none⟩)), (19, .pointer (some ⟨b35, 0, none⟩))]) (M := fun Stamp31 Who32 Value33 Down34 Stamp36 Who37 Value38 Down39 b30 b35 => [cR encSite 4 A17 c18 39 r14.2.1, cR encSite 4 A25 c26 39 r22.2.1, cBx b30 39 (encSite (Site.mk Stamp31 Who32 Value33 Down34)), cBx b35 39 (encSite (Site.mk Stamp36 Who37 Value38 Down39))]) (I := fun Stamp31 Who32 Value33 Down34 Stamp36 Who37 Value38 Down39 b30 b35 => (Stamp31, Who32, Value33, Down34, Stamp36, Who37, Value38, Down39) = o22) (.cons (i := 12) rfl (.cons (i := 15) rfl (.cons (i := 88) rfl (.cons (i := 89) rfl (.nil))))) (fun K23 hK23 => ?_) ?_
          · -- up to
            -- region 10: sites.go:102
            refine W.regX 11 (by kernel_rfl) ?_
            refine WX.pure 0 #[true, false, false, false, false, false, false, false, false, false, false, false] rfl (by kernel_rfl) (fun _ _ => Y.move (.pl rfl)) rfl ?_
            refine WX.pure 1 #[true, true, false, false, false, false, false, false, false, false, false, false] rfl (by kernel_rfl) (fun _ _ => Y.move (.pl rfl)) rfl ?_
            obtain ⟨x40, hx40, hF22⟩ := bnd hF22
            refine WX.take 2 #[true, true, true, false, false, false, false, false, false, false, false, false] (fun wz hw => St.tail [] hw) rfl (by kernel_rfl) (Y.rowEl Try.underlying27 cells39 (i := 1) rfl (.pl rfl) rfl (.pl rfl) (ix_lt (hx40))) rfl ?_
            refine WX.take 3 #[true, true, true, true, false, false, false, false, false, false, false, false] (fun wz hw => St.tail [] hw) rfl (by kernel_rfl) (Y.loadRA (enc := encSite) (ds := (encSite x40)) (a := x40) (idx := v29) (j := 0) Try.underlying39 rfl cells39 lenSite (i := 1) rfl (.pl rfl) (ix_get (hx40)) rfl rfl subW) rfl ?_
            refine WX.pure 4 #[true, true, true, true, true, false, false, false, false, false, false, false] rfl (by kernel_rfl) (fun _ _ => Y.move (.pl rfl)) rfl ?_
            refine WX.pure 5 #[true, true, true, true, true, true, false, false, false, false, false, false] rfl (by kernel_rfl) (fun _ _ => Y.move (.pl rfl)) rfl ?_
            obtain ⟨x41, hx41, hF22⟩ := bnd hF22
            refine WX.take 6 #[true, true, true, true, true, true, true, false, false, false, false, false] (fun wz hw => St.tail [] hw) rfl (by kernel_rfl) (Y.rowEl Try.underlying27 cells39 (i := 0) rfl (.pl rfl) rfl (.pl rfl) (ix_lt (hx41))) rfl ?_
            refine WX.take 7 #[true, true, true, true, true, true, true, true, false, false, false, false] (fun wz hw => St.tail [] hw) rfl (by kernel_rfl) (Y.loadRA (enc := encSite) (ds := (encSite x41)) (a := x41) (idx := v29) (j := 0) Try.underlying39 rfl cells39 lenSite (i := 0) rfl (.pl rfl) (ix_get (hx41)) rfl rfl subW) rfl ?_
            refine WX.branch [8, 9] (fun wz hw => St.tail [] hw) (by kernel_rfl) ⟨?_, ?_, trivial⟩
            · skip
              refine WXI.step #[true, true, true, true, true, true, true, true, true, false, false, false] rfl rfl (WO.alloc (cs := (encSite (Site.mk 0 0 0 false)).toArray) zero39 rfl rfl fun b42 => ?_)
              refine WX.one 9 #[true, true, true, true, true, true, true, true, true, true, false, false] (fun wz hw => St.tail [_] hw) rfl (by kernel_rfl) (WO.alloc (cs := (encSite (Site.mk 0 0 0 false)).toArray) zero39 rfl rfl fun b43 => ?_)
              refine WX.one 10 #[true, true, true, true, true, true, true, true, true, true, true, false] (fun wz hw => St.tail [_, _] hw) rfl (by kernel_rfl) (WO.storeBA (ds := (encSite x40)) (cs' := (encSite x40)) cells39 (.pl rfl) (.pl rfl) rfl (oneSite _) (i := 1) rfl (lel (o := 0) (l := 4) (m := 4) (by decide) rfl rfl) (putW rfl) ?_)
              refine WX.stop #[true, true, true, true, true, true, true, true, true, true, true, true] (fun wz hw => St.tail [_, _] hw) rfl (by kernel_rfl) (WO.storeBA (ds := (encSite x41)) (cs' := (encSite x41)) cells39 (.pl rfl) (.pl rfl) rfl (oneSite _) (i := 0) rfl (lel (o := 0) (l := 4) (m := 4) (by decide) rfl rfl) (putW rfl) ?_)
              refine WA.done (by kernel_rfl) ?_
              exact W.joinAt10 hK23 x40.stamp x40.who x40.value x40.down x41.stamp x41.who x41.value x41.down b42 b43 (Option.some.inj hF22) (.cons rfl (.cons rfl (.nil))) (.cons (i := 12) rfl (.cons (i := 15) rfl (.cons (i := 88) rfl (.cons (i := 89) rfl (.nil))))) (fun wz hw => hw.pick [2, 3, 1, 0] rfl)
            · skip
              refine WXI.step #[true, true, true, true, true, true, true, true, false, true, false, false] rfl rfl (WO.alloc (cs := (encSite (Site.mk 0 0 0 false)).toArray) zero39 rfl rfl fun b44 => ?_)
              refine WX.one 8 #[true, true, true, true, true, true, true, true, true, true, false, false] (fun wz hw => St.tail [_] hw) rfl (by kernel_rfl) (WO.alloc (cs := (encSite (Site.mk 0 0 0 false)).toArray) zero39 rfl rfl fun b45 => ?_)
              refine WX.one 10 #[true, true, true, true, true, true, true, true, true, true, true, false] (fun wz hw => St.tail [_, _] hw) rfl (by kernel_rfl) (WO.storeBA (ds := (encSite x40)) (cs' := (encSite x40)) cells39 (.pl rfl) (.pl rfl) rfl (oneSite _) (i := 0) rfl (lel (o := 0) (l := 4) (m := 4) (by decide) rfl rfl) (putW rfl) ?_)
              refine WX.stop #[true, true, true, true, true, true, true, true, true, true, true, true] (fun wz hw => St.tail [_, _] hw) rfl (by kernel_rfl) (WO.storeBA (ds := (encSite x41)) (cs' := (encSite x41)) cells39 (.pl rfl) (.pl rfl) rfl (oneSite _) (i := 1) rfl (lel (o := 0) (l := 4) (m := 4) (by decide) rfl rfl) (putW rfl) ?_)
              refine WA.done (by kernel_rfl) ?_
              exact W.joinAt10 hK23 x40.stamp x40.who x40.value x40.down x41.stamp x41.who x41.value x41.down b45 b44 (Option.some.inj hF22) (.cons rfl (.cons rfl (.nil))) (.cons (i := 12) rfl (.cons (i := 15) rfl (.cons (i := 88) rfl (.cons (i := 89) rfl (.nil))))) (fun wz hw => hw.pick [2, 3, 0, 1] rfl)
          · -- behind
            rintro Stamp31 Who32 Value33 Down34 Stamp36 Who37 Value38 Down39 b30 b35 rfl
            -- region 11: sites.go:103
            refine W.seqR fun Q25 hQ25 => ?_
            refine WL.q (Y.fieldAddr0 (off := 0) (ft := 3) Try.underlying39 rfl cells3 (.pl rfl)) rfl ?_
            refine WL.q (Y.loadB (v := .int .i64 Stamp31) Try.underlying3 rfl (.pl rfl) (i := 2) rfl (rfl)) rfl ?_
            refine WL.q (Y.fieldAddr0 (off := 0) (ft := 3) Try.underlying39 rfl cells3 (.pl rfl)) rfl ?_
            refine WL.q (Y.loadB (v := .int .i64 Stamp36) Try.underlying3 rfl (.pl rfl) (i := 3) rfl (rfl)) rfl ?_
            refine WL.q (Y.gtr (.pl rfl) (.pl rfl)) rfl ?_
            refine WL.q (Y.move (.pl rfl)) rfl ?_
            refine WL.g (.pl rfl rfl rfl) (fun hg => Y.fieldAddr0 (off := 0) (ft := 3) Try.underlying39 rfl cells3 (.pl rfl)) rfl ?_
            refine WL.g (.pl rfl rfl rfl) (fun hg => Y.loadB (v := .int .i64 Stamp31) Try.underlying3 rfl (.gd (hg) rfl) (i := 2) rfl (rfl)) rfl ?_
            refine WL.g (.pl rfl rfl rfl) (fun hg => Y.fieldAddr0 (off := 0) (ft := 3) Try.underlying39 rfl cells3 (.pl rfl)) rfl ?_
            refine WL.g (.pl rfl rfl rfl) (fun hg => Y.loadB (v := .int .i64 Stamp36) Try.underlying3 rfl (.gd (hg) rfl) (i := 3) rfl (rfl)) rfl ?_
            refine WL.g (.pl rfl rfl rfl) (fun hg => Y.eql (.gd (hg) rfl) (.gd (hg) rfl)) rfl ?_
            refine WL.g (.pl rfl rfl rfl) (fun hg => Y.move (.gd (hg) rfl)) rfl ?_
            refine WL.g (.gd rfl rfl rfl) (fun hg => Y.fieldAddr0 (off := 1) (ft := 3) Try.underlying39 rfl cells3 (.pl rfl)) rfl ?_
            refine WL.g (.gd rfl rfl rfl) (fun hg => Y.loadB (v := .int .i64 Who32) Try.underlying3 rfl (.gd (hg) rfl) (i := 2) rfl (rfl)) rfl ?_
            refine WL.g (.gd rfl rfl rfl) (fun hg => Y.fieldAddr0 (off := 1) (ft := 3) Try.underlying39 rfl cells3 (.pl rfl)) rfl ?_
            refine WL.g (.gd rfl rfl rfl) (fun hg => Y.loadB (v := .int .i64 Who37) Try.underlying3 rfl (.gd (hg) rfl) (i := 3) rfl (rfl)) rfl ?_
            refine WL.g (.gd rfl rfl rfl) (fun hg => Y.gtr (.gd (hg) rfl) (.gd (hg) rfl)) rfl ?_
            refine WL.g (.gd rfl rfl rfl) (fun hg => Y.move (.gd (hg) rfl)) rfl ?_
            refine WL.g (.gd rfl rfl rfl) (fun hg => Y.fieldAddr0 (off := 1) (ft := 3) Try.underlying39 rfl cells3 (.pl rfl)) rfl ?_
            refine WL.g (.gd rfl rfl rfl) (fun hg => Y.loadB (v := .int .i64 Who32) Try.underlying3 rfl (.gd (hg) rfl) (i := 2) rfl (rfl)) rfl ?_
            refine WL.g (.gd rfl rfl rfl) (fun hg => Y.fieldAddr0 (off := 1) (ft := 3) Try.underlying39 rfl cells3 (.pl rfl)) rfl ?_
            refine WL.g (.gd rfl rfl rfl) (fun hg => Y.loadB (v := .int .i64 Who37) Try.underlying3 rfl (.gd (hg) rfl) (i := 3) rfl (rfl)) rfl ?_
            refine WL.g (.gd rfl rfl rfl) (fun hg => Y.eql (.gd (hg) rfl) (.gd (hg) rfl)) rfl ?_
            refine WL.g (.gd rfl rfl rfl) (fun hg => Y.move (.gd (hg) rfl)) rfl ?_
            refine WL.g (.gd rfl rfl rfl) (fun hg => Y.fieldAddr0 (off := 2) (ft := 3) Try.underlying39 rfl cells3 (.pl rfl)) rfl ?_
            refine WL.g (.gd rfl rfl rfl) (fun hg => Y.loadB (v := .int .i64 Value33) Try.underlying3 rfl (.gd (hg) rfl) (i := 2) rfl (rfl)) rfl ?_
            refine WL.g (.gd rfl rfl rfl) (fun hg => Y.fieldAddr0 (off := 2) (ft := 3) Try.underlying39 rfl cells3 (.pl rfl)) rfl ?_
            refine WL.g (.gd rfl rfl rfl) (fun hg => Y.loadB (v := .int .i64 Value38) Try.underlying3 rfl (.gd (hg) rfl) (i := 3) rfl (rfl)) rfl ?_
            refine WL.g (.gd rfl rfl rfl) (fun hg => Y.neq (.gd (hg) rfl) (.gd (hg) rfl)) rfl ?_
            refine WL.g (.gd rfl rfl rfl) (fun hg => Y.and (.gd (hg) rfl) (fun h2 => .gd (band hg (eqt h2)) rfl)) rfl ?_
            refine WL.g (.gd rfl rfl rfl) (fun hg => Y.or (.gd (hg) rfl) (fun h2 => .gd (band hg (eqf h2)) rfl)) rfl ?_
            refine WL.g (.pl rfl rfl rfl) (fun hg => Y.and (.gd (hg) rfl) (fun h2 => .gd (band hg (eqt h2)) rfl)) rfl ?_
            refine WL.q (Y.or (.pl rfl) (fun h2 => .gd (eqf h2) rfl)) rfl ?_
            refine WL.q (Y.move (.pl rfl)) rfl ?_
            refine WL.g (.pl rfl rfl rfl) (fun hg => Y.fieldAddr0 (off := 3) (ft := 4) Try.underlying39 rfl cells4 (.pl rfl)) rfl ?_
            refine WL.g (.pl rfl rfl rfl) (fun hg => Y.loadB (v := .bool Down34) Try.underlying4 rfl (.gd (hg) rfl) (i := 2) rfl (rfl)) rfl ?_
            refine WL.g (.pl rfl rfl rfl) (fun hg => Y.move (.gd (hg) rfl)) rfl ?_
            refine WL.g (.gd rfl rfl rfl) (fun hg => Y.fieldAddr0 (off := 3) (ft := 4) Try.underlying39 rfl cells4 (.pl rfl)) rfl ?_
            refine WL.g (.gd rfl rfl rfl) (fun hg => Y.loadB (v := .bool Down39) Try.underlying4 rfl (.gd (hg) rfl) (i := 3) rfl (rfl)) rfl ?_
            refine WL.g (.gd rfl rfl rfl) (fun hg => Y.not (.gd (hg) rfl)) rfl ?_
            refine WL.g (.gd rfl rfl rfl) (fun hg => Y.move (.gd (hg) rfl)) rfl ?_
            refine WL.g (.gd rfl rfl rfl) (fun hg => Y.loadBA (ds := (encSite (Site.mk Stamp31 Who32 Value33 Down34))) Try.underlying39 rfl cells39 (.pl rfl) (i := 2) rfl rfl subW) rfl ?_
            refine WL.g (.gd rfl rfl rfl) (fun hg => Y.loadBA (ds := (encSite (Site.mk Stamp36 Who37 Value38 Down39))) Try.underlying39 rfl cells39 (.pl rfl) (i := 3) rfl rfl subW) rfl ?_
            refine WL.g (.gd rfl rfl rfl) (fun hg => Y.neqS eqs39 (.gd (hg) rfl) (.gd (hg) rfl) (eqSite (Site.mk Stamp31 Who32 Value33 Down34) (Site.mk Stamp36 Who37 Value38 Down39))) rfl ?_
            refine WL.g (.gd rfl rfl rfl) (fun hg => Y.or (.gd (hg) rfl) (fun h2 => .gd (band hg (eqf h2)) rfl)) rfl ?_
            refine WL.g (.pl rfl rfl rfl) (fun hg => Y.and (.gd (hg) rfl) (fun h2 => .gd (band hg (eqt h2)) rfl)) rfl ?_
            refine WL.q (Y.or (.pl rfl) (fun h2 => .gd (eqf h2) rfl)) rfl ?_
            refine WL.next hQ25 (.cons (i := 12) rfl (.cons (i := 15) rfl (.cons (i := 88) rfl (.cons (i := 89) rfl (.cons (i := 146) rfl (.nil)))))) ?_
            refine W.cond (.pl rfl) (fun hC26 => ?_) (fun hC26 => ?_)
            · replace hF15 := cpos hC26 hF15
              -- region 12: sites.go:104
              refine W.seqR fun Q27 hQ27 => ?_
              refine WL.q (Y.assign (.pl rfl)) rfl ?_
              refine WL.next hQ27 (.cons (i := 10) rfl (.nil)) ?_
              obtain rfl := Option.some.inj hF15
              obtain rfl := einr hN15
              obtain rfl := Option.some.inj hF
              refine W.retV (fn := Try.f4) (vs := [.bool false]) Try.results4 ⟨.tmp rfl, trivial⟩ (fun _ _ h => h) (fun wz hw => ?_)
              exact hR _ _ ⟨rfl, (hw.pick [] rfl)⟩
            · replace hF15 := cneg hC26 hF15
              refine W.skip ?_
              refine W.go hK20 (.cons (i := 12) rfl (.cons (i := 15) rfl (.cons (i := 88) rfl (.cons (i := 89) rfl (.nil))))) ?_
              -- region 13: sites.go:101
              refine W.reg ?_
              obtain ⟨hk46, hF15⟩ := ckh hF15
              refine WL.q (Y.add (.pl rfl) (.pl rfl) (ok64_lt (hk46))) rfl ?_
              refine WL.q (Y.move (.pl rfl)) rfl ?_
              refine WL.nil ?_
              obtain rfl := Option.some.inj hF15
              exact W.again1 hK16 (v29 + 1) k15 hN15 (Nat.lt_succ_self _) (.cons rfl (.nil)) (.cons (i := 12) rfl (.cons (i := 15) rfl (.cons (i := 88) rfl (.nil)))) (fun wz hw => hw.pick [0, 1] rfl)
        · replace hF15 := cneg hC19 hF15
          refine W.exit ?_
          obtain rfl := Option.some.inj hF15
          exact W.joinAt0 hK13  (einr hN15) (.nil) (.nil) (fun wz hw => hw.pick [] rfl)
      · -- behind
        rintro  rfl
        -- region 14: sites.go:107
        refine W.seqR fun Q29 hQ29 => ?_
        refine WL.q (Y.assign (.pl rfl)) rfl ?_
        refine WL.next hQ29 (.cons (i := 10) rfl (.nil)) ?_
        obtain rfl := Option.some.inj hF
        refine W.retV (fn := Try.f4) (vs := [.bool true]) Try.results4 ⟨.tmp rfl, trivial⟩ (fun _ _ h => h) (fun wz hw => ?_)
        exact hR _ _ ⟨rfl, (hw.pick [] rfl)⟩

end Go.Proofs.Yteklmleiiiodfaa
