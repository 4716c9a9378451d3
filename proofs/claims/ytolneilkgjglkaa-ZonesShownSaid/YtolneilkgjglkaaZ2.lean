/- Zones live: what the code computes, and the walk. -/
import Derived.Test.YtolneilkgjglkaaZ1
set_option linter.unusedVariables false
set_option linter.unusedSimpArgs false
set_option linter.unusedSectionVars false
set_option maxRecDepth 100000
namespace Go.Proofs.Ytolneilkgjglkaa
open Go.RowKit
theorem cells24 : Try.prog.cellsOf 24 = 0 + 1 := by kernel_rfl
theorem isGo25 : IsGo Try.prog 25 := ⟨_, Try.func25, by kernel_rfl, rfl⟩
theorem isGo28 : IsGo Try.prog 28 := ⟨_, Try.func28, by kernel_rfl, rfl⟩
theorem isGo66 : IsGo Try.prog 66 := ⟨_, Try.func66, by kernel_rfl, rfl⟩
theorem isGo67 : IsGo Try.prog 67 := ⟨_, Try.func67, by kernel_rfl, rfl⟩
theorem isGo68 : IsGo Try.prog 68 := ⟨_, Try.func68, by kernel_rfl, rfl⟩
theorem isGo69 : IsGo Try.prog 69 := ⟨_, Try.func69, by kernel_rfl, rfl⟩
theorem bz24 : ∃ i, Try.prog.info? 24 = some i ∧ i.zero = some (Value.int .i64 0) ∧ i.size = 1 := ⟨_, rfl, by kernel_rfl, by kernel_rfl⟩
theorem bz39 : ∃ i, Try.prog.info? 39 = some i ∧ i.zero = some (Value.agg #[(Value.int .i64 0), (Value.int .i64 0), (Value.int .i64 0), (Value.int .i64 0)]) ∧ i.size = 4 := ⟨_, rfl, by kernel_rfl, by kernel_rfl⟩
theorem eqs34 : EqShape Try.prog 34 [true, true, true] := ⟨_, Try.underlying34, by kernel_rfl, by kernel_rfl, by kernel_rfl⟩
theorem eqs105 : EqShape Try.prog 105 [true, true, true, false] := ⟨_, Try.underlying105, by kernel_rfl, by kernel_rfl, by kernel_rfl⟩
theorem shape39 : Shape Try.prog 39 [(0, 1), (1, 1), (2, 1), (3, 1)] #[(Value.int .i64 0), (Value.int .i64 0), (Value.int .i64 0), (Value.int .i64 0)] := ⟨_, _, Value.agg #[(Value.int .i64 0), (Value.int .i64 0), (Value.int .i64 0), (Value.int .i64 0)], Try.underlying39, rfl, by kernel_rfl, rfl, by kernel_rfl, by decide⟩
def alibkeep_late (N : Nat) : Option Unit :=
  some ()

theorem alibkeep_late_ok {N : Nat} {res : Unit} (hF : alibkeep_late N = some res) (w : World) :
    Made Try.prog 66 [] w (fun g : Option Addr => .slice g (([(Event.mk 0 0 1 5), (Event.mk 0 0 0 0), (Event.mk 1 0 2 0), (Event.mk 1 0 0 0)] : List Event)).length (([(Event.mk 0 0 1 5), (Event.mk 0 0 0 0), (Event.mk 1 0 2 0), (Event.mk 1 0 0 0)] : List Event)).length) (fun g => [cR encEvent 4 g (([(Event.mk 0 0 1 5), (Event.mk 0 0 0 0), (Event.mk 1 0 2 0), (Event.mk 1 0 0 0)] : List Event)).length 39 ([(Event.mk 0 0 1 5), (Event.mk 0 0 0 0), (Event.mk 1 0 2 0), (Event.mk 1 0 0 0)] : List Event)]) (fun g => True) := by
  refine W.enter (n := 6) Try.func66 rfl rfl Sub.refl (by simp) (St.start w) fun R hR => ?_
  unfold alibkeep_late at hF
  -- region 0: seq.go:29
  refine W.seqR fun Q1 hQ1 => ?_
  refine WL.q (Y.assign (.pl rfl)) rfl ?_
  refine WL.next hQ1 (.nil) ?_
  -- region 1: seq.go:30
  refine W.seqR fun Q2 hQ2 => ?_
  refine WL.q (Y.build (cs := (encEvent (Event.mk 0 0 1 5)).toArray) shape39 (.cons (.pl rfl) (.cons (.pl rfl) (.cons (.pl rfl) (.nil)))) (one_parts ⟨rfl, ⟨rfl, ⟨rfl, trivial⟩⟩⟩) rfl) rfl ?_
  refine WL.q (Y.build (cs := (encEvent (Event.mk 0 0 0 0)).toArray) shape39 (.cons (.pl rfl) (.nil)) (one_parts ⟨rfl, trivial⟩) rfl) rfl ?_
  refine WL.q (Y.build (cs := (encEvent (Event.mk 1 0 2 0)).toArray) shape39 (.cons (.pl rfl) (.cons (.pl rfl) (.nil))) (one_parts ⟨rfl, ⟨rfl, trivial⟩⟩) rfl) rfl ?_
  refine WL.q (Y.build (cs := (encEvent (Event.mk 1 0 0 0)).toArray) shape39 (.cons (.pl rfl) (.cons (.pl rfl) (.nil))) (one_parts ⟨rfl, ⟨rfl, trivial⟩⟩) rfl) rfl ?_
  refine WL.step (WO.bsliceC (enc := encEvent) (ys := ([(Event.mk 0 0 1 5), (Event.mk 0 0 0 0), (Event.mk 1 0 2 0), (Event.mk 1 0 0 0)] : List Event)) Try.underlying22 bz39 (.cons (.pl rfl) (.cons (.pl rfl) (.cons (.pl rfl) (.cons (.pl rfl) (.nil))))) rfl lenEvent rfl rfl (by decide) (by decide) rfl fun b1 => ?_)
  refine WL.q (Y.assign (.pl rfl)) rfl ?_
  refine WL.next hQ2 (.cons (i := 0) rfl (.nil)) ?_
  obtain rfl := Option.some.inj hF
  refine W.retV (fn := Try.f66) (vs := [.slice (some ⟨b1, 0, none⟩) (([(Event.mk 0 0 1 5), (Event.mk 0 0 0 0), (Event.mk 1 0 2 0), (Event.mk 1 0 0 0)] : List Event)).length (([(Event.mk 0 0 1 5), (Event.mk 0 0 0 0), (Event.mk 1 0 2 0), (Event.mk 1 0 0 0)] : List Event)).length]) Try.results66 ⟨.tmp rfl, trivial⟩ (fun _ _ h => h) (fun wz hw => ?_)
  exact hR _ _ ⟨(some ⟨b1, 0, none⟩), trivial, rfl, (hw.pick [0] rfl)⟩

def alibkeep_twoOf (N : Nat) : Option Unit :=
  some ()

theorem alibkeep_twoOf_ok {N : Nat} {res : Unit} (hF : alibkeep_twoOf N = some res) (w : World) :
    Made Try.prog 68 [] w (fun g : Option Addr => .slice g (([(Event.mk 0 0 1 5), (Event.mk 1 0 2 0), (Event.mk 1 0 0 5), (Event.mk 0 0 0 0)] : List Event)).length (([(Event.mk 0 0 1 5), (Event.mk 1 0 2 0), (Event.mk 1 0 0 5), (Event.mk 0 0 0 0)] : List Event)).length) (fun g => [cR encEvent 4 g (([(Event.mk 0 0 1 5), (Event.mk 1 0 2 0), (Event.mk 1 0 0 5), (Event.mk 0 0 0 0)] : List Event)).length 39 ([(Event.mk 0 0 1 5), (Event.mk 1 0 2 0), (Event.mk 1 0 0 5), (Event.mk 0 0 0 0)] : List Event)]) (fun g => True) := by
  refine W.enter (n := 6) Try.func68 rfl rfl Sub.refl (by simp) (St.start w) fun R hR => ?_
  unfold alibkeep_twoOf at hF
  -- region 0: history.go:13
  refine W.seqR fun Q1 hQ1 => ?_
  refine WL.q (Y.assign (.pl rfl)) rfl ?_
  refine WL.next hQ1 (.nil) ?_
  -- region 1: history.go:14
  refine W.seqR fun Q2 hQ2 => ?_
  refine WL.q (Y.build (cs := (encEvent (Event.mk 0 0 1 5)).toArray) shape39 (.cons (.pl rfl) (.cons (.pl rfl) (.cons (.pl rfl) (.nil)))) (one_parts ⟨rfl, ⟨rfl, ⟨rfl, trivial⟩⟩⟩) rfl) rfl ?_
  refine WL.q (Y.build (cs := (encEvent (Event.mk 1 0 2 0)).toArray) shape39 (.cons (.pl rfl) (.cons (.pl rfl) (.nil))) (one_parts ⟨rfl, ⟨rfl, trivial⟩⟩) rfl) rfl ?_
  refine WL.q (Y.build (cs := (encEvent (Event.mk 1 0 0 5)).toArray) shape39 (.cons (.pl rfl) (.cons (.pl rfl) (.nil))) (one_parts ⟨rfl, ⟨rfl, trivial⟩⟩) rfl) rfl ?_
  refine WL.q (Y.build (cs := (encEvent (Event.mk 0 0 0 0)).toArray) shape39 (.cons (.pl rfl) (.nil)) (one_parts ⟨rfl, trivial⟩) rfl) rfl ?_
  refine WL.step (WO.bsliceC (enc := encEvent) (ys := ([(Event.mk 0 0 1 5), (Event.mk 1 0 2 0), (Event.mk 1 0 0 5), (Event.mk 0 0 0 0)] : List Event)) Try.underlying22 bz39 (.cons (.pl rfl) (.cons (.pl rfl) (.cons (.pl rfl) (.cons (.pl rfl) (.nil))))) rfl lenEvent rfl rfl (by decide) (by decide) rfl fun b1 => ?_)
  refine WL.q (Y.assign (.pl rfl)) rfl ?_
  refine WL.next hQ2 (.cons (i := 0) rfl (.nil)) ?_
  obtain rfl := Option.some.inj hF
  refine W.retV (fn := Try.f68) (vs := [.slice (some ⟨b1, 0, none⟩) (([(Event.mk 0 0 1 5), (Event.mk 1 0 2 0), (Event.mk 1 0 0 5), (Event.mk 0 0 0 0)] : List Event)).length (([(Event.mk 0 0 1 5), (Event.mk 1 0 2 0), (Event.mk 1 0 0 5), (Event.mk 0 0 0 0)] : List Event)).length]) Try.results68 ⟨.tmp rfl, trivial⟩ (fun _ _ h => h) (fun wz hw => ?_)
  exact hR _ _ ⟨(some ⟨b1, 0, none⟩), trivial, rfl, (hw.pick [0] rfl)⟩

def alibkeep_ok_L3 (N : Nat) (l1 : (List Int)) : Int → Option (Int ⊕ (Unit ⊕ Bool))
  | v6 =>
    cond (decide (v6 < ((l1).length : Int)))
      (bd (ix l1 v6) fun (x7 : Int) =>
      cond (!(decide (x7 = 0)))
        (some (.inr (.inr false)))
        (ck (ok64 (v6 + 1)) <|
        some (.inl (v6 + 1))))
      (some (.inr (.inl ())))

def alibkeep_ok (N : Nat) (l1 : (List Int)) : Option Bool :=
  bd (α := (Unit ⊕ Bool)) (iter (alibkeep_ok_L3 N l1) N 0) <|
  Sum.elim (fun _ => 
    some true) (fun p => some p)

theorem alibkeep_ok_ok {N : Nat} {l1 : (List Int)} {res : Bool} (hF : alibkeep_ok N l1 = some res) (w : World) {v5 : Value} (hs4 : SlIn (eI .i64) 1 w v5 l1) :
    Pure Try.prog 28 [v5] w (.bool res) := by
  obtain ⟨A2, c3, rfl, hcc3, hs4⟩ := hs4.form
  refine W.enter (n := 14) Try.func28 rfl rfl Sub.refl (by simp) (St.start w) fun R hR => ?_
  unfold alibkeep_ok at hF
  -- region 0: order.go:22
  refine W.seqR fun Q1 hQ1 => ?_
  refine WL.q (Y.assign (.pl rfl)) rfl ?_
  refine WL.next hQ1 (.cons (i := 0) rfl (.nil)) ?_
  obtain ⟨o2, hF2, hF⟩ := bnd hF
  refine W.join0 (Em := []) (M := []) (I := (.inl ()) = o2) (.nil) (fun K3 hK3 => ?_) ?_
  · -- up to
    -- region 1: order.go:23
    refine W.seqR fun Q4 hQ4 => ?_
    refine WL.q (Y.move (.pl rfl)) rfl ?_
    refine WL.q (Y.len Try.underlying106 (.pl rfl)) rfl ?_
    refine WL.q (Y.move (.pl rfl)) rfl ?_
    refine WL.next hQ4 (.cons (i := 5) rfl (.cons (i := 6) rfl (.cons (i := 7) rfl (.nil)))) ?_
    refine W.block ?_
    refine W.loop1 (Em := fun (v6 : Int) => [(7, .int .i64 v6)]) (M := fun v6 => []) (I := fun v6 k5 => iter (alibkeep_ok_L3 N l1) k5 v6 = some o2) 0 N (hF2) (.cons rfl (.nil)) (.cons (i := 5) rfl (.cons (i := 6) rfl (.nil))) (fun wz hw => hw.pick [] rfl) (fun v6 k5 hI K6 hK6 => ?_)
    obtain ⟨k5, t5, rfl, hF5, hN5⟩ := iter_step hI
    -- region 2: order.go:23
    refine W.seqR fun Q7 hQ7 => ?_
    refine WL.q (Y.lss (.pl rfl) (.pl rfl)) rfl ?_
    refine WL.next hQ7 (.cons (i := 5) rfl (.cons (i := 6) rfl (.cons (i := 7) rfl (.cons (i := 8) rfl (.nil))))) ?_
    refine W.seq fun K8 hK8 => ?_
    refine W.cond (.pl rfl) (fun hC9 => ?_) (fun hC9 => ?_)
    · replace hF5 := cpos hC9 hF5
      refine W.skip ?_
      refine W.go hK8 (.cons (i := 5) rfl (.cons (i := 6) rfl (.cons (i := 7) rfl (.nil)))) ?_
      refine W.seq fun K10 hK10 => ?_
      refine W.block ?_
      -- region 3: order.go:23
      refine W.seqR fun Q11 hQ11 => ?_
      obtain ⟨x7, hx7, hF5⟩ := bnd hF5
      refine WL.q (Y.slEl Try.underlying106 cells24 hs4 (.pl rfl) (.pl rfl) (ix_lt (hx7))) rfl ?_
      refine WL.q (Y.loadS (enc := (eI .i64)) (v := .int .i64 x7) (j := 0) Try.underlying24 rfl hs4 (.pl rfl) (hx7) rfl rfl) rfl ?_
      refine WL.q (Y.assign (.pl rfl)) rfl ?_
      refine WL.next hQ11 (.cons (i := 4) rfl (.cons (i := 5) rfl (.cons (i := 6) rfl (.cons (i := 7) rfl (.nil))))) ?_
      -- region 4: order.go:24
      refine W.seqR fun Q12 hQ12 => ?_
      refine WL.q (Y.move (.pl rfl)) rfl ?_
      refine WL.q (Y.neq (.pl rfl) (.pl rfl)) rfl ?_
      refine WL.next hQ12 (.cons (i := 5) rfl (.cons (i := 6) rfl (.cons (i := 7) rfl (.cons (i := 12) rfl (.nil))))) ?_
      refine W.cond (.pl rfl) (fun hC13 => ?_) (fun hC13 => ?_)
      · replace hF5 := cpos hC13 hF5
        -- region 5: order.go:25
        refine W.seqR fun Q14 hQ14 => ?_
        refine WL.q (Y.assign (.pl rfl)) rfl ?_
        refine WL.next hQ14 (.cons (i := 2) rfl (.nil)) ?_
        obtain rfl := Option.some.inj hF5
        obtain rfl := einr hN5
        obtain rfl := Option.some.inj hF
        refine W.retV (fn := Try.f28) (vs := [.bool false]) Try.results28 ⟨.tmp rfl, trivial⟩ (fun _ _ h => h) (fun wz hw => ?_)
        exact hR _ _ ⟨rfl, (hw.pick [] rfl)⟩
      · replace hF5 := cneg hC13 hF5
        refine W.skip ?_
        refine W.go hK10 (.cons (i := 5) rfl (.cons (i := 6) rfl (.cons (i := 7) rfl (.nil)))) ?_
        -- region 6: order.go:23
        refine W.reg ?_
        obtain ⟨hk8, hF5⟩ := ckh hF5
        refine WL.q (Y.add (.pl rfl) (.pl rfl) (ok64_lt (hk8))) rfl ?_
        refine WL.q (Y.move (.pl rfl)) rfl ?_
        refine WL.nil ?_
        obtain rfl := Option.some.inj hF5
        exact W.again1 hK6 (v6 + 1) k5 hN5 (Nat.lt_succ_self _) (.cons rfl (.nil)) (.cons (i := 5) rfl (.cons (i := 6) rfl (.nil))) (fun wz hw => hw.pick [] rfl)
    · replace hF5 := cneg hC9 hF5
      refine W.exit ?_
      obtain rfl := Option.some.inj hF5
      exact W.joinAt0 hK3  (einr hN5) (.nil) (.nil) (fun wz hw => hw.pick [] rfl)
  · -- behind
    rintro  rfl
    -- region 7: order.go:28
    refine W.seqR fun Q16 hQ16 => ?_
    refine WL.q (Y.assign (.pl rfl)) rfl ?_
    refine WL.next hQ16 (.cons (i := 2) rfl (.nil)) ?_
    obtain rfl := Option.some.inj hF
    refine W.retV (fn := Try.f28) (vs := [.bool true]) Try.results28 ⟨.tmp rfl, trivial⟩ (fun _ _ h => h) (fun wz hw => ?_)
    exact hR _ _ ⟨rfl, (hw.pick [] rfl)⟩

def slices_Equal_api_Zone_api_Zone_L3 (N : Nat) (s11 : (List Zone)) (s26 : (List Zone)) : Int → Option (Int ⊕ (Unit ⊕ Bool))
  | v11 =>
    cond (decide (v11 < ((s11).length : Int)))
      (bd (ix s11 v11) fun (x12 : Zone) =>
      bd (ix s26 v11) fun (x13 : Zone) =>
      cond (!(decide (x12 = x13)))
        (some (.inr (.inr false)))
        (ck (ok64 (v11 + 1)) <|
        some (.inl (v11 + 1))))
      (some (.inr (.inl ())))

def slices_Equal_api_Zone_api_Zone (N : Nat) (s11 : (List Zone)) (s26 : (List Zone)) : Option Bool :=
  cond (!(decide (((s11).length : Int) = ((s26).length : Int))))
    (some false)
    (bd (α := (Unit ⊕ Bool)) (iter (slices_Equal_api_Zone_api_Zone_L3 N s11 s26) N 0) <|
    Sum.elim (fun _ => 
      some true) (fun p => some p))

theorem slices_Equal_api_Zone_api_Zone_ok {N : Nat} {s11 : (List Zone)} {s26 : (List Zone)} {res : Bool} (hF : slices_Equal_api_Zone_api_Zone N s11 s26 = some res) (w : World) {v5 : Value} (hs4 : SlIn encZone 4 w v5 s11) {v10 : Value} (hs9 : SlIn encZone 4 w v10 s26) :
    Pure Try.prog 69 [v5, v10] w (.bool res) := by
  obtain ⟨A2, c3, rfl, hcc3, hs4⟩ := hs4.form
  obtain ⟨A7, c8, rfl, hcc8, hs9⟩ := hs9.form
  refine W.enter (n := 26) Try.func69 rfl rfl Sub.refl (by simp) (St.start w) fun R hR => ?_
  unfold slices_Equal_api_Zone_api_Zone at hF
  -- region 0: slices.go:20
  refine W.seqR fun Q1 hQ1 => ?_
  refine WL.q (Y.assign (.pl rfl)) rfl ?_
  refine WL.next hQ1 (.cons (i := 0) rfl (.cons (i := 1) rfl (.nil))) ?_
  refine W.seq fun K2 hK2 => ?_
  -- region 1: slices.go:21
  refine W.seqR fun Q3 hQ3 => ?_
  refine WL.q (Y.move (.pl rfl)) rfl ?_
  refine WL.q (Y.len Try.underlying93 (.pl rfl)) rfl ?_
  refine WL.q (Y.move (.pl rfl)) rfl ?_
  refine WL.q (Y.len Try.underlying93 (.pl rfl)) rfl ?_
  refine WL.q (Y.neq (.pl rfl) (.pl rfl)) rfl ?_
  refine WL.next hQ3 (.cons (i := 0) rfl (.cons (i := 1) rfl (.cons (i := 10) rfl (.nil)))) ?_
  refine W.cond (.pl rfl) (fun hC4 => ?_) (fun hC4 => ?_)
  · replace hF := cpos hC4 hF
    -- region 2: slices.go:22
    refine W.seqR fun Q5 hQ5 => ?_
    refine WL.q (Y.assign (.pl rfl)) rfl ?_
    refine WL.next hQ5 (.cons (i := 4) rfl (.nil)) ?_
    obtain rfl := Option.some.inj hF
    refine W.retV (fn := Try.f69) (vs := [.bool false]) Try.results69 ⟨.tmp rfl, trivial⟩ (fun _ _ h => h) (fun wz hw => ?_)
    exact hR _ _ ⟨rfl, (hw.pick [] rfl)⟩
  · replace hF := cneg hC4 hF
    refine W.skip ?_
    refine W.go hK2 (.cons (i := 0) rfl (.cons (i := 1) rfl (.nil))) ?_
    obtain ⟨o6, hF6, hF⟩ := bnd hF
    refine W.join0 (Em := []) (M := []) (I := (.inl ()) = o6) (.nil) (fun K7 hK7 => ?_) ?_
    · -- up to
      -- region 3: slices.go:24
      refine W.seqR fun Q8 hQ8 => ?_
      refine WL.q (Y.move (.pl rfl)) rfl ?_
      refine WL.q (Y.len Try.underlying93 (.pl rfl)) rfl ?_
      refine WL.q (Y.move (.pl rfl)) rfl ?_
      refine WL.next hQ8 (.cons (i := 0) rfl (.cons (i := 1) rfl (.cons (i := 12) rfl (.cons (i := 13) rfl (.nil))))) ?_
      refine W.block ?_
      refine W.loop1 (Em := fun (v11 : Int) => [(13, .int .i64 v11)]) (M := fun v11 => []) (I := fun v11 k9 => iter (slices_Equal_api_Zone_api_Zone_L3 N s11 s26) k9 v11 = some o6) 0 N (hF6) (.cons rfl (.nil)) (.cons (i := 0) rfl (.cons (i := 1) rfl (.cons (i := 12) rfl (.nil)))) (fun wz hw => hw.pick [] rfl) (fun v11 k9 hI K10 hK10 => ?_)
      obtain ⟨k9, t9, rfl, hF9, hN9⟩ := iter_step hI
      -- region 4: slices.go:24
      refine W.seqR fun Q11 hQ11 => ?_
      refine WL.q (Y.lss (.pl rfl) (.pl rfl)) rfl ?_
      refine WL.next hQ11 (.cons (i := 0) rfl (.cons (i := 1) rfl (.cons (i := 12) rfl (.cons (i := 13) rfl (.cons (i := 14) rfl (.nil)))))) ?_
      refine W.seq fun K12 hK12 => ?_
      refine W.cond (.pl rfl) (fun hC13 => ?_) (fun hC13 => ?_)
      · replace hF9 := cpos hC13 hF9
        refine W.skip ?_
        refine W.go hK12 (.cons (i := 0) rfl (.cons (i := 1) rfl (.cons (i := 12) rfl (.cons (i := 13) rfl (.nil))))) ?_
        refine W.seq fun K14 hK14 => ?_
        refine W.block ?_
        -- region 5: slices.go:24
        refine W.seqR fun Q15 hQ15 => ?_
        refine WL.q (Y.move (.pl rfl)) rfl ?_
        refine WL.q (Y.assign (.pl rfl)) rfl ?_
        refine WL.next hQ15 (.cons (i := 0) rfl (.cons (i := 1) rfl (.cons (i := 5) rfl (.cons (i := 12) rfl (.cons (i := 13) rfl (.nil)))))) ?_
        -- region 6: slices.go:25
        refine W.seqD (by kernel_rfl) (by kernel_rfl) fun R16 hR16 => ?_
        refine WD.q (Y.move (.pl rfl)) rfl ?_
        refine WD.q (Y.move (.pl rfl)) rfl ?_
        obtain ⟨x12, hx12, hF9⟩ := bnd hF9
        refine WD.q (Y.slEl Try.underlying93 cells105 hs4 (.pl rfl) (.pl rfl) (ix_lt (hx12))) rfl ?_
        refine WD.q (Y.loadSA (enc := encZone) (ds := (encZone x12)) (j := 0) Try.underlying105 rfl cells105 hs4 (.pl rfl) (hx12) rfl rfl subW) rfl ?_
        refine WD.q (Y.move (.pl rfl)) rfl ?_
        refine WD.q (Y.move (.pl rfl)) rfl ?_
        obtain ⟨x13, hx13, hF9⟩ := bnd hF9
        refine WD.q (Y.slEl Try.underlying93 cells105 hs9 (.pl rfl) (.pl rfl) (ix_lt (hx13))) rfl ?_
        refine WD.q (Y.loadSA (enc := encZone) (ds := (encZone x13)) (j := 0) Try.underlying105 rfl cells105 hs9 (.pl rfl) (hx13) rfl rfl subW) rfl ?_
        refine WD.q (Y.neqS eqs105 (.pl rfl) (.pl rfl) (eqZone x12 x13)) rfl ?_
        refine WD.next hR16 (.cons (i := 0) rfl (.cons (i := 1) rfl (.cons (i := 12) rfl (.cons (i := 13) rfl (.cons (i := 24) rfl (.nil)))))) ?_
        refine W.cond (.pl rfl) (fun hC17 => ?_) (fun hC17 => ?_)
        · replace hF9 := cpos hC17 hF9
          -- region 7: slices.go:26
          refine W.seqR fun Q18 hQ18 => ?_
          refine WL.q (Y.assign (.pl rfl)) rfl ?_
          refine WL.next hQ18 (.cons (i := 4) rfl (.nil)) ?_
          obtain rfl := Option.some.inj hF9
          obtain rfl := einr hN9
          obtain rfl := Option.some.inj hF
          refine W.retV (fn := Try.f69) (vs := [.bool false]) Try.results69 ⟨.tmp rfl, trivial⟩ (fun _ _ h => h) (fun wz hw => ?_)
          exact hR _ _ ⟨rfl, (hw.pick [] rfl)⟩
        · replace hF9 := cneg hC17 hF9
          refine W.skip ?_
          refine W.go hK14 (.cons (i := 0) rfl (.cons (i := 1) rfl (.cons (i := 12) rfl (.cons (i := 13) rfl (.nil))))) ?_
          -- region 8: slices.go:24
          refine W.reg ?_
          obtain ⟨hk14, hF9⟩ := ckh hF9
          refine WL.q (Y.add (.pl rfl) (.pl rfl) (ok64_lt (hk14))) rfl ?_
          refine WL.q (Y.move (.pl rfl)) rfl ?_
          refine WL.nil ?_
          obtain rfl := Option.some.inj hF9
          exact W.again1 hK10 (v11 + 1) k9 hN9 (Nat.lt_succ_self _) (.cons rfl (.nil)) (.cons (i := 0) rfl (.cons (i := 1) rfl (.cons (i := 12) rfl (.nil)))) (fun wz hw => hw.pick [] rfl)
      · replace hF9 := cneg hC13 hF9
        refine W.exit ?_
        obtain rfl := Option.some.inj hF9
        exact W.joinAt0 hK7  (einr hN9) (.nil) (.nil) (fun wz hw => hw.pick [] rfl)
    · -- behind
      rintro  rfl
      -- region 9: slices.go:29
      refine W.seqR fun Q20 hQ20 => ?_
      refine WL.q (Y.assign (.pl rfl)) rfl ?_
      refine WL.next hQ20 (.cons (i := 4) rfl (.nil)) ?_
      obtain rfl := Option.some.inj hF
      refine W.retV (fn := Try.f69) (vs := [.bool true]) Try.results69 ⟨.tmp rfl, trivial⟩ (fun _ _ h => h) (fun wz hw => ?_)
      exact hR _ _ ⟨rfl, (hw.pick [] rfl)⟩

def alibkeep_zonesLives (N : Nat) : Option Bool :=
  bd (alibkeep_late N) fun (r1 : Unit) =>
  bd (zones_Check N ([(Event.mk 0 0 1 5), (Event.mk 0 0 0 0), (Event.mk 1 0 2 0), (Event.mk 1 0 0 0)] : List Event)) fun (r3 : (Bool × Int × Int × Int × Int)) =>
  bd (alibkeep_late N) fun (r5 : Unit) =>
  bd (zones_Zones N ([(Event.mk 0 0 1 5), (Event.mk 0 0 0 0), (Event.mk 1 0 2 0), (Event.mk 1 0 0 0)] : List Event)) fun (r7 : ((List Zone) × Int)) =>
  bd (alibkeep_twoOf N) fun (r10 : Unit) =>
  bd (zones_Check N ([(Event.mk 0 0 1 5), (Event.mk 1 0 2 0), (Event.mk 1 0 0 5), (Event.mk 0 0 0 0)] : List Event)) fun (r12 : (Bool × Int × Int × Int × Int)) =>
  bd (α := Bool) (bd (alibkeep_ok N ([r3.2.2.2.2, r7.2, r12.2.2.2.2] : List Int)) fun (r16 : Bool) =>
    cond ((((r16 && (!r3.1)) && (decide ((Bad.mk r3.2.1 r3.2.2.1 r3.2.2.2.1) = (Bad.mk 5 0 5)))) && r12.1) == true)
      (bd (slices_Equal_api_Zone_api_Zone N r7.1 ([(Zone.mk 0 (-1) 2 true), (Zone.mk 5 1 0 false)] : List Zone)) fun (r18 : Bool) =>
      some ((((r16 && (!r3.1)) && (decide ((Bad.mk r3.2.1 r3.2.2.1 r3.2.2.2.1) = (Bad.mk 5 0 5)))) && r12.1) && r18))
      (some ((((r16 && (!r3.1)) && (decide ((Bad.mk r3.2.1 r3.2.2.1 r3.2.2.2.1) = (Bad.mk 5 0 5)))) && r12.1) && false))) <|
  fun (v14 : Bool) => 
    some v14

theorem alibkeep_zonesLives_ok {N : Nat} {res : Bool} (hF : alibkeep_zonesLives N = some res) (w : World) :
    Pure Try.prog 27 [] w (.bool res) := by
  refine W.enter (n := 50) Try.func27 rfl rfl Sub.refl (by simp) (St.start w) fun R hR => ?_
  unfold alibkeep_zonesLives at hF
  -- region 0: zones.go:13
  refine W.seqR fun Q1 hQ1 => ?_
  refine WL.q (Y.assign (.pl rfl)) rfl ?_
  refine WL.next hQ1 (.nil) ?_
  -- region 1: zones.go:14
  refine W.seqR fun Q2 hQ2 => ?_
  obtain ⟨r1, hr1, hF⟩ := bnd hF
  refine WL.step (WO.callM isGo66 (.nil) rfl (fun wz hw => alibkeep_late_ok (hr1) wz ) ?_)
  rintro A2 -
  obtain ⟨r3, hr3, hF⟩ := bnd hF
  refine WL.step (WO.callP isGo25 (.cons (.pl rfl) (.nil)) rfl (fun wz hw => zones_Check_ok (hr3) wz (SlIn.ofRow lenEvent hw (i := 0) rfl)) ?_)
  refine WL.q (Y.move (.pl rfl)) rfl ?_
  refine WL.q (Y.extract (.pl rfl) rfl) rfl ?_
  refine WL.q (Y.extract (.pl rfl) rfl) rfl ?_
  refine WL.q (Y.extract (.pl rfl) rfl) rfl ?_
  refine WL.step (WO.alloc (cs := (encBad (Bad.mk 0 0 0)).toArray) zero34 rfl rfl fun b4 => ?_)
  refine WL.q (Y.assign (.pl rfl)) rfl ?_
  refine WL.step (WO.storeBA (ds := (encBad (Bad.mk r3.2.1 r3.2.2.1 r3.2.2.2.1))) (cs' := (encBad (Bad.mk r3.2.1 r3.2.2.1 r3.2.2.2.1))) cells34 (.pl rfl) (.pl rfl) rfl (oneBad _) (i := 0) rfl (lel (o := 0) (l := 3) (m := 3) (by decide) rfl rfl) (putW rfl) ?_)
  refine WL.q (Y.assign (.pl rfl)) rfl ?_
  refine WL.next hQ2 (.cons (i := 1) rfl (.cons (i := 2) rfl (.cons (i := 3) rfl (.nil)))) ?_
  -- region 2: zones.go:15
  refine W.seqR fun Q3 hQ3 => ?_
  obtain ⟨r5, hr5, hF⟩ := bnd hF
  refine WL.step (WO.callM isGo66 (.nil) rfl (fun wz hw => alibkeep_late_ok (hr5) wz ) ?_)
  rintro A6 -
  obtain ⟨r7, hr7, hF⟩ := bnd hF
  refine WL.step (WO.callM isGo67 (.cons (.pl rfl) (.nil)) rfl (fun wz hw => zones_Zones_ok (hr7) wz (SlIn.ofRow lenEvent hw (i := 0) rfl)) ?_)
  rintro ⟨A8, c9⟩ -
  refine WL.q (Y.move (.pl rfl)) rfl ?_
  refine WL.q (Y.extract (.pl rfl) rfl) rfl ?_
  refine WL.q (Y.extract (.pl rfl) rfl) rfl ?_
  refine WL.q (Y.assign (.pl rfl)) rfl ?_
  refine WL.q (Y.assign (.pl rfl)) rfl ?_
  refine WL.next hQ3 (.cons (i := 1) rfl (.cons (i := 2) rfl (.cons (i := 3) rfl (.cons (i := 4) rfl (.cons (i := 5) rfl (.nil)))))) ?_
  -- region 3: zones.go:16
  refine W.seqR fun Q4 hQ4 => ?_
  obtain ⟨r10, hr10, hF⟩ := bnd hF
  refine WL.step (WO.callM isGo68 (.nil) rfl (fun wz hw => alibkeep_twoOf_ok (hr10) wz ) ?_)
  rintro A11 -
  obtain ⟨r12, hr12, hF⟩ := bnd hF
  refine WL.step (WO.callP isGo25 (.cons (.pl rfl) (.nil)) rfl (fun wz hw => zones_Check_ok (hr12) wz (SlIn.ofRow lenEvent hw (i := 0) rfl)) ?_)
  refine WL.q (Y.move (.pl rfl)) rfl ?_
  refine WL.q (Y.extract (.pl rfl) rfl) rfl ?_
  refine WL.q (Y.extract (.pl rfl) rfl) rfl ?_
  refine WL.q (Y.extract (.pl rfl) rfl) rfl ?_
  refine WL.step (WO.alloc (cs := (encBad (Bad.mk 0 0 0)).toArray) zero34 rfl rfl fun b13 => ?_)
  refine WL.q (Y.assign (.pl rfl)) rfl ?_
  refine WL.step (WO.storeBA (ds := (encBad (Bad.mk r12.2.1 r12.2.2.1 r12.2.2.2.1))) (cs' := (encBad (Bad.mk r12.2.1 r12.2.2.1 r12.2.2.2.1))) cells34 (.pl rfl) (.pl rfl) rfl (oneBad _) (i := 0) rfl (lel (o := 0) (l := 3) (m := 3) (by decide) rfl rfl) (putW rfl) ?_)
  refine WL.q (Y.assign (.pl rfl)) rfl ?_
  refine WL.next hQ4 (.cons (i := 1) rfl (.cons (i := 2) rfl (.cons (i := 3) rfl (.cons (i := 4) rfl (.cons (i := 5) rfl (.cons (i := 6) rfl (.cons (i := 8) rfl (.nil)))))))) ?_
  obtain ⟨o5, hF5, hF⟩ := bnd hF
  refine W.join1 (Em := fun (v14 : Bool) => [(0, .bool v14)]) (M := fun v14 => []) (I := fun v14 => v14 = o5) (.nil) (fun K6 hK6 => ?_) ?_
  · -- up to
    -- region 4: zones.go:17
    refine W.reg ?_
    refine WL.q (Y.move (.pl rfl)) rfl ?_
    refine WL.q (Y.move (.pl rfl)) rfl ?_
    refine WL.q (Y.move (.pl rfl)) rfl ?_
    refine WL.step (WO.bsliceC (enc := (eI .i64)) (ys := ([r3.2.2.2.2, r7.2, r12.2.2.2.2] : List Int)) Try.underlying106 bz24 (.cons (.pl rfl) (.cons (.pl rfl) (.cons (.pl rfl) (.nil)))) rfl (fun _ => rfl) rfl rfl (by decide) (by decide) rfl fun b15 => ?_)
    obtain ⟨r16, hr16, hF5⟩ := bnd hF5
    refine WL.step (WO.callP isGo28 (.cons (.pl rfl) (.nil)) rfl (fun wz hw => alibkeep_ok_ok (hr16) wz (SlIn.ofRow (fun _ => rfl) hw (i := 0) rfl)) ?_)
    refine WL.q (Y.move (.pl rfl)) rfl ?_
    refine WL.g (.pl rfl rfl rfl) (fun hg => Y.move (.pl rfl)) rfl ?_
    refine WL.g (.pl rfl rfl rfl) (fun hg => Y.not (.gd (hg) rfl)) rfl ?_
    refine WL.q (Y.and (.pl rfl) (fun h2 => .gd (eqt h2) rfl)) rfl ?_
    refine WL.q (Y.move (.pl rfl)) rfl ?_
    refine WL.g (.pl rfl rfl rfl) (fun hg => Y.loadBA (ds := (encBad (Bad.mk r3.2.1 r3.2.2.1 r3.2.2.2.1))) Try.underlying34 rfl cells34 (.pl rfl) (i := 5) rfl rfl subW) rfl ?_
    refine WL.g (.pl rfl rfl rfl) (fun hg => Y.build (cs := (encBad (Bad.mk 5 0 5)).toArray) shape34 (.cons (.pl rfl) (.cons (.pl rfl) (.cons (.pl rfl) (.nil)))) (one_parts ⟨rfl, ⟨rfl, ⟨rfl, trivial⟩⟩⟩) rfl) rfl ?_
    refine WL.g (.pl rfl rfl rfl) (fun hg => Y.eqlS eqs34 (.gd (hg) rfl) (.gd (hg) rfl) (eqBad (Bad.mk r3.2.1 r3.2.2.1 r3.2.2.2.1) (Bad.mk 5 0 5))) rfl ?_
    refine WL.q (Y.and (.pl rfl) (fun h2 => .gd (eqt h2) rfl)) rfl ?_
    refine WL.q (Y.move (.pl rfl)) rfl ?_
    refine WL.g (.pl rfl rfl rfl) (fun hg => Y.move (.pl rfl)) rfl ?_
    refine WL.q (Y.and (.pl rfl) (fun h2 => .gd (eqt h2) rfl)) rfl ?_
    refine WL.q (Y.move (.pl rfl)) rfl ?_
    refine WL.g (.pl rfl rfl rfl) (fun hg => Y.move (.pl rfl)) rfl ?_
    refine WL.g (.pl rfl rfl rfl) (fun hg => Y.build (cs := (encZone (Zone.mk 0 (-1) 2 true)).toArray) shape105 (.cons (.pl rfl) (.cons (.pl rfl) (.cons (.pl rfl) (.cons (.pl rfl) (.nil))))) (one_parts ⟨rfl, ⟨rfl, ⟨rfl, ⟨rfl, trivial⟩⟩⟩⟩) rfl) rfl ?_
    refine WL.g (.pl rfl rfl rfl) (fun hg => Y.build (cs := (encZone (Zone.mk 5 1 0 false)).toArray) shape105 (.cons (.pl rfl) (.cons (.pl rfl) (.nil))) (one_parts ⟨rfl, ⟨rfl, trivial⟩⟩) rfl) rfl ?_
    refine bsplit ((((r16 && (!r3.1)) && (decide ((Bad.mk r3.2.1 r3.2.2.1 r3.2.2.2.1) = (Bad.mk 5 0 5)))) && r12.1) == true) (fun hg7 => ?_) (fun hg7 => ?_)
    · replace hF5 := cpos hg7 hF5
      refine WL.gd (.pl rfl rfl rfl) (hg7) ?_
      refine WL.step (WO.bsliceC (enc := encZone) (ys := ([(Zone.mk 0 (-1) 2 true), (Zone.mk 5 1 0 false)] : List Zone)) Try.underlying93 bz105 (.cons (.gd (hg7) rfl) (.cons (.gd (hg7) rfl) (.nil))) rfl lenZone rfl rfl (by decide) (by decide) rfl fun b17 => ?_)
      refine WL.gd (.pl rfl rfl rfl) (hg7) ?_
      obtain ⟨r18, hr18, hF5⟩ := bnd hF5
      refine WL.step (WO.callP isGo69 (.cons (.gd (hg7) rfl) (.cons (.pl rfl) (.nil))) rfl (fun wz hw => slices_Equal_api_Zone_api_Zone_ok (hr18) wz (SlIn.ofRow lenZone hw (i := 4) rfl) (SlIn.ofRow lenZone hw (i := 0) rfl)) ?_)
      refine WL.q (Y.and (.pl rfl) (fun _ => .pl rfl)) rfl ?_
      refine WL.q (Y.assign (.pl rfl)) rfl ?_
      refine WL.nil ?_
      exact W.joinAt1 hK6 ((((r16 && (!r3.1)) && (decide ((Bad.mk r3.2.1 r3.2.2.1 r3.2.2.2.1) = (Bad.mk 5 0 5)))) && r12.1) && r18) (Option.some.inj hF5) (.cons rfl (.nil)) (.nil) (fun wz hw => hw.pick [] rfl)
    · replace hF5 := cneg hg7 hF5
      refine WL.gn (.pl rfl rfl rfl) hg7 rfl ?_
      refine WL.gn (.pl rfl rfl rfl) hg7 rfl ?_
      refine WL.q (Y.and (b := false) (.pl rfl) (fun h2 => (gabsA hg7 h2).elim)) rfl ?_
      refine WL.q (Y.assign (.pl rfl)) rfl ?_
      refine WL.nil ?_
      exact W.joinAt1 hK6 ((((r16 && (!r3.1)) && (decide ((Bad.mk r3.2.1 r3.2.2.1 r3.2.2.2.1) = (Bad.mk 5 0 5)))) && r12.1) && false) (Option.some.inj hF5) (.cons rfl (.nil)) (.nil) (fun wz hw => hw.pick [] rfl)
  · -- behind
    rintro v14 rfl
    obtain rfl := Option.some.inj hF
    refine W.retV (fn := Try.f27) (vs := [.bool v14]) Try.results27 ⟨.tmp rfl, trivial⟩ (fun _ _ h => h) (fun wz hw => ?_)
    exact hR _ _ ⟨rfl, (hw.pick [] rfl)⟩

end Go.Proofs.Ytolneilkgjglkaa
