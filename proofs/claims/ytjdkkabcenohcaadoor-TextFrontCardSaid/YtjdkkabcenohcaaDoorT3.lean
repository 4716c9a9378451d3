/- The laws of texts: what their code computes, and the walks. -/
import Derived.Test.YtjdkkabcenohcaaDoorT2
set_option linter.unusedVariables false
set_option linter.unusedSimpArgs false
set_option linter.unusedSectionVars false
set_option maxRecDepth 100000
namespace Go.Proofs.YtjdkkabcenohcaaDoor
open Go.RowKit
theorem cells24 : Tryd.prog.cellsOf 24 = 0 + 1 := by kernel_rfl
theorem isGo6 : IsGo Tryd.prog 6 := ⟨_, Tryd.func6, by kernel_rfl, rfl⟩
theorem isGo7 : IsGo Tryd.prog 7 := ⟨_, Tryd.func7, by kernel_rfl, rfl⟩
theorem isGo8 : IsGo Tryd.prog 8 := ⟨_, Tryd.func8, by kernel_rfl, rfl⟩
theorem isGo9 : IsGo Tryd.prog 9 := ⟨_, Tryd.func9, by kernel_rfl, rfl⟩
theorem isGo10 : IsGo Tryd.prog 10 := ⟨_, Tryd.func10, by kernel_rfl, rfl⟩
theorem isGo11 : IsGo Tryd.prog 11 := ⟨_, Tryd.func11, by kernel_rfl, rfl⟩
theorem isGo12 : IsGo Tryd.prog 12 := ⟨_, Tryd.func12, by kernel_rfl, rfl⟩
theorem isGo14 : IsGo Tryd.prog 14 := ⟨_, Tryd.func14, by kernel_rfl, rfl⟩
theorem isGo24 : IsGo Tryd.prog 24 := ⟨_, Tryd.func24, by kernel_rfl, rfl⟩
theorem isGo25 : IsGo Tryd.prog 25 := ⟨_, Tryd.func25, by kernel_rfl, rfl⟩
theorem bz24 : ∃ i, Tryd.prog.info? 24 = some i ∧ i.zero = some (Value.int .i64 0) ∧ i.size = 1 := ⟨_, rfl, by kernel_rfl, by kernel_rfl⟩
theorem eqs32 : EqShape Tryd.prog 32 [true, true, true, true] := ⟨_, Tryd.underlying32, by kernel_rfl, by kernel_rfl, by kernel_rfl⟩
def alibkeep_twoOf (N : Nat) : Option Unit :=
  some ()

theorem alibkeep_twoOf_ok {N : Nat} {res : Unit} (hF : alibkeep_twoOf N = some res) (w : World) :
    Made Tryd.prog 24 [] w (fun g : Option Addr => .slice g (([(Event.mk 0 0 1 5), (Event.mk 1 0 2 0), (Event.mk 1 0 0 5), (Event.mk 0 0 0 0)] : List Event)).length (([(Event.mk 0 0 1 5), (Event.mk 1 0 2 0), (Event.mk 1 0 0 5), (Event.mk 0 0 0 0)] : List Event)).length) (fun g => [cR encEvent 4 g (([(Event.mk 0 0 1 5), (Event.mk 1 0 2 0), (Event.mk 1 0 0 5), (Event.mk 0 0 0 0)] : List Event)).length 32 ([(Event.mk 0 0 1 5), (Event.mk 1 0 2 0), (Event.mk 1 0 0 5), (Event.mk 0 0 0 0)] : List Event)]) (fun g => True) := by
  refine W.enter (n := 6) Tryd.func24 rfl rfl Sub.refl (by simp) (St.start w) fun R hR => ?_
  unfold alibkeep_twoOf at hF
  refine W.seqR fun Q1 hQ1 => ?_
  refine WL.q (Y.assign (.pl rfl)) rfl ?_
  refine WL.next hQ1 (.nil) ?_
  refine W.seqR fun Q2 hQ2 => ?_
  refine WL.q (Y.build (cs := (encEvent (Event.mk 0 0 1 5)).toArray) shape32 (.cons (.pl rfl) (.cons (.pl rfl) (.cons (.pl rfl) (.nil)))) (one_parts ⟨rfl, ⟨rfl, ⟨rfl, trivial⟩⟩⟩) rfl) rfl ?_
  refine WL.q (Y.build (cs := (encEvent (Event.mk 1 0 2 0)).toArray) shape32 (.cons (.pl rfl) (.cons (.pl rfl) (.nil))) (one_parts ⟨rfl, ⟨rfl, trivial⟩⟩) rfl) rfl ?_
  refine WL.q (Y.build (cs := (encEvent (Event.mk 1 0 0 5)).toArray) shape32 (.cons (.pl rfl) (.cons (.pl rfl) (.nil))) (one_parts ⟨rfl, ⟨rfl, trivial⟩⟩) rfl) rfl ?_
  refine WL.q (Y.build (cs := (encEvent (Event.mk 0 0 0 0)).toArray) shape32 (.cons (.pl rfl) (.nil)) (one_parts ⟨rfl, trivial⟩) rfl) rfl ?_
  refine WL.step (WO.bsliceC (enc := encEvent) (ys := ([(Event.mk 0 0 1 5), (Event.mk 1 0 2 0), (Event.mk 1 0 0 5), (Event.mk 0 0 0 0)] : List Event)) Tryd.underlying23 bz32 (.cons (.pl rfl) (.cons (.pl rfl) (.cons (.pl rfl) (.cons (.pl rfl) (.nil))))) rfl lenEvent rfl rfl (by decide) (by decide) rfl fun b1 => ?_)
  refine WL.q (Y.assign (.pl rfl)) rfl ?_
  refine WL.next hQ2 (.cons (i := 0) rfl (.nil)) ?_
  obtain rfl := Option.some.inj hF
  refine W.retV (fn := Tryd.f24) (vs := [.slice (some ⟨b1, 0, none⟩) (([(Event.mk 0 0 1 5), (Event.mk 1 0 2 0), (Event.mk 1 0 0 5), (Event.mk 0 0 0 0)] : List Event)).length (([(Event.mk 0 0 1 5), (Event.mk 1 0 2 0), (Event.mk 1 0 0 5), (Event.mk 0 0 0 0)] : List Event)).length]) Tryd.results24 ⟨.tmp rfl, trivial⟩ (fun _ _ h => h) (fun wz hw => ?_)
  exact hR _ _ ⟨(some ⟨b1, 0, none⟩), trivial, rfl, (hw.pick [0] rfl)⟩

def alibkeep_ok_L3 (N : Nat) (l1 : (List Int)) : Int → Option (Int ⊕ (Unit ⊕ Bool))
  | v6 =>
    cond (decide (v6 < ((l1).length : Int)))
      (bd (ix l1 v6) fun (x7 : Int) =>
      cond (!(decide (x7 = 0)))
        (some (.inr (.inr false)))
        (ck (ok64 (v6 + 1)) <|
        some (.inl (v6 + 1))))
      (some (.inr (.inl ())))

def alibkeep_ok (N : Nat) (l1 : (List Int)) : Option Bool :=
  bd (α := (Unit ⊕ Bool)) (iter (alibkeep_ok_L3 N l1) N 0) <|
  Sum.elim (fun _ => 
    some true) (fun p => some p)

theorem alibkeep_ok_ok {N : Nat} {l1 : (List Int)} {res : Bool} (hF : alibkeep_ok N l1 = some res) (w : World) {v5 : Value} (hs4 : SlIn (eI .i64) 1 w v5 l1) :
    Pure Tryd.prog 25 [v5] w (.bool res) := by
  obtain ⟨A2, c3, rfl, hcc3, hs4⟩ := hs4.form
  refine W.enter (n := 14) Tryd.func25 rfl rfl Sub.refl (by simp) (St.start w) fun R hR => ?_
  unfold alibkeep_ok at hF
  refine W.seqR fun Q1 hQ1 => ?_
  refine WL.q (Y.assign (.pl rfl)) rfl ?_
  refine WL.next hQ1 (.cons (i := 0) rfl (.nil)) ?_
  obtain ⟨o2, hF2, hF⟩ := bnd hF
  refine W.join0 (Em := []) (M := []) (I := (.inl ()) = o2) (.nil) (fun K3 hK3 => ?_) ?_
  · -- up to
    refine W.seqR fun Q4 hQ4 => ?_
    refine WL.q (Y.move (.pl rfl)) rfl ?_
    refine WL.q (Y.len Tryd.underlying76 (.pl rfl)) rfl ?_
    refine WL.q (Y.move (.pl rfl)) rfl ?_
    refine WL.next hQ4 (.cons (i := 5) rfl (.cons (i := 6) rfl (.cons (i := 7) rfl (.nil)))) ?_
    refine W.block ?_
    refine W.loop1 (Em := fun (v6 : Int) => [(7, .int .i64 v6)]) (M := fun v6 => []) (I := fun v6 k5 => iter (alibkeep_ok_L3 N l1) k5 v6 = some o2) 0 N (hF2) (.cons rfl (.nil)) (.cons (i := 5) rfl (.cons (i := 6) rfl (.nil))) (fun wz hw => hw.pick [] rfl) (fun v6 k5 hI K6 hK6 => ?_)
    obtain ⟨k5, t5, rfl, hF5, hN5⟩ := iter_step hI
    refine W.seqR fun Q7 hQ7 => ?_
    refine WL.q (Y.lss (.pl rfl) (.pl rfl)) rfl ?_
    refine WL.next hQ7 (.cons (i := 5) rfl (.cons (i := 6) rfl (.cons (i := 7) rfl (.cons (i := 8) rfl (.nil))))) ?_
    refine W.seq fun K8 hK8 => ?_
    refine W.cond (.pl rfl) (fun hC9 => ?_) (fun hC9 => ?_)
    · replace hF5 := cpos hC9 hF5
      refine W.skip ?_
      refine W.go hK8 (.cons (i := 5) rfl (.cons (i := 6) rfl (.cons (i := 7) rfl (.nil)))) ?_
      refine W.seq fun K10 hK10 => ?_
      refine W.block ?_
      refine W.seqR fun Q11 hQ11 => ?_
      obtain ⟨x7, hx7, hF5⟩ := bnd hF5
      refine WL.q (Y.slEl Tryd.underlying76 cells24 hs4 (.pl rfl) (.pl rfl) (ix_lt (hx7))) rfl ?_
      refine WL.q (Y.loadS (enc := (eI .i64)) (v := .int .i64 x7) (j := 0) Tryd.underlying24 rfl hs4 (.pl rfl) (hx7) rfl rfl) rfl ?_
      refine WL.q (Y.assign (.pl rfl)) rfl ?_
      refine WL.next hQ11 (.cons (i := 4) rfl (.cons (i := 5) rfl (.cons (i := 6) rfl (.cons (i := 7) rfl (.nil))))) ?_
      refine W.seqR fun Q12 hQ12 => ?_
      refine WL.q (Y.move (.pl rfl)) rfl ?_
      refine WL.q (Y.neq (.pl rfl) (.pl rfl)) rfl ?_
      refine WL.next hQ12 (.cons (i := 5) rfl (.cons (i := 6) rfl (.cons (i := 7) rfl (.cons (i := 12) rfl (.nil))))) ?_
      refine W.cond (.pl rfl) (fun hC13 => ?_) (fun hC13 => ?_)
      · replace hF5 := cpos hC13 hF5
        refine W.seqR fun Q14 hQ14 => ?_
        refine WL.q (Y.assign (.pl rfl)) rfl ?_
        refine WL.next hQ14 (.cons (i := 2) rfl (.nil)) ?_
        obtain rfl := Option.some.inj hF5
        obtain rfl := einr hN5
        obtain rfl := Option.some.inj hF
        refine W.retV (fn := Tryd.f25) (vs := [.bool false]) Tryd.results25 ⟨.tmp rfl, trivial⟩ (fun _ _ h => h) (fun wz hw => ?_)
        exact hR _ _ ⟨rfl, (hw.pick [] rfl)⟩
      · replace hF5 := cneg hC13 hF5
        refine W.skip ?_
        refine W.go hK10 (.cons (i := 5) rfl (.cons (i := 6) rfl (.cons (i := 7) rfl (.nil)))) ?_
        refine W.reg ?_
        obtain ⟨hk8, hF5⟩ := ckh hF5
        refine WL.q (Y.add (.pl rfl) (.pl rfl) (ok64_lt (hk8))) rfl ?_
        refine WL.q (Y.move (.pl rfl)) rfl ?_
        refine WL.nil ?_
        obtain rfl := Option.some.inj hF5
        exact W.again1 hK6 (v6 + 1) k5 hN5 (Nat.lt_succ_self _) (.cons rfl (.nil)) (.cons (i := 5) rfl (.cons (i := 6) rfl (.nil))) (fun wz hw => hw.pick [] rfl)
    · replace hF5 := cneg hC9 hF5
      refine W.exit ?_
      obtain rfl := Option.some.inj hF5
      exact W.joinAt0 hK3  (einr hN5) (.nil) (.nil) (fun wz hw => hw.pick [] rfl)
  · -- behind
    rintro  rfl
    refine W.seqR fun Q16 hQ16 => ?_
    refine WL.q (Y.assign (.pl rfl)) rfl ?_
    refine WL.next hQ16 (.cons (i := 2) rfl (.nil)) ?_
    obtain rfl := Option.some.inj hF
    refine W.retV (fn := Tryd.f25) (vs := [.bool true]) Tryd.results25 ⟨.tmp rfl, trivial⟩ (fun _ _ h => h) (fun wz hw => ?_)
    exact hR _ _ ⟨rfl, (hw.pick [] rfl)⟩

def slices_Equal_int_int_L3 (N : Nat) (s11 : (List Int)) (s26 : (List Int)) : Int → Option (Int ⊕ (Unit ⊕ Bool))
  | v11 =>
    cond (decide (v11 < ((s11).length : Int)))
      (bd (ix s11 v11) fun (x12 : Int) =>
      bd (ix s26 v11) fun (x13 : Int) =>
      cond (!(decide (x12 = x13)))
        (some (.inr (.inr false)))
        (ck (ok64 (v11 + 1)) <|
        some (.inl (v11 + 1))))
      (some (.inr (.inl ())))

def slices_Equal_int_int (N : Nat) (s11 : (List Int)) (s26 : (List Int)) : Option Bool :=
  cond (!(decide (((s11).length : Int) = ((s26).length : Int))))
    (some false)
    (bd (α := (Unit ⊕ Bool)) (iter (slices_Equal_int_int_L3 N s11 s26) N 0) <|
    Sum.elim (fun _ => 
      some true) (fun p => some p))

theorem slices_Equal_int_int_ok {N : Nat} {s11 : (List Int)} {s26 : (List Int)} {res : Bool} (hF : slices_Equal_int_int N s11 s26 = some res) (w : World) {v5 : Value} (hs4 : SlIn (eI .i64) 1 w v5 s11) {v10 : Value} (hs9 : SlIn (eI .i64) 1 w v10 s26) :
    Pure Tryd.prog 8 [v5, v10] w (.bool res) := by
  obtain ⟨A2, c3, rfl, hcc3, hs4⟩ := hs4.form
  obtain ⟨A7, c8, rfl, hcc8, hs9⟩ := hs9.form
  refine W.enter (n := 26) Tryd.func8 rfl rfl Sub.refl (by simp) (St.start w) fun R hR => ?_
  unfold slices_Equal_int_int at hF
  refine W.seqR fun Q1 hQ1 => ?_
  refine WL.q (Y.assign (.pl rfl)) rfl ?_
  refine WL.next hQ1 (.cons (i := 0) rfl (.cons (i := 1) rfl (.nil))) ?_
  refine W.seq fun K2 hK2 => ?_
  refine W.seqR fun Q3 hQ3 => ?_
  refine WL.q (Y.move (.pl rfl)) rfl ?_
  refine WL.q (Y.len Tryd.underlying22 (.pl rfl)) rfl ?_
  refine WL.q (Y.move (.pl rfl)) rfl ?_
  refine WL.q (Y.len Tryd.underlying22 (.pl rfl)) rfl ?_
  refine WL.q (Y.neq (.pl rfl) (.pl rfl)) rfl ?_
  refine WL.next hQ3 (.cons (i := 0) rfl (.cons (i := 1) rfl (.cons (i := 10) rfl (.nil)))) ?_
  refine W.cond (.pl rfl) (fun hC4 => ?_) (fun hC4 => ?_)
  · replace hF := cpos hC4 hF
    refine W.seqR fun Q5 hQ5 => ?_
    refine WL.q (Y.assign (.pl rfl)) rfl ?_
    refine WL.next hQ5 (.cons (i := 4) rfl (.nil)) ?_
    obtain rfl := Option.some.inj hF
    refine W.retV (fn := Tryd.f8) (vs := [.bool false]) Tryd.results8 ⟨.tmp rfl, trivial⟩ (fun _ _ h => h) (fun wz hw => ?_)
    exact hR _ _ ⟨rfl, (hw.pick [] rfl)⟩
  · replace hF := cneg hC4 hF
    refine W.skip ?_
    refine W.go hK2 (.cons (i := 0) rfl (.cons (i := 1) rfl (.nil))) ?_
    obtain ⟨o6, hF6, hF⟩ := bnd hF
    refine W.join0 (Em := []) (M := []) (I := (.inl ()) = o6) (.nil) (fun K7 hK7 => ?_) ?_
    · -- up to
      refine W.seqR fun Q8 hQ8 => ?_
      refine WL.q (Y.move (.pl rfl)) rfl ?_
      refine WL.q (Y.len Tryd.underlying22 (.pl rfl)) rfl ?_
      refine WL.q (Y.move (.pl rfl)) rfl ?_
      refine WL.next hQ8 (.cons (i := 0) rfl (.cons (i := 1) rfl (.cons (i := 12) rfl (.cons (i := 13) rfl (.nil))))) ?_
      refine W.block ?_
      refine W.loop1 (Em := fun (v11 : Int) => [(13, .int .i64 v11)]) (M := fun v11 => []) (I := fun v11 k9 => iter (slices_Equal_int_int_L3 N s11 s26) k9 v11 = some o6) 0 N (hF6) (.cons rfl (.nil)) (.cons (i := 0) rfl (.cons (i := 1) rfl (.cons (i := 12) rfl (.nil)))) (fun wz hw => hw.pick [] rfl) (fun v11 k9 hI K10 hK10 => ?_)
      obtain ⟨k9, t9, rfl, hF9, hN9⟩ := iter_step hI
      refine W.seqR fun Q11 hQ11 => ?_
      refine WL.q (Y.lss (.pl rfl) (.pl rfl)) rfl ?_
      refine WL.next hQ11 (.cons (i := 0) rfl (.cons (i := 1) rfl (.cons (i := 12) rfl (.cons (i := 13) rfl (.cons (i := 14) rfl (.nil)))))) ?_
      refine W.seq fun K12 hK12 => ?_
      refine W.cond (.pl rfl) (fun hC13 => ?_) (fun hC13 => ?_)
      · replace hF9 := cpos hC13 hF9
        refine W.skip ?_
        refine W.go hK12 (.cons (i := 0) rfl (.cons (i := 1) rfl (.cons (i := 12) rfl (.cons (i := 13) rfl (.nil))))) ?_
        refine W.seq fun K14 hK14 => ?_
        refine W.block ?_
        refine W.seqR fun Q15 hQ15 => ?_
        refine WL.q (Y.move (.pl rfl)) rfl ?_
        refine WL.q (Y.assign (.pl rfl)) rfl ?_
        refine WL.next hQ15 (.cons (i := 0) rfl (.cons (i := 1) rfl (.cons (i := 5) rfl (.cons (i := 12) rfl (.cons (i := 13) rfl (.nil)))))) ?_
        refine W.seqD (by kernel_rfl) (by kernel_rfl) fun R16 hR16 => ?_
        refine WD.q (Y.move (.pl rfl)) rfl ?_
        refine WD.q (Y.move (.pl rfl)) rfl ?_
        obtain ⟨x12, hx12, hF9⟩ := bnd hF9
        refine WD.q (Y.slEl Tryd.underlying22 cells3 hs4 (.pl rfl) (.pl rfl) (ix_lt (hx12))) rfl ?_
        refine WD.q (Y.loadS (enc := (eI .i64)) (v := .int .i64 x12) (j := 0) Tryd.underlying3 rfl hs4 (.pl rfl) (hx12) rfl rfl) rfl ?_
        refine WD.q (Y.move (.pl rfl)) rfl ?_
        refine WD.q (Y.move (.pl rfl)) rfl ?_
        obtain ⟨x13, hx13, hF9⟩ := bnd hF9
        refine WD.q (Y.slEl Tryd.underlying22 cells3 hs9 (.pl rfl) (.pl rfl) (ix_lt (hx13))) rfl ?_
        refine WD.q (Y.loadS (enc := (eI .i64)) (v := .int .i64 x13) (j := 0) Tryd.underlying3 rfl hs9 (.pl rfl) (hx13) rfl rfl) rfl ?_
        refine WD.q (Y.neq (.pl rfl) (.pl rfl)) rfl ?_
        refine WD.next hR16 (.cons (i := 0) rfl (.cons (i := 1) rfl (.cons (i := 12) rfl (.cons (i := 13) rfl (.cons (i := 24) rfl (.nil)))))) ?_
        refine W.cond (.pl rfl) (fun hC17 => ?_) (fun hC17 => ?_)
        · replace hF9 := cpos hC17 hF9
          refine W.seqR fun Q18 hQ18 => ?_
          refine WL.q (Y.assign (.pl rfl)) rfl ?_
          refine WL.next hQ18 (.cons (i := 4) rfl (.nil)) ?_
          obtain rfl := Option.some.inj hF9
          obtain rfl := einr hN9
          obtain rfl := Option.some.inj hF
          refine W.retV (fn := Tryd.f8) (vs := [.bool false]) Tryd.results8 ⟨.tmp rfl, trivial⟩ (fun _ _ h => h) (fun wz hw => ?_)
          exact hR _ _ ⟨rfl, (hw.pick [] rfl)⟩
        · replace hF9 := cneg hC17 hF9
          refine W.skip ?_
          refine W.go hK14 (.cons (i := 0) rfl (.cons (i := 1) rfl (.cons (i := 12) rfl (.cons (i := 13) rfl (.nil))))) ?_
          refine W.reg ?_
          obtain ⟨hk14, hF9⟩ := ckh hF9
          refine WL.q (Y.add (.pl rfl) (.pl rfl) (ok64_lt (hk14))) rfl ?_
          refine WL.q (Y.move (.pl rfl)) rfl ?_
          refine WL.nil ?_
          obtain rfl := Option.some.inj hF9
          exact W.again1 hK10 (v11 + 1) k9 hN9 (Nat.lt_succ_self _) (.cons rfl (.nil)) (.cons (i := 0) rfl (.cons (i := 1) rfl (.cons (i := 12) rfl (.nil)))) (fun wz hw => hw.pick [] rfl)
      · replace hF9 := cneg hC13 hF9
        refine W.exit ?_
        obtain rfl := Option.some.inj hF9
        exact W.joinAt0 hK7  (einr hN9) (.nil) (.nil) (fun wz hw => hw.pick [] rfl)
    · -- behind
      rintro  rfl
      refine W.seqR fun Q20 hQ20 => ?_
      refine WL.q (Y.assign (.pl rfl)) rfl ?_
      refine WL.next hQ20 (.cons (i := 4) rfl (.nil)) ?_
      obtain rfl := Option.some.inj hF
      refine W.retV (fn := Tryd.f8) (vs := [.bool true]) Tryd.results8 ⟨.tmp rfl, trivial⟩ (fun _ _ h => h) (fun wz hw => ?_)
      exact hR _ _ ⟨rfl, (hw.pick [] rfl)⟩

def slices_Equal_api_Event_api_Event_L3 (N : Nat) (s11 : (List Event)) (s26 : (List Event)) : Int → Option (Int ⊕ (Unit ⊕ Bool))
  | v11 =>
    cond (decide (v11 < ((s11).length : Int)))
      (bd (ix s11 v11) fun (x12 : Event) =>
      bd (ix s26 v11) fun (x13 : Event) =>
      cond (!(decide (x12 = x13)))
        (some (.inr (.inr false)))
        (ck (ok64 (v11 + 1)) <|
        some (.inl (v11 + 1))))
      (some (.inr (.inl ())))

def slices_Equal_api_Event_api_Event (N : Nat) (s11 : (List Event)) (s26 : (List Event)) : Option Bool :=
  cond (!(decide (((s11).length : Int) = ((s26).length : Int))))
    (some false)
    (bd (α := (Unit ⊕ Bool)) (iter (slices_Equal_api_Event_api_Event_L3 N s11 s26) N 0) <|
    Sum.elim (fun _ => 
      some true) (fun p => some p))

theorem slices_Equal_api_Event_api_Event_ok {N : Nat} {s11 : (List Event)} {s26 : (List Event)} {res : Bool} (hF : slices_Equal_api_Event_api_Event N s11 s26 = some res) (w : World) {v5 : Value} (hs4 : SlIn encEvent 4 w v5 s11) {v10 : Value} (hs9 : SlIn encEvent 4 w v10 s26) :
    Pure Tryd.prog 9 [v5, v10] w (.bool res) := by
  obtain ⟨A2, c3, rfl, hcc3, hs4⟩ := hs4.form
  obtain ⟨A7, c8, rfl, hcc8, hs9⟩ := hs9.form
  refine W.enter (n := 26) Tryd.func9 rfl rfl Sub.refl (by simp) (St.start w) fun R hR => ?_
  unfold slices_Equal_api_Event_api_Event at hF
  refine W.seqR fun Q1 hQ1 => ?_
  refine WL.q (Y.assign (.pl rfl)) rfl ?_
  refine WL.next hQ1 (.cons (i := 0) rfl (.cons (i := 1) rfl (.nil))) ?_
  refine W.seq fun K2 hK2 => ?_
  refine W.seqR fun Q3 hQ3 => ?_
  refine WL.q (Y.move (.pl rfl)) rfl ?_
  refine WL.q (Y.len Tryd.underlying23 (.pl rfl)) rfl ?_
  refine WL.q (Y.move (.pl rfl)) rfl ?_
  refine WL.q (Y.len Tryd.underlying23 (.pl rfl)) rfl ?_
  refine WL.q (Y.neq (.pl rfl) (.pl rfl)) rfl ?_
  refine WL.next hQ3 (.cons (i := 0) rfl (.cons (i := 1) rfl (.cons (i := 10) rfl (.nil)))) ?_
  refine W.cond (.pl rfl) (fun hC4 => ?_) (fun hC4 => ?_)
  · replace hF := cpos hC4 hF
    refine W.seqR fun Q5 hQ5 => ?_
    refine WL.q (Y.assign (.pl rfl)) rfl ?_
    refine WL.next hQ5 (.cons (i := 4) rfl (.nil)) ?_
    obtain rfl := Option.some.inj hF
    refine W.retV (fn := Tryd.f9) (vs := [.bool false]) Tryd.results9 ⟨.tmp rfl, trivial⟩ (fun _ _ h => h) (fun wz hw => ?_)
    exact hR _ _ ⟨rfl, (hw.pick [] rfl)⟩
  · replace hF := cneg hC4 hF
    refine W.skip ?_
    refine W.go hK2 (.cons (i := 0) rfl (.cons (i := 1) rfl (.nil))) ?_
    obtain ⟨o6, hF6, hF⟩ := bnd hF
    refine W.join0 (Em := []) (M := []) (I := (.inl ()) = o6) (.nil) (fun K7 hK7 => ?_) ?_
    · -- up to
      refine W.seqR fun Q8 hQ8 => ?_
      refine WL.q (Y.move (.pl rfl)) rfl ?_
      refine WL.q (Y.len Tryd.underlying23 (.pl rfl)) rfl ?_
      refine WL.q (Y.move (.pl rfl)) rfl ?_
      refine WL.next hQ8 (.cons (i := 0) rfl (.cons (i := 1) rfl (.cons (i := 12) rfl (.cons (i := 13) rfl (.nil))))) ?_
      refine W.block ?_
      refine W.loop1 (Em := fun (v11 : Int) => [(13, .int .i64 v11)]) (M := fun v11 => []) (I := fun v11 k9 => iter (slices_Equal_api_Event_api_Event_L3 N s11 s26) k9 v11 = some o6) 0 N (hF6) (.cons rfl (.nil)) (.cons (i := 0) rfl (.cons (i := 1) rfl (.cons (i := 12) rfl (.nil)))) (fun wz hw => hw.pick [] rfl) (fun v11 k9 hI K10 hK10 => ?_)
      obtain ⟨k9, t9, rfl, hF9, hN9⟩ := iter_step hI
      refine W.seqR fun Q11 hQ11 => ?_
      refine WL.q (Y.lss (.pl rfl) (.pl rfl)) rfl ?_
      refine WL.next hQ11 (.cons (i := 0) rfl (.cons (i := 1) rfl (.cons (i := 12) rfl (.cons (i := 13) rfl (.cons (i := 14) rfl (.nil)))))) ?_
      refine W.seq fun K12 hK12 => ?_
      refine W.cond (.pl rfl) (fun hC13 => ?_) (fun hC13 => ?_)
      · replace hF9 := cpos hC13 hF9
        refine W.skip ?_
        refine W.go hK12 (.cons (i := 0) rfl (.cons (i := 1) rfl (.cons (i := 12) rfl (.cons (i := 13) rfl (.nil))))) ?_
        refine W.seq fun K14 hK14 => ?_
        refine W.block ?_
        refine W.seqR fun Q15 hQ15 => ?_
        refine WL.q (Y.move (.pl rfl)) rfl ?_
        refine WL.q (Y.assign (.pl rfl)) rfl ?_
        refine WL.next hQ15 (.cons (i := 0) rfl (.cons (i := 1) rfl (.cons (i := 5) rfl (.cons (i := 12) rfl (.cons (i := 13) rfl (.nil)))))) ?_
        refine W.seqD (by kernel_rfl) (by kernel_rfl) fun R16 hR16 => ?_
        refine WD.q (Y.move (.pl rfl)) rfl ?_
        refine WD.q (Y.move (.pl rfl)) rfl ?_
        obtain ⟨x12, hx12, hF9⟩ := bnd hF9
        refine WD.q (Y.slEl Tryd.underlying23 cells32 hs4 (.pl rfl) (.pl rfl) (ix_lt (hx12))) rfl ?_
        refine WD.q (Y.loadSA (enc := encEvent) (ds := (encEvent x12)) (j := 0) Tryd.underlying32 rfl cells32 hs4 (.pl rfl) (hx12) rfl rfl subW) rfl ?_
        refine WD.q (Y.move (.pl rfl)) rfl ?_
        refine WD.q (Y.move (.pl rfl)) rfl ?_
        obtain ⟨x13, hx13, hF9⟩ := bnd hF9
        refine WD.q (Y.slEl Tryd.underlying23 cells32 hs9 (.pl rfl) (.pl rfl) (ix_lt (hx13))) rfl ?_
        refine WD.q (Y.loadSA (enc := encEvent) (ds := (encEvent x13)) (j := 0) Tryd.underlying32 rfl cells32 hs9 (.pl rfl) (hx13) rfl rfl subW) rfl ?_
        refine WD.q (Y.neqS eqs32 (.pl rfl) (.pl rfl) (eqEvent x12 x13)) rfl ?_
        refine WD.next hR16 (.cons (i := 0) rfl (.cons (i := 1) rfl (.cons (i := 12) rfl (.cons (i := 13) rfl (.cons (i := 24) rfl (.nil)))))) ?_
        refine W.cond (.pl rfl) (fun hC17 => ?_) (fun hC17 => ?_)
        · replace hF9 := cpos hC17 hF9
          refine W.seqR fun Q18 hQ18 => ?_
          refine WL.q (Y.assign (.pl rfl)) rfl ?_
          refine WL.next hQ18 (.cons (i := 4) rfl (.nil)) ?_
          obtain rfl := Option.some.inj hF9
          obtain rfl := einr hN9
          obtain rfl := Option.some.inj hF
          refine W.retV (fn := Tryd.f9) (vs := [.bool false]) Tryd.results9 ⟨.tmp rfl, trivial⟩ (fun _ _ h => h) (fun wz hw => ?_)
          exact hR _ _ ⟨rfl, (hw.pick [] rfl)⟩
        · replace hF9 := cneg hC17 hF9
          refine W.skip ?_
          refine W.go hK14 (.cons (i := 0) rfl (.cons (i := 1) rfl (.cons (i := 12) rfl (.cons (i := 13) rfl (.nil))))) ?_
          refine W.reg ?_
          obtain ⟨hk14, hF9⟩ := ckh hF9
          refine WL.q (Y.add (.pl rfl) (.pl rfl) (ok64_lt (hk14))) rfl ?_
          refine WL.q (Y.move (.pl rfl)) rfl ?_
          refine WL.nil ?_
          obtain rfl := Option.some.inj hF9
          exact W.again1 hK10 (v11 + 1) k9 hN9 (Nat.lt_succ_self _) (.cons rfl (.nil)) (.cons (i := 0) rfl (.cons (i := 1) rfl (.cons (i := 12) rfl (.nil)))) (fun wz hw => hw.pick [] rfl)
      · replace hF9 := cneg hC13 hF9
        refine W.exit ?_
        obtain rfl := Option.some.inj hF9
        exact W.joinAt0 hK7  (einr hN9) (.nil) (.nil) (fun wz hw => hw.pick [] rfl)
    · -- behind
      rintro  rfl
      refine W.seqR fun Q20 hQ20 => ?_
      refine WL.q (Y.assign (.pl rfl)) rfl ?_
      refine WL.next hQ20 (.cons (i := 4) rfl (.nil)) ?_
      obtain rfl := Option.some.inj hF
      refine W.retV (fn := Tryd.f9) (vs := [.bool true]) Tryd.results9 ⟨.tmp rfl, trivial⟩ (fun _ _ h => h) (fun wz hw => ?_)
      exact hR _ _ ⟨rfl, (hw.pick [] rfl)⟩

def alibkeep_textLives (N : Nat) : Option Bool :=
  bd (alibkeep_twoOf N) fun (r2 : Unit) =>
  bd (text_Print N ([1] : List Int) ([(Event.mk 0 0 1 5), (Event.mk 1 0 2 0), (Event.mk 1 0 0 5), (Event.mk 0 0 0 0)] : List Event)) fun (r4 : (ByteArray × Int)) =>
  bd (text_Read N r4.1) fun (r5 : ((List Int) × (List Event) × Int × Int)) =>
  bd (α := Bool) (bd (alibkeep_ok N ([r4.2, r5.2.2.2] : List Int)) fun (r12 : Bool) =>
    cond ((r12 && (decide (r4.1 = (⟨#[116, 104, 105, 110, 103, 115, 32, 114, 101, 103, 10, 48, 32, 48, 32, 119, 114, 105, 116, 101, 32, 53, 10, 49, 32, 48, 32, 114, 101, 97, 100, 10, 49, 32, 48, 32, 101, 110, 100, 32, 53, 10, 48, 32, 48, 32, 101, 110, 100, 32, 48, 10]⟩ : ByteArray)))) == true)
      (bd (slices_Equal_int_int N r5.1 ([1] : List Int)) fun (r14 : Bool) =>
      cond (((r12 && (decide (r4.1 = (⟨#[116, 104, 105, 110, 103, 115, 32, 114, 101, 103, 10, 48, 32, 48, 32, 119, 114, 105, 116, 101, 32, 53, 10, 49, 32, 48, 32, 114, 101, 97, 100, 10, 49, 32, 48, 32, 101, 110, 100, 32, 53, 10, 48, 32, 48, 32, 101, 110, 100, 32, 48, 10]⟩ : ByteArray)))) && r14) == true)
        (bd (alibkeep_twoOf N) fun (r15 : Unit) =>
        bd (slices_Equal_api_Event_api_Event N r5.2.1 ([(Event.mk 0 0 1 5), (Event.mk 1 0 2 0), (Event.mk 1 0 0 5), (Event.mk 0 0 0 0)] : List Event)) fun (r17 : Bool) =>
        some ((((r12 && (decide (r4.1 = (⟨#[116, 104, 105, 110, 103, 115, 32, 114, 101, 103, 10, 48, 32, 48, 32, 119, 114, 105, 116, 101, 32, 53, 10, 49, 32, 48, 32, 114, 101, 97, 100, 10, 49, 32, 48, 32, 101, 110, 100, 32, 53, 10, 48, 32, 48, 32, 101, 110, 100, 32, 48, 10]⟩ : ByteArray)))) && r14) && r17) && (decide (r5.2.2.1 = 0))))
        (some ((((r12 && (decide (r4.1 = (⟨#[116, 104, 105, 110, 103, 115, 32, 114, 101, 103, 10, 48, 32, 48, 32, 119, 114, 105, 116, 101, 32, 53, 10, 49, 32, 48, 32, 114, 101, 97, 100, 10, 49, 32, 48, 32, 101, 110, 100, 32, 53, 10, 48, 32, 48, 32, 101, 110, 100, 32, 48, 10]⟩ : ByteArray)))) && r14) && false) && (decide (r5.2.2.1 = 0)))))
      (cond (((r12 && (decide (r4.1 = (⟨#[116, 104, 105, 110, 103, 115, 32, 114, 101, 103, 10, 48, 32, 48, 32, 119, 114, 105, 116, 101, 32, 53, 10, 49, 32, 48, 32, 114, 101, 97, 100, 10, 49, 32, 48, 32, 101, 110, 100, 32, 53, 10, 48, 32, 48, 32, 101, 110, 100, 32, 48, 10]⟩ : ByteArray)))) && false) == true)
        (bd (alibkeep_twoOf N) fun (r18 : Unit) =>
        bd (slices_Equal_api_Event_api_Event N r5.2.1 ([(Event.mk 0 0 1 5), (Event.mk 1 0 2 0), (Event.mk 1 0 0 5), (Event.mk 0 0 0 0)] : List Event)) fun (r20 : Bool) =>
        some ((((r12 && (decide (r4.1 = (⟨#[116, 104, 105, 110, 103, 115, 32, 114, 101, 103, 10, 48, 32, 48, 32, 119, 114, 105, 116, 101, 32, 53, 10, 49, 32, 48, 32, 114, 101, 97, 100, 10, 49, 32, 48, 32, 101, 110, 100, 32, 53, 10, 48, 32, 48, 32, 101, 110, 100, 32, 48, 10]⟩ : ByteArray)))) && false) && r20) && (decide (r5.2.2.1 = 0))))
        (some ((((r12 && (decide (r4.1 = (⟨#[116, 104, 105, 110, 103, 115, 32, 114, 101, 103, 10, 48, 32, 48, 32, 119, 114, 105, 116, 101, 32, 53, 10, 49, 32, 48, 32, 114, 101, 97, 100, 10, 49, 32, 48, 32, 101, 110, 100, 32, 53, 10, 48, 32, 48, 32, 101, 110, 100, 32, 48, 10]⟩ : ByteArray)))) && false) && false) && (decide (r5.2.2.1 = 0)))))) <|
  fun (v10 : Bool) => 
    some v10

theorem alibkeep_textLives_ok {N : Nat} {res : Bool} (hF : alibkeep_textLives N = some res) (w : World) (hG : GOkS w) :
    Pure Tryd.prog 10 [] w (.bool res) := by
  refine W.enter (n := 42) Tryd.func10 rfl rfl Sub.refl (by simp) (St.start w) fun R hR => ?_
  unfold alibkeep_textLives at hF
  refine W.seqR fun Q1 hQ1 => ?_
  refine WL.q (Y.assign (.pl rfl)) rfl ?_
  refine WL.next hQ1 (.nil) ?_
  refine W.seqR fun Q2 hQ2 => ?_
  refine WL.step (WO.bsliceC (enc := (eI .i64)) (ys := ([1] : List Int)) Tryd.underlying22 bz3 (.cons (.pl rfl) (.nil)) rfl (fun _ => rfl) rfl rfl (by decide) (by decide) rfl fun b1 => ?_)
  obtain ⟨r2, hr2, hF⟩ := bnd hF
  refine WL.step (WO.callM isGo24 (.nil) rfl (fun wz hw => alibkeep_twoOf_ok (hr2) wz ) ?_)
  rintro A3 -
  obtain ⟨r4, hr4, hF⟩ := bnd hF
  refine WL.step (WO.callP isGo6 (.cons (.pl rfl) (.cons (.pl rfl) (.nil))) rfl (fun wz hw => text_Print_ok (hr4) wz (SlIn.ofRow (fun _ => rfl) hw (i := 1) rfl) (SlIn.ofRow lenEvent hw (i := 0) rfl) (hG.mono hw)) ?_)
  refine WL.q (Y.move (.pl rfl)) rfl ?_
  refine WL.q (Y.extract (.pl rfl) rfl) rfl ?_
  refine WL.q (Y.extract (.pl rfl) rfl) rfl ?_
  refine WL.q (Y.assign (.pl rfl)) rfl ?_
  refine WL.q (Y.assign (.pl rfl)) rfl ?_
  refine WL.next hQ2 (.cons (i := 1) rfl (.cons (i := 2) rfl (.nil))) ?_
  refine W.seqR fun Q3 hQ3 => ?_
  refine WL.q (Y.move (.pl rfl)) rfl ?_
  obtain ⟨r5, hr5, hF⟩ := bnd hF
  refine WL.step (WO.callM isGo7 (.cons (.pl rfl) (.nil)) rfl (fun wz hw => text_Read_ok (hr5) wz (hG.mono hw)) ?_)
  rintro ⟨A6, c7, A8, c9⟩ -
  refine WL.q (Y.move (.pl rfl)) rfl ?_
  refine WL.q (Y.extract (.pl rfl) rfl) rfl ?_
  refine WL.q (Y.extract (.pl rfl) rfl) rfl ?_
  refine WL.q (Y.extract (.pl rfl) rfl) rfl ?_
  refine WL.q (Y.extract (.pl rfl) rfl) rfl ?_
  refine WL.q (Y.assign (.pl rfl)) rfl ?_
  refine WL.q (Y.assign (.pl rfl)) rfl ?_
  refine WL.q (Y.assign (.pl rfl)) rfl ?_
  refine WL.q (Y.assign (.pl rfl)) rfl ?_
  refine WL.next hQ3 (.cons (i := 1) rfl (.cons (i := 2) rfl (.cons (i := 3) rfl (.cons (i := 4) rfl (.cons (i := 5) rfl (.cons (i := 6) rfl (.nil))))))) ?_
  obtain ⟨o4, hF4, hF⟩ := bnd hF
  refine W.join1 (Em := fun (v10 : Bool) => [(0, .bool v10)]) (M := fun v10 => []) (I := fun v10 => v10 = o4) (.nil) (fun K5 hK5 => ?_) ?_
  · -- up to
    refine W.reg ?_
    refine WL.q (Y.move (.pl rfl)) rfl ?_
    refine WL.q (Y.move (.pl rfl)) rfl ?_
    refine WL.step (WO.bsliceC (enc := (eI .i64)) (ys := ([r4.2, r5.2.2.2] : List Int)) Tryd.underlying76 bz24 (.cons (.pl rfl) (.cons (.pl rfl) (.nil))) rfl (fun _ => rfl) rfl rfl (by decide) (by decide) rfl fun b11 => ?_)
    obtain ⟨r12, hr12, hF4⟩ := bnd hF4
    refine WL.step (WO.callP isGo25 (.cons (.pl rfl) (.nil)) rfl (fun wz hw => alibkeep_ok_ok (hr12) wz (SlIn.ofRow (fun _ => rfl) hw (i := 0) rfl)) ?_)
    refine WL.q (Y.move (.pl rfl)) rfl ?_
    refine WL.g (.pl rfl rfl rfl) (fun hg => Y.move (.pl rfl)) rfl ?_
    refine WL.g (.pl rfl rfl rfl) (fun hg => Y.eqlT Tryd.underlying9 (.gd (hg) rfl) (.pl rfl)) rfl ?_
    refine WL.q (Y.and (.pl rfl) (fun h2 => .gd (eqt h2) rfl)) rfl ?_
    refine WL.q (Y.move (.pl rfl)) rfl ?_
    refine WL.g (.pl rfl rfl rfl) (fun hg => Y.move (.pl rfl)) rfl ?_
    refine bsplit ((r12 && (decide (r4.1 = (⟨#[116, 104, 105, 110, 103, 115, 32, 114, 101, 103, 10, 48, 32, 48, 32, 119, 114, 105, 116, 101, 32, 53, 10, 49, 32, 48, 32, 114, 101, 97, 100, 10, 49, 32, 48, 32, 101, 110, 100, 32, 53, 10, 48, 32, 48, 32, 101, 110, 100, 32, 48, 10]⟩ : ByteArray)))) == true) (fun hg6 => ?_) (fun hg6 => ?_)
    · replace hF4 := cpos hg6 hF4
      refine WL.gd (.pl rfl rfl rfl) (hg6) ?_
      refine WL.step (WO.bsliceC (enc := (eI .i64)) (ys := ([1] : List Int)) Tryd.underlying22 bz3 (.cons (.pl rfl) (.nil)) rfl (fun _ => rfl) rfl rfl (by decide) (by decide) rfl fun b13 => ?_)
      refine WL.gd (.pl rfl rfl rfl) (hg6) ?_
      obtain ⟨r14, hr14, hF4⟩ := bnd hF4
      refine WL.step (WO.callP isGo8 (.cons (.gd (hg6) rfl) (.cons (.pl rfl) (.nil))) rfl (fun wz hw => slices_Equal_int_int_ok (hr14) wz (SlIn.ofRow (fun _ => rfl) hw (i := 2) rfl) (SlIn.ofRow (fun _ => rfl) hw (i := 0) rfl)) ?_)
      refine WL.q (Y.and (.pl rfl) (fun _ => .pl rfl)) rfl ?_
      refine WL.q (Y.move (.pl rfl)) rfl ?_
      refine WL.g (.pl rfl rfl rfl) (fun hg => Y.move (.pl rfl)) rfl ?_
      refine bsplit (((r12 && (decide (r4.1 = (⟨#[116, 104, 105, 110, 103, 115, 32, 114, 101, 103, 10, 48, 32, 48, 32, 119, 114, 105, 116, 101, 32, 53, 10, 49, 32, 48, 32, 114, 101, 97, 100, 10, 49, 32, 48, 32, 101, 110, 100, 32, 53, 10, 48, 32, 48, 32, 101, 110, 100, 32, 48, 10]⟩ : ByteArray)))) && r14) == true) (fun hg7 => ?_) (fun hg7 => ?_)
      · replace hF4 := cpos hg7 hF4
        refine WL.gd (.pl rfl rfl rfl) (hg7) ?_
        obtain ⟨r15, hr15, hF4⟩ := bnd hF4
        refine WL.step (WO.callM isGo24 (.nil) rfl (fun wz hw => alibkeep_twoOf_ok (hr15) wz ) ?_)
        rintro A16 -
        refine WL.gd (.pl rfl rfl rfl) (hg7) ?_
        obtain ⟨r17, hr17, hF4⟩ := bnd hF4
        refine WL.step (WO.callP isGo9 (.cons (.gd (hg7) rfl) (.cons (.pl rfl) (.nil))) rfl (fun wz hw => slices_Equal_api_Event_api_Event_ok (hr17) wz (SlIn.ofRow lenEvent hw (i := 4) rfl) (SlIn.ofRow lenEvent hw (i := 0) rfl)) ?_)
        refine WL.q (Y.and (.pl rfl) (fun _ => .pl rfl)) rfl ?_
        refine WL.q (Y.move (.pl rfl)) rfl ?_
        refine WL.g (.pl rfl rfl rfl) (fun hg => Y.move (.pl rfl)) rfl ?_
        refine WL.g (.pl rfl rfl rfl) (fun hg => Y.eql (.gd (hg) rfl) (.pl rfl)) rfl ?_
        refine WL.q (Y.and (.pl rfl) (fun h2 => .gd (eqt h2) rfl)) rfl ?_
        refine WL.q (Y.assign (.pl rfl)) rfl ?_
        refine WL.nil ?_
        exact W.joinAt1 hK5 ((((r12 && (decide (r4.1 = (⟨#[116, 104, 105, 110, 103, 115, 32, 114, 101, 103, 10, 48, 32, 48, 32, 119, 114, 105, 116, 101, 32, 53, 10, 49, 32, 48, 32, 114, 101, 97, 100, 10, 49, 32, 48, 32, 101, 110, 100, 32, 53, 10, 48, 32, 48, 32, 101, 110, 100, 32, 48, 10]⟩ : ByteArray)))) && r14) && r17) && (decide (r5.2.2.1 = 0))) (Option.some.inj hF4) (.cons rfl (.nil)) (.nil) (fun wz hw => hw.pick [] rfl)
      · replace hF4 := cneg hg7 hF4
        refine WL.gn (.pl rfl rfl rfl) hg7 rfl ?_
        refine WL.gn (.pl rfl rfl rfl) hg7 rfl ?_
        refine WL.q (Y.and (b := false) (.pl rfl) (fun h2 => (gabsA hg7 h2).elim)) rfl ?_
        refine WL.q (Y.move (.pl rfl)) rfl ?_
        refine WL.g (.pl rfl rfl rfl) (fun hg => Y.move (.pl rfl)) rfl ?_
        refine WL.g (.pl rfl rfl rfl) (fun hg => Y.eql (.gd (hg) rfl) (.pl rfl)) rfl ?_
        refine WL.q (Y.and (.pl rfl) (fun h2 => .gd (eqt h2) rfl)) rfl ?_
        refine WL.q (Y.assign (.pl rfl)) rfl ?_
        refine WL.nil ?_
        exact W.joinAt1 hK5 ((((r12 && (decide (r4.1 = (⟨#[116, 104, 105, 110, 103, 115, 32, 114, 101, 103, 10, 48, 32, 48, 32, 119, 114, 105, 116, 101, 32, 53, 10, 49, 32, 48, 32, 114, 101, 97, 100, 10, 49, 32, 48, 32, 101, 110, 100, 32, 53, 10, 48, 32, 48, 32, 101, 110, 100, 32, 48, 10]⟩ : ByteArray)))) && r14) && false) && (decide (r5.2.2.1 = 0))) (Option.some.inj hF4) (.cons rfl (.nil)) (.nil) (fun wz hw => hw.pick [] rfl)
    · replace hF4 := cneg hg6 hF4
      refine WL.gn (.pl rfl rfl rfl) hg6 rfl ?_
      refine WL.gn (.pl rfl rfl rfl) hg6 rfl ?_
      refine WL.q (Y.and (b := false) (.pl rfl) (fun h2 => (gabsA hg6 h2).elim)) rfl ?_
      refine WL.q (Y.move (.pl rfl)) rfl ?_
      refine WL.g (.pl rfl rfl rfl) (fun hg => Y.move (.pl rfl)) rfl ?_
      refine bsplit (((r12 && (decide (r4.1 = (⟨#[116, 104, 105, 110, 103, 115, 32, 114, 101, 103, 10, 48, 32, 48, 32, 119, 114, 105, 116, 101, 32, 53, 10, 49, 32, 48, 32, 114, 101, 97, 100, 10, 49, 32, 48, 32, 101, 110, 100, 32, 53, 10, 48, 32, 48, 32, 101, 110, 100, 32, 48, 10]⟩ : ByteArray)))) && false) == true) (fun hg8 => ?_) (fun hg8 => ?_)
      · replace hF4 := cpos hg8 hF4
        refine WL.gd (.pl rfl rfl rfl) (hg8) ?_
        obtain ⟨r18, hr18, hF4⟩ := bnd hF4
        refine WL.step (WO.callM isGo24 (.nil) rfl (fun wz hw => alibkeep_twoOf_ok (hr18) wz ) ?_)
        rintro A19 -
        refine WL.gd (.pl rfl rfl rfl) (hg8) ?_
        obtain ⟨r20, hr20, hF4⟩ := bnd hF4
        refine WL.step (WO.callP isGo9 (.cons (.gd (hg8) rfl) (.cons (.pl rfl) (.nil))) rfl (fun wz hw => slices_Equal_api_Event_api_Event_ok (hr20) wz (SlIn.ofRow lenEvent hw (i := 3) rfl) (SlIn.ofRow lenEvent hw (i := 0) rfl)) ?_)
        refine WL.q (Y.and (.pl rfl) (fun _ => .pl rfl)) rfl ?_
        refine WL.q (Y.move (.pl rfl)) rfl ?_
        refine WL.g (.pl rfl rfl rfl) (fun hg => Y.move (.pl rfl)) rfl ?_
        refine WL.g (.pl rfl rfl rfl) (fun hg => Y.eql (.gd (hg) rfl) (.pl rfl)) rfl ?_
        refine WL.q (Y.and (.pl rfl) (fun h2 => .gd (eqt h2) rfl)) rfl ?_
        refine WL.q (Y.assign (.pl rfl)) rfl ?_
        refine WL.nil ?_
        exact W.joinAt1 hK5 ((((r12 && (decide (r4.1 = (⟨#[116, 104, 105, 110, 103, 115, 32, 114, 101, 103, 10, 48, 32, 48, 32, 119, 114, 105, 116, 101, 32, 53, 10, 49, 32, 48, 32, 114, 101, 97, 100, 10, 49, 32, 48, 32, 101, 110, 100, 32, 53, 10, 48, 32, 48, 32, 101, 110, 100, 32, 48, 10]⟩ : ByteArray)))) && false) && r20) && (decide (r5.2.2.1 = 0))) (Option.some.inj hF4) (.cons rfl (.nil)) (.nil) (fun wz hw => hw.pick [] rfl)
      · replace hF4 := cneg hg8 hF4
        refine WL.gn (.pl rfl rfl rfl) hg8 rfl ?_
        refine WL.gn (.pl rfl rfl rfl) hg8 rfl ?_
        refine WL.q (Y.and (b := false) (.pl rfl) (fun h2 => (gabsA hg8 h2).elim)) rfl ?_
        refine WL.q (Y.move (.pl rfl)) rfl ?_
        refine WL.g (.pl rfl rfl rfl) (fun hg => Y.move (.pl rfl)) rfl ?_
        refine WL.g (.pl rfl rfl rfl) (fun hg => Y.eql (.gd (hg) rfl) (.pl rfl)) rfl ?_
        refine WL.q (Y.and (.pl rfl) (fun h2 => .gd (eqt h2) rfl)) rfl ?_
        refine WL.q (Y.assign (.pl rfl)) rfl ?_
        refine WL.nil ?_
        exact W.joinAt1 hK5 ((((r12 && (decide (r4.1 = (⟨#[116, 104, 105, 110, 103, 115, 32, 114, 101, 103, 10, 48, 32, 48, 32, 119, 114, 105, 116, 101, 32, 53, 10, 49, 32, 48, 32, 114, 101, 97, 100, 10, 49, 32, 48, 32, 101, 110, 100, 32, 53, 10, 48, 32, 48, 32, 101, 110, 100, 32, 48, 10]⟩ : ByteArray)))) && false) && false) && (decide (r5.2.2.1 = 0))) (Option.some.inj hF4) (.cons rfl (.nil)) (.nil) (fun wz hw => hw.pick [] rfl)
  · -- behind
    rintro v10 rfl
    obtain rfl := Option.some.inj hF
    refine W.retV (fn := Tryd.f10) (vs := [.bool v10]) Tryd.results10 ⟨.tmp rfl, trivial⟩ (fun _ _ h => h) (fun wz hw => ?_)
    exact hR _ _ ⟨rfl, (hw.pick [] rfl)⟩

theorem lay_Lays_n138 : Lays.n138 Tryd.prog shren where
  mixed := by kernel_rfl
  f138 := Tryd.func11.trans (congrArg some (by kernel_rfl))
  f143 := Tryd.func28.trans (congrArg some (by kernel_rfl))
  f195 := Tryd.func26.trans (congrArg some (by kernel_rfl))
  f217 := Tryd.func49.trans (congrArg some (by kernel_rfl))
  f218 := Tryd.func27.trans (congrArg some (by kernel_rfl))
  f219 := Tryd.func38.trans (congrArg some (by kernel_rfl))
  f224 := Tryd.func51.trans (congrArg some (by kernel_rfl))
  f225 := Tryd.func50.trans (congrArg some (by kernel_rfl))
  f266 := Tryd.func63.trans (congrArg some (by kernel_rfl))
  f267 := Tryd.func52.trans (congrArg some (by kernel_rfl))
  f314 := Tryd.func64.trans (congrArg some (by kernel_rfl))
  t0 := Tryd.underlying0
  a0 := Tryd.isAgg0
  z0 := Tryd.sizeOf0
  v0 := Tryd.zeroValue0
  t3 := Tryd.underlying3
  a3 := Tryd.isAgg3
  z3 := Tryd.sizeOf3
  v3 := Tryd.zeroValue3
  t4 := Tryd.underlying4
  a4 := Tryd.isAgg4
  z4 := Tryd.sizeOf4
  v4 := Tryd.zeroValue4
  t5 := Tryd.underlying5
  a5 := Tryd.isAgg5
  z5 := Tryd.sizeOf5
  v5 := Tryd.zeroValue5
  t9 := Tryd.underlying9
  a9 := Tryd.isAgg9
  z9 := Tryd.sizeOf9
  v9 := Tryd.zeroValue9
  t46 := Tryd.underlying87
  a46 := Tryd.isAgg87
  z46 := Tryd.sizeOf87
  v46 := Tryd.zeroValue87
  t51 := Tryd.underlying99
  a51 := Tryd.isAgg99
  z51 := Tryd.sizeOf99
  v51 := Tryd.zeroValue99
  t146 := Tryd.underlying100
  a146 := Tryd.isAgg100
  z146 := Tryd.sizeOf100
  v146 := Tryd.zeroValue100
  g1 := by kernel_rfl

theorem strings_Count_ok {N : Nat} {sI1 pI2 : ByteArray} {res : Int} (hF : countO N sI1 pI2 = some res) (w : World) (hG : GOkS w) : Pure Tryd.prog 11 [.string sI1, .string pI2] w (.int .i64 res) := count_pure lay_Lays_n138 hF w hG

theorem lay_Lays_n100 : Lays.n100 Tryd.prog shren where
  mixed := by kernel_rfl
  f100 := Tryd.func12.trans (congrArg some (by kernel_rfl))
  f207 := Tryd.func29.trans (congrArg some (by kernel_rfl))
  t3 := Tryd.underlying3
  a3 := Tryd.isAgg3
  z3 := Tryd.sizeOf3
  v3 := Tryd.zeroValue3
  t4 := Tryd.underlying4
  a4 := Tryd.isAgg4
  z4 := Tryd.sizeOf4
  v4 := Tryd.zeroValue4
  t9 := Tryd.underlying9
  a9 := Tryd.isAgg9
  z9 := Tryd.sizeOf9
  v9 := Tryd.zeroValue9

theorem strings_HasSuffix_ok {N : Nat} {sI1 pI2 : ByteArray} {res : Bool} (hF : sufO N sI1 pI2 = some res) (w : World) : Pure Tryd.prog 12 [.string sI1, .string pI2] w (.bool res) := suf_pure lay_Lays_n100 hF w

def alibkeep_TextLines (N : Nat) (s1 : ByteArray) : Option Bool :=
  bd (text_Read N s1) fun (r2 : ((List Int) × (List Event) × Int × Int)) =>
  bd (alibkeep_textLives N) fun (r7 : Bool) =>
  bd ((cond ((r7 == true) && ((!(decide (r2.2.2.2 = 0))) == false)) (countO N s1 (⟨#[10]⟩ : ByteArray)) (some 0))) fun (r8 : Int) =>
  ck (!((r7 == true) && ((!(decide (r2.2.2.2 = 0))) == false)) || (ok64 (r8 - 1))) <|
  bd ((cond (((r7 == true) && ((!(decide (r2.2.2.2 = 0))) == false)) && ((decide (((r2.2.1).length : Int) = (r8 - 1))) == true)) (sufO N s1 (⟨#[10]⟩ : ByteArray)) (some false))) fun (r10 : Bool) =>
  some (r7 && ((!(decide (r2.2.2.2 = 0))) || ((decide (((r2.2.1).length : Int) = (r8 - 1))) && r10)))

theorem alibkeep_TextLines_ok {N : Nat} {s1 : ByteArray} {res : Bool} (hF : alibkeep_TextLines N s1 = some res) (w : World) (hG : GOkS w) :
    Pure Tryd.prog 4 [.string s1] w (.bool res) := by
  refine W.enter (n := 31) Tryd.func4 rfl rfl Sub.refl (by simp) (St.start w) fun R hR => ?_
  unfold alibkeep_TextLines at hF
  refine W.seqR fun Q1 hQ1 => ?_
  refine WL.q (Y.assign (.pl rfl)) rfl ?_
  refine WL.next hQ1 (.cons (i := 0) rfl (.nil)) ?_
  refine W.seqR fun Q2 hQ2 => ?_
  refine WL.q (Y.move (.pl rfl)) rfl ?_
  obtain ⟨r2, hr2, hF⟩ := bnd hF
  refine WL.step (WO.callM isGo7 (.cons (.pl rfl) (.nil)) rfl (fun wz hw => text_Read_ok (hr2) wz (hG.mono hw)) ?_)
  rintro ⟨A3, c4, A5, c6⟩ -
  refine WL.q (Y.move (.pl rfl)) rfl ?_
  refine WL.q (Y.extract (.pl rfl) rfl) rfl ?_
  refine WL.q (Y.extract (.pl rfl) rfl) rfl ?_
  refine WL.q (Y.extract (.pl rfl) rfl) rfl ?_
  refine WL.q (Y.extract (.pl rfl) rfl) rfl ?_
  refine WL.q (Y.assign (.pl rfl)) rfl ?_
  refine WL.q (Y.assign (.pl rfl)) rfl ?_
  refine WL.q (Y.assign (.pl rfl)) rfl ?_
  refine WL.q (Y.assign (.pl rfl)) rfl ?_
  refine WL.next hQ2 (.cons (i := 0) rfl (.cons (i := 4) rfl (.cons (i := 6) rfl (.nil)))) ?_
  refine W.seqR fun Q3 hQ3 => ?_
  obtain ⟨r7, hr7, hF⟩ := bnd hF
  refine WL.step (WO.callP isGo10 (.nil) rfl (fun wz hw => alibkeep_textLives_ok (hr7) wz (hG.mono hw)) ?_)
  refine WL.q (Y.move (.pl rfl)) rfl ?_
  refine WL.g (.pl rfl rfl rfl) (fun hg => Y.move (.pl rfl)) rfl ?_
  refine WL.g (.pl rfl rfl rfl) (fun hg => Y.neq (.gd (hg) rfl) (.pl rfl)) rfl ?_
  refine WL.g (.pl rfl rfl rfl) (fun hg => Y.move (.gd (hg) rfl)) rfl ?_
  refine WL.g (.gd rfl rfl rfl) (fun hg => Y.move (.pl rfl)) rfl ?_
  refine WL.g (.gd rfl rfl rfl) (fun hg => Y.len Tryd.underlying23 (.gd (hg) rfl)) rfl ?_
  refine WL.g (.gd rfl rfl rfl) (fun hg => Y.move (.pl rfl)) rfl ?_
  obtain ⟨r8, hr8, hF⟩ := bnd hF
  refine WL.gP (.gd rfl rfl rfl) isGo11 (fun hg => (.cons (.gd (hg) rfl) (.cons (.pl rfl) (.nil)))) rfl (fun hg wz hw => strings_Count_ok (gpos hg hr8) wz (hG.mono hw)) ?_
  obtain ⟨hk9, hF⟩ := ckh hF
  refine WL.g (.gd rfl rfl rfl) (fun hg => Y.sub (.gd (hg) rfl) (.pl rfl) (ok64_lt (gor hg hk9))) rfl ?_
  refine WL.g (.gd rfl rfl rfl) (fun hg => Y.eql (.gd (hg) rfl) (.gd (hg) rfl)) rfl ?_
  refine WL.g (.gd rfl rfl rfl) (fun hg => Y.move (.gd (hg) rfl)) rfl ?_
  refine WL.g (.gd rfl rfl rfl) (fun hg => Y.move (.pl rfl)) rfl ?_
  obtain ⟨r10, hr10, hF⟩ := bnd hF
  refine WL.gP (.gd rfl rfl rfl) isGo12 (fun hg => (.cons (.gd (hg) rfl) (.cons (.pl rfl) (.nil)))) rfl (fun hg wz hw => strings_HasSuffix_ok (gpos hg hr10) wz ) ?_
  refine WL.g (.gd rfl rfl rfl) (fun hg => Y.and (.gd (hg) rfl) (fun h2 => .gd (band hg (eqt h2)) rfl)) rfl ?_
  refine WL.g (.pl rfl rfl rfl) (fun hg => Y.or (.gd (hg) rfl) (fun h2 => .gd (band hg (eqf h2)) rfl)) rfl ?_
  refine WL.q (Y.and (.pl rfl) (fun h2 => .gd (eqt h2) rfl)) rfl ?_
  refine WL.q (Y.assign (.pl rfl)) rfl ?_
  refine WL.next hQ3 (.cons (i := 2) rfl (.nil)) ?_
  obtain rfl := Option.some.inj hF
  refine W.retV (fn := Tryd.f4) (vs := [.bool (r7 && ((!(decide (r2.2.2.2 = 0))) || ((decide (((r2.2.1).length : Int) = (r8 - 1))) && r10)))]) Tryd.results4 ⟨.tmp rfl, trivial⟩ (fun _ _ h => h) (fun wz hw => ?_)
  exact hR _ _ ⟨rfl, (hw.pick [] rfl)⟩

theorem lay_Lays_n156 : Lays.n156 Tryd.prog shren where
  mixed := by kernel_rfl
  f156 := Tryd.func14.trans (congrArg some (by kernel_rfl))
  f165 := Tryd.func31.trans (congrArg some (by kernel_rfl))
  f166 := Tryd.func16.trans (congrArg some (by kernel_rfl))
  f169 := Tryd.func21.trans (congrArg some (by kernel_rfl))
  f240 := Tryd.func34.trans (congrArg some (by kernel_rfl))
  f241 := Tryd.func40.trans (congrArg some (by kernel_rfl))
  f276 := Tryd.func46.trans (congrArg some (by kernel_rfl))
  f277 := Tryd.func54.trans (congrArg some (by kernel_rfl))
  t0 := Tryd.underlying0
  a0 := Tryd.isAgg0
  z0 := Tryd.sizeOf0
  v0 := Tryd.zeroValue0
  t3 := Tryd.underlying3
  a3 := Tryd.isAgg3
  z3 := Tryd.sizeOf3
  v3 := Tryd.zeroValue3
  t4 := Tryd.underlying4
  a4 := Tryd.isAgg4
  z4 := Tryd.sizeOf4
  v4 := Tryd.zeroValue4
  t9 := Tryd.underlying9
  a9 := Tryd.isAgg9
  z9 := Tryd.sizeOf9
  v9 := Tryd.zeroValue9
  t20 := Tryd.underlying20
  a20 := Tryd.isAgg20
  z20 := Tryd.sizeOf20
  v20 := Tryd.zeroValue20
  t31 := Tryd.underlying38
  a31 := Tryd.isAgg38
  z31 := Tryd.sizeOf38
  v31 := Tryd.zeroValue38
  t37 := Tryd.underlying45
  a37 := Tryd.isAgg45
  z37 := Tryd.sizeOf45
  v37 := Tryd.zeroValue45
  t70 := Tryd.underlying44
  a70 := Tryd.isAgg44
  z70 := Tryd.sizeOf44
  v70 := Tryd.zeroValue44
  t72 := Tryd.underlying47
  a72 := Tryd.isAgg47
  z72 := Tryd.sizeOf47
  v72 := Tryd.zeroValue47
  t75 := Tryd.underlying49
  a75 := Tryd.isAgg49
  z75 := Tryd.sizeOf49
  v75 := Tryd.zeroValue49
  t76 := Tryd.underlying50
  a76 := Tryd.isAgg50
  z76 := Tryd.sizeOf50
  v76 := Tryd.zeroValue50
  t127 := Tryd.underlying72
  a127 := Tryd.isAgg72
  z127 := Tryd.sizeOf72
  v127 := Tryd.zeroValue72
  t164 := Tryd.underlying83
  a164 := Tryd.isAgg83
  z164 := Tryd.sizeOf83
  v164 := Tryd.zeroValue83

theorem strings_Join_ok {N : Nat} {xI1 : List ByteArray} {pI2 res : ByteArray} (hF : joinO N xI1 pI2 = some res) (w : World) {v : Value} (h : SlIn eS 1 w v xI1) : Pure Tryd.prog 14 [v, .string pI2] w (.string res) := join_pure lay_Lays_n156 lay_Builder_Extra hF w h

def alibkeep_TextFront (N : Nat) (s1 : ByteArray) (more2 : ByteArray) : Option Bool :=
  bd (text_Read N s1) fun (r3 : ((List Int) × (List Event) × Int × Int)) =>
  bd (alibkeep_textLives N) fun (r8 : Bool) =>
  cond (((!r8) || (decide (r3.2.2.2 = 0))) || (decide (r3.2.2.2 = 2)))
    (bd (alibkeep_textLives N) fun (r9 : Bool) =>
    some r9)
    (bd (splitO N s1 (⟨#[10]⟩ : ByteArray)) fun (r10 : (List ByteArray)) =>
    cond ((decide (r3.2.2.1 < 0)) || (decide (((r10).length : Int) ≤ r3.2.2.1)))
      (some false)
      (ck (!((decide (r3.2.2.2 = 7)) == true) || (ok64 (r3.2.2.1 + 1))) <|
      cond ((decide (r3.2.2.2 = 7)) && (decide ((r3.2.2.1 + 1) < ((r10).length : Int))))
        (ck (ok64 (r3.2.2.1 + 1)) <|
        ck (slB (r10).length 0 (r3.2.2.1 + 1)) <|
        bd (joinO N (r10.take (r3.2.2.1 + 1).toNat) (⟨#[10]⟩ : ByteArray)) fun (r16 : ByteArray) =>
        ck (catB r16 (⟨#[10]⟩ : ByteArray)) <|
        ck (catB (r16 ++ (⟨#[10]⟩ : ByteArray)) more2) <|
        bd (text_Read N ((r16 ++ (⟨#[10]⟩ : ByteArray)) ++ more2)) fun (r19 : ((List Int) × (List Event) × Int × Int)) =>
        some ((decide (8192 < ((((r16 ++ (⟨#[10]⟩ : ByteArray)) ++ more2)).size : Int))) || ((decide (r19.2.2.2 = 7)) && (decide (r19.2.2.1 = r3.2.2.1)))))
        (some true)))

theorem alibkeep_TextFront_ok {N : Nat} {s1 : ByteArray} {more2 : ByteArray} {res : Bool} (hF : alibkeep_TextFront N s1 more2 = some res) (w : World) (hG : GOkS w) :
    Pure Tryd.prog 5 [.string s1, .string more2] w (.bool res) := by
  refine W.enter (n := 79) Tryd.func5 rfl rfl Sub.refl (by simp) (St.start w) fun R hR => ?_
  unfold alibkeep_TextFront at hF
  refine W.seqR fun Q1 hQ1 => ?_
  refine WL.q (Y.assign (.pl rfl)) rfl ?_
  refine WL.next hQ1 (.cons (i := 0) rfl (.cons (i := 1) rfl (.nil))) ?_
  refine W.seqR fun Q2 hQ2 => ?_
  refine WL.q (Y.move (.pl rfl)) rfl ?_
  obtain ⟨r3, hr3, hF⟩ := bnd hF
  refine WL.step (WO.callM isGo7 (.cons (.pl rfl) (.nil)) rfl (fun wz hw => text_Read_ok (hr3) wz (hG.mono hw)) ?_)
  rintro ⟨A4, c5, A6, c7⟩ -
  refine WL.q (Y.move (.pl rfl)) rfl ?_
  refine WL.q (Y.extract (.pl rfl) rfl) rfl ?_
  refine WL.q (Y.extract (.pl rfl) rfl) rfl ?_
  refine WL.q (Y.extract (.pl rfl) rfl) rfl ?_
  refine WL.q (Y.extract (.pl rfl) rfl) rfl ?_
  refine WL.q (Y.assign (.pl rfl)) rfl ?_
  refine WL.q (Y.assign (.pl rfl)) rfl ?_
  refine WL.q (Y.assign (.pl rfl)) rfl ?_
  refine WL.q (Y.assign (.pl rfl)) rfl ?_
  refine WL.next hQ2 (.cons (i := 0) rfl (.cons (i := 1) rfl (.cons (i := 7) rfl (.cons (i := 8) rfl (.nil))))) ?_
  refine W.seq fun K3 hK3 => ?_
  refine W.seqR fun Q4 hQ4 => ?_
  obtain ⟨r8, hr8, hF⟩ := bnd hF
  refine WL.step (WO.callP isGo10 (.nil) rfl (fun wz hw => alibkeep_textLives_ok (hr8) wz (hG.mono hw)) ?_)
  refine WL.q (Y.not (.pl rfl)) rfl ?_
  refine WL.q (Y.move (.pl rfl)) rfl ?_
  refine WL.g (.pl rfl rfl rfl) (fun hg => Y.move (.pl rfl)) rfl ?_
  refine WL.g (.pl rfl rfl rfl) (fun hg => Y.eql (.gd (hg) rfl) (.pl rfl)) rfl ?_
  refine WL.q (Y.or (.pl rfl) (fun h2 => .gd (eqf h2) rfl)) rfl ?_
  refine WL.q (Y.move (.pl rfl)) rfl ?_
  refine WL.g (.pl rfl rfl rfl) (fun hg => Y.move (.pl rfl)) rfl ?_
  refine WL.g (.pl rfl rfl rfl) (fun hg => Y.eql (.gd (hg) rfl) (.pl rfl)) rfl ?_
  refine WL.q (Y.or (.pl rfl) (fun h2 => .gd (eqf h2) rfl)) rfl ?_
  refine WL.next hQ4 (.cons (i := 0) rfl (.cons (i := 1) rfl (.cons (i := 7) rfl (.cons (i := 8) rfl (.cons (i := 31) rfl (.nil)))))) ?_
  refine W.cond (.pl rfl) (fun hC5 => ?_) (fun hC5 => ?_)
  · replace hF := cpos hC5 hF
    refine W.seqR fun Q6 hQ6 => ?_
    obtain ⟨r9, hr9, hF⟩ := bnd hF
    refine WL.step (WO.callP isGo10 (.nil) rfl (fun wz hw => alibkeep_textLives_ok (hr9) wz (hG.mono hw)) ?_)
    refine WL.q (Y.assign (.pl rfl)) rfl ?_
    refine WL.next hQ6 (.cons (i := 4) rfl (.nil)) ?_
    obtain rfl := Option.some.inj hF
    refine W.retV (fn := Tryd.f5) (vs := [.bool r9]) Tryd.results5 ⟨.tmp rfl, trivial⟩ (fun _ _ h => h) (fun wz hw => ?_)
    exact hR _ _ ⟨rfl, (hw.pick [] rfl)⟩
  · replace hF := cneg hC5 hF
    refine W.skip ?_
    refine W.go hK3 (.cons (i := 0) rfl (.cons (i := 1) rfl (.cons (i := 7) rfl (.cons (i := 8) rfl (.nil))))) ?_
    refine W.seqR fun Q7 hQ7 => ?_
    refine WL.q (Y.move (.pl rfl)) rfl ?_
    obtain ⟨r10, hr10, hF⟩ := bnd hF
    refine WL.step (WO.callM isGo13 (.cons (.pl rfl) (.cons (.pl rfl) (.nil))) rfl (fun wz hw => strings_Split_ok (hr10) wz (hG.mono hw)) ?_)
    rintro ⟨AI11, cI12⟩ -
    refine WL.q (Y.assign (.pl rfl)) rfl ?_
    refine WL.next hQ7 (.cons (i := 1) rfl (.cons (i := 7) rfl (.cons (i := 8) rfl (.cons (i := 9) rfl (.nil))))) ?_
    refine W.seq fun K8 hK8 => ?_
    refine W.seqR fun Q9 hQ9 => ?_
    refine WL.q (Y.move (.pl rfl)) rfl ?_
    refine WL.q (Y.lss (.pl rfl) (.pl rfl)) rfl ?_
    refine WL.q (Y.move (.pl rfl)) rfl ?_
    refine WL.g (.pl rfl rfl rfl) (fun hg => Y.move (.pl rfl)) rfl ?_
    refine WL.g (.pl rfl rfl rfl) (fun hg => Y.move (.pl rfl)) rfl ?_
    refine WL.g (.pl rfl rfl rfl) (fun hg => Y.len Tryd.underlying38 (.gd (hg) rfl)) rfl ?_
    refine WL.g (.pl rfl rfl rfl) (fun hg => Y.geq (.gd (hg) rfl) (.gd (hg) rfl)) rfl ?_
    refine WL.q (Y.or (.pl rfl) (fun h2 => .gd (eqf h2) rfl)) rfl ?_
    refine WL.next hQ9 (.cons (i := 1) rfl (.cons (i := 7) rfl (.cons (i := 8) rfl (.cons (i := 9) rfl (.cons (i := 42) rfl (.nil)))))) ?_
    refine W.cond (.pl rfl) (fun hC10 => ?_) (fun hC10 => ?_)
    · replace hF := cpos hC10 hF
      refine W.seqR fun Q11 hQ11 => ?_
      refine WL.q (Y.assign (.pl rfl)) rfl ?_
      refine WL.next hQ11 (.cons (i := 4) rfl (.nil)) ?_
      obtain rfl := Option.some.inj hF
      refine W.retV (fn := Tryd.f5) (vs := [.bool false]) Tryd.results5 ⟨.tmp rfl, trivial⟩ (fun _ _ h => h) (fun wz hw => ?_)
      exact hR _ _ ⟨rfl, (hw.pick [] rfl)⟩
    · replace hF := cneg hC10 hF
      refine W.skip ?_
      refine W.go hK8 (.cons (i := 1) rfl (.cons (i := 7) rfl (.cons (i := 8) rfl (.cons (i := 9) rfl (.nil))))) ?_
      refine W.seq fun K12 hK12 => ?_
      refine W.seqR fun Q13 hQ13 => ?_
      refine WL.q (Y.move (.pl rfl)) rfl ?_
      refine WL.q (Y.eql (.pl rfl) (.pl rfl)) rfl ?_
      refine WL.q (Y.move (.pl rfl)) rfl ?_
      refine WL.g (.pl rfl rfl rfl) (fun hg => Y.move (.pl rfl)) rfl ?_
      obtain ⟨hk13, hF⟩ := ckh hF
      refine WL.g (.pl rfl rfl rfl) (fun hg => Y.add (.gd (hg) rfl) (.pl rfl) (ok64_lt (gor hg hk13))) rfl ?_
      refine WL.g (.pl rfl rfl rfl) (fun hg => Y.move (.pl rfl)) rfl ?_
      refine WL.g (.pl rfl rfl rfl) (fun hg => Y.len Tryd.underlying38 (.gd (hg) rfl)) rfl ?_
      refine WL.g (.pl rfl rfl rfl) (fun hg => Y.lss (.gd (hg) rfl) (.gd (hg) rfl)) rfl ?_
      refine WL.q (Y.and (.pl rfl) (fun h2 => .gd (eqt h2) rfl)) rfl ?_
      refine WL.next hQ13 (.cons (i := 1) rfl (.cons (i := 7) rfl (.cons (i := 9) rfl (.cons (i := 51) rfl (.nil))))) ?_
      refine W.cond (.pl rfl) (fun hC14 => ?_) (fun hC14 => ?_)
      · replace hF := cpos hC14 hF
        refine W.seqR fun Q15 hQ15 => ?_
        refine WL.q (Y.move (.pl rfl)) rfl ?_
        refine WL.q (Y.move (.pl rfl)) rfl ?_
        obtain ⟨hk14, hF⟩ := ckh hF
        refine WL.q (Y.add (.pl rfl) (.pl rfl) (ok64_lt (hk14))) rfl ?_
        obtain ⟨hk15, hF⟩ := ckh hF
        refine WL.q (Y.sliceR0 Tryd.underlying38 cells9 (i := 0) rfl (.pl rfl) rfl (.pl rfl) (hk15)) rfl ?_
        obtain ⟨r16, hr16, hF⟩ := bnd hF
        refine WL.step (WO.callP isGo14 (.cons (.pl rfl) (.cons (.pl rfl) (.nil))) rfl (fun wz hw => strings_Join_ok (hr16) wz (SlIn.sub0 (SlIn.ofRow (enc := eS) (sz := 1) (fun _ => rfl) hw (i := 0) rfl) (slB_nat0 (hk15)))) ?_)
        obtain ⟨hk17, hF⟩ := ckh hF
        refine WL.q (Y.catT (.pl rfl) (.pl rfl) (hk17)) rfl ?_
        refine WL.q (Y.move (.pl rfl)) rfl ?_
        obtain ⟨hk18, hF⟩ := ckh hF
        refine WL.q (Y.catT (.pl rfl) (.pl rfl) (hk18)) rfl ?_
        refine WL.q (Y.assign (.pl rfl)) rfl ?_
        refine WL.next hQ15 (.cons (i := 7) rfl (.cons (i := 10) rfl (.nil))) ?_
        refine W.seqR fun Q16 hQ16 => ?_
        refine WL.q (Y.move (.pl rfl)) rfl ?_
        obtain ⟨r19, hr19, hF⟩ := bnd hF
        refine WL.step (WO.callM isGo7 (.cons (.pl rfl) (.nil)) rfl (fun wz hw => text_Read_ok (hr19) wz (hG.mono hw)) ?_)
        rintro ⟨A20, c21, A22, c23⟩ -
        refine WL.q (Y.move (.pl rfl)) rfl ?_
        refine WL.q (Y.extract (.pl rfl) rfl) rfl ?_
        refine WL.q (Y.extract (.pl rfl) rfl) rfl ?_
        refine WL.q (Y.extract (.pl rfl) rfl) rfl ?_
        refine WL.q (Y.extract (.pl rfl) rfl) rfl ?_
        refine WL.q (Y.assign (.pl rfl)) rfl ?_
        refine WL.q (Y.assign (.pl rfl)) rfl ?_
        refine WL.q (Y.assign (.pl rfl)) rfl ?_
        refine WL.q (Y.assign (.pl rfl)) rfl ?_
        refine WL.next hQ16 (.cons (i := 7) rfl (.cons (i := 10) rfl (.cons (i := 13) rfl (.cons (i := 14) rfl (.nil))))) ?_
        refine W.seqR fun Q17 hQ17 => ?_
        refine WL.q (Y.move (.pl rfl)) rfl ?_
        refine WL.q (Y.lenT Tryd.underlying9 (.pl rfl)) rfl ?_
        refine WL.q (Y.gtr (.pl rfl) (.pl rfl)) rfl ?_
        refine WL.q (Y.move (.pl rfl)) rfl ?_
        refine WL.g (.pl rfl rfl rfl) (fun hg => Y.move (.pl rfl)) rfl ?_
        refine WL.g (.pl rfl rfl rfl) (fun hg => Y.eql (.gd (hg) rfl) (.pl rfl)) rfl ?_
        refine WL.g (.pl rfl rfl rfl) (fun hg => Y.move (.gd (hg) rfl)) rfl ?_
        refine WL.g (.gd rfl rfl rfl) (fun hg => Y.move (.pl rfl)) rfl ?_
        refine WL.g (.gd rfl rfl rfl) (fun hg => Y.move (.pl rfl)) rfl ?_
        refine WL.g (.gd rfl rfl rfl) (fun hg => Y.eql (.gd (hg) rfl) (.gd (hg) rfl)) rfl ?_
        refine WL.g (.pl rfl rfl rfl) (fun hg => Y.and (.gd (hg) rfl) (fun h2 => .gd (band hg (eqt h2)) rfl)) rfl ?_
        refine WL.q (Y.or (.pl rfl) (fun h2 => .gd (eqf h2) rfl)) rfl ?_
        refine WL.q (Y.assign (.pl rfl)) rfl ?_
        refine WL.next hQ17 (.cons (i := 4) rfl (.nil)) ?_
        obtain rfl := Option.some.inj hF
        refine W.retV (fn := Tryd.f5) (vs := [.bool ((decide (8192 < ((((r16 ++ (⟨#[10]⟩ : ByteArray)) ++ more2)).size : Int))) || ((decide (r19.2.2.2 = 7)) && (decide (r19.2.2.1 = r3.2.2.1))))]) Tryd.results5 ⟨.tmp rfl, trivial⟩ (fun _ _ h => h) (fun wz hw => ?_)
        exact hR _ _ ⟨rfl, (hw.pick [] rfl)⟩
      · replace hF := cneg hC14 hF
        refine W.skip ?_
        refine W.go hK12 (.nil) ?_
        refine W.seqR fun Q18 hQ18 => ?_
        refine WL.q (Y.assign (.pl rfl)) rfl ?_
        refine WL.next hQ18 (.cons (i := 4) rfl (.nil)) ?_
        obtain rfl := Option.some.inj hF
        refine W.retV (fn := Tryd.f5) (vs := [.bool true]) Tryd.results5 ⟨.tmp rfl, trivial⟩ (fun _ _ h => h) (fun wz hw => ?_)
        exact hR _ _ ⟨rfl, (hw.pick [] rfl)⟩

def alibkeep_TextBack (N : Nat) (types1 : (List Int)) (l6 : (List Event)) (s11 : ByteArray) : Option Bool :=
  bd (α := (Unit ⊕ Bool)) (bd (text_Print N types1 l6) fun (r12 : (ByteArray × Int)) =>
    cond ((decide (r12.2 = 0)) && (decide (((r12.1).size : Int) ≤ 8192)))
      (bd (text_Read N r12.1) fun (r13 : ((List Int) × (List Event) × Int × Int)) =>
      bd ((cond ((!(decide (r13.2.2.2 = 0))) == false) (slices_Equal_int_int N r13.1 types1) (some false))) fun (r18 : Bool) =>
      bd ((cond (((!(decide (r13.2.2.2 = 0))) || (!r18)) == false) (slices_Equal_api_Event_api_Event N r13.2.1 l6) (some false))) fun (r19 : Bool) =>
      cond ((((!(decide (r13.2.2.2 = 0))) || (!r18)) || (!r19)) || (!(decide (r13.2.2.1 = 0))))
        (some (.inr false))
        (some (.inl ())))
      (some (.inl ()))) <|
  Sum.elim (fun _ => 
    bd (text_Read N s11) fun (r20 : ((List Int) × (List Event) × Int × Int)) =>
    bd (alibkeep_textLives N) fun (r25 : Bool) =>
    cond ((!r25) || (!(decide (r20.2.2.2 = 0))))
      (bd (alibkeep_textLives N) fun (r26 : Bool) =>
      some (((r26 && (decide (((r20.1).length : Int) = 0))) && (decide (((r20.2.1).length : Int) = 0))) && (decide (0 ≤ r20.2.2.1))))
      (bd (text_Print N r20.1 r20.2.1) fun (r27 : (ByteArray × Int)) =>
      some (((decide (r27.2 = 0)) && (decide (r27.1 = s11))) && (decide (r20.2.2.1 = 0))))) (fun p => some p)

theorem alibkeep_TextBack_ok {N : Nat} {types1 : (List Int)} {l6 : (List Event)} {s11 : ByteArray} {res : Bool} (hF : alibkeep_TextBack N types1 l6 s11 = some res) (w : World) {v5 : Value} (hs4 : SlIn (eI .i64) 1 w v5 types1) {v10 : Value} (hs9 : SlIn encEvent 4 w v10 l6) (hG : GOkS w) :
    Pure Tryd.prog 3 [v5, v10, .string s11] w (.bool res) := by
  obtain ⟨A2, c3, rfl, hcc3, hs4⟩ := hs4.form
  obtain ⟨A7, c8, rfl, hcc8, hs9⟩ := hs9.form
  refine W.enter (n := 102) Tryd.func3 rfl rfl Sub.refl (by simp) (St.start w) fun R hR => ?_
  unfold alibkeep_TextBack at hF
  refine W.seqR fun Q1 hQ1 => ?_
  refine WL.q (Y.assign (.pl rfl)) rfl ?_
  refine WL.next hQ1 (.cons (i := 0) rfl (.cons (i := 1) rfl (.cons (i := 2) rfl (.nil)))) ?_
  obtain ⟨o2, hF2, hF⟩ := bnd hF
  refine W.join0 (Em := []) (M := []) (I := (.inl ()) = o2) (.cons (i := 2) rfl (.nil)) (fun K3 hK3 => ?_) ?_
  · -- up to
    refine W.seqR fun Q4 hQ4 => ?_
    refine WL.q (Y.move (.pl rfl)) rfl ?_
    refine WL.q (Y.move (.pl rfl)) rfl ?_
    obtain ⟨r12, hr12, hF2⟩ := bnd hF2
    refine WL.step (WO.callP isGo6 (.cons (.pl rfl) (.cons (.pl rfl) (.nil))) rfl (fun wz hw => text_Print_ok (hr12) wz (hs4.mono hw) (hs9.mono hw) (hG.mono hw)) ?_)
    refine WL.q (Y.move (.pl rfl)) rfl ?_
    refine WL.q (Y.extract (.pl rfl) rfl) rfl ?_
    refine WL.q (Y.extract (.pl rfl) rfl) rfl ?_
    refine WL.q (Y.assign (.pl rfl)) rfl ?_
    refine WL.q (Y.assign (.pl rfl)) rfl ?_
    refine WL.next hQ4 (.cons (i := 0) rfl (.cons (i := 1) rfl (.cons (i := 2) rfl (.cons (i := 7) rfl (.cons (i := 8) rfl (.nil)))))) ?_
    refine W.seqR fun Q5 hQ5 => ?_
    refine WL.q (Y.move (.pl rfl)) rfl ?_
    refine WL.q (Y.eql (.pl rfl) (.pl rfl)) rfl ?_
    refine WL.q (Y.move (.pl rfl)) rfl ?_
    refine WL.g (.pl rfl rfl rfl) (fun hg => Y.move (.pl rfl)) rfl ?_
    refine WL.g (.pl rfl rfl rfl) (fun hg => Y.lenT Tryd.underlying9 (.gd (hg) rfl)) rfl ?_
    refine WL.g (.pl rfl rfl rfl) (fun hg => Y.leq (.gd (hg) rfl) (.pl rfl)) rfl ?_
    refine WL.q (Y.and (.pl rfl) (fun h2 => .gd (eqt h2) rfl)) rfl ?_
    refine WL.next hQ5 (.cons (i := 0) rfl (.cons (i := 1) rfl (.cons (i := 2) rfl (.cons (i := 7) rfl (.cons (i := 31) rfl (.nil)))))) ?_
    refine W.cond (.pl rfl) (fun hC6 => ?_) (fun hC6 => ?_)
    · replace hF2 := cpos hC6 hF2
      refine W.seqR fun Q7 hQ7 => ?_
      refine WL.q (Y.move (.pl rfl)) rfl ?_
      obtain ⟨r13, hr13, hF2⟩ := bnd hF2
      refine WL.step (WO.callM isGo7 (.cons (.pl rfl) (.nil)) rfl (fun wz hw => text_Read_ok (hr13) wz (hG.mono hw)) ?_)
      rintro ⟨A14, c15, A16, c17⟩ -
      refine WL.q (Y.move (.pl rfl)) rfl ?_
      refine WL.q (Y.extract (.pl rfl) rfl) rfl ?_
      refine WL.q (Y.extract (.pl rfl) rfl) rfl ?_
      refine WL.q (Y.extract (.pl rfl) rfl) rfl ?_
      refine WL.q (Y.extract (.pl rfl) rfl) rfl ?_
      refine WL.q (Y.assign (.pl rfl)) rfl ?_
      refine WL.q (Y.assign (.pl rfl)) rfl ?_
      refine WL.q (Y.assign (.pl rfl)) rfl ?_
      refine WL.q (Y.assign (.pl rfl)) rfl ?_
      refine WL.next hQ7 (.cons (i := 0) rfl (.cons (i := 1) rfl (.cons (i := 2) rfl (.cons (i := 9) rfl (.cons (i := 10) rfl (.cons (i := 11) rfl (.cons (i := 12) rfl (.nil)))))))) ?_
      refine W.seqR fun Q8 hQ8 => ?_
      refine WL.q (Y.move (.pl rfl)) rfl ?_
      refine WL.q (Y.neq (.pl rfl) (.pl rfl)) rfl ?_
      refine WL.q (Y.move (.pl rfl)) rfl ?_
      refine WL.g (.pl rfl rfl rfl) (fun hg => Y.move (.pl rfl)) rfl ?_
      refine WL.g (.pl rfl rfl rfl) (fun hg => Y.move (.pl rfl)) rfl ?_
      obtain ⟨r18, hr18, hF2⟩ := bnd hF2
      refine WL.gP (.pl rfl rfl rfl) isGo8 (fun hg => (.cons (.gd (hg) rfl) (.cons (.gd (hg) rfl) (.nil)))) rfl (fun hg wz hw => slices_Equal_int_int_ok (gpos hg hr18) wz (SlIn.ofRow (fun _ => rfl) hw (i := 0) rfl) (hs4.mono hw)) ?_
      refine WL.g (.pl rfl rfl rfl) (fun hg => Y.not (.gd (hg) rfl)) rfl ?_
      refine WL.q (Y.or (.pl rfl) (fun h2 => .gd (eqf h2) rfl)) rfl ?_
      refine WL.q (Y.move (.pl rfl)) rfl ?_
      refine WL.g (.pl rfl rfl rfl) (fun hg => Y.move (.pl rfl)) rfl ?_
      refine WL.g (.pl rfl rfl rfl) (fun hg => Y.move (.pl rfl)) rfl ?_
      obtain ⟨r19, hr19, hF2⟩ := bnd hF2
      refine WL.gP (.pl rfl rfl rfl) isGo9 (fun hg => (.cons (.gd (hg) rfl) (.cons (.gd (hg) rfl) (.nil)))) rfl (fun hg wz hw => slices_Equal_api_Event_api_Event_ok (gpos hg hr19) wz (SlIn.ofRow lenEvent hw (i := 1) rfl) (hs9.mono hw)) ?_
      refine WL.g (.pl rfl rfl rfl) (fun hg => Y.not (.gd (hg) rfl)) rfl ?_
      refine WL.q (Y.or (.pl rfl) (fun h2 => .gd (eqf h2) rfl)) rfl ?_
      refine WL.q (Y.move (.pl rfl)) rfl ?_
      refine WL.g (.pl rfl rfl rfl) (fun hg => Y.move (.pl rfl)) rfl ?_
      refine WL.g (.pl rfl rfl rfl) (fun hg => Y.neq (.gd (hg) rfl) (.pl rfl)) rfl ?_
      refine WL.q (Y.or (.pl rfl) (fun h2 => .gd (eqf h2) rfl)) rfl ?_
      refine WL.next hQ8 (.cons (i := 2) rfl (.cons (i := 56) rfl (.nil))) ?_
      refine W.cond (.pl rfl) (fun hC9 => ?_) (fun hC9 => ?_)
      · replace hF2 := cpos hC9 hF2
        refine W.seqR fun Q10 hQ10 => ?_
        refine WL.q (Y.assign (.pl rfl)) rfl ?_
        refine WL.next hQ10 (.cons (i := 6) rfl (.nil)) ?_
        obtain rfl := Option.some.inj hF2
        obtain rfl := Option.some.inj hF
        refine W.retV (fn := Tryd.f3) (vs := [.bool false]) Tryd.results3 ⟨.tmp rfl, trivial⟩ (fun _ _ h => h) (fun wz hw => ?_)
        exact hR _ _ ⟨rfl, (hw.pick [] rfl)⟩
      · replace hF2 := cneg hC9 hF2
        refine W.skip ?_
        exact W.joinAt0 hK3  (Option.some.inj hF2) (.nil) (.cons (i := 2) rfl (.nil)) (fun wz hw => hw.pick [] rfl)
    · replace hF2 := cneg hC6 hF2
      refine W.skip ?_
      exact W.joinAt0 hK3  (Option.some.inj hF2) (.nil) (.cons (i := 2) rfl (.nil)) (fun wz hw => hw.pick [] rfl)
  · -- behind
    rintro  rfl
    refine W.seqR fun Q11 hQ11 => ?_
    refine WL.q (Y.move (.pl rfl)) rfl ?_
    obtain ⟨r20, hr20, hF⟩ := bnd hF
    refine WL.step (WO.callM isGo7 (.cons (.pl rfl) (.nil)) rfl (fun wz hw => text_Read_ok (hr20) wz (hG.mono hw)) ?_)
    rintro ⟨A21, c22, A23, c24⟩ -
    refine WL.q (Y.move (.pl rfl)) rfl ?_
    refine WL.q (Y.extract (.pl rfl) rfl) rfl ?_
    refine WL.q (Y.extract (.pl rfl) rfl) rfl ?_
    refine WL.q (Y.extract (.pl rfl) rfl) rfl ?_
    refine WL.q (Y.extract (.pl rfl) rfl) rfl ?_
    refine WL.q (Y.assign (.pl rfl)) rfl ?_
    refine WL.q (Y.assign (.pl rfl)) rfl ?_
    refine WL.q (Y.assign (.pl rfl)) rfl ?_
    refine WL.q (Y.assign (.pl rfl)) rfl ?_
    refine WL.next hQ11 (.cons (i := 2) rfl (.cons (i := 13) rfl (.cons (i := 14) rfl (.cons (i := 15) rfl (.cons (i := 16) rfl (.nil)))))) ?_
    refine W.seq fun K12 hK12 => ?_
    refine W.seqR fun Q13 hQ13 => ?_
    obtain ⟨r25, hr25, hF⟩ := bnd hF
    refine WL.step (WO.callP isGo10 (.nil) rfl (fun wz hw => alibkeep_textLives_ok (hr25) wz (hG.mono hw)) ?_)
    refine WL.q (Y.not (.pl rfl)) rfl ?_
    refine WL.q (Y.move (.pl rfl)) rfl ?_
    refine WL.g (.pl rfl rfl rfl) (fun hg => Y.move (.pl rfl)) rfl ?_
    refine WL.g (.pl rfl rfl rfl) (fun hg => Y.neq (.gd (hg) rfl) (.pl rfl)) rfl ?_
    refine WL.q (Y.or (.pl rfl) (fun h2 => .gd (eqf h2) rfl)) rfl ?_
    refine WL.next hQ13 (.cons (i := 2) rfl (.cons (i := 13) rfl (.cons (i := 14) rfl (.cons (i := 15) rfl (.cons (i := 69) rfl (.nil)))))) ?_
    refine W.cond (.pl rfl) (fun hC14 => ?_) (fun hC14 => ?_)
    · replace hF := cpos hC14 hF
      refine W.seqR fun Q15 hQ15 => ?_
      obtain ⟨r26, hr26, hF⟩ := bnd hF
      refine WL.step (WO.callP isGo10 (.nil) rfl (fun wz hw => alibkeep_textLives_ok (hr26) wz (hG.mono hw)) ?_)
      refine WL.q (Y.move (.pl rfl)) rfl ?_
      refine WL.g (.pl rfl rfl rfl) (fun hg => Y.move (.pl rfl)) rfl ?_
      refine WL.g (.pl rfl rfl rfl) (fun hg => Y.len Tryd.underlying22 (.gd (hg) rfl)) rfl ?_
      refine WL.g (.pl rfl rfl rfl) (fun hg => Y.eql (.gd (hg) rfl) (.pl rfl)) rfl ?_
      refine WL.q (Y.and (.pl rfl) (fun h2 => .gd (eqt h2) rfl)) rfl ?_
      refine WL.q (Y.move (.pl rfl)) rfl ?_
      refine WL.g (.pl rfl rfl rfl) (fun hg => Y.move (.pl rfl)) rfl ?_
      refine WL.g (.pl rfl rfl rfl) (fun hg => Y.len Tryd.underlying23 (.gd (hg) rfl)) rfl ?_
      refine WL.g (.pl rfl rfl rfl) (fun hg => Y.eql (.gd (hg) rfl) (.pl rfl)) rfl ?_
      refine WL.q (Y.and (.pl rfl) (fun h2 => .gd (eqt h2) rfl)) rfl ?_
      refine WL.q (Y.move (.pl rfl)) rfl ?_
      refine WL.g (.pl rfl rfl rfl) (fun hg => Y.move (.pl rfl)) rfl ?_
      refine WL.g (.pl rfl rfl rfl) (fun hg => Y.geq (.gd (hg) rfl) (.pl rfl)) rfl ?_
      refine WL.q (Y.and (.pl rfl) (fun h2 => .gd (eqt h2) rfl)) rfl ?_
      refine WL.q (Y.assign (.pl rfl)) rfl ?_
      refine WL.next hQ15 (.cons (i := 6) rfl (.nil)) ?_
      obtain rfl := Option.some.inj hF
      refine W.retV (fn := Tryd.f3) (vs := [.bool (((r26 && (decide (((r20.1).length : Int) = 0))) && (decide (((r20.2.1).length : Int) = 0))) && (decide (0 ≤ r20.2.2.1)))]) Tryd.results3 ⟨.tmp rfl, trivial⟩ (fun _ _ h => h) (fun wz hw => ?_)
      exact hR _ _ ⟨rfl, (hw.pick [] rfl)⟩
    · replace hF := cneg hC14 hF
      refine W.skip ?_
      refine W.go hK12 (.cons (i := 2) rfl (.cons (i := 13) rfl (.cons (i := 14) rfl (.cons (i := 15) rfl (.nil))))) ?_
      refine W.seqR fun Q16 hQ16 => ?_
      refine WL.q (Y.move (.pl rfl)) rfl ?_
      refine WL.q (Y.move (.pl rfl)) rfl ?_
      obtain ⟨r27, hr27, hF⟩ := bnd hF
      refine WL.step (WO.callP isGo6 (.cons (.pl rfl) (.cons (.pl rfl) (.nil))) rfl (fun wz hw => text_Print_ok (hr27) wz (SlIn.ofRow (fun _ => rfl) hw (i := 0) rfl) (SlIn.ofRow lenEvent hw (i := 1) rfl) (hG.mono hw)) ?_)
      refine WL.q (Y.move (.pl rfl)) rfl ?_
      refine WL.q (Y.extract (.pl rfl) rfl) rfl ?_
      refine WL.q (Y.extract (.pl rfl) rfl) rfl ?_
      refine WL.q (Y.assign (.pl rfl)) rfl ?_
      refine WL.q (Y.assign (.pl rfl)) rfl ?_
      refine WL.next hQ16 (.cons (i := 2) rfl (.cons (i := 15) rfl (.cons (i := 17) rfl (.cons (i := 18) rfl (.nil))))) ?_
      refine W.seqR fun Q17 hQ17 => ?_
      refine WL.q (Y.move (.pl rfl)) rfl ?_
      refine WL.q (Y.eql (.pl rfl) (.pl rfl)) rfl ?_
      refine WL.q (Y.move (.pl rfl)) rfl ?_
      refine WL.g (.pl rfl rfl rfl) (fun hg => Y.move (.pl rfl)) rfl ?_
      refine WL.g (.pl rfl rfl rfl) (fun hg => Y.move (.pl rfl)) rfl ?_
      refine WL.g (.pl rfl rfl rfl) (fun hg => Y.eqlT Tryd.underlying9 (.gd (hg) rfl) (.gd (hg) rfl)) rfl ?_
      refine WL.q (Y.and (.pl rfl) (fun h2 => .gd (eqt h2) rfl)) rfl ?_
      refine WL.q (Y.move (.pl rfl)) rfl ?_
      refine WL.g (.pl rfl rfl rfl) (fun hg => Y.move (.pl rfl)) rfl ?_
      refine WL.g (.pl rfl rfl rfl) (fun hg => Y.eql (.gd (hg) rfl) (.pl rfl)) rfl ?_
      refine WL.q (Y.and (.pl rfl) (fun h2 => .gd (eqt h2) rfl)) rfl ?_
      refine WL.q (Y.assign (.pl rfl)) rfl ?_
      refine WL.next hQ17 (.cons (i := 6) rfl (.nil)) ?_
      obtain rfl := Option.some.inj hF
      refine W.retV (fn := Tryd.f3) (vs := [.bool (((decide (r27.2 = 0)) && (decide (r27.1 = s11))) && (decide (r20.2.2.1 = 0)))]) Tryd.results3 ⟨.tmp rfl, trivial⟩ (fun _ _ h => h) (fun wz hw => ?_)
      exact hR _ _ ⟨rfl, (hw.pick [] rfl)⟩

end Go.Proofs.YtjdkkabcenohcaaDoor
