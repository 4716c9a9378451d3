/- RowsFront, RowsOnly, RowsPairs: what the code computes, and the walks. -/
import Derived.Test.YtgmodmacchdkiaaRA4
set_option linter.unusedVariables false
set_option linter.unusedSimpArgs false
set_option linter.unusedSectionVars false
set_option maxRecDepth 100000
namespace Go.Proofs.Ytgmodmacchdkiaa
open Go.RowKit
theorem cells4 : Try.prog.cellsOf 4 = 0 + 1 := by kernel_rfl
theorem isGo27 : IsGo Try.prog 27 := ⟨_, Try.func27, by kernel_rfl, rfl⟩
theorem isGo28 : IsGo Try.prog 28 := ⟨_, Try.func28, by kernel_rfl, rfl⟩
theorem isGo29 : IsGo Try.prog 29 := ⟨_, Try.func29, by kernel_rfl, rfl⟩
theorem isGo30 : IsGo Try.prog 30 := ⟨_, Try.func30, by kernel_rfl, rfl⟩
theorem isGo57 : IsGo Try.prog 57 := ⟨_, Try.func57, by kernel_rfl, rfl⟩
theorem isGo58 : IsGo Try.prog 58 := ⟨_, Try.func58, by kernel_rfl, rfl⟩
theorem mka4 : ∃ i z, Try.prog.info? 4 = some i ∧ i.zero = some z ∧ i.size = 1 ∧ i.bytes = 1 ∧ z.cells = ([(Value.bool false)] : List Value).toArray ∧ ([(Value.bool false)] : List Value).length = 1 ∧ 0 < 1 := ⟨_, (Value.bool false), rfl, by kernel_rfl, by kernel_rfl, by kernel_rfl, rfl, rfl, by decide⟩
def alibkeep_RowsFront (N : Nat) (l1 : (List Event)) (n6 : Int) : Option Bool :=
  bd (rows_Check N l1) fun (r7 : (Bool × Int × Int × Int × Int)) =>
  bd (alibkeep_rowsLives N) fun (r9 : Bool) =>
  cond (((((!r9) || (!(decide (r7.2.2.2.2 = 0)))) || (decide (n6 < 0))) || (decide (((l1).length : Int) < n6))) || (!r7.1))
    (bd (alibkeep_rowsLives N) fun (r10 : Bool) =>
    some r10)
    (ck (slB (l1).length 0 n6) <|
    bd (rows_Check N (l1.take n6.toNat)) fun (r12 : (Bool × Int × Int × Int × Int)) =>
    some ((decide (r12.2.2.2.2 = 6)) || ((decide (r12.2.2.2.2 = 0)) && r12.1)))

theorem alibkeep_RowsFront_ok {N : Nat} {l1 : (List Event)} {n6 : Int} {res : Bool} (hF : alibkeep_RowsFront N l1 n6 = some res) (w : World) {v5 : Value} (hs4 : SlIn encEvent 4 w v5 l1) :
    Pure Try.prog 6 [v5, .int .i64 n6] w (.bool res) := by
  obtain ⟨A2, c3, rfl, hcc3, hs4⟩ := hs4.form
  refine W.enter (n := 55) Try.func6 rfl rfl Sub.refl (by simp) (St.start w) fun R hR => ?_
  unfold alibkeep_RowsFront at hF
  refine W.seqR fun Q1 hQ1 => ?_
  refine WL.q (Y.assign (.pl rfl)) rfl ?_
  refine WL.next hQ1 (.cons (i := 0) rfl (.cons (i := 1) rfl (.nil))) ?_
  refine W.seqR fun Q2 hQ2 => ?_
  refine WL.q (Y.move (.pl rfl)) rfl ?_
  obtain ⟨r7, hr7, hF⟩ := bnd hF
  refine WL.step (WO.callP isGo26 (.cons (.pl rfl) (.nil)) rfl (fun wz hw => rows_Check_ok (hr7) wz (hs4.mono hw)) ?_)
  refine WL.q (Y.move (.pl rfl)) rfl ?_
  refine WL.q (Y.extract (.pl rfl) rfl) rfl ?_
  refine WL.q (Y.extract (.pl rfl) rfl) rfl ?_
  refine WL.q (Y.extract (.pl rfl) rfl) rfl ?_
  refine WL.step (WO.alloc (cs := (encBad (Bad.mk 0 0 0)).toArray) zero58 rfl rfl fun b8 => ?_)
  refine WL.q (Y.assign (.pl rfl)) rfl ?_
  refine WL.step (WO.storeBA (ds := (encBad (Bad.mk r7.2.1 r7.2.2.1 r7.2.2.2.1))) (cs' := (encBad (Bad.mk r7.2.1 r7.2.2.1 r7.2.2.2.1))) cells58 (.pl rfl) (.pl rfl) rfl (oneBad _) (i := 0) rfl (lel (o := 0) (l := 3) (m := 3) (by decide) rfl rfl) (putW rfl) ?_)
  refine WL.q (Y.assign (.pl rfl)) rfl ?_
  refine WL.next hQ2 (.cons (i := 0) rfl (.cons (i := 1) rfl (.cons (i := 5) rfl (.cons (i := 7) rfl (.nil))))) ?_
  refine W.seq fun K3 hK3 => ?_
  refine W.seqR fun Q4 hQ4 => ?_
  obtain ⟨r9, hr9, hF⟩ := bnd hF
  refine WL.step (WO.callP isGo27 (.nil) rfl (fun wz hw => alibkeep_rowsLives_ok (hr9) wz ) ?_)
  refine WL.q (Y.not (.pl rfl)) rfl ?_
  refine WL.q (Y.move (.pl rfl)) rfl ?_
  refine WL.g (.pl rfl rfl rfl) (fun hg => Y.move (.pl rfl)) rfl ?_
  refine WL.g (.pl rfl rfl rfl) (fun hg => Y.neq (.gd (hg) rfl) (.pl rfl)) rfl ?_
  refine WL.q (Y.or (.pl rfl) (fun h2 => .gd (eqf h2) rfl)) rfl ?_
  refine WL.q (Y.move (.pl rfl)) rfl ?_
  refine WL.g (.pl rfl rfl rfl) (fun hg => Y.move (.pl rfl)) rfl ?_
  refine WL.g (.pl rfl rfl rfl) (fun hg => Y.lss (.gd (hg) rfl) (.pl rfl)) rfl ?_
  refine WL.q (Y.or (.pl rfl) (fun h2 => .gd (eqf h2) rfl)) rfl ?_
  refine WL.q (Y.move (.pl rfl)) rfl ?_
  refine WL.g (.pl rfl rfl rfl) (fun hg => Y.move (.pl rfl)) rfl ?_
  refine WL.g (.pl rfl rfl rfl) (fun hg => Y.move (.pl rfl)) rfl ?_
  refine WL.g (.pl rfl rfl rfl) (fun hg => Y.len Try.underlying24 (.gd (hg) rfl)) rfl ?_
  refine WL.g (.pl rfl rfl rfl) (fun hg => Y.gtr (.gd (hg) rfl) (.gd (hg) rfl)) rfl ?_
  refine WL.q (Y.or (.pl rfl) (fun h2 => .gd (eqf h2) rfl)) rfl ?_
  refine WL.q (Y.move (.pl rfl)) rfl ?_
  refine WL.g (.pl rfl rfl rfl) (fun hg => Y.move (.pl rfl)) rfl ?_
  refine WL.g (.pl rfl rfl rfl) (fun hg => Y.not (.gd (hg) rfl)) rfl ?_
  refine WL.q (Y.or (.pl rfl) (fun h2 => .gd (eqf h2) rfl)) rfl ?_
  refine WL.next hQ4 (.cons (i := 0) rfl (.cons (i := 1) rfl (.cons (i := 36) rfl (.nil)))) ?_
  refine W.cond (.pl rfl) (fun hC5 => ?_) (fun hC5 => ?_)
  · replace hF := cpos hC5 hF
    refine W.seqR fun Q6 hQ6 => ?_
    obtain ⟨r10, hr10, hF⟩ := bnd hF
    refine WL.step (WO.callP isGo27 (.nil) rfl (fun wz hw => alibkeep_rowsLives_ok (hr10) wz ) ?_)
    refine WL.q (Y.assign (.pl rfl)) rfl ?_
    refine WL.next hQ6 (.cons (i := 4) rfl (.nil)) ?_
    obtain rfl := Option.some.inj hF
    refine W.retV (fn := Try.f6) (vs := [.bool r10]) Try.results6 ⟨.tmp rfl, trivial⟩ (fun _ _ h => h) (fun wz hw => ?_)
    exact hR _ _ ⟨rfl, (hw.pick [] rfl)⟩
  · replace hF := cneg hC5 hF
    refine W.skip ?_
    refine W.go hK3 (.cons (i := 0) rfl (.cons (i := 1) rfl (.nil))) ?_
    refine W.seqR fun Q7 hQ7 => ?_
    refine WL.q (Y.move (.pl rfl)) rfl ?_
    refine WL.q (Y.move (.pl rfl)) rfl ?_
    obtain ⟨hk11, hF⟩ := ckh hF
    refine WL.q (Y.slice0 (xs := l1) Try.underlying24 cells31 (.pl rfl) rfl (hs4).cap_le (.pl rfl) (hk11)) rfl ?_
    obtain ⟨r12, hr12, hF⟩ := bnd hF
    refine WL.step (WO.callP isGo26 (.cons (.pl rfl) (.nil)) rfl (fun wz hw => rows_Check_ok (hr12) wz ((SlIn.sub0 hs4 (slB_nat0 (hk11))).mono hw)) ?_)
    refine WL.q (Y.move (.pl rfl)) rfl ?_
    refine WL.q (Y.extract (.pl rfl) rfl) rfl ?_
    refine WL.q (Y.extract (.pl rfl) rfl) rfl ?_
    refine WL.q (Y.extract (.pl rfl) rfl) rfl ?_
    refine WL.step (WO.alloc (cs := (encBad (Bad.mk 0 0 0)).toArray) zero58 rfl rfl fun b13 => ?_)
    refine WL.q (Y.assign (.pl rfl)) rfl ?_
    refine WL.step (WO.storeBA (ds := (encBad (Bad.mk r12.2.1 r12.2.2.1 r12.2.2.2.1))) (cs' := (encBad (Bad.mk r12.2.1 r12.2.2.1 r12.2.2.2.1))) cells58 (.pl rfl) (.pl rfl) rfl (oneBad _) (i := 0) rfl (lel (o := 0) (l := 3) (m := 3) (by decide) rfl rfl) (putW rfl) ?_)
    refine WL.q (Y.assign (.pl rfl)) rfl ?_
    refine WL.next hQ7 (.cons (i := 8) rfl (.cons (i := 10) rfl (.nil))) ?_
    refine W.seqR fun Q8 hQ8 => ?_
    refine WL.q (Y.move (.pl rfl)) rfl ?_
    refine WL.q (Y.eql (.pl rfl) (.pl rfl)) rfl ?_
    refine WL.q (Y.move (.pl rfl)) rfl ?_
    refine WL.g (.pl rfl rfl rfl) (fun hg => Y.move (.pl rfl)) rfl ?_
    refine WL.g (.pl rfl rfl rfl) (fun hg => Y.eql (.gd (hg) rfl) (.pl rfl)) rfl ?_
    refine WL.g (.pl rfl rfl rfl) (fun hg => Y.move (.gd (hg) rfl)) rfl ?_
    refine WL.g (.gd rfl rfl rfl) (fun hg => Y.move (.pl rfl)) rfl ?_
    refine WL.g (.pl rfl rfl rfl) (fun hg => Y.and (.gd (hg) rfl) (fun h2 => .gd (band hg (eqt h2)) rfl)) rfl ?_
    refine WL.q (Y.or (.pl rfl) (fun h2 => .gd (eqf h2) rfl)) rfl ?_
    refine WL.q (Y.assign (.pl rfl)) rfl ?_
    refine WL.next hQ8 (.cons (i := 4) rfl (.nil)) ?_
    obtain rfl := Option.some.inj hF
    refine W.retV (fn := Try.f6) (vs := [.bool ((decide (r12.2.2.2.2 = 6)) || ((decide (r12.2.2.2.2 = 0)) && r12.1))]) Try.results6 ⟨.tmp rfl, trivial⟩ (fun _ _ h => h) (fun wz hw => ?_)
    exact hR _ _ ⟨rfl, (hw.pick [] rfl)⟩

def slices_Index_int_int_L3 (N : Nat) (s1 : (List Int)) (v6 : Int) : Int → Option (Int ⊕ (Unit ⊕ Int))
  | v7 =>
    cond (decide (v7 < ((s1).length : Int)))
      (bd (ix s1 v7) fun (x8 : Int) =>
      cond (decide (v6 = x8))
        (some (.inr (.inr v7)))
        (ck (ok64 (v7 + 1)) <|
        some (.inl (v7 + 1))))
      (some (.inr (.inl ())))

def slices_Index_int_int (N : Nat) (s1 : (List Int)) (v6 : Int) : Option Int :=
  bd (α := (Unit ⊕ Int)) (iter (slices_Index_int_int_L3 N s1 v6) N 0) <|
  Sum.elim (fun _ => 
    some (-1)) (fun p => some p)

theorem slices_Index_int_int_ok {N : Nat} {s1 : (List Int)} {v6 : Int} {res : Int} (hF : slices_Index_int_int N s1 v6 = some res) (w : World) {v5 : Value} (hs4 : SlIn (eI .i64) 1 w v5 s1) :
    Pure Try.prog 57 [v5, .int .i64 v6] w (.int .i64 res) := by
  obtain ⟨A2, c3, rfl, hcc3, hs4⟩ := hs4.form
  refine W.enter (n := 19) Try.func57 rfl rfl Sub.refl (by simp) (St.start w) fun R hR => ?_
  unfold slices_Index_int_int at hF
  refine W.seqR fun Q1 hQ1 => ?_
  refine WL.q (Y.assign (.pl rfl)) rfl ?_
  refine WL.next hQ1 (.cons (i := 0) rfl (.cons (i := 1) rfl (.nil))) ?_
  obtain ⟨o2, hF2, hF⟩ := bnd hF
  refine W.join0 (Em := []) (M := []) (I := (.inl ()) = o2) (.nil) (fun K3 hK3 => ?_) ?_
  · -- up to
    refine W.seqR fun Q4 hQ4 => ?_
    refine WL.q (Y.move (.pl rfl)) rfl ?_
    refine WL.q (Y.len Try.underlying23 (.pl rfl)) rfl ?_
    refine WL.q (Y.move (.pl rfl)) rfl ?_
    refine WL.next hQ4 (.cons (i := 0) rfl (.cons (i := 1) rfl (.cons (i := 7) rfl (.cons (i := 8) rfl (.nil))))) ?_
    refine W.block ?_
    refine W.loop1 (Em := fun (v7 : Int) => [(8, .int .i64 v7)]) (M := fun v7 => []) (I := fun v7 k5 => iter (slices_Index_int_int_L3 N s1 v6) k5 v7 = some o2) 0 N (hF2) (.cons rfl (.nil)) (.cons (i := 0) rfl (.cons (i := 1) rfl (.cons (i := 7) rfl (.nil)))) (fun wz hw => hw.pick [] rfl) (fun v7 k5 hI K6 hK6 => ?_)
    obtain ⟨k5, t5, rfl, hF5, hN5⟩ := iter_step hI
    refine W.seqR fun Q7 hQ7 => ?_
    refine WL.q (Y.lss (.pl rfl) (.pl rfl)) rfl ?_
    refine WL.next hQ7 (.cons (i := 0) rfl (.cons (i := 1) rfl (.cons (i := 7) rfl (.cons (i := 8) rfl (.cons (i := 9) rfl (.nil)))))) ?_
    refine W.seq fun K8 hK8 => ?_
    refine W.cond (.pl rfl) (fun hC9 => ?_) (fun hC9 => ?_)
    · replace hF5 := cpos hC9 hF5
      refine W.skip ?_
      refine W.go hK8 (.cons (i := 0) rfl (.cons (i := 1) rfl (.cons (i := 7) rfl (.cons (i := 8) rfl (.nil))))) ?_
      refine W.seq fun K10 hK10 => ?_
      refine W.block ?_
      refine W.seqR fun Q11 hQ11 => ?_
      refine WL.q (Y.move (.pl rfl)) rfl ?_
      refine WL.q (Y.assign (.pl rfl)) rfl ?_
      refine WL.next hQ11 (.cons (i := 0) rfl (.cons (i := 1) rfl (.cons (i := 5) rfl (.cons (i := 7) rfl (.cons (i := 8) rfl (.nil)))))) ?_
      refine W.seqR fun Q12 hQ12 => ?_
      refine WL.q (Y.move (.pl rfl)) rfl ?_
      refine WL.q (Y.move (.pl rfl)) rfl ?_
      refine WL.q (Y.move (.pl rfl)) rfl ?_
      obtain ⟨x8, hx8, hF5⟩ := bnd hF5
      refine WL.q (Y.slEl Try.underlying23 cells3 hs4 (.pl rfl) (.pl rfl) (ix_lt (hx8))) rfl ?_
      refine WL.q (Y.loadS (enc := (eI .i64)) (v := .int .i64 x8) (j := 0) Try.underlying3 rfl hs4 (.pl rfl) (hx8) rfl rfl) rfl ?_
      refine WL.q (Y.eql (.pl rfl) (.pl rfl)) rfl ?_
      refine WL.next hQ12 (.cons (i := 0) rfl (.cons (i := 1) rfl (.cons (i := 5) rfl (.cons (i := 7) rfl (.cons (i := 8) rfl (.cons (i := 16) rfl (.nil))))))) ?_
      refine W.cond (.pl rfl) (fun hC13 => ?_) (fun hC13 => ?_)
      · replace hF5 := cpos hC13 hF5
        refine W.seqR fun Q14 hQ14 => ?_
        refine WL.q (Y.move (.pl rfl)) rfl ?_
        refine WL.q (Y.assign (.pl rfl)) rfl ?_
        refine WL.next hQ14 (.cons (i := 4) rfl (.nil)) ?_
        obtain rfl := Option.some.inj hF5
        obtain rfl := einr hN5
        obtain rfl := Option.some.inj hF
        refine W.retV (fn := Try.f57) (vs := [.int .i64 v7]) Try.results57 ⟨.tmp rfl, trivial⟩ (fun _ _ h => h) (fun wz hw => ?_)
        exact hR _ _ ⟨rfl, (hw.pick [] rfl)⟩
      · replace hF5 := cneg hC13 hF5
        refine W.skip ?_
        refine W.go hK10 (.cons (i := 0) rfl (.cons (i := 1) rfl (.cons (i := 7) rfl (.cons (i := 8) rfl (.nil))))) ?_
        refine W.reg ?_
        obtain ⟨hk9, hF5⟩ := ckh hF5
        refine WL.q (Y.add (.pl rfl) (.pl rfl) (ok64_lt (hk9))) rfl ?_
        refine WL.q (Y.move (.pl rfl)) rfl ?_
        refine WL.nil ?_
        obtain rfl := Option.some.inj hF5
        exact W.again1 hK6 (v7 + 1) k5 hN5 (Nat.lt_succ_self _) (.cons rfl (.nil)) (.cons (i := 0) rfl (.cons (i := 1) rfl (.cons (i := 7) rfl (.nil)))) (fun wz hw => hw.pick [] rfl)
    · replace hF5 := cneg hC9 hF5
      refine W.exit ?_
      obtain rfl := Option.some.inj hF5
      exact W.joinAt0 hK3  (einr hN5) (.nil) (.nil) (fun wz hw => hw.pick [] rfl)
  · -- behind
    rintro  rfl
    refine W.seqR fun Q16 hQ16 => ?_
    refine WL.q (Y.assign (.pl rfl)) rfl ?_
    refine WL.next hQ16 (.cons (i := 4) rfl (.nil)) ?_
    obtain rfl := Option.some.inj hF
    refine W.retV (fn := Try.f57) (vs := [.int .i64 (-1)]) Try.results57 ⟨.tmp rfl, trivial⟩ (fun _ _ h => h) (fun wz hw => ?_)
    exact hR _ _ ⟨rfl, (hw.pick [] rfl)⟩

def slices_Contains_int_int (N : Nat) (s1 : (List Int)) (v6 : Int) : Option Bool :=
  bd (slices_Index_int_int N s1 v6) fun (r7 : Int) =>
  some (decide (0 ≤ r7))

theorem slices_Contains_int_int_ok {N : Nat} {s1 : (List Int)} {v6 : Int} {res : Bool} (hF : slices_Contains_int_int N s1 v6 = some res) (w : World) {v5 : Value} (hs4 : SlIn (eI .i64) 1 w v5 s1) :
    Pure Try.prog 28 [v5, .int .i64 v6] w (.bool res) := by
  obtain ⟨A2, c3, rfl, hcc3, hs4⟩ := hs4.form
  refine W.enter (n := 9) Try.func28 rfl rfl Sub.refl (by simp) (St.start w) fun R hR => ?_
  unfold slices_Contains_int_int at hF
  refine W.seqR fun Q1 hQ1 => ?_
  refine WL.q (Y.assign (.pl rfl)) rfl ?_
  refine WL.next hQ1 (.cons (i := 0) rfl (.cons (i := 1) rfl (.nil))) ?_
  refine W.seqR fun Q2 hQ2 => ?_
  refine WL.q (Y.move (.pl rfl)) rfl ?_
  refine WL.q (Y.move (.pl rfl)) rfl ?_
  obtain ⟨r7, hr7, hF⟩ := bnd hF
  refine WL.step (WO.callP isGo57 (.cons (.pl rfl) (.cons (.pl rfl) (.nil))) rfl (fun wz hw => slices_Index_int_int_ok (hr7) wz (hs4.mono hw)) ?_)
  refine WL.q (Y.geq (.pl rfl) (.pl rfl)) rfl ?_
  refine WL.q (Y.assign (.pl rfl)) rfl ?_
  refine WL.next hQ2 (.cons (i := 4) rfl (.nil)) ?_
  obtain rfl := Option.some.inj hF
  refine W.retV (fn := Try.f28) (vs := [.bool (decide (0 ≤ r7))]) Try.results28 ⟨.tmp rfl, trivial⟩ (fun _ _ h => h) (fun wz hw => ?_)
  exact hR _ _ ⟨rfl, (hw.pick [] rfl)⟩

def alibkeep_RowsOnly_L5 (N : Nat) (r14 : ((List Call) × Int × Int)) (some6 : (List Int)) : ((List Bool) × Int) → Option (((List Bool) × Int) ⊕ (List Bool))
  | (out25, v26) =>
    cond (decide (v26 < ((r14.1).length : Int)))
      (bd (ix r14.1 v26) fun (x27 : Call) =>
      bd (slices_Contains_int_int N some6 (max x27.arg x27.res)) fun (r29 : Bool) =>
      cond (!r29)
        (bd (ix out25 x27.from_) fun (x30 : Bool) =>
        cond (!(decide (x27.to_ = (-1))))
          (bd (ix (out25.set x27.from_.toNat true) x27.to_) fun (x31 : Bool) =>
          ck (ok64 (v26 + 1)) <|
          some (.inl (((out25.set x27.from_.toNat true).set x27.to_.toNat true), (v26 + 1))))
          (ck (ok64 (v26 + 1)) <|
          some (.inl ((out25.set x27.from_.toNat true), (v26 + 1)))))
        (ck (ok64 (v26 + 1)) <|
        some (.inl (out25, (v26 + 1)))))
      (some (.inr out25))

def alibkeep_RowsOnly_L7 (N : Nat) (l1 : (List Event)) (out24 : (List Bool)) : ((List Event) × Int) → Option (((List Event) × Int) ⊕ (List Event))
  | (m40, v41) =>
    cond (decide (v41 < ((l1).length : Int)))
      (bd (ix l1 v41) fun (x42 : Event) =>
      bd (ix out24 v41) fun (x44 : Bool) =>
      cond (!x44)
        (ck (limB 32 ((m40).length + (([x42] : List Event)).length)) <|
        ck (ok64 (v41 + 1)) <|
        some (.inl ((m40 ++ ([x42] : List Event)), (v41 + 1))))
        (ck (ok64 (v41 + 1)) <|
        some (.inl (m40, (v41 + 1)))))
      (some (.inr m40))

def alibkeep_RowsOnly (N : Nat) (l1 : (List Event)) (some6 : (List Int)) : Option Bool :=
  bd (rows_Check N l1) fun (r11 : (Bool × Int × Int × Int × Int)) =>
  bd (history_Calls N ([2] : List Int) l1) fun (r14 : ((List Call) × Int × Int)) =>
  bd (α := Bool) (bd (alibkeep_rowsLives N) fun (r18 : Bool) =>
    cond ((!r18) == false)
      (bd (alibkeep_ok N ([r11.2.2.2.2, r14.2.2] : List Int)) fun (r20 : Bool) =>
      some (((!r18) || (!r20)) || (!r11.1)))
      (some (((!r18) || false) || (!r11.1)))) <|
  fun (v17 : Bool) => 
    cond v17
      (bd (alibkeep_rowsLives N) fun (r21 : Bool) =>
      some r21)
      (ck (mkB 1 ((l1).length : Int)) <|
      bd (α := (List Bool)) (iter (alibkeep_RowsOnly_L5 N r14 some6) N ((List.replicate ((l1).length : Int).toNat (false : Bool)), 0)) <|
      fun (out24 : (List Bool)) => 
        bd (α := (List Event)) (iter (alibkeep_RowsOnly_L7 N l1 out24) N ([], 0)) <|
        fun (m37 : (List Event)) => 
          bd (rows_Check N m37) fun (r51 : (Bool × Int × Int × Int × Int)) =>
          some ((decide (r51.2.2.2.2 = 0)) && r51.1))

theorem alibkeep_RowsOnly_ok {N : Nat} {l1 : (List Event)} {some6 : (List Int)} {res : Bool} (hF : alibkeep_RowsOnly N l1 some6 = some res) (w : World) {v5 : Value} (hs4 : SlIn encEvent 4 w v5 l1) {v10 : Value} (hs9 : SlIn (eI .i64) 1 w v10 some6) :
    Pure Try.prog 7 [v5, v10] w (.bool res) := by
  obtain ⟨A2, c3, rfl, hcc3, hs4⟩ := hs4.form
  obtain ⟨A7, c8, rfl, hcc8, hs9⟩ := hs9.form
  refine W.enter (n := 106) Try.func7 rfl rfl Sub.refl (by simp) (St.start w) fun R hR => ?_
  unfold alibkeep_RowsOnly at hF
  refine W.seqR fun Q1 hQ1 => ?_
  refine WL.q (Y.assign (.pl rfl)) rfl ?_
  refine WL.next hQ1 (.cons (i := 0) rfl (.cons (i := 1) rfl (.nil))) ?_
  refine W.seqR fun Q2 hQ2 => ?_
  refine WL.q (Y.move (.pl rfl)) rfl ?_
  obtain ⟨r11, hr11, hF⟩ := bnd hF
  refine WL.step (WO.callP isGo26 (.cons (.pl rfl) (.nil)) rfl (fun wz hw => rows_Check_ok (hr11) wz (hs4.mono hw)) ?_)
  refine WL.q (Y.move (.pl rfl)) rfl ?_
  refine WL.q (Y.extract (.pl rfl) rfl) rfl ?_
  refine WL.q (Y.extract (.pl rfl) rfl) rfl ?_
  refine WL.q (Y.extract (.pl rfl) rfl) rfl ?_
  refine WL.step (WO.alloc (cs := (encBad (Bad.mk 0 0 0)).toArray) zero58 rfl rfl fun b12 => ?_)
  refine WL.q (Y.assign (.pl rfl)) rfl ?_
  refine WL.step (WO.storeBA (ds := (encBad (Bad.mk r11.2.1 r11.2.2.1 r11.2.2.2.1))) (cs' := (encBad (Bad.mk r11.2.1 r11.2.2.1 r11.2.2.2.1))) cells58 (.pl rfl) (.pl rfl) rfl (oneBad _) (i := 0) rfl (lel (o := 0) (l := 3) (m := 3) (by decide) rfl rfl) (putW rfl) ?_)
  refine WL.q (Y.assign (.pl rfl)) rfl ?_
  refine WL.next hQ2 (.cons (i := 0) rfl (.cons (i := 1) rfl (.cons (i := 5) rfl (.cons (i := 7) rfl (.nil))))) ?_
  refine W.seqR fun Q3 hQ3 => ?_
  refine WL.step (WO.bsliceC (enc := (eI .i64)) (ys := ([2] : List Int)) Try.underlying23 bz3 (.cons (.pl rfl) (.nil)) rfl (fun _ => rfl) rfl rfl (by decide) (by decide) rfl fun b13 => ?_)
  refine WL.q (Y.move (.pl rfl)) rfl ?_
  obtain ⟨r14, hr14, hF⟩ := bnd hF
  refine WL.step (WO.callM isGo17 (.cons (.pl rfl) (.cons (.pl rfl) (.nil))) rfl (fun wz hw => history_Calls_ok (hr14) wz (SlIn.ofRow (fun _ => rfl) hw (i := 0) rfl) (hs4.mono hw)) ?_)
  rintro ⟨A15, c16⟩ -
  refine WL.q (Y.move (.pl rfl)) rfl ?_
  refine WL.q (Y.extract (.pl rfl) rfl) rfl ?_
  refine WL.q (Y.extract (.pl rfl) rfl) rfl ?_
  refine WL.q (Y.extract (.pl rfl) rfl) rfl ?_
  refine WL.q (Y.assign (.pl rfl)) rfl ?_
  refine WL.q (Y.assign (.pl rfl)) rfl ?_
  refine WL.q (Y.assign (.pl rfl)) rfl ?_
  refine WL.next hQ3 (.cons (i := 0) rfl (.cons (i := 1) rfl (.cons (i := 5) rfl (.cons (i := 7) rfl (.cons (i := 8) rfl (.cons (i := 10) rfl (.nil))))))) ?_
  refine W.seq fun K4 hK4 => ?_
  obtain ⟨o5, hF5, hF⟩ := bnd hF
  refine W.join1 (Em := fun (v17 : Bool) => [(46, .bool v17)]) (M := fun v17 => [cR encCall 7 A15 c16 64 r14.1]) (I := fun v17 => v17 = o5) (.cons (i := 0) rfl (.cons (i := 1) rfl (.cons (i := 8) rfl (.nil)))) (fun K6 hK6 => ?_) ?_
  · -- up to
    refine W.reg ?_
    obtain ⟨r18, hr18, hF5⟩ := bnd hF5
    refine WL.step (WO.callP isGo27 (.nil) rfl (fun wz hw => alibkeep_rowsLives_ok (hr18) wz ) ?_)
    refine WL.q (Y.not (.pl rfl)) rfl ?_
    refine WL.q (Y.move (.pl rfl)) rfl ?_
    refine WL.g (.pl rfl rfl rfl) (fun hg => Y.move (.pl rfl)) rfl ?_
    refine WL.g (.pl rfl rfl rfl) (fun hg => Y.move (.pl rfl)) rfl ?_
    refine bsplit ((!r18) == false) (fun hg7 => ?_) (fun hg7 => ?_)
    · replace hF5 := cpos hg7 hF5
      refine WL.gd (.pl rfl rfl rfl) (hg7) ?_
      refine WL.step (WO.bsliceC (enc := (eI .i64)) (ys := ([r11.2.2.2.2, r14.2.2] : List Int)) Try.underlying105 bz25 (.cons (.gd (hg7) rfl) (.cons (.gd (hg7) rfl) (.nil))) rfl (fun _ => rfl) rfl rfl (by decide) (by decide) rfl fun b19 => ?_)
      refine WL.gd (.pl rfl rfl rfl) (hg7) ?_
      obtain ⟨r20, hr20, hF5⟩ := bnd hF5
      refine WL.step (WO.callP isGo23 (.cons (.pl rfl) (.nil)) rfl (fun wz hw => alibkeep_ok_ok (hr20) wz (SlIn.ofRow (fun _ => rfl) hw (i := 0) rfl)) ?_)
      refine WL.gd (.pl rfl rfl rfl) (hg7) ?_
      refine WL.q (Y.not (.pl rfl)) rfl ?_
      refine WL.q (Y.or (.pl rfl) (fun _ => .pl rfl)) rfl ?_
      refine WL.q (Y.move (.pl rfl)) rfl ?_
      refine WL.g (.pl rfl rfl rfl) (fun hg => Y.move (.pl rfl)) rfl ?_
      refine WL.g (.pl rfl rfl rfl) (fun hg => Y.not (.gd (hg) rfl)) rfl ?_
      refine WL.q (Y.or (.pl rfl) (fun h2 => .gd (eqf h2) rfl)) rfl ?_
      refine WL.nil ?_
      exact W.joinAt1 hK6 (((!r18) || (!r20)) || (!r11.1)) (Option.some.inj hF5) (.cons rfl (.nil)) (.cons (i := 0) rfl (.cons (i := 1) rfl (.cons (i := 8) rfl (.nil)))) (fun wz hw => hw.pick [1] rfl)
    · replace hF5 := cneg hg7 hF5
      refine WL.gn (.pl rfl rfl rfl) hg7 rfl ?_
      refine WL.gn (.pl rfl rfl rfl) hg7 rfl ?_
      refine WL.gn (.pl rfl rfl rfl) hg7 rfl ?_
      refine WL.q (Y.or (b := false) (.pl rfl) (fun h2 => (gabsO hg7 h2).elim)) rfl ?_
      refine WL.q (Y.move (.pl rfl)) rfl ?_
      refine WL.g (.pl rfl rfl rfl) (fun hg => Y.move (.pl rfl)) rfl ?_
      refine WL.g (.pl rfl rfl rfl) (fun hg => Y.not (.gd (hg) rfl)) rfl ?_
      refine WL.q (Y.or (.pl rfl) (fun h2 => .gd (eqf h2) rfl)) rfl ?_
      refine WL.nil ?_
      exact W.joinAt1 hK6 (((!r18) || false) || (!r11.1)) (Option.some.inj hF5) (.cons rfl (.nil)) (.cons (i := 0) rfl (.cons (i := 1) rfl (.cons (i := 8) rfl (.nil)))) (fun wz hw => hw.pick [0] rfl)
  · -- behind
    rintro v17 rfl
    refine W.cond (.pl rfl) (fun hC8 => ?_) (fun hC8 => ?_)
    · replace hF := cpos hC8 hF
      refine W.seqR fun Q9 hQ9 => ?_
      obtain ⟨r21, hr21, hF⟩ := bnd hF
      refine WL.step (WO.callP isGo27 (.nil) rfl (fun wz hw => alibkeep_rowsLives_ok (hr21) wz ) ?_)
      refine WL.q (Y.assign (.pl rfl)) rfl ?_
      refine WL.next hQ9 (.cons (i := 4) rfl (.nil)) ?_
      obtain rfl := Option.some.inj hF
      refine W.retV (fn := Try.f7) (vs := [.bool r21]) Try.results7 ⟨.tmp rfl, trivial⟩ (fun _ _ h => h) (fun wz hw => ?_)
      exact hR _ _ ⟨rfl, (hw.pick [] rfl)⟩
    · replace hF := cneg hC8 hF
      refine W.skip ?_
      refine W.go hK4 (.cons (i := 0) rfl (.cons (i := 1) rfl (.cons (i := 8) rfl (.nil)))) ?_
      refine W.seqR fun Q10 hQ10 => ?_
      refine WL.q (Y.move (.pl rfl)) rfl ?_
      refine WL.q (Y.len Try.underlying24 (.pl rfl)) rfl ?_
      obtain ⟨hk23, hF⟩ := ckh hF
      refine WL.step (WO.makeC (enc := eB) (z := false) Try.underlying62 mka4 rfl (.pl rfl) (hk23) rfl fun b22 => ?_)
      refine WL.q (Y.assign (.pl rfl)) rfl ?_
      refine WL.next hQ10 (.cons (i := 0) rfl (.cons (i := 1) rfl (.cons (i := 8) rfl (.cons (i := 11) rfl (.nil))))) ?_
      obtain ⟨o11, hF11, hF⟩ := bnd hF
      refine W.join1 (Em := fun (out24 : (List Bool)) => [(11, .slice (some ⟨b22, 0, none⟩) (out24).length ((l1).length : Int).toNat)]) (M := fun out24 => [cR eB 1 (some ⟨b22, 0, none⟩) ((l1).length : Int).toNat 4 out24]) (I := fun out24 => out24 = o11) (.cons (i := 0) rfl (.nil)) (fun K12 hK12 => ?_) ?_
      · -- up to
        refine W.seqR fun Q13 hQ13 => ?_
        refine WL.q (Y.move (.pl rfl)) rfl ?_
        refine WL.q (Y.len Try.underlying35 (.pl rfl)) rfl ?_
        refine WL.q (Y.move (.pl rfl)) rfl ?_
        refine WL.next hQ13 (.cons (i := 0) rfl (.cons (i := 1) rfl (.cons (i := 11) rfl (.cons (i := 51) rfl (.cons (i := 52) rfl (.cons (i := 53) rfl (.nil))))))) ?_
        refine W.block ?_
        refine W.loop2 (Em := fun (out25 : (List Bool)) (v26 : Int) => [(11, .slice (some ⟨b22, 0, none⟩) (out25).length ((l1).length : Int).toNat), (53, .int .i64 v26)]) (M := fun out25 v26 => [cR eB 1 (some ⟨b22, 0, none⟩) ((l1).length : Int).toNat 4 out25, cR encCall 7 A15 c16 64 r14.1]) (I := fun out25 v26 k14 => iter (alibkeep_RowsOnly_L5 N r14 some6) k14 (out25, v26) = some o11) (List.replicate ((l1).length : Int).toNat (false : Bool)) 0 N (hF11) (.cons rfl (.cons rfl (.nil))) (.cons (i := 0) rfl (.cons (i := 1) rfl (.cons (i := 51) rfl (.cons (i := 52) rfl (.nil))))) (fun wz hw => hw.pick [0, 1] rfl) (fun out25 v26 k14 hI K15 hK15 => ?_)
        obtain ⟨k14, t14, rfl, hF14, hN14⟩ := iter_step hI
        refine W.seqR fun Q16 hQ16 => ?_
        refine WL.q (Y.lss (.pl rfl) (.pl rfl)) rfl ?_
        refine WL.next hQ16 (.cons (i := 0) rfl (.cons (i := 1) rfl (.cons (i := 11) rfl (.cons (i := 51) rfl (.cons (i := 52) rfl (.cons (i := 53) rfl (.cons (i := 54) rfl (.nil)))))))) ?_
        refine W.seq fun K17 hK17 => ?_
        refine W.cond (.pl rfl) (fun hC18 => ?_) (fun hC18 => ?_)
        · replace hF14 := cpos hC18 hF14
          refine W.skip ?_
          refine W.go hK17 (.cons (i := 0) rfl (.cons (i := 1) rfl (.cons (i := 11) rfl (.cons (i := 51) rfl (.cons (i := 52) rfl (.cons (i := 53) rfl (.nil))))))) ?_
          refine W.seq fun K19 hK19 => ?_
          refine W.block ?_
          refine W.seqR fun Q20 hQ20 => ?_
          obtain ⟨x27, hx27, hF14⟩ := bnd hF14
          refine WL.q (Y.rowEl Try.underlying35 cells64 (i := 1) rfl (.pl rfl) rfl (.pl rfl) (ix_lt (hx27))) rfl ?_
          refine WL.q (Y.loadRA (enc := encCall) (ds := (encCall x27)) (a := x27) (idx := v26) (j := 0) Try.underlying64 rfl cells64 lenCall (i := 1) rfl (.pl rfl) (ix_get (hx27)) rfl rfl subW) rfl ?_
          refine WL.step (WO.alloc (cs := (encCall (Call.mk 0 0 0 0 0 0 0)).toArray) zero64 rfl rfl fun b28 => ?_)
          refine WL.step (WO.storeBA (ds := (encCall x27)) (cs' := (encCall x27)) cells64 (.pl rfl) (.pl rfl) rfl (oneCall _) (i := 0) rfl (lel (o := 0) (l := 7) (m := 7) (by decide) rfl rfl) (putW rfl) ?_)
          refine WL.next hQ20 (.cons (i := 0) rfl (.cons (i := 1) rfl (.cons (i := 11) rfl (.cons (i := 13) rfl (.cons (i := 51) rfl (.cons (i := 52) rfl (.cons (i := 53) rfl (.nil)))))))) ?_
          refine W.seqR fun Q21 hQ21 => ?_
          refine WL.q (Y.fieldAddr0 (off := 3) (ft := 3) Try.underlying64 rfl cells3 (.pl rfl)) rfl ?_
          refine WL.q (Y.loadB (v := .int .i64 x27.arg) Try.underlying3 rfl (.pl rfl) (i := 0) rfl (rfl)) rfl ?_
          refine WL.q (Y.fieldAddr0 (off := 4) (ft := 3) Try.underlying64 rfl cells3 (.pl rfl)) rfl ?_
          refine WL.q (Y.loadB (v := .int .i64 x27.res) Try.underlying3 rfl (.pl rfl) (i := 0) rfl (rfl)) rfl ?_
          refine WL.q (Y.max (.pl rfl) (.pl rfl)) rfl ?_
          refine WL.q (Y.assign (.pl rfl)) rfl ?_
          refine WL.next hQ21 (.cons (i := 0) rfl (.cons (i := 1) rfl (.cons (i := 11) rfl (.cons (i := 13) rfl (.cons (i := 14) rfl (.cons (i := 51) rfl (.cons (i := 52) rfl (.cons (i := 53) rfl (.nil))))))))) ?_
          refine W.seqR fun Q22 hQ22 => ?_
          refine WL.q (Y.move (.pl rfl)) rfl ?_
          refine WL.q (Y.move (.pl rfl)) rfl ?_
          obtain ⟨r29, hr29, hF14⟩ := bnd hF14
          refine WL.step (WO.callP isGo28 (.cons (.pl rfl) (.cons (.pl rfl) (.nil))) rfl (fun wz hw => slices_Contains_int_int_ok (hr29) wz (hs9.mono hw)) ?_)
          refine WL.q (Y.not (.pl rfl)) rfl ?_
          refine WL.next hQ22 (.cons (i := 0) rfl (.cons (i := 1) rfl (.cons (i := 11) rfl (.cons (i := 13) rfl (.cons (i := 51) rfl (.cons (i := 52) rfl (.cons (i := 53) rfl (.cons (i := 65) rfl (.nil))))))))) ?_
          refine W.cond (.pl rfl) (fun hC23 => ?_) (fun hC23 => ?_)
          · replace hF14 := cpos hC23 hF14
            refine W.seqR fun Q24 hQ24 => ?_
            refine WL.q (Y.move (.pl rfl)) rfl ?_
            refine WL.q (Y.fieldAddr0 (off := 5) (ft := 3) Try.underlying64 rfl cells3 (.pl rfl)) rfl ?_
            refine WL.q (Y.loadB (v := .int .i64 x27.from_) Try.underlying3 rfl (.pl rfl) (i := 0) rfl (rfl)) rfl ?_
            obtain ⟨x30, hx30, hF14⟩ := bnd hF14
            refine WL.q (Y.litEl (xs := out25) Try.underlying62 cells4 (.pl rfl) rfl (.pl rfl) (ix_lt (hx30))) rfl ?_
            refine WL.step (WO.storeS (enc := eB) (a := x30) (a' := true) (idx := x27.from_) (j := 0) cells4 (.pl rfl) (.pl rfl) rfl (fun _ => rfl) (i := 1) rfl (ix_get (hx30)) rfl (by decide) rfl ?_)
            refine WL.next hQ24 (.cons (i := 0) rfl (.cons (i := 1) rfl (.cons (i := 11) rfl (.cons (i := 13) rfl (.cons (i := 51) rfl (.cons (i := 52) rfl (.cons (i := 53) rfl (.nil)))))))) ?_
            refine W.seqR fun Q25 hQ25 => ?_
            refine WL.q (Y.fieldAddr0 (off := 6) (ft := 3) Try.underlying64 rfl cells3 (.pl rfl)) rfl ?_
            refine WL.q (Y.loadB (v := .int .i64 x27.to_) Try.underlying3 rfl (.pl rfl) (i := 0) rfl (rfl)) rfl ?_
            refine WL.q (Y.neq (.pl rfl) (.pl rfl)) rfl ?_
            refine WL.next hQ25 (.cons (i := 0) rfl (.cons (i := 1) rfl (.cons (i := 11) rfl (.cons (i := 13) rfl (.cons (i := 51) rfl (.cons (i := 52) rfl (.cons (i := 53) rfl (.cons (i := 72) rfl (.nil))))))))) ?_
            refine W.cond (.pl rfl) (fun hC26 => ?_) (fun hC26 => ?_)
            · replace hF14 := cpos hC26 hF14
              refine W.reg ?_
              refine WL.q (Y.move (.pl rfl)) rfl ?_
              refine WL.q (Y.fieldAddr0 (off := 6) (ft := 3) Try.underlying64 rfl cells3 (.pl rfl)) rfl ?_
              refine WL.q (Y.loadB (v := .int .i64 x27.to_) Try.underlying3 rfl (.pl rfl) (i := 0) rfl (rfl)) rfl ?_
              obtain ⟨x31, hx31, hF14⟩ := bnd hF14
              refine WL.q (Y.litEl (xs := (out25.set x27.from_.toNat true)) Try.underlying62 cells4 (.pl rfl) (by simp) (.pl rfl) (ix_lt (hx31))) rfl ?_
              refine WL.step (WO.storeS (enc := eB) (a := x31) (a' := true) (idx := x27.to_) (j := 0) cells4 (.pl rfl) (.pl rfl) rfl (fun _ => rfl) (i := 1) rfl (ix_get (hx31)) rfl (by decide) rfl ?_)
              refine WL.nil ?_
              refine W.go hK19 (.cons (i := 0) rfl (.cons (i := 1) rfl (.cons (i := 11) rfl (.cons (i := 51) rfl (.cons (i := 52) rfl (.cons (i := 53) rfl (.nil))))))) ?_
              refine W.reg ?_
              obtain ⟨hk32, hF14⟩ := ckh hF14
              refine WL.q (Y.add (.pl rfl) (.pl rfl) (ok64_lt (hk32))) rfl ?_
              refine WL.q (Y.move (.pl rfl)) rfl ?_
              refine WL.nil ?_
              obtain rfl := Option.some.inj hF14
              exact W.again2 hK15 ((out25.set x27.from_.toNat true).set x27.to_.toNat true) (v26 + 1) k14 hN14 (Nat.lt_succ_self _) (.cons (eqSl (by simp)) (.cons rfl (.nil))) (.cons (i := 0) rfl (.cons (i := 1) rfl (.cons (i := 51) rfl (.cons (i := 52) rfl (.nil))))) (fun wz hw => hw.pick [1, 2] rfl)
            · replace hF14 := cneg hC26 hF14
              refine W.skip ?_
              refine W.go hK19 (.cons (i := 0) rfl (.cons (i := 1) rfl (.cons (i := 11) rfl (.cons (i := 51) rfl (.cons (i := 52) rfl (.cons (i := 53) rfl (.nil))))))) ?_
              refine W.reg ?_
              obtain ⟨hk33, hF14⟩ := ckh hF14
              refine WL.q (Y.add (.pl rfl) (.pl rfl) (ok64_lt (hk33))) rfl ?_
              refine WL.q (Y.move (.pl rfl)) rfl ?_
              refine WL.nil ?_
              obtain rfl := Option.some.inj hF14
              exact W.again2 hK15 (out25.set x27.from_.toNat true) (v26 + 1) k14 hN14 (Nat.lt_succ_self _) (.cons (eqSl (by simp)) (.cons rfl (.nil))) (.cons (i := 0) rfl (.cons (i := 1) rfl (.cons (i := 51) rfl (.cons (i := 52) rfl (.nil))))) (fun wz hw => hw.pick [1, 2] rfl)
          · replace hF14 := cneg hC23 hF14
            refine W.skip ?_
            refine W.go hK19 (.cons (i := 0) rfl (.cons (i := 1) rfl (.cons (i := 11) rfl (.cons (i := 51) rfl (.cons (i := 52) rfl (.cons (i := 53) rfl (.nil))))))) ?_
            refine W.reg ?_
            obtain ⟨hk34, hF14⟩ := ckh hF14
            refine WL.q (Y.add (.pl rfl) (.pl rfl) (ok64_lt (hk34))) rfl ?_
            refine WL.q (Y.move (.pl rfl)) rfl ?_
            refine WL.nil ?_
            obtain rfl := Option.some.inj hF14
            exact W.again2 hK15 out25 (v26 + 1) k14 hN14 (Nat.lt_succ_self _) (.cons rfl (.cons rfl (.nil))) (.cons (i := 0) rfl (.cons (i := 1) rfl (.cons (i := 51) rfl (.cons (i := 52) rfl (.nil))))) (fun wz hw => hw.pick [1, 2] rfl)
        · replace hF14 := cneg hC18 hF14
          refine W.exit ?_
          obtain rfl := Option.some.inj hF14
          exact W.joinAt1 hK12 out25 (einr hN14) (.cons rfl (.nil)) (.cons (i := 0) rfl (.nil)) (fun wz hw => hw.pick [0] rfl)
      · -- behind
        rintro out24 rfl
        refine W.seqR fun Q31 hQ31 => ?_
        refine WL.q (Y.assign (.pl rfl)) rfl ?_
        refine WL.next hQ31 (.cons (i := 0) rfl (.cons (i := 11) rfl (.cons (i := 15) rfl (.nil)))) ?_
        obtain ⟨o32, hF32, hF⟩ := bnd hF
        refine W.join3 (Em := fun (m37 : (List Event)) (A35 : Option Addr) (c36 : Nat) => [(15, .slice A35 (m37).length c36)]) (M := fun m37 A35 c36 => [cR encEvent 4 A35 c36 31 m37]) (I := fun m37 A35 c36 => m37 = o32) (.nil) (fun K33 hK33 => ?_) ?_
        · -- up to
          refine W.seqR fun Q34 hQ34 => ?_
          refine WL.q (Y.move (.pl rfl)) rfl ?_
          refine WL.q (Y.len Try.underlying24 (.pl rfl)) rfl ?_
          refine WL.q (Y.move (.pl rfl)) rfl ?_
          refine WL.next hQ34 (.cons (i := 11) rfl (.cons (i := 15) rfl (.cons (i := 78) rfl (.cons (i := 79) rfl (.cons (i := 80) rfl (.nil)))))) ?_
          refine W.block ?_
          refine W.loop4 (Em := fun (m40 : (List Event)) (v41 : Int) (A38 : Option Addr) (c39 : Nat) => [(15, .slice A38 (m40).length c39), (80, .int .i64 v41)]) (M := fun m40 v41 A38 c39 => [cR eB 1 (some ⟨b22, 0, none⟩) ((l1).length : Int).toNat 4 out24, cR encEvent 4 A38 c39 31 m40]) (I := fun m40 v41 A38 c39 k35 => iter (alibkeep_RowsOnly_L7 N l1 out24) k35 (m40, v41) = some o32) [] 0 none 0 N (hF32) (.cons rfl (.cons rfl (.nil))) (.cons (i := 11) rfl (.cons (i := 78) rfl (.cons (i := 79) rfl (.nil)))) (fun wz hw => (St.nilR (hw.pick [0] rfl) encEvent 4 31).pick [1, 0] rfl) (fun m40 v41 A38 c39 k35 hI K36 hK36 => ?_)
          obtain ⟨k35, t35, rfl, hF35, hN35⟩ := iter_step hI
          refine W.seqR fun Q37 hQ37 => ?_
          refine WL.q (Y.lss (.pl rfl) (.pl rfl)) rfl ?_
          refine WL.next hQ37 (.cons (i := 11) rfl (.cons (i := 15) rfl (.cons (i := 78) rfl (.cons (i := 79) rfl (.cons (i := 80) rfl (.cons (i := 81) rfl (.nil))))))) ?_
          refine W.seq fun K38 hK38 => ?_
          refine W.cond (.pl rfl) (fun hC39 => ?_) (fun hC39 => ?_)
          · replace hF35 := cpos hC39 hF35
            refine W.skip ?_
            refine W.go hK38 (.cons (i := 11) rfl (.cons (i := 15) rfl (.cons (i := 78) rfl (.cons (i := 79) rfl (.cons (i := 80) rfl (.nil)))))) ?_
            refine W.seq fun K40 hK40 => ?_
            refine W.block ?_
            refine W.seqR fun Q41 hQ41 => ?_
            refine WL.q (Y.move (.pl rfl)) rfl ?_
            obtain ⟨x42, hx42, hF35⟩ := bnd hF35
            refine WL.q (Y.slEl Try.underlying24 cells31 hs4 (.pl rfl) (.pl rfl) (ix_lt (hx42))) rfl ?_
            refine WL.q (Y.loadSA (enc := encEvent) (ds := (encEvent x42)) (j := 0) Try.underlying31 rfl cells31 hs4 (.pl rfl) (hx42) rfl rfl subW) rfl ?_
            refine WL.step (WO.alloc (cs := (encEvent (Event.mk 0 0 0 0)).toArray) zero31 rfl rfl fun b43 => ?_)
            refine WL.q (Y.assign (.pl rfl)) rfl ?_
            refine WL.step (WO.storeBA (ds := (encEvent x42)) (cs' := (encEvent x42)) cells31 (.pl rfl) (.pl rfl) rfl (oneEvent _) (i := 0) rfl (lel (o := 0) (l := 4) (m := 4) (by decide) rfl rfl) (putW rfl) ?_)
            refine WL.next hQ41 (.cons (i := 11) rfl (.cons (i := 15) rfl (.cons (i := 16) rfl (.cons (i := 17) rfl (.cons (i := 78) rfl (.cons (i := 79) rfl (.cons (i := 80) rfl (.nil)))))))) ?_
            refine W.seqR fun Q42 hQ42 => ?_
            refine WL.q (Y.move (.pl rfl)) rfl ?_
            refine WL.q (Y.move (.pl rfl)) rfl ?_
            obtain ⟨x44, hx44, hF35⟩ := bnd hF35
            refine WL.q (Y.litEl (xs := out24) Try.underlying62 cells4 (.pl rfl) rfl (.pl rfl) (ix_lt (hx44))) rfl ?_
            refine WL.q (Y.loadR (enc := eB) (v := .bool x44) (a := x44) (idx := v41) (j := 0) Try.underlying4 rfl (fun _ => rfl) (i := 1) rfl (.pl rfl) (ix_get (hx44)) rfl rfl) rfl ?_
            refine WL.q (Y.not (.pl rfl)) rfl ?_
            refine WL.next hQ42 (.cons (i := 11) rfl (.cons (i := 15) rfl (.cons (i := 17) rfl (.cons (i := 78) rfl (.cons (i := 79) rfl (.cons (i := 80) rfl (.cons (i := 89) rfl (.nil)))))))) ?_
            refine W.cond (.pl rfl) (fun hC43 => ?_) (fun hC43 => ?_)
            · replace hF35 := cpos hC43 hF35
              refine W.reg ?_
              refine WL.q (Y.move (.pl rfl)) rfl ?_
              refine WL.q (Y.loadBA (ds := (encEvent x42)) Try.underlying31 rfl cells31 (.pl rfl) (i := 0) rfl rfl subW) rfl ?_
              refine WL.step (WO.bsliceC (enc := encEvent) (ys := ([x42] : List Event)) Try.underlying24 bz31 (.cons (.pl rfl) (.nil)) rfl lenEvent rfl rfl (by decide) (by decide) rfl fun b45 => ?_)
              obtain ⟨hk48, hF35⟩ := ckh hF35
              refine WL.step (WO.appendC (enc := encEvent) Try.underlying24 ap31 lenEvent oneEvent (.pl rfl) rfl (.pl rfl) (i := 3) rfl (m2 := 0) rfl (hk48) rfl fun A46 c47 => ?_)
              refine WL.q (Y.assign (.pl rfl)) rfl ?_
              refine WL.nil ?_
              refine W.go hK40 (.cons (i := 11) rfl (.cons (i := 15) rfl (.cons (i := 78) rfl (.cons (i := 79) rfl (.cons (i := 80) rfl (.nil)))))) ?_
              refine W.reg ?_
              obtain ⟨hk49, hF35⟩ := ckh hF35
              refine WL.q (Y.add (.pl rfl) (.pl rfl) (ok64_lt (hk49))) rfl ?_
              refine WL.q (Y.move (.pl rfl)) rfl ?_
              refine WL.nil ?_
              obtain rfl := Option.some.inj hF35
              exact W.again4 hK36 (m40 ++ ([x42] : List Event)) (v41 + 1) A46 c47 k35 hN35 (Nat.lt_succ_self _) (.cons rfl (.cons rfl (.nil))) (.cons (i := 11) rfl (.cons (i := 78) rfl (.cons (i := 79) rfl (.nil)))) (fun wz hw => hw.pick [2, 3] rfl)
            · replace hF35 := cneg hC43 hF35
              refine W.skip ?_
              refine W.go hK40 (.cons (i := 11) rfl (.cons (i := 15) rfl (.cons (i := 78) rfl (.cons (i := 79) rfl (.cons (i := 80) rfl (.nil)))))) ?_
              refine W.reg ?_
              obtain ⟨hk50, hF35⟩ := ckh hF35
              refine WL.q (Y.add (.pl rfl) (.pl rfl) (ok64_lt (hk50))) rfl ?_
              refine WL.q (Y.move (.pl rfl)) rfl ?_
              refine WL.nil ?_
              obtain rfl := Option.some.inj hF35
              exact W.again4 hK36 m40 (v41 + 1) A38 c39 k35 hN35 (Nat.lt_succ_self _) (.cons rfl (.cons rfl (.nil))) (.cons (i := 11) rfl (.cons (i := 78) rfl (.cons (i := 79) rfl (.nil)))) (fun wz hw => hw.pick [1, 2] rfl)
          · replace hF35 := cneg hC39 hF35
            refine W.exit ?_
            obtain rfl := Option.some.inj hF35
            exact W.joinAt3 hK33 m40 A38 c39 (einr hN35) (.cons rfl (.nil)) (.nil) (fun wz hw => hw.pick [1] rfl)
        · -- behind
          rintro m37 A35 c36 rfl
          refine W.seqR fun Q47 hQ47 => ?_
          refine WL.q (Y.move (.pl rfl)) rfl ?_
          obtain ⟨r51, hr51, hF⟩ := bnd hF
          refine WL.step (WO.callP isGo26 (.cons (.pl rfl) (.nil)) rfl (fun wz hw => rows_Check_ok (hr51) wz (SlIn.ofRow lenEvent hw (i := 0) rfl)) ?_)
          refine WL.q (Y.move (.pl rfl)) rfl ?_
          refine WL.q (Y.extract (.pl rfl) rfl) rfl ?_
          refine WL.q (Y.extract (.pl rfl) rfl) rfl ?_
          refine WL.q (Y.extract (.pl rfl) rfl) rfl ?_
          refine WL.step (WO.alloc (cs := (encBad (Bad.mk 0 0 0)).toArray) zero58 rfl rfl fun b52 => ?_)
          refine WL.q (Y.assign (.pl rfl)) rfl ?_
          refine WL.step (WO.storeBA (ds := (encBad (Bad.mk r51.2.1 r51.2.2.1 r51.2.2.2.1))) (cs' := (encBad (Bad.mk r51.2.1 r51.2.2.1 r51.2.2.2.1))) cells58 (.pl rfl) (.pl rfl) rfl (oneBad _) (i := 0) rfl (lel (o := 0) (l := 3) (m := 3) (by decide) rfl rfl) (putW rfl) ?_)
          refine WL.q (Y.assign (.pl rfl)) rfl ?_
          refine WL.next hQ47 (.cons (i := 18) rfl (.cons (i := 20) rfl (.nil))) ?_
          refine W.seqR fun Q48 hQ48 => ?_
          refine WL.q (Y.move (.pl rfl)) rfl ?_
          refine WL.q (Y.eql (.pl rfl) (.pl rfl)) rfl ?_
          refine WL.q (Y.move (.pl rfl)) rfl ?_
          refine WL.g (.pl rfl rfl rfl) (fun hg => Y.move (.pl rfl)) rfl ?_
          refine WL.q (Y.and (.pl rfl) (fun h2 => .gd (eqt h2) rfl)) rfl ?_
          refine WL.q (Y.assign (.pl rfl)) rfl ?_
          refine WL.next hQ48 (.cons (i := 4) rfl (.nil)) ?_
          obtain rfl := Option.some.inj hF
          refine W.retV (fn := Try.f7) (vs := [.bool ((decide (r51.2.2.2.2 = 0)) && r51.1)]) Try.results7 ⟨.tmp rfl, trivial⟩ (fun _ _ h => h) (fun wz hw => ?_)
          exact hR _ _ ⟨rfl, (hw.pick [] rfl)⟩

def alibkeep_RowsPairs_1 (N : Nat) (x1 : Call) : Option Unit :=
  some ()

theorem alibkeep_RowsPairs_1_ok {N : Nat} {x1 : Call} {res : Unit} (hF : alibkeep_RowsPairs_1 N x1 = some res) (w : World) :
    Pure Try.prog 30 [.agg (encCall x1).toArray] w (.bool ((decide (x1.kind = 4)) && (decide (x1.res = (-1))))) := by
  refine W.enter (n := 11) Try.func30 rfl rfl Sub.refl (by simp) (St.start w) fun R hR => ?_
  unfold alibkeep_RowsPairs_1 at hF
  refine W.seqR fun Q1 hQ1 => ?_
  refine WL.step (WO.boxA (.pl rfl) rfl fun b2 => ?_)
  refine WL.q (Y.assign (.pl rfl)) rfl ?_
  refine WL.next hQ1 (.cons (i := 1) rfl (.nil)) ?_
  refine W.seqR fun Q2 hQ2 => ?_
  refine WL.q (Y.fieldAddr0 (off := 2) (ft := 3) Try.underlying64 rfl cells3 (.pl rfl)) rfl ?_
  refine WL.q (Y.loadB (v := .int .i64 x1.kind) Try.underlying3 rfl (.pl rfl) (i := 0) rfl (rfl)) rfl ?_
  refine WL.q (Y.eql (.pl rfl) (.pl rfl)) rfl ?_
  refine WL.q (Y.move (.pl rfl)) rfl ?_
  refine WL.g (.pl rfl rfl rfl) (fun hg => Y.fieldAddr0 (off := 4) (ft := 3) Try.underlying64 rfl cells3 (.pl rfl)) rfl ?_
  refine WL.g (.pl rfl rfl rfl) (fun hg => Y.loadB (v := .int .i64 x1.res) Try.underlying3 rfl (.gd (hg) rfl) (i := 0) rfl (rfl)) rfl ?_
  refine WL.g (.pl rfl rfl rfl) (fun hg => Y.eql (.gd (hg) rfl) (.pl rfl)) rfl ?_
  refine WL.q (Y.and (.pl rfl) (fun h2 => .gd (eqt h2) rfl)) rfl ?_
  refine WL.q (Y.assign (.pl rfl)) rfl ?_
  refine WL.next hQ2 (.cons (i := 2) rfl (.nil)) ?_
  obtain rfl := Option.some.inj hF
  refine W.retV (fn := Try.f30) (vs := [.bool ((decide (x1.kind = 4)) && (decide (x1.res = (-1))))]) Try.results30 ⟨.tmp rfl, trivial⟩ (fun _ _ h => h) (fun wz hw => ?_)
  exact hR _ _ ⟨rfl, (hw.pick [] rfl)⟩

def slices_IndexFunc_api_Call_api_Call_L3 (N : Nat) (s1 : (List Call)) : Int → Option (Int ⊕ (Unit ⊕ Int))
  | v6 =>
    cond (decide (v6 < ((s1).length : Int)))
      (bd (ix s1 v6) fun (x7 : Call) =>
      bd (alibkeep_RowsPairs_1 N x7) fun (r8 : Unit) =>
      cond ((decide (x7.kind = 4)) && (decide (x7.res = (-1))))
        (some (.inr (.inr v6)))
        (ck (ok64 (v6 + 1)) <|
        some (.inl (v6 + 1))))
      (some (.inr (.inl ())))

def slices_IndexFunc_api_Call_api_Call (N : Nat) (s1 : (List Call)) : Option Int :=
  bd (α := (Unit ⊕ Int)) (iter (slices_IndexFunc_api_Call_api_Call_L3 N s1) N 0) <|
  Sum.elim (fun _ => 
    some (-1)) (fun p => some p)

theorem slices_IndexFunc_api_Call_api_Call_ok {N : Nat} {s1 : (List Call)} {res : Int} (hF : slices_IndexFunc_api_Call_api_Call N s1 = some res) (w : World) {v5 : Value} (hs4 : SlIn encCall 7 w v5 s1) :
    Pure Try.prog 58 [v5, .func (.func 30) #[] #[]] w (.int .i64 res) := by
  obtain ⟨A2, c3, rfl, hcc3, hs4⟩ := hs4.form
  refine W.enter (n := 19) Try.func58 rfl rfl Sub.refl (by simp) (St.start w) fun R hR => ?_
  unfold slices_IndexFunc_api_Call_api_Call at hF
  refine W.seqR fun Q1 hQ1 => ?_
  refine WL.q (Y.assign (.pl rfl)) rfl ?_
  refine WL.next hQ1 (.cons (i := 0) rfl (.cons (i := 1) rfl (.nil))) ?_
  obtain ⟨o2, hF2, hF⟩ := bnd hF
  refine W.join0 (Em := []) (M := []) (I := (.inl ()) = o2) (.nil) (fun K3 hK3 => ?_) ?_
  · -- up to
    refine W.seqR fun Q4 hQ4 => ?_
    refine WL.q (Y.move (.pl rfl)) rfl ?_
    refine WL.q (Y.len Try.underlying35 (.pl rfl)) rfl ?_
    refine WL.q (Y.move (.pl rfl)) rfl ?_
    refine WL.next hQ4 (.cons (i := 0) rfl (.cons (i := 1) rfl (.cons (i := 7) rfl (.cons (i := 8) rfl (.nil))))) ?_
    refine W.block ?_
    refine W.loop1 (Em := fun (v6 : Int) => [(8, .int .i64 v6)]) (M := fun v6 => []) (I := fun v6 k5 => iter (slices_IndexFunc_api_Call_api_Call_L3 N s1) k5 v6 = some o2) 0 N (hF2) (.cons rfl (.nil)) (.cons (i := 0) rfl (.cons (i := 1) rfl (.cons (i := 7) rfl (.nil)))) (fun wz hw => hw.pick [] rfl) (fun v6 k5 hI K6 hK6 => ?_)
    obtain ⟨k5, t5, rfl, hF5, hN5⟩ := iter_step hI
    refine W.seqR fun Q7 hQ7 => ?_
    refine WL.q (Y.lss (.pl rfl) (.pl rfl)) rfl ?_
    refine WL.next hQ7 (.cons (i := 0) rfl (.cons (i := 1) rfl (.cons (i := 7) rfl (.cons (i := 8) rfl (.cons (i := 9) rfl (.nil)))))) ?_
    refine W.seq fun K8 hK8 => ?_
    refine W.cond (.pl rfl) (fun hC9 => ?_) (fun hC9 => ?_)
    · replace hF5 := cpos hC9 hF5
      refine W.skip ?_
      refine W.go hK8 (.cons (i := 0) rfl (.cons (i := 1) rfl (.cons (i := 7) rfl (.cons (i := 8) rfl (.nil))))) ?_
      refine W.seq fun K10 hK10 => ?_
      refine W.block ?_
      refine W.seqR fun Q11 hQ11 => ?_
      refine WL.q (Y.move (.pl rfl)) rfl ?_
      refine WL.q (Y.assign (.pl rfl)) rfl ?_
      refine WL.next hQ11 (.cons (i := 0) rfl (.cons (i := 1) rfl (.cons (i := 5) rfl (.cons (i := 7) rfl (.cons (i := 8) rfl (.nil)))))) ?_
      refine W.seqR fun Q12 hQ12 => ?_
      refine WL.q (Y.move (.pl rfl)) rfl ?_
      refine WL.q (Y.move (.pl rfl)) rfl ?_
      refine WL.q (Y.move (.pl rfl)) rfl ?_
      obtain ⟨x7, hx7, hF5⟩ := bnd hF5
      refine WL.q (Y.slEl Try.underlying35 cells64 hs4 (.pl rfl) (.pl rfl) (ix_lt (hx7))) rfl ?_
      refine WL.q (Y.loadSA (enc := encCall) (ds := (encCall x7)) (j := 0) Try.underlying64 rfl cells64 hs4 (.pl rfl) (hx7) rfl rfl subW) rfl ?_
      obtain ⟨r8, hr8, hF5⟩ := bnd hF5
      refine WL.step (WO.callG (γ := Unit) (first := []) (cap := []) (fun g => .bool ((decide (x7.kind = 4)) && (decide (x7.res = (-1))))) (fun g => []) (fun g => True) isGo30 (.pl rfl) (.cons (.pl rfl) (.nil)) rfl (fun wz hw => (alibkeep_RowsPairs_1_ok (hr8) wz ).calls hw) ?_)
      rintro _ -
      refine WL.next hQ12 (.cons (i := 0) rfl (.cons (i := 1) rfl (.cons (i := 5) rfl (.cons (i := 7) rfl (.cons (i := 8) rfl (.cons (i := 16) rfl (.nil))))))) ?_
      refine W.cond (.pl rfl) (fun hC13 => ?_) (fun hC13 => ?_)
      · replace hF5 := cpos hC13 hF5
        refine W.seqR fun Q14 hQ14 => ?_
        refine WL.q (Y.move (.pl rfl)) rfl ?_
        refine WL.q (Y.assign (.pl rfl)) rfl ?_
        refine WL.next hQ14 (.cons (i := 4) rfl (.nil)) ?_
        obtain rfl := Option.some.inj hF5
        obtain rfl := einr hN5
        obtain rfl := Option.some.inj hF
        refine W.retV (fn := Try.f58) (vs := [.int .i64 v6]) Try.results58 ⟨.tmp rfl, trivial⟩ (fun _ _ h => h) (fun wz hw => ?_)
        exact hR _ _ ⟨rfl, (hw.pick [] rfl)⟩
      · replace hF5 := cneg hC13 hF5
        refine W.skip ?_
        refine W.go hK10 (.cons (i := 0) rfl (.cons (i := 1) rfl (.cons (i := 7) rfl (.cons (i := 8) rfl (.nil))))) ?_
        refine W.reg ?_
        obtain ⟨hk9, hF5⟩ := ckh hF5
        refine WL.q (Y.add (.pl rfl) (.pl rfl) (ok64_lt (hk9))) rfl ?_
        refine WL.q (Y.move (.pl rfl)) rfl ?_
        refine WL.nil ?_
        obtain rfl := Option.some.inj hF5
        exact W.again1 hK6 (v6 + 1) k5 hN5 (Nat.lt_succ_self _) (.cons rfl (.nil)) (.cons (i := 0) rfl (.cons (i := 1) rfl (.cons (i := 7) rfl (.nil)))) (fun wz hw => hw.pick [] rfl)
    · replace hF5 := cneg hC9 hF5
      refine W.exit ?_
      obtain rfl := Option.some.inj hF5
      exact W.joinAt0 hK3  (einr hN5) (.nil) (.nil) (fun wz hw => hw.pick [] rfl)
  · -- behind
    rintro  rfl
    refine W.seqR fun Q16 hQ16 => ?_
    refine WL.q (Y.assign (.pl rfl)) rfl ?_
    refine WL.next hQ16 (.cons (i := 4) rfl (.nil)) ?_
    obtain rfl := Option.some.inj hF
    refine W.retV (fn := Try.f58) (vs := [.int .i64 (-1)]) Try.results58 ⟨.tmp rfl, trivial⟩ (fun _ _ h => h) (fun wz hw => ?_)
    exact hR _ _ ⟨rfl, (hw.pick [] rfl)⟩

def slices_ContainsFunc_api_Call_api_Call (N : Nat) (s1 : (List Call)) : Option Bool :=
  bd (slices_IndexFunc_api_Call_api_Call N s1) fun (r6 : Int) =>
  some (decide (0 ≤ r6))

theorem slices_ContainsFunc_api_Call_api_Call_ok {N : Nat} {s1 : (List Call)} {res : Bool} (hF : slices_ContainsFunc_api_Call_api_Call N s1 = some res) (w : World) {v5 : Value} (hs4 : SlIn encCall 7 w v5 s1) :
    Pure Try.prog 29 [v5, .func (.func 30) #[] #[]] w (.bool res) := by
  obtain ⟨A2, c3, rfl, hcc3, hs4⟩ := hs4.form
  refine W.enter (n := 9) Try.func29 rfl rfl Sub.refl (by simp) (St.start w) fun R hR => ?_
  unfold slices_ContainsFunc_api_Call_api_Call at hF
  refine W.seqR fun Q1 hQ1 => ?_
  refine WL.q (Y.assign (.pl rfl)) rfl ?_
  refine WL.next hQ1 (.cons (i := 0) rfl (.cons (i := 1) rfl (.nil))) ?_
  refine W.seqR fun Q2 hQ2 => ?_
  refine WL.q (Y.move (.pl rfl)) rfl ?_
  refine WL.q (Y.move (.pl rfl)) rfl ?_
  obtain ⟨r6, hr6, hF⟩ := bnd hF
  refine WL.step (WO.callP isGo58 (.cons (.pl rfl) (.cons (.pl rfl) (.nil))) rfl (fun wz hw => slices_IndexFunc_api_Call_api_Call_ok (hr6) wz (hs4.mono hw)) ?_)
  refine WL.q (Y.geq (.pl rfl) (.pl rfl)) rfl ?_
  refine WL.q (Y.assign (.pl rfl)) rfl ?_
  refine WL.next hQ2 (.cons (i := 4) rfl (.nil)) ?_
  obtain rfl := Option.some.inj hF
  refine W.retV (fn := Try.f29) (vs := [.bool (decide (0 ≤ r6))]) Try.results29 ⟨.tmp rfl, trivial⟩ (fun _ _ h => h) (fun wz hw => ?_)
  exact hR _ _ ⟨rfl, (hw.pick [] rfl)⟩

def alibkeep_RowsPairs_L27 (N : Nat) (r9 : ((List Call) × Int × Int)) (v32 : Int) (some21 : (List Int)) (x36 : Event) : ((List Event) × Int) → Option (((List Event) × Int) ⊕ (List Event))
  | (m40, v41) =>
    cond (decide (v41 < ((r9.1).length : Int)))
      (bd (ix r9.1 v41) fun (x42 : Call) =>
      bd ((cond (((decide (x42.from_ = v32)) || (decide (x42.to_ = v32))) == true) (slices_Contains_int_int N some21 (max x42.arg x42.res)) (some false))) fun (r44 : Bool) =>
      cond (((decide (x42.from_ = v32)) || (decide (x42.to_ = v32))) && r44)
        (ck (limB 32 ((m40).length + (([x36] : List Event)).length)) <|
        ck (ok64 (v41 + 1)) <|
        some (.inl ((m40 ++ ([x36] : List Event)), (v41 + 1))))
        (ck (ok64 (v41 + 1)) <|
        some (.inl (m40, (v41 + 1)))))
      (some (.inr m40))

def alibkeep_RowsPairs_L25 (N : Nat) (l1 : (List Event)) (r9 : ((List Call) × Int × Int)) (some21 : (List Int)) : ((List Event) × Int) → Option (((List Event) × Int) ⊕ (List Event))
  | (m31, v32) =>
    cond (decide (v32 < ((l1).length : Int)))
      (bd (α := (List Event)) (bd (ix l1 v32) fun (x36 : Event) =>
        iter (alibkeep_RowsPairs_L27 N r9 v32 some21 x36) N (m31, 0)) <|
      fun (m35 : (List Event)) => 
        ck (ok64 (v32 + 1)) <|
        some (.inl (m35, (v32 + 1))))
      (some (.inr m31))

def alibkeep_RowsPairs (N : Nat) (l1 : (List Event)) : Option Bool :=
  bd (rows_Check N l1) fun (r6 : (Bool × Int × Int × Int × Int)) =>
  bd (history_Calls N ([2] : List Int) l1) fun (r9 : ((List Call) × Int × Int)) =>
  bd (α := Bool) (bd (alibkeep_rowsLives N) fun (r13 : Bool) =>
    cond ((!r13) == false)
      (bd (alibkeep_ok N ([r6.2.2.2.2, r9.2.2] : List Int)) fun (r15 : Bool) =>
      bd ((cond (((!r13) || (!r15)) == false) (slices_ContainsFunc_api_Call_api_Call N r9.1) (some false))) fun (r16 : Bool) =>
      some (((!r13) || (!r15)) || r16))
      (bd ((cond (((!r13) || false) == false) (slices_ContainsFunc_api_Call_api_Call N r9.1) (some false))) fun (r17 : Bool) =>
      some (((!r13) || false) || r17))) <|
  fun (v12 : Bool) => 
    cond v12
      (bd (alibkeep_rowsLives N) fun (r18 : Bool) =>
      some r18)
      (cond r6.1
        (some true)
        (bd (α := ((List Int) ⊕ Bool)) (cond (decide (r6.2.1 = 6))
            (some (.inl ([r6.2.2.1, r6.2.2.2.1] : List Int)))
            (bd (α := Bool) (cond (decide (r6.2.1 = 1))
                (some (decide (r6.2.1 = 1)))
                (cond (decide (r6.2.1 = 2))
                  (some (decide (r6.2.1 = 2)))
                  (some (decide (r6.2.1 = 3))))) <|
            fun (v23 : Bool) => 
              cond v23
                (cond ((decide (r6.2.2.1 < 0)) || (decide (((r9.1).length : Int) ≤ r6.2.2.1)))
                  (some (.inr false))
                  (bd (ix r9.1 r6.2.2.1) fun (x24 : Call) =>
                  some (.inl ([x24.res] : List Int))))
                (some (.inr false)))) <|
        Sum.elim (fun (some21 : (List Int)) => 
          bd (α := (List Event)) (iter (alibkeep_RowsPairs_L25 N l1 r9 some21) N ([], 0)) <|
          fun (m28 : (List Event)) => 
            bd (rows_Check N m28) fun (r52 : (Bool × Int × Int × Int × Int)) =>
            some (((decide (r52.2.2.2.2 = 0)) && (!r52.1)) && (decide (r52.2.1 = r6.2.1)))) (fun p => some p)))

theorem alibkeep_RowsPairs_ok {N : Nat} {l1 : (List Event)} {res : Bool} (hF : alibkeep_RowsPairs N l1 = some res) (w : World) {v5 : Value} (hs4 : SlIn encEvent 4 w v5 l1) :
    Pure Try.prog 8 [v5] w (.bool res) := by
  obtain ⟨A2, c3, rfl, hcc3, hs4⟩ := hs4.form
  refine W.enter (n := 133) Try.func8 rfl rfl Sub.refl (by simp) (St.start w) fun R hR => ?_
  unfold alibkeep_RowsPairs at hF
  refine W.seqR fun Q1 hQ1 => ?_
  refine WL.q (Y.assign (.pl rfl)) rfl ?_
  refine WL.next hQ1 (.cons (i := 0) rfl (.nil)) ?_
  refine W.seqR fun Q2 hQ2 => ?_
  refine WL.q (Y.move (.pl rfl)) rfl ?_
  obtain ⟨r6, hr6, hF⟩ := bnd hF
  refine WL.step (WO.callP isGo26 (.cons (.pl rfl) (.nil)) rfl (fun wz hw => rows_Check_ok (hr6) wz (hs4.mono hw)) ?_)
  refine WL.q (Y.move (.pl rfl)) rfl ?_
  refine WL.q (Y.extract (.pl rfl) rfl) rfl ?_
  refine WL.q (Y.extract (.pl rfl) rfl) rfl ?_
  refine WL.q (Y.extract (.pl rfl) rfl) rfl ?_
  refine WL.step (WO.alloc (cs := (encBad (Bad.mk 0 0 0)).toArray) zero58 rfl rfl fun b7 => ?_)
  refine WL.q (Y.assign (.pl rfl)) rfl ?_
  refine WL.step (WO.storeBA (ds := (encBad (Bad.mk r6.2.1 r6.2.2.1 r6.2.2.2.1))) (cs' := (encBad (Bad.mk r6.2.1 r6.2.2.1 r6.2.2.2.1))) cells58 (.pl rfl) (.pl rfl) rfl (oneBad _) (i := 0) rfl (lel (o := 0) (l := 3) (m := 3) (by decide) rfl rfl) (putW rfl) ?_)
  refine WL.q (Y.assign (.pl rfl)) rfl ?_
  refine WL.next hQ2 (.cons (i := 0) rfl (.cons (i := 3) rfl (.cons (i := 4) rfl (.cons (i := 5) rfl (.nil))))) ?_
  refine W.seqR fun Q3 hQ3 => ?_
  refine WL.step (WO.bsliceC (enc := (eI .i64)) (ys := ([2] : List Int)) Try.underlying23 bz3 (.cons (.pl rfl) (.nil)) rfl (fun _ => rfl) rfl rfl (by decide) (by decide) rfl fun b8 => ?_)
  refine WL.q (Y.move (.pl rfl)) rfl ?_
  obtain ⟨r9, hr9, hF⟩ := bnd hF
  refine WL.step (WO.callM isGo17 (.cons (.pl rfl) (.cons (.pl rfl) (.nil))) rfl (fun wz hw => history_Calls_ok (hr9) wz (SlIn.ofRow (fun _ => rfl) hw (i := 0) rfl) (hs4.mono hw)) ?_)
  rintro ⟨A10, c11⟩ -
  refine WL.q (Y.move (.pl rfl)) rfl ?_
  refine WL.q (Y.extract (.pl rfl) rfl) rfl ?_
  refine WL.q (Y.extract (.pl rfl) rfl) rfl ?_
  refine WL.q (Y.extract (.pl rfl) rfl) rfl ?_
  refine WL.q (Y.assign (.pl rfl)) rfl ?_
  refine WL.q (Y.assign (.pl rfl)) rfl ?_
  refine WL.q (Y.assign (.pl rfl)) rfl ?_
  refine WL.next hQ3 (.cons (i := 0) rfl (.cons (i := 3) rfl (.cons (i := 4) rfl (.cons (i := 5) rfl (.cons (i := 6) rfl (.cons (i := 8) rfl (.nil))))))) ?_
  refine W.seq fun K4 hK4 => ?_
  obtain ⟨o5, hF5, hF⟩ := bnd hF
  refine W.join1 (Em := fun (v12 : Bool) => [(43, .bool v12)]) (M := fun v12 => [cBx b7 58 (encBad (Bad.mk r6.2.1 r6.2.2.1 r6.2.2.2.1)), cR encCall 7 A10 c11 64 r9.1]) (I := fun v12 => v12 = o5) (.cons (i := 0) rfl (.cons (i := 3) rfl (.cons (i := 4) rfl (.cons (i := 6) rfl (.nil))))) (fun K6 hK6 => ?_) ?_
  · -- up to
    refine W.reg ?_
    obtain ⟨r13, hr13, hF5⟩ := bnd hF5
    refine WL.step (WO.callP isGo27 (.nil) rfl (fun wz hw => alibkeep_rowsLives_ok (hr13) wz ) ?_)
    refine WL.q (Y.not (.pl rfl)) rfl ?_
    refine WL.q (Y.move (.pl rfl)) rfl ?_
    refine WL.g (.pl rfl rfl rfl) (fun hg => Y.move (.pl rfl)) rfl ?_
    refine WL.g (.pl rfl rfl rfl) (fun hg => Y.move (.pl rfl)) rfl ?_
    refine bsplit ((!r13) == false) (fun hg7 => ?_) (fun hg7 => ?_)
    · replace hF5 := cpos hg7 hF5
      refine WL.gd (.pl rfl rfl rfl) (hg7) ?_
      refine WL.step (WO.bsliceC (enc := (eI .i64)) (ys := ([r6.2.2.2.2, r9.2.2] : List Int)) Try.underlying105 bz25 (.cons (.gd (hg7) rfl) (.cons (.gd (hg7) rfl) (.nil))) rfl (fun _ => rfl) rfl rfl (by decide) (by decide) rfl fun b14 => ?_)
      refine WL.gd (.pl rfl rfl rfl) (hg7) ?_
      obtain ⟨r15, hr15, hF5⟩ := bnd hF5
      refine WL.step (WO.callP isGo23 (.cons (.pl rfl) (.nil)) rfl (fun wz hw => alibkeep_ok_ok (hr15) wz (SlIn.ofRow (fun _ => rfl) hw (i := 0) rfl)) ?_)
      refine WL.gd (.pl rfl rfl rfl) (hg7) ?_
      refine WL.q (Y.not (.pl rfl)) rfl ?_
      refine WL.q (Y.or (.pl rfl) (fun _ => .pl rfl)) rfl ?_
      refine WL.q (Y.move (.pl rfl)) rfl ?_
      refine WL.g (.pl rfl rfl rfl) (fun hg => Y.move (.pl rfl)) rfl ?_
      obtain ⟨r16, hr16, hF5⟩ := bnd hF5
      refine WL.gP (.pl rfl rfl rfl) isGo29 (fun hg => (.cons (.gd (hg) rfl) (.cons (.pl rfl) (.nil)))) rfl (fun hg wz hw => slices_ContainsFunc_api_Call_api_Call_ok (gpos hg hr16) wz (SlIn.ofRow lenCall hw (i := 1) rfl)) ?_
      refine WL.q (Y.or (.pl rfl) (fun h2 => .gd (eqf h2) rfl)) rfl ?_
      refine WL.nil ?_
      exact W.joinAt1 hK6 (((!r13) || (!r15)) || r16) (Option.some.inj hF5) (.cons rfl (.nil)) (.cons (i := 0) rfl (.cons (i := 3) rfl (.cons (i := 4) rfl (.cons (i := 6) rfl (.nil))))) (fun wz hw => hw.pick [3, 1] rfl)
    · replace hF5 := cneg hg7 hF5
      refine WL.gn (.pl rfl rfl rfl) hg7 rfl ?_
      refine WL.gn (.pl rfl rfl rfl) hg7 rfl ?_
      refine WL.gn (.pl rfl rfl rfl) hg7 rfl ?_
      refine WL.q (Y.or (b := false) (.pl rfl) (fun h2 => (gabsO hg7 h2).elim)) rfl ?_
      refine WL.q (Y.move (.pl rfl)) rfl ?_
      refine WL.g (.pl rfl rfl rfl) (fun hg => Y.move (.pl rfl)) rfl ?_
      obtain ⟨r17, hr17, hF5⟩ := bnd hF5
      refine WL.gP (.pl rfl rfl rfl) isGo29 (fun hg => (.cons (.gd (hg) rfl) (.cons (.pl rfl) (.nil)))) rfl (fun hg wz hw => slices_ContainsFunc_api_Call_api_Call_ok (gpos hg hr17) wz (SlIn.ofRow lenCall hw (i := 0) rfl)) ?_
      refine WL.q (Y.or (.pl rfl) (fun h2 => .gd (eqf h2) rfl)) rfl ?_
      refine WL.nil ?_
      exact W.joinAt1 hK6 (((!r13) || false) || r17) (Option.some.inj hF5) (.cons rfl (.nil)) (.cons (i := 0) rfl (.cons (i := 3) rfl (.cons (i := 4) rfl (.cons (i := 6) rfl (.nil))))) (fun wz hw => hw.pick [2, 0] rfl)
  · -- behind
    rintro v12 rfl
    refine W.cond (.pl rfl) (fun hC8 => ?_) (fun hC8 => ?_)
    · replace hF := cpos hC8 hF
      refine W.seqR fun Q9 hQ9 => ?_
      obtain ⟨r18, hr18, hF⟩ := bnd hF
      refine WL.step (WO.callP isGo27 (.nil) rfl (fun wz hw => alibkeep_rowsLives_ok (hr18) wz ) ?_)
      refine WL.q (Y.assign (.pl rfl)) rfl ?_
      refine WL.next hQ9 (.cons (i := 2) rfl (.nil)) ?_
      obtain rfl := Option.some.inj hF
      refine W.retV (fn := Try.f8) (vs := [.bool r18]) Try.results8 ⟨.tmp rfl, trivial⟩ (fun _ _ h => h) (fun wz hw => ?_)
      exact hR _ _ ⟨rfl, (hw.pick [] rfl)⟩
    · replace hF := cneg hC8 hF
      refine W.skip ?_
      refine W.go hK4 (.cons (i := 0) rfl (.cons (i := 3) rfl (.cons (i := 4) rfl (.cons (i := 6) rfl (.nil))))) ?_
      refine W.seq fun K10 hK10 => ?_
      refine W.seqR fun Q11 hQ11 => ?_
      refine WL.q (Y.move (.pl rfl)) rfl ?_
      refine WL.next hQ11 (.cons (i := 0) rfl (.cons (i := 4) rfl (.cons (i := 6) rfl (.cons (i := 45) rfl (.nil))))) ?_
      refine W.cond (.pl rfl) (fun hC12 => ?_) (fun hC12 => ?_)
      · replace hF := cpos hC12 hF
        refine W.seqR fun Q13 hQ13 => ?_
        refine WL.q (Y.assign (.pl rfl)) rfl ?_
        refine WL.next hQ13 (.cons (i := 2) rfl (.nil)) ?_
        obtain rfl := Option.some.inj hF
        refine W.retV (fn := Try.f8) (vs := [.bool true]) Try.results8 ⟨.tmp rfl, trivial⟩ (fun _ _ h => h) (fun wz hw => ?_)
        exact hR _ _ ⟨rfl, (hw.pick [] rfl)⟩
      · replace hF := cneg hC12 hF
        refine W.skip ?_
        refine W.go hK10 (.cons (i := 0) rfl (.cons (i := 4) rfl (.cons (i := 6) rfl (.nil)))) ?_
        refine W.seqR fun Q14 hQ14 => ?_
        refine WL.q (Y.assign (.pl rfl)) rfl ?_
        refine WL.next hQ14 (.cons (i := 0) rfl (.cons (i := 4) rfl (.cons (i := 6) rfl (.nil)))) ?_
        obtain ⟨o15, hF15, hF⟩ := bnd hF
        refine W.join3 (Em := fun (some21 : (List Int)) (A19 : Option Addr) (c20 : Nat) => [(9, .slice A19 (some21).length c20)]) (M := fun some21 A19 c20 => [cBx b7 58 (encBad (Bad.mk r6.2.1 r6.2.2.1 r6.2.2.2.1)), cR encCall 7 A10 c11 64 r9.1, cR (eI .i64) 1 A19 c20 3 some21]) (I := fun some21 A19 c20 => (.inl some21) = o15) (.cons (i := 0) rfl (.cons (i := 4) rfl (.cons (i := 6) rfl (.nil)))) (fun K16 hK16 => ?_) ?_
        · -- up to
          refine W.seqR fun Q17 hQ17 => ?_
          refine WL.q (Y.fieldAddr0 (off := 0) (ft := 3) Try.underlying58 rfl cells3 (.pl rfl)) rfl ?_
          refine WL.q (Y.loadB (v := .int .i64 r6.2.1) Try.underlying3 rfl (.pl rfl) (i := 0) rfl (rfl)) rfl ?_
          refine WL.next hQ17 (.cons (i := 0) rfl (.cons (i := 4) rfl (.cons (i := 6) rfl (.cons (i := 47) rfl (.nil))))) ?_
          refine W.block ?_
          refine W.seqR fun Q18 hQ18 => ?_
          refine WL.q (Y.eql (.pl rfl) (.pl rfl)) rfl ?_
          refine WL.q (Y.assign (.pl rfl)) rfl ?_
          refine WL.next hQ18 (.cons (i := 0) rfl (.cons (i := 4) rfl (.cons (i := 6) rfl (.cons (i := 47) rfl (.cons (i := 48) rfl (.nil)))))) ?_
          refine W.cond (.pl rfl) (fun hC19 => ?_) (fun hC19 => ?_)
          · replace hF15 := cpos hC19 hF15
            refine W.reg ?_
            refine WL.q (Y.fieldAddr0 (off := 1) (ft := 3) Try.underlying58 rfl cells3 (.pl rfl)) rfl ?_
            refine WL.q (Y.loadB (v := .int .i64 r6.2.2.1) Try.underlying3 rfl (.pl rfl) (i := 0) rfl (rfl)) rfl ?_
            refine WL.q (Y.fieldAddr0 (off := 2) (ft := 3) Try.underlying58 rfl cells3 (.pl rfl)) rfl ?_
            refine WL.q (Y.loadB (v := .int .i64 r6.2.2.2.1) Try.underlying3 rfl (.pl rfl) (i := 0) rfl (rfl)) rfl ?_
            refine WL.step (WO.bsliceC (enc := (eI .i64)) (ys := ([r6.2.2.1, r6.2.2.2.1] : List Int)) Try.underlying23 bz3 (.cons (.pl rfl) (.cons (.pl rfl) (.nil))) rfl (fun _ => rfl) rfl rfl (by decide) (by decide) rfl fun b22 => ?_)
            refine WL.q (Y.assign (.pl rfl)) rfl ?_
            refine WL.nil ?_
            exact W.joinAt3 hK16 ([r6.2.2.1, r6.2.2.2.1] : List Int) (some ⟨b22, 0, none⟩) ((([r6.2.2.1, r6.2.2.2.1] : List Int)).length) (Option.some.inj hF15) (.cons rfl (.nil)) (.cons (i := 0) rfl (.cons (i := 4) rfl (.cons (i := 6) rfl (.nil)))) (fun wz hw => hw.pick [1, 2, 0] rfl)
          · replace hF15 := cneg hC19 hF15
            obtain ⟨o21, hF21, hF15⟩ := bnd hF15
            refine W.join1 (Em := fun (v23 : Bool) => [(55, .bool v23)]) (M := fun v23 => [cBx b7 58 (encBad (Bad.mk r6.2.1 r6.2.2.1 r6.2.2.2.1)), cR encCall 7 A10 c11 64 r9.1]) (I := fun v23 => v23 = o21) (.cons (i := 0) rfl (.cons (i := 4) rfl (.cons (i := 6) rfl (.nil)))) (fun K22 hK22 => ?_) ?_
            · -- up to
              refine W.seqR fun Q23 hQ23 => ?_
              refine WL.q (Y.eql (.pl rfl) (.pl rfl)) rfl ?_
              refine WL.q (Y.assign (.pl rfl)) rfl ?_
              refine WL.next hQ23 (.cons (i := 0) rfl (.cons (i := 4) rfl (.cons (i := 6) rfl (.cons (i := 47) rfl (.cons (i := 55) rfl (.nil)))))) ?_
              refine W.cond (.pl rfl) (fun hC24 => ?_) (fun hC24 => ?_)
              · replace hF21 := cpos hC24 hF21
                refine W.skip ?_
                exact W.joinAt1 hK22 (decide (r6.2.1 = 1)) (Option.some.inj hF21) (.cons rfl (.nil)) (.cons (i := 0) rfl (.cons (i := 4) rfl (.cons (i := 6) rfl (.nil)))) (fun wz hw => hw.pick [0, 1] rfl)
              · replace hF21 := cneg hC24 hF21
                refine W.seqR fun Q25 hQ25 => ?_
                refine WL.q (Y.eql (.pl rfl) (.pl rfl)) rfl ?_
                refine WL.q (Y.assign (.pl rfl)) rfl ?_
                refine WL.next hQ25 (.cons (i := 0) rfl (.cons (i := 4) rfl (.cons (i := 6) rfl (.cons (i := 47) rfl (.cons (i := 55) rfl (.nil)))))) ?_
                refine W.cond (.pl rfl) (fun hC26 => ?_) (fun hC26 => ?_)
                · replace hF21 := cpos hC26 hF21
                  refine W.skip ?_
                  exact W.joinAt1 hK22 (decide (r6.2.1 = 2)) (Option.some.inj hF21) (.cons rfl (.nil)) (.cons (i := 0) rfl (.cons (i := 4) rfl (.cons (i := 6) rfl (.nil)))) (fun wz hw => hw.pick [0, 1] rfl)
                · replace hF21 := cneg hC26 hF21
                  refine W.reg ?_
                  refine WL.q (Y.eql (.pl rfl) (.pl rfl)) rfl ?_
                  refine WL.q (Y.assign (.pl rfl)) rfl ?_
                  refine WL.nil ?_
                  exact W.joinAt1 hK22 (decide (r6.2.1 = 3)) (Option.some.inj hF21) (.cons rfl (.nil)) (.cons (i := 0) rfl (.cons (i := 4) rfl (.cons (i := 6) rfl (.nil)))) (fun wz hw => hw.pick [0, 1] rfl)
            · -- behind
              rintro v23 rfl
              refine W.cond (.pl rfl) (fun hC28 => ?_) (fun hC28 => ?_)
              · replace hF15 := cpos hC28 hF15
                refine W.seq fun K29 hK29 => ?_
                refine W.seqR fun Q30 hQ30 => ?_
                refine WL.q (Y.fieldAddr0 (off := 1) (ft := 3) Try.underlying58 rfl cells3 (.pl rfl)) rfl ?_
                refine WL.q (Y.loadB (v := .int .i64 r6.2.2.1) Try.underlying3 rfl (.pl rfl) (i := 0) rfl (rfl)) rfl ?_
                refine WL.q (Y.lss (.pl rfl) (.pl rfl)) rfl ?_
                refine WL.q (Y.move (.pl rfl)) rfl ?_
                refine WL.g (.pl rfl rfl rfl) (fun hg => Y.fieldAddr0 (off := 1) (ft := 3) Try.underlying58 rfl cells3 (.pl rfl)) rfl ?_
                refine WL.g (.pl rfl rfl rfl) (fun hg => Y.loadB (v := .int .i64 r6.2.2.1) Try.underlying3 rfl (.gd (hg) rfl) (i := 0) rfl (rfl)) rfl ?_
                refine WL.g (.pl rfl rfl rfl) (fun hg => Y.move (.pl rfl)) rfl ?_
                refine WL.g (.pl rfl rfl rfl) (fun hg => Y.len Try.underlying35 (.gd (hg) rfl)) rfl ?_
                refine WL.g (.pl rfl rfl rfl) (fun hg => Y.geq (.gd (hg) rfl) (.gd (hg) rfl)) rfl ?_
                refine WL.q (Y.or (.pl rfl) (fun h2 => .gd (eqf h2) rfl)) rfl ?_
                refine WL.next hQ30 (.cons (i := 0) rfl (.cons (i := 4) rfl (.cons (i := 6) rfl (.cons (i := 68) rfl (.nil))))) ?_
                refine W.cond (.pl rfl) (fun hC31 => ?_) (fun hC31 => ?_)
                · replace hF15 := cpos hC31 hF15
                  refine W.seqR fun Q32 hQ32 => ?_
                  refine WL.q (Y.assign (.pl rfl)) rfl ?_
                  refine WL.next hQ32 (.cons (i := 2) rfl (.nil)) ?_
                  obtain rfl := Option.some.inj hF15
                  obtain rfl := Option.some.inj hF
                  refine W.retV (fn := Try.f8) (vs := [.bool false]) Try.results8 ⟨.tmp rfl, trivial⟩ (fun _ _ h => h) (fun wz hw => ?_)
                  exact hR _ _ ⟨rfl, (hw.pick [] rfl)⟩
                · replace hF15 := cneg hC31 hF15
                  refine W.skip ?_
                  refine W.go hK29 (.cons (i := 0) rfl (.cons (i := 4) rfl (.cons (i := 6) rfl (.nil)))) ?_
                  refine W.reg ?_
                  refine WL.q (Y.move (.pl rfl)) rfl ?_
                  refine WL.q (Y.fieldAddr0 (off := 1) (ft := 3) Try.underlying58 rfl cells3 (.pl rfl)) rfl ?_
                  refine WL.q (Y.loadB (v := .int .i64 r6.2.2.1) Try.underlying3 rfl (.pl rfl) (i := 0) rfl (rfl)) rfl ?_
                  obtain ⟨x24, hx24, hF15⟩ := bnd hF15
                  refine WL.q (Y.rowEl Try.underlying35 cells64 (i := 1) rfl (.pl rfl) rfl (.pl rfl) (ix_lt (hx24))) rfl ?_
                  refine WL.q (Y.rowField (off := 4) (ft := 3) Try.underlying64 rfl cells3 (i' := 1) rfl (ix_lt (hx24)) (.pl rfl)) rfl ?_
                  refine WL.q (Y.loadR (enc := encCall) (v := .int .i64 x24.res) (a := x24) (idx := r6.2.2.1) (j := 4) Try.underlying3 rfl lenCall (i := 1) rfl (.pl rfl) (ix_get (hx24)) rfl rfl) rfl ?_
                  refine WL.step (WO.bsliceC (enc := (eI .i64)) (ys := ([x24.res] : List Int)) Try.underlying23 bz3 (.cons (.pl rfl) (.nil)) rfl (fun _ => rfl) rfl rfl (by decide) (by decide) rfl fun b25 => ?_)
                  refine WL.q (Y.assign (.pl rfl)) rfl ?_
                  refine WL.nil ?_
                  exact W.joinAt3 hK16 ([x24.res] : List Int) (some ⟨b25, 0, none⟩) ((([x24.res] : List Int)).length) (Option.some.inj hF15) (.cons rfl (.nil)) (.cons (i := 0) rfl (.cons (i := 4) rfl (.cons (i := 6) rfl (.nil)))) (fun wz hw => hw.pick [1, 2, 0] rfl)
              · replace hF15 := cneg hC28 hF15
                refine W.seqR fun Q34 hQ34 => ?_
                refine WL.q (Y.assign (.pl rfl)) rfl ?_
                refine WL.next hQ34 (.cons (i := 2) rfl (.nil)) ?_
                obtain rfl := Option.some.inj hF15
                obtain rfl := Option.some.inj hF
                refine W.retV (fn := Try.f8) (vs := [.bool false]) Try.results8 ⟨.tmp rfl, trivial⟩ (fun _ _ h => h) (fun wz hw => ?_)
                exact hR _ _ ⟨rfl, (hw.pick [] rfl)⟩
        · -- behind
          rintro some21 A19 c20 rfl
          refine W.seqR fun Q35 hQ35 => ?_
          refine WL.q (Y.assign (.pl rfl)) rfl ?_
          refine WL.next hQ35 (.cons (i := 0) rfl (.cons (i := 4) rfl (.cons (i := 6) rfl (.cons (i := 9) rfl (.cons (i := 10) rfl (.nil)))))) ?_
          obtain ⟨o36, hF36, hF⟩ := bnd hF
          refine W.join3 (Em := fun (m28 : (List Event)) (A26 : Option Addr) (c27 : Nat) => [(10, .slice A26 (m28).length c27)]) (M := fun m28 A26 c27 => [cBx b7 58 (encBad (Bad.mk r6.2.1 r6.2.2.1 r6.2.2.2.1)), cR encEvent 4 A26 c27 31 m28]) (I := fun m28 A26 c27 => m28 = o36) (.cons (i := 4) rfl (.nil)) (fun K37 hK37 => ?_) ?_
          · -- up to
            refine W.seqR fun Q38 hQ38 => ?_
            refine WL.q (Y.move (.pl rfl)) rfl ?_
            refine WL.q (Y.len Try.underlying24 (.pl rfl)) rfl ?_
            refine WL.q (Y.move (.pl rfl)) rfl ?_
            refine WL.next hQ38 (.cons (i := 4) rfl (.cons (i := 6) rfl (.cons (i := 9) rfl (.cons (i := 10) rfl (.cons (i := 76) rfl (.cons (i := 77) rfl (.cons (i := 78) rfl (.nil)))))))) ?_
            refine W.block ?_
            refine W.loop4 (Em := fun (m31 : (List Event)) (v32 : Int) (A29 : Option Addr) (c30 : Nat) => [(10, .slice A29 (m31).length c30), (78, .int .i64 v32)]) (M := fun m31 v32 A29 c30 => [cBx b7 58 (encBad (Bad.mk r6.2.1 r6.2.2.1 r6.2.2.2.1)), cR encCall 7 A10 c11 64 r9.1, cR (eI .i64) 1 A19 c20 3 some21, cR encEvent 4 A29 c30 31 m31]) (I := fun m31 v32 A29 c30 k39 => iter (alibkeep_RowsPairs_L25 N l1 r9 some21) k39 (m31, v32) = some o36) [] 0 none 0 N (hF36) (.cons rfl (.cons rfl (.nil))) (.cons (i := 4) rfl (.cons (i := 6) rfl (.cons (i := 9) rfl (.cons (i := 76) rfl (.cons (i := 77) rfl (.nil)))))) (fun wz hw => (St.nilR (hw.pick [0, 1, 2] rfl) encEvent 4 31).pick [1, 2, 3, 0] rfl) (fun m31 v32 A29 c30 k39 hI K40 hK40 => ?_)
            obtain ⟨k39, t39, rfl, hF39, hN39⟩ := iter_step hI
            refine W.seqR fun Q41 hQ41 => ?_
            refine WL.q (Y.lss (.pl rfl) (.pl rfl)) rfl ?_
            refine WL.next hQ41 (.cons (i := 4) rfl (.cons (i := 6) rfl (.cons (i := 9) rfl (.cons (i := 10) rfl (.cons (i := 76) rfl (.cons (i := 77) rfl (.cons (i := 78) rfl (.cons (i := 79) rfl (.nil))))))))) ?_
            refine W.seq fun K42 hK42 => ?_
            refine W.cond (.pl rfl) (fun hC43 => ?_) (fun hC43 => ?_)
            · replace hF39 := cpos hC43 hF39
              refine W.skip ?_
              refine W.go hK42 (.cons (i := 4) rfl (.cons (i := 6) rfl (.cons (i := 9) rfl (.cons (i := 10) rfl (.cons (i := 76) rfl (.cons (i := 77) rfl (.cons (i := 78) rfl (.nil)))))))) ?_
              obtain ⟨o44, hF44, hF39⟩ := bnd hF39
              refine W.join3 (Em := fun (m35 : (List Event)) (A33 : Option Addr) (c34 : Nat) => [(10, .slice A33 (m35).length c34)]) (M := fun m35 A33 c34 => [cBx b7 58 (encBad (Bad.mk r6.2.1 r6.2.2.1 r6.2.2.2.1)), cR encCall 7 A10 c11 64 r9.1, cR (eI .i64) 1 A19 c20 3 some21, cR encEvent 4 A33 c34 31 m35]) (I := fun m35 A33 c34 => m35 = o44) (.cons (i := 4) rfl (.cons (i := 6) rfl (.cons (i := 9) rfl (.cons (i := 76) rfl (.cons (i := 77) rfl (.cons (i := 78) rfl (.nil))))))) (fun K45 hK45 => ?_) ?_
              · -- up to
                refine W.block ?_
                refine W.seqR fun Q46 hQ46 => ?_
                refine WL.q (Y.move (.pl rfl)) rfl ?_
                obtain ⟨x36, hx36, hF44⟩ := bnd hF44
                refine WL.q (Y.slEl Try.underlying24 cells31 hs4 (.pl rfl) (.pl rfl) (ix_lt (hx36))) rfl ?_
                refine WL.q (Y.loadSA (enc := encEvent) (ds := (encEvent x36)) (j := 0) Try.underlying31 rfl cells31 hs4 (.pl rfl) (hx36) rfl rfl subW) rfl ?_
                refine WL.step (WO.alloc (cs := (encEvent (Event.mk 0 0 0 0)).toArray) zero31 rfl rfl fun b37 => ?_)
                refine WL.q (Y.assign (.pl rfl)) rfl ?_
                refine WL.step (WO.storeBA (ds := (encEvent x36)) (cs' := (encEvent x36)) cells31 (.pl rfl) (.pl rfl) rfl (oneEvent _) (i := 0) rfl (lel (o := 0) (l := 4) (m := 4) (by decide) rfl rfl) (putW rfl) ?_)
                refine WL.next hQ46 (.cons (i := 4) rfl (.cons (i := 6) rfl (.cons (i := 9) rfl (.cons (i := 10) rfl (.cons (i := 11) rfl (.cons (i := 12) rfl (.cons (i := 76) rfl (.cons (i := 77) rfl (.cons (i := 78) rfl (.nil)))))))))) ?_
                refine W.seqR fun Q47 hQ47 => ?_
                refine WL.q (Y.move (.pl rfl)) rfl ?_
                refine WL.q (Y.len Try.underlying35 (.pl rfl)) rfl ?_
                refine WL.q (Y.move (.pl rfl)) rfl ?_
                refine WL.next hQ47 (.cons (i := 4) rfl (.cons (i := 6) rfl (.cons (i := 9) rfl (.cons (i := 10) rfl (.cons (i := 11) rfl (.cons (i := 12) rfl (.cons (i := 76) rfl (.cons (i := 77) rfl (.cons (i := 78) rfl (.cons (i := 83) rfl (.cons (i := 84) rfl (.cons (i := 85) rfl (.nil))))))))))))) ?_
                refine W.block ?_
                refine W.loop4 (Em := fun (m40 : (List Event)) (v41 : Int) (A38 : Option Addr) (c39 : Nat) => [(10, .slice A38 (m40).length c39), (85, .int .i64 v41)]) (M := fun m40 v41 A38 c39 => [cBx b7 58 (encBad (Bad.mk r6.2.1 r6.2.2.1 r6.2.2.2.1)), cR encCall 7 A10 c11 64 r9.1, cR (eI .i64) 1 A19 c20 3 some21, cR encEvent 4 A38 c39 31 m40, cBx b37 31 (encEvent x36)]) (I := fun m40 v41 A38 c39 k48 => iter (alibkeep_RowsPairs_L27 N r9 v32 some21 x36) k48 (m40, v41) = some o44) m31 0 A29 c30 N (hF44) (.cons rfl (.cons rfl (.nil))) (.cons (i := 4) rfl (.cons (i := 6) rfl (.cons (i := 9) rfl (.cons (i := 11) rfl (.cons (i := 12) rfl (.cons (i := 76) rfl (.cons (i := 77) rfl (.cons (i := 78) rfl (.cons (i := 83) rfl (.cons (i := 84) rfl (.nil))))))))))) (fun wz hw => hw.pick [1, 2, 3, 4, 0] rfl) (fun m40 v41 A38 c39 k48 hI K49 hK49 => ?_)
                obtain ⟨k48, t48, rfl, hF48, hN48⟩ := iter_step hI
                refine W.seqR fun Q50 hQ50 => ?_
                refine WL.q (Y.lss (.pl rfl) (.pl rfl)) rfl ?_
                refine WL.next hQ50 (.cons (i := 4) rfl (.cons (i := 6) rfl (.cons (i := 9) rfl (.cons (i := 10) rfl (.cons (i := 11) rfl (.cons (i := 12) rfl (.cons (i := 76) rfl (.cons (i := 77) rfl (.cons (i := 78) rfl (.cons (i := 83) rfl (.cons (i := 84) rfl (.cons (i := 85) rfl (.cons (i := 86) rfl (.nil)))))))))))))) ?_
                refine W.seq fun K51 hK51 => ?_
                refine W.cond (.pl rfl) (fun hC52 => ?_) (fun hC52 => ?_)
                · replace hF48 := cpos hC52 hF48
                  refine W.skip ?_
                  refine W.go hK51 (.cons (i := 4) rfl (.cons (i := 6) rfl (.cons (i := 9) rfl (.cons (i := 10) rfl (.cons (i := 11) rfl (.cons (i := 12) rfl (.cons (i := 76) rfl (.cons (i := 77) rfl (.cons (i := 78) rfl (.cons (i := 83) rfl (.cons (i := 84) rfl (.cons (i := 85) rfl (.nil))))))))))))) ?_
                  refine W.seq fun K53 hK53 => ?_
                  refine W.block ?_
                  refine W.seqR fun Q54 hQ54 => ?_
                  obtain ⟨x42, hx42, hF48⟩ := bnd hF48
                  refine WL.q (Y.rowEl Try.underlying35 cells64 (i := 1) rfl (.pl rfl) rfl (.pl rfl) (ix_lt (hx42))) rfl ?_
                  refine WL.q (Y.loadRA (enc := encCall) (ds := (encCall x42)) (a := x42) (idx := v41) (j := 0) Try.underlying64 rfl cells64 lenCall (i := 1) rfl (.pl rfl) (ix_get (hx42)) rfl rfl subW) rfl ?_
                  refine WL.step (WO.alloc (cs := (encCall (Call.mk 0 0 0 0 0 0 0)).toArray) zero64 rfl rfl fun b43 => ?_)
                  refine WL.step (WO.storeBA (ds := (encCall x42)) (cs' := (encCall x42)) cells64 (.pl rfl) (.pl rfl) rfl (oneCall _) (i := 0) rfl (lel (o := 0) (l := 7) (m := 7) (by decide) rfl rfl) (putW rfl) ?_)
                  refine WL.next hQ54 (.cons (i := 4) rfl (.cons (i := 6) rfl (.cons (i := 9) rfl (.cons (i := 10) rfl (.cons (i := 11) rfl (.cons (i := 12) rfl (.cons (i := 14) rfl (.cons (i := 76) rfl (.cons (i := 77) rfl (.cons (i := 78) rfl (.cons (i := 83) rfl (.cons (i := 84) rfl (.cons (i := 85) rfl (.nil)))))))))))))) ?_
                  refine W.seqR fun Q55 hQ55 => ?_
                  refine WL.q (Y.fieldAddr0 (off := 5) (ft := 3) Try.underlying64 rfl cells3 (.pl rfl)) rfl ?_
                  refine WL.q (Y.loadB (v := .int .i64 x42.from_) Try.underlying3 rfl (.pl rfl) (i := 0) rfl (rfl)) rfl ?_
                  refine WL.q (Y.move (.pl rfl)) rfl ?_
                  refine WL.q (Y.eql (.pl rfl) (.pl rfl)) rfl ?_
                  refine WL.q (Y.move (.pl rfl)) rfl ?_
                  refine WL.g (.pl rfl rfl rfl) (fun hg => Y.fieldAddr0 (off := 6) (ft := 3) Try.underlying64 rfl cells3 (.pl rfl)) rfl ?_
                  refine WL.g (.pl rfl rfl rfl) (fun hg => Y.loadB (v := .int .i64 x42.to_) Try.underlying3 rfl (.gd (hg) rfl) (i := 0) rfl (rfl)) rfl ?_
                  refine WL.g (.pl rfl rfl rfl) (fun hg => Y.move (.pl rfl)) rfl ?_
                  refine WL.g (.pl rfl rfl rfl) (fun hg => Y.eql (.gd (hg) rfl) (.gd (hg) rfl)) rfl ?_
                  refine WL.q (Y.or (.pl rfl) (fun h2 => .gd (eqf h2) rfl)) rfl ?_
                  refine WL.q (Y.move (.pl rfl)) rfl ?_
                  refine WL.g (.pl rfl rfl rfl) (fun hg => Y.move (.pl rfl)) rfl ?_
                  refine WL.g (.pl rfl rfl rfl) (fun hg => Y.fieldAddr0 (off := 3) (ft := 3) Try.underlying64 rfl cells3 (.pl rfl)) rfl ?_
                  refine WL.g (.pl rfl rfl rfl) (fun hg => Y.loadB (v := .int .i64 x42.arg) Try.underlying3 rfl (.gd (hg) rfl) (i := 0) rfl (rfl)) rfl ?_
                  refine WL.g (.pl rfl rfl rfl) (fun hg => Y.fieldAddr0 (off := 4) (ft := 3) Try.underlying64 rfl cells3 (.pl rfl)) rfl ?_
                  refine WL.g (.pl rfl rfl rfl) (fun hg => Y.loadB (v := .int .i64 x42.res) Try.underlying3 rfl (.gd (hg) rfl) (i := 0) rfl (rfl)) rfl ?_
                  refine WL.g (.pl rfl rfl rfl) (fun hg => Y.max (.gd (hg) rfl) (.gd (hg) rfl)) rfl ?_
                  obtain ⟨r44, hr44, hF48⟩ := bnd hF48
                  refine WL.gP (.pl rfl rfl rfl) isGo28 (fun hg => (.cons (.gd (hg) rfl) (.cons (.gd (hg) rfl) (.nil)))) rfl (fun hg wz hw => slices_Contains_int_int_ok (gpos hg hr44) wz (SlIn.ofRow (fun _ => rfl) hw (i := 3) rfl)) ?_
                  refine WL.q (Y.and (.pl rfl) (fun h2 => .gd (eqt h2) rfl)) rfl ?_
                  refine WL.next hQ55 (.cons (i := 4) rfl (.cons (i := 6) rfl (.cons (i := 9) rfl (.cons (i := 10) rfl (.cons (i := 11) rfl (.cons (i := 12) rfl (.cons (i := 76) rfl (.cons (i := 77) rfl (.cons (i := 78) rfl (.cons (i := 83) rfl (.cons (i := 84) rfl (.cons (i := 85) rfl (.cons (i := 107) rfl (.nil)))))))))))))) ?_
                  refine W.cond (.pl rfl) (fun hC56 => ?_) (fun hC56 => ?_)
                  · replace hF48 := cpos hC56 hF48
                    refine W.reg ?_
                    refine WL.q (Y.move (.pl rfl)) rfl ?_
                    refine WL.q (Y.loadBA (ds := (encEvent x36)) Try.underlying31 rfl cells31 (.pl rfl) (i := 5) rfl rfl subW) rfl ?_
                    refine WL.step (WO.bsliceC (enc := encEvent) (ys := ([x36] : List Event)) Try.underlying24 bz31 (.cons (.pl rfl) (.nil)) rfl lenEvent rfl rfl (by decide) (by decide) rfl fun b45 => ?_)
                    obtain ⟨hk48, hF48⟩ := ckh hF48
                    refine WL.step (WO.appendC (enc := encEvent) Try.underlying24 ap31 lenEvent oneEvent (.pl rfl) rfl (.pl rfl) (i := 5) rfl (m2 := 0) rfl (hk48) rfl fun A46 c47 => ?_)
                    refine WL.q (Y.assign (.pl rfl)) rfl ?_
                    refine WL.nil ?_
                    refine W.go hK53 (.cons (i := 4) rfl (.cons (i := 6) rfl (.cons (i := 9) rfl (.cons (i := 10) rfl (.cons (i := 11) rfl (.cons (i := 12) rfl (.cons (i := 76) rfl (.cons (i := 77) rfl (.cons (i := 78) rfl (.cons (i := 83) rfl (.cons (i := 84) rfl (.cons (i := 85) rfl (.nil))))))))))))) ?_
                    refine W.reg ?_
                    obtain ⟨hk49, hF48⟩ := ckh hF48
                    refine WL.q (Y.add (.pl rfl) (.pl rfl) (ok64_lt (hk49))) rfl ?_
                    refine WL.q (Y.move (.pl rfl)) rfl ?_
                    refine WL.nil ?_
                    obtain rfl := Option.some.inj hF48
                    exact W.again4 hK49 (m40 ++ ([x36] : List Event)) (v41 + 1) A46 c47 k48 hN48 (Nat.lt_succ_self _) (.cons rfl (.cons rfl (.nil))) (.cons (i := 4) rfl (.cons (i := 6) rfl (.cons (i := 9) rfl (.cons (i := 11) rfl (.cons (i := 12) rfl (.cons (i := 76) rfl (.cons (i := 77) rfl (.cons (i := 78) rfl (.cons (i := 83) rfl (.cons (i := 84) rfl (.nil))))))))))) (fun wz hw => hw.pick [2, 3, 4, 5, 6] rfl)
                  · replace hF48 := cneg hC56 hF48
                    refine W.skip ?_
                    refine W.go hK53 (.cons (i := 4) rfl (.cons (i := 6) rfl (.cons (i := 9) rfl (.cons (i := 10) rfl (.cons (i := 11) rfl (.cons (i := 12) rfl (.cons (i := 76) rfl (.cons (i := 77) rfl (.cons (i := 78) rfl (.cons (i := 83) rfl (.cons (i := 84) rfl (.cons (i := 85) rfl (.nil))))))))))))) ?_
                    refine W.reg ?_
                    obtain ⟨hk50, hF48⟩ := ckh hF48
                    refine WL.q (Y.add (.pl rfl) (.pl rfl) (ok64_lt (hk50))) rfl ?_
                    refine WL.q (Y.move (.pl rfl)) rfl ?_
                    refine WL.nil ?_
                    obtain rfl := Option.some.inj hF48
                    exact W.again4 hK49 m40 (v41 + 1) A38 c39 k48 hN48 (Nat.lt_succ_self _) (.cons rfl (.cons rfl (.nil))) (.cons (i := 4) rfl (.cons (i := 6) rfl (.cons (i := 9) rfl (.cons (i := 11) rfl (.cons (i := 12) rfl (.cons (i := 76) rfl (.cons (i := 77) rfl (.cons (i := 78) rfl (.cons (i := 83) rfl (.cons (i := 84) rfl (.nil))))))))))) (fun wz hw => hw.pick [1, 2, 3, 4, 5] rfl)
                · replace hF48 := cneg hC52 hF48
                  refine W.exit ?_
                  obtain rfl := Option.some.inj hF48
                  exact W.joinAt3 hK45 m40 A38 c39 (einr hN48) (.cons rfl (.nil)) (.cons (i := 4) rfl (.cons (i := 6) rfl (.cons (i := 9) rfl (.cons (i := 76) rfl (.cons (i := 77) rfl (.cons (i := 78) rfl (.nil))))))) (fun wz hw => hw.pick [0, 1, 2, 3] rfl)
              · -- behind
                rintro m35 A33 c34 rfl
                refine W.reg ?_
                obtain ⟨hk51, hF39⟩ := ckh hF39
                refine WL.q (Y.add (.pl rfl) (.pl rfl) (ok64_lt (hk51))) rfl ?_
                refine WL.q (Y.move (.pl rfl)) rfl ?_
                refine WL.nil ?_
                obtain rfl := Option.some.inj hF39
                exact W.again4 hK40 m35 (v32 + 1) A33 c34 k39 hN39 (Nat.lt_succ_self _) (.cons rfl (.cons rfl (.nil))) (.cons (i := 4) rfl (.cons (i := 6) rfl (.cons (i := 9) rfl (.cons (i := 76) rfl (.cons (i := 77) rfl (.nil)))))) (fun wz hw => hw.pick [0, 1, 2, 3] rfl)
            · replace hF39 := cneg hC43 hF39
              refine W.exit ?_
              obtain rfl := Option.some.inj hF39
              exact W.joinAt3 hK37 m31 A29 c30 (einr hN39) (.cons rfl (.nil)) (.cons (i := 4) rfl (.nil)) (fun wz hw => hw.pick [0, 3] rfl)
          · -- behind
            rintro m28 A26 c27 rfl
            refine W.seqR fun Q61 hQ61 => ?_
            refine WL.q (Y.move (.pl rfl)) rfl ?_
            obtain ⟨r52, hr52, hF⟩ := bnd hF
            refine WL.step (WO.callP isGo26 (.cons (.pl rfl) (.nil)) rfl (fun wz hw => rows_Check_ok (hr52) wz (SlIn.ofRow lenEvent hw (i := 1) rfl)) ?_)
            refine WL.q (Y.move (.pl rfl)) rfl ?_
            refine WL.q (Y.extract (.pl rfl) rfl) rfl ?_
            refine WL.q (Y.extract (.pl rfl) rfl) rfl ?_
            refine WL.q (Y.extract (.pl rfl) rfl) rfl ?_
            refine WL.step (WO.alloc (cs := (encBad (Bad.mk 0 0 0)).toArray) zero58 rfl rfl fun b53 => ?_)
            refine WL.q (Y.assign (.pl rfl)) rfl ?_
            refine WL.step (WO.storeBA (ds := (encBad (Bad.mk r52.2.1 r52.2.2.1 r52.2.2.2.1))) (cs' := (encBad (Bad.mk r52.2.1 r52.2.2.1 r52.2.2.2.1))) cells58 (.pl rfl) (.pl rfl) rfl (oneBad _) (i := 0) rfl (lel (o := 0) (l := 3) (m := 3) (by decide) rfl rfl) (putW rfl) ?_)
            refine WL.q (Y.assign (.pl rfl)) rfl ?_
            refine WL.next hQ61 (.cons (i := 4) rfl (.cons (i := 15) rfl (.cons (i := 16) rfl (.cons (i := 17) rfl (.nil))))) ?_
            refine W.seqR fun Q62 hQ62 => ?_
            refine WL.q (Y.move (.pl rfl)) rfl ?_
            refine WL.q (Y.eql (.pl rfl) (.pl rfl)) rfl ?_
            refine WL.q (Y.move (.pl rfl)) rfl ?_
            refine WL.g (.pl rfl rfl rfl) (fun hg => Y.move (.pl rfl)) rfl ?_
            refine WL.g (.pl rfl rfl rfl) (fun hg => Y.not (.gd (hg) rfl)) rfl ?_
            refine WL.q (Y.and (.pl rfl) (fun h2 => .gd (eqt h2) rfl)) rfl ?_
            refine WL.q (Y.move (.pl rfl)) rfl ?_
            refine WL.g (.pl rfl rfl rfl) (fun hg => Y.fieldAddr0 (off := 0) (ft := 3) Try.underlying58 rfl cells3 (.pl rfl)) rfl ?_
            refine WL.g (.pl rfl rfl rfl) (fun hg => Y.loadB (v := .int .i64 r52.2.1) Try.underlying3 rfl (.gd (hg) rfl) (i := 0) rfl (rfl)) rfl ?_
            refine WL.g (.pl rfl rfl rfl) (fun hg => Y.fieldAddr0 (off := 0) (ft := 3) Try.underlying58 rfl cells3 (.pl rfl)) rfl ?_
            refine WL.g (.pl rfl rfl rfl) (fun hg => Y.loadB (v := .int .i64 r6.2.1) Try.underlying3 rfl (.gd (hg) rfl) (i := 1) rfl (rfl)) rfl ?_
            refine WL.g (.pl rfl rfl rfl) (fun hg => Y.eql (.gd (hg) rfl) (.gd (hg) rfl)) rfl ?_
            refine WL.q (Y.and (.pl rfl) (fun h2 => .gd (eqt h2) rfl)) rfl ?_
            refine WL.q (Y.assign (.pl rfl)) rfl ?_
            refine WL.next hQ62 (.cons (i := 2) rfl (.nil)) ?_
            obtain rfl := Option.some.inj hF
            refine W.retV (fn := Try.f8) (vs := [.bool (((decide (r52.2.2.2.2 = 0)) && (!r52.1)) && (decide (r52.2.1 = r6.2.1)))]) Try.results8 ⟨.tmp rfl, trivial⟩ (fun _ _ h => h) (fun wz hw => ?_)
            exact hR _ _ ⟨rfl, (hw.pick [] rfl)⟩

end Go.Proofs.Ytgmodmacchdkiaa
