/- RegularLevels: what the code computes, and the walk. -/
import Derived.Test.YteklmleiiiodfaaAR1
import Derived.Test.YteklmleiiiodfaaCut
set_option linter.unusedVariables false
set_option linter.unusedSimpArgs false
set_option linter.unusedSectionVars false
set_option maxRecDepth 100000
namespace Go.Proofs.Yteklmleiiiodfaa
open Go.RowKit
theorem isGo46 : IsGo Try.prog 46 := ⟨_, Try.func46, by kernel_rfl, rfl⟩
theorem isGo47 : IsGo Try.prog 47 := ⟨_, Try.func47, by kernel_rfl, rfl⟩
theorem isGo48 : IsGo Try.prog 48 := ⟨_, Try.func48, by kernel_rfl, rfl⟩
theorem ap34 : ∃ i z, Try.prog.info? 34 = some i ∧ i.zero = some z ∧ i.size = 4 ∧ i.bytes = 32 ∧ z.cells.size = 4 ∧ 0 < 4 := ⟨_, (Value.agg #[(Value.int .i64 0), (Value.int .i64 0), (Value.int .i64 0), (Value.int .i64 0)]), rfl, by kernel_rfl, by kernel_rfl, by kernel_rfl, by kernel_rfl, by decide⟩
/-- slices.Clone -/
theorem slices_Clone_api_Event_api_Event_ok {xs : List Event} (hb : limB 32 xs.length = true) (w : World) {v : Value} (h : SlIn encEvent 4 w v xs) :
    Made Try.prog 47 [v] w (fun g : Option Addr × Nat => .slice g.1 xs.length g.2) (fun g => [cR encEvent 4 g.1 g.2 34 xs]) (fun _ => True) := by
  obtain ⟨A1, c1, rfl, hc1, hs⟩ := h.form
  refine W.enter (n := 8) Try.func47 rfl rfl Sub.refl (by simp) (St.start w) fun R hR => ?_
  refine W.seqR fun Q1 hQ1 => ?_
  refine WL.q (Y.assign (.pl rfl)) rfl ?_
  refine WL.next hQ1 (.cons (i := 0) rfl (.nil)) ?_
  refine W.seq fun K2 hK2 => ?_
  refine W.seqR fun Q3 hQ3 => ?_
  refine WL.q (Y.move (.pl rfl)) rfl ?_
  refine WL.q (Y.eqNil Try.underlying26 (.pl rfl)) rfl ?_
  refine WL.next hQ3 (.cons (i := 0) rfl (.cons (i := 4) rfl (.nil))) ?_
  refine W.cond (.pl rfl) (fun hC => ?_) (fun hC => ?_)
  · refine W.seqR fun Q4 hQ4 => ?_
    refine WL.q (Y.assign (.pl rfl)) rfl ?_
    refine WL.next hQ4 (.cons (i := 2) rfl (.nil)) ?_
    have hx : xs = [] := by
      cases xs with
      | nil => rfl
      | cons a r =>
        have := (hs.okA' (idx := 0) ⟨Int.le_refl _, by simp⟩).1
        rw [Option.isNone_iff_eq_none] at hC
        rw [hC] at this; cases this
    subst hx
    refine W.retV (fn := Try.f47) (vs := [.slice none 0 0]) Try.results47 ⟨.tmp rfl, trivial⟩ (fun _ _ h => h) (fun w hw => ?_)
    exact hR _ _ ⟨(none, 0), trivial, rfl, St.nilR hw encEvent 4 34⟩
  · refine W.skip ?_
    refine W.go hK2 (.cons (i := 0) rfl (.nil)) ?_
    obtain ⟨a1, rfl⟩ : ∃ a, A1 = some a := by cases A1 with
      | none => cases hC
      | some a => exact ⟨a, rfl⟩
    refine W.seqR fun Q5 hQ5 => ?_
    refine WL.step (WO.bsliceC (enc := encEvent) (ys := []) Try.underlying26 bz34 (.nil) rfl lenEvent rfl rfl (by decide) (by decide) rfl fun b => ?_)
    refine WL.q (Y.move (.pl rfl)) rfl ?_
    refine WL.step (WO.appendS (enc := encEvent) (ys := xs) (xs := []) Try.underlying26 ap34 lenEvent oneEvent (.pl rfl) rfl (.pl rfl) (i := 0) rfl (fun w hw => hs.mono hw) (by simpa using hb) rfl fun A c => ?_)
    refine WL.q (Y.assign (.pl rfl)) rfl ?_
    refine WL.next hQ5 (.cons (i := 2) rfl (.nil)) ?_
    refine W.retV (fn := Try.f47) (vs := [.slice A xs.length c]) Try.results47 ⟨.tmp rfl, trivial⟩ (fun _ _ h => h) (fun w hw => ?_)
    exact hR _ _ ⟨(A, c), trivial, rfl, hw⟩

def slices_Delete_api_Event_api_Event (N : Nat) (s3 : (List Event)) (i4 : Int) (j5 : Int) : Option (List Event) :=
  ck (slB (((s3).length : Int)).toNat i4 j5) <|
  ck (slB (s3).length 0 ((s3).length : Int)) <|
  cond (decide (i4 = j5))
    (some s3)
    (ck (slB (s3).length 0 i4) <|
    ck (slB (s3).length j5 ((s3).length : Int)) <|
    ck (slB ((ovr s3 i4.toNat (s3.drop j5.toNat))).length 0 (i4 + (((s3.drop j5.toNat)).length : Int))) <|
    ck (slB ((ovr s3 i4.toNat (s3.drop j5.toNat))).length ((((ovr s3 i4.toNat (s3.drop j5.toNat)).take (i4 + (((s3.drop j5.toNat)).length : Int)).toNat)).length : Int) ((s3).length : Int)) <|
    some ((ovr (ovr s3 i4.toNat (s3.drop j5.toNat)) ((((ovr s3 i4.toNat (s3.drop j5.toNat)).take (i4 + (((s3.drop j5.toNat)).length : Int)).toNat)).length : Int).toNat (List.replicate ((((ovr s3 i4.toNat (s3.drop j5.toNat)).take ((s3).length : Int).toNat).drop ((((ovr s3 i4.toNat (s3.drop j5.toNat)).take (i4 + (((s3.drop j5.toNat)).length : Int)).toNat)).length : Int).toNat)).length (Event.z : Event))).take (i4 + (((s3.drop j5.toNat)).length : Int)).toNat))

theorem slices_Delete_api_Event_api_Event_ok {N : Nat} {s3 : (List Event)} {i4 : Int} {j5 : Int} {A1 : Option Addr} {c2 : Nat} {res : (List Event)} (hF : slices_Delete_api_Event_api_Event N s3 i4 j5 = some res) {w0 w : World} {T : List Chunk} (hw : St w0.heap.size w0 ([cR encEvent 4 A1 c2 34 s3] ++ T) w) :
    Calls Try.prog 48 (List.toArray [.slice A1 (s3).length c2, .int .i64 i4, .int .i64 j5]) w (fun e w' => ∃ g : Unit, (True) ∧ e = .returned (.slice A1 (res).length c2) ∧ St w0.heap.size w0 ([cR encEvent 4 A1 c2 34 res] ++ T) w') := by
  refine W.enter (n := 33) Try.func48 rfl rfl Sub.refl (by simp) hw fun R hR => ?_
  unfold slices_Delete_api_Event_api_Event at hF
  refine W.seqR fun Q1 hQ1 => ?_
  refine WL.q (Y.assign (.pl rfl)) rfl ?_
  refine WL.next hQ1 (.cons (i := 0) rfl (.cons (i := 1) rfl (.cons (i := 2) rfl (.nil)))) ?_
  refine W.seqR fun Q2 hQ2 => ?_
  refine WL.q (Y.move (.pl rfl)) rfl ?_
  refine WL.q (Y.move (.pl rfl)) rfl ?_
  refine WL.q (Y.move (.pl rfl)) rfl ?_
  refine WL.q (Y.move (.pl rfl)) rfl ?_
  refine WL.q (Y.len Try.underlying26 (.pl rfl)) rfl ?_
  obtain ⟨hk6, hF⟩ := ckh hF
  obtain ⟨hk7, hF⟩ := ckh hF
  refine WL.q (Y.slice3 (xs := s3) Try.underlying26 cells34 (i := 0) rfl (.pl rfl) (.pl rfl) (.pl rfl) (.pl rfl) (hk6) (hk7)) rfl ?_
  refine WL.next hQ2 (.cons (i := 0) rfl (.cons (i := 1) rfl (.cons (i := 2) rfl (.nil)))) ?_
  refine W.seq fun K3 hK3 => ?_
  refine W.seqR fun Q4 hQ4 => ?_
  refine WL.q (Y.move (.pl rfl)) rfl ?_
  refine WL.q (Y.move (.pl rfl)) rfl ?_
  refine WL.q (Y.eql (.pl rfl) (.pl rfl)) rfl ?_
  refine WL.next hQ4 (.cons (i := 0) rfl (.cons (i := 1) rfl (.cons (i := 2) rfl (.cons (i := 16) rfl (.nil))))) ?_
  refine W.cond (.pl rfl) (fun hC5 => ?_) (fun hC5 => ?_)
  · replace hF := cpos hC5 hF
    refine W.seqR fun Q6 hQ6 => ?_
    refine WL.q (Y.move (.pl rfl)) rfl ?_
    refine WL.q (Y.assign (.pl rfl)) rfl ?_
    refine WL.next hQ6 (.cons (i := 6) rfl (.nil)) ?_
    obtain rfl := Option.some.inj hF
    refine W.retV (fn := Try.f48) (vs := [.slice A1 (s3).length c2]) Try.results48 ⟨.tmp rfl, trivial⟩ (fun _ _ h => h) (fun wz hw => ?_)
    exact hR _ _ ⟨(), trivial, rfl, (hw.pickK 1 [0] rfl)⟩
  · replace hF := cneg hC5 hF
    refine W.skip ?_
    refine W.go hK3 (.cons (i := 0) rfl (.cons (i := 1) rfl (.cons (i := 2) rfl (.nil)))) ?_
    refine W.seqR fun Q7 hQ7 => ?_
    refine WL.q (Y.move (.pl rfl)) rfl ?_
    refine WL.q (Y.len Try.underlying26 (.pl rfl)) rfl ?_
    refine WL.q (Y.assign (.pl rfl)) rfl ?_
    refine WL.next hQ7 (.cons (i := 0) rfl (.cons (i := 1) rfl (.cons (i := 2) rfl (.cons (i := 7) rfl (.nil))))) ?_
    refine W.seqT 6 (by kernel_rfl) (by kernel_rfl) fun Q8 hQ8 => ?_
    refine WS.q (Y.move (.pl rfl)) rfl ?_
    refine WS.q (Y.move (.pl rfl)) rfl ?_
    obtain ⟨hk8, hF⟩ := ckh hF
    refine WS.q (Y.sliceR0 Try.underlying26 cells34 (i := 0) rfl (.pl rfl) rfl (.pl rfl) (hk8)) rfl ?_
    refine WS.q (Y.move (.pl rfl)) rfl ?_
    refine WS.q (Y.move (.pl rfl)) rfl ?_
    obtain ⟨hk9, hF⟩ := ckh hF
    refine WS.q (Y.sliceR1 Try.underlying26 cells34 (i := 0) rfl (.pl rfl) rfl (.pl rfl) (hk9)) rfl ?_
    refine WS.tail ?_
    obtain ⟨hk10, hF⟩ := ckh hF
    refine WL.step (WO.appendV (enc := encEvent) (sz := 4) (lo := i4) (xs := s3) (ys := (s3.drop j5.toNat)) Try.underlying26 cells34 rfl lenEvent oneEvent (i := 0) rfl (.pl rfl) (by rw [List.length_take]; have := slB_le (hk8); omega) (.pl rfl) (fun wz hw => (SlIn.sub1 (SlIn.ofRow (enc := encEvent) (sz := 4) lenEvent hw (i := 0) rfl) (slB_nat (hk9)).1)) (slB_le (hk8)).2.1 (cutfit (slB_le (hk8)).2.1 (hk10) (ovr_len _ _ _)) rfl ?_)
    refine WL.q (Y.assign (.pl rfl)) rfl ?_
    refine WL.next hQ8 (.cons (i := 0) rfl (.cons (i := 7) rfl (.nil))) ?_
    refine W.seqR fun Q9 hQ9 => ?_
    refine WL.q (Y.move (.pl rfl)) rfl ?_
    refine WL.q (Y.move (.pl rfl)) rfl ?_
    refine WL.q (Y.len Try.underlying26 (.pl rfl)) rfl ?_
    refine WL.q (Y.move (.pl rfl)) rfl ?_
    obtain ⟨hk11, hF⟩ := ckh hF
    refine WL.q (Y.sliceV2 (xs := (ovr s3 i4.toNat (s3.drop j5.toNat))) Try.underlying26 cells34 (i := 0) rfl (.pl rfl) (.pl rfl) (.pl rfl) (hk11)) rfl ?_
    refine WL.step (WO.clearV (enc := encEvent) (sz := 4) (z := Event.z) (lo := ((((ovr s3 i4.toNat (s3.drop j5.toNat)).take (i4 + (((s3.drop j5.toNat)).length : Int)).toNat)).length : Int)) (xs := (ovr s3 i4.toNat (s3.drop j5.toNat))) Try.underlying26 zero34 rfl lenEvent oneEvent (i := 0) rfl (.pl rfl) (fun _ => rfl) (slB_le (hk11)).1 (fit2 (hk11)) rfl ?_)
    refine WL.next hQ9 (.cons (i := 0) rfl (.nil)) ?_
    refine W.seqR fun Q10 hQ10 => ?_
    refine WL.q (Y.move (.pl rfl)) rfl ?_
    refine WL.q (Y.assign (.pl rfl)) rfl ?_
    refine WL.next hQ10 (.cons (i := 6) rfl (.nil)) ?_
    obtain rfl := Option.some.inj hF
    refine W.retV (fn := Try.f48) (vs := [.slice A1 (((ovr s3 i4.toNat (s3.drop j5.toNat)).take (i4 + (((s3.drop j5.toNat)).length : Int)).toNat)).length c2]) Try.results48 ⟨.tmp rfl, trivial⟩ (fun _ _ h => h) (fun wz hw => ?_)
    exact hR _ _ ⟨(), trivial, by simp [resV], ((St.trunc (enc := encEvent) (sz := 4) (j := (i4 + (((s3.drop j5.toNat)).length : Int)).toNat) hw lenEvent (i := 0) rfl).pickK 1 [0] rfl)⟩

def alibkeep_RegularLevels (N : Nat) (l1 : (List Event)) (n6 : Int) : Option Bool :=
  bd (regular_Check N l1) fun (r7 : (Int × Int)) =>
  bd (history_Calls N ([1] : List Int) l1) fun (r9 : ((List Call) × Int × Int)) =>
  bd (α := Bool) (bd (alibkeep_regularLives N) fun (r13 : Bool) =>
    cond ((!r13) == false)
      (bd (alibkeep_ok N ([r7.2, r9.2.2] : List Int)) fun (r15 : Bool) =>
      some ((((!r13) || (!r15)) || (decide (n6 < 0))) || (decide (((l1).length : Int) < n6))))
      (some ((((!r13) || false) || (decide (n6 < 0))) || (decide (((l1).length : Int) < n6))))) <|
  fun (v12 : Bool) => 
    cond v12
      (bd (alibkeep_regularLives N) fun (r16 : Bool) =>
      some r16)
      (ck (slB (l1).length 0 n6) <|
      bd (regular_Check N (l1.take n6.toNat)) fun (r18 : (Int × Int)) =>
      cond ((((!(decide (r18.2 = 0))) || (decide (r18.1 < r7.1))) || (decide (r7.1 < 0))) || (decide (3 < r7.1)))
        (some false)
        (bd ((cond ((decide (((r9.1).length : Int) ≤ n6)) == false) (ix r9.1 n6) (some Call.z))) fun (x19 : Call) =>
        cond ((decide (((r9.1).length : Int) ≤ n6)) || (!(decide (x19.kind = 2))))
          (some true)
          (bd (ix r9.1 n6) fun (x20 : Call) =>
          ck (limB 32 (l1).length) <|
          bd (α := (List Event)) (cond (!(decide (x20.to_ = (-1))))
              (ck (ok64 (x20.to_ + 1)) <|
              bd (slices_Delete_api_Event_api_Event N l1 x20.to_ (x20.to_ + 1)) fun (r27 : (List Event)) =>
              some r27)
              (some l1)) <|
          fun (less25 : (List Event)) => 
            ck (ok64 (x20.from_ + 1)) <|
            bd (slices_Delete_api_Event_api_Event N less25 x20.from_ (x20.from_ + 1)) fun (r29 : (List Event)) =>
            bd (regular_Check N r29) fun (r30 : (Int × Int)) =>
            some ((decide (r30.2 = 0)) && (decide (r7.1 ≤ r30.1))))))

theorem alibkeep_RegularLevels_ok {N : Nat} {l1 : (List Event)} {n6 : Int} {res : Bool} (hF : alibkeep_RegularLevels N l1 n6 = some res) (w : World) {v5 : Value} (hs4 : SlIn encEvent 4 w v5 l1) :
    Pure Try.prog 16 [v5, .int .i64 n6] w (.bool res) := by
  obtain ⟨A2, c3, rfl, hcc3, hs4⟩ := hs4.form
  refine W.enter (n := 117) Try.func16 rfl rfl Sub.refl (by simp) (St.start w) fun R hR => ?_
  unfold alibkeep_RegularLevels at hF
  refine W.seqR fun Q1 hQ1 => ?_
  refine WL.q (Y.assign (.pl rfl)) rfl ?_
  refine WL.next hQ1 (.cons (i := 0) rfl (.cons (i := 1) rfl (.nil))) ?_
  refine W.seqR fun Q2 hQ2 => ?_
  refine WL.q (Y.move (.pl rfl)) rfl ?_
  obtain ⟨r7, hr7, hF⟩ := bnd hF
  refine WL.step (WO.callP isGo45 (.cons (.pl rfl) (.nil)) rfl (fun wz hw => regular_Check_ok (hr7) wz (hs4.mono hw)) ?_)
  refine WL.q (Y.move (.pl rfl)) rfl ?_
  refine WL.q (Y.extract (.pl rfl) rfl) rfl ?_
  refine WL.q (Y.extract (.pl rfl) rfl) rfl ?_
  refine WL.q (Y.assign (.pl rfl)) rfl ?_
  refine WL.q (Y.assign (.pl rfl)) rfl ?_
  refine WL.next hQ2 (.cons (i := 0) rfl (.cons (i := 1) rfl (.cons (i := 5) rfl (.cons (i := 6) rfl (.nil))))) ?_
  refine W.seqR fun Q3 hQ3 => ?_
  refine WL.step (WO.bsliceC (enc := (eI .i64)) (ys := ([1] : List Int)) Try.underlying47 bz3 (.cons (.pl rfl) (.nil)) rfl (fun _ => rfl) rfl rfl (by decide) (by decide) rfl fun b8 => ?_)
  refine WL.q (Y.move (.pl rfl)) rfl ?_
  obtain ⟨r9, hr9, hF⟩ := bnd hF
  refine WL.step (WO.callM isGo27 (.cons (.pl rfl) (.cons (.pl rfl) (.nil))) rfl (fun wz hw => history_Calls_ok (hr9) wz (SlIn.ofRow (fun _ => rfl) hw (i := 0) rfl) (hs4.mono hw)) ?_)
  rintro ⟨A10, c11⟩ -
  refine WL.q (Y.move (.pl rfl)) rfl ?_
  refine WL.q (Y.extract (.pl rfl) rfl) rfl ?_
  refine WL.q (Y.extract (.pl rfl) rfl) rfl ?_
  refine WL.q (Y.extract (.pl rfl) rfl) rfl ?_
  refine WL.q (Y.assign (.pl rfl)) rfl ?_
  refine WL.q (Y.assign (.pl rfl)) rfl ?_
  refine WL.q (Y.assign (.pl rfl)) rfl ?_
  refine WL.next hQ3 (.cons (i := 0) rfl (.cons (i := 1) rfl (.cons (i := 5) rfl (.cons (i := 6) rfl (.cons (i := 7) rfl (.cons (i := 9) rfl (.nil))))))) ?_
  refine W.seq fun K4 hK4 => ?_
  obtain ⟨o5, hF5, hF⟩ := bnd hF
  refine W.join1 (Em := fun (v12 : Bool) => [(46, .bool v12)]) (M := fun v12 => [cR encCall 7 A10 c11 51 r9.1]) (I := fun v12 => v12 = o5) (.cons (i := 0) rfl (.cons (i := 1) rfl (.cons (i := 5) rfl (.cons (i := 7) rfl (.nil))))) (fun K6 hK6 => ?_) ?_
  · -- up to
    refine W.reg ?_
    obtain ⟨r13, hr13, hF5⟩ := bnd hF5
    refine WL.step (WO.callP isGo46 (.nil) rfl (fun wz hw => alibkeep_regularLives_ok (hr13) wz ) ?_)
    refine WL.q (Y.not (.pl rfl)) rfl ?_
    refine WL.q (Y.move (.pl rfl)) rfl ?_
    refine WL.g (.pl rfl rfl rfl) (fun hg => Y.move (.pl rfl)) rfl ?_
    refine WL.g (.pl rfl rfl rfl) (fun hg => Y.move (.pl rfl)) rfl ?_
    refine bsplit ((!r13) == false) (fun hg7 => ?_) (fun hg7 => ?_)
    · replace hF5 := cpos hg7 hF5
      refine WL.gd (.pl rfl rfl rfl) (hg7) ?_
      refine WL.step (WO.bsliceC (enc := (eI .i64)) (ys := ([r7.2, r9.2.2] : List Int)) Try.underlying108 bz28 (.cons (.gd (hg7) rfl) (.cons (.gd (hg7) rfl) (.nil))) rfl (fun _ => rfl) rfl rfl (by decide) (by decide) rfl fun b14 => ?_)
      refine WL.gd (.pl rfl rfl rfl) (hg7) ?_
      obtain ⟨r15, hr15, hF5⟩ := bnd hF5
      refine WL.step (WO.callP isGo28 (.cons (.pl rfl) (.nil)) rfl (fun wz hw => alibkeep_ok_ok (hr15) wz (SlIn.ofRow (fun _ => rfl) hw (i := 0) rfl)) ?_)
      refine WL.gd (.pl rfl rfl rfl) (hg7) ?_
      refine WL.q (Y.not (.pl rfl)) rfl ?_
      refine WL.q (Y.or (.pl rfl) (fun _ => .pl rfl)) rfl ?_
      refine WL.q (Y.move (.pl rfl)) rfl ?_
      refine WL.g (.pl rfl rfl rfl) (fun hg => Y.move (.pl rfl)) rfl ?_
      refine WL.g (.pl rfl rfl rfl) (fun hg => Y.lss (.gd (hg) rfl) (.pl rfl)) rfl ?_
      refine WL.q (Y.or (.pl rfl) (fun h2 => .gd (eqf h2) rfl)) rfl ?_
      refine WL.q (Y.move (.pl rfl)) rfl ?_
      refine WL.g (.pl rfl rfl rfl) (fun hg => Y.move (.pl rfl)) rfl ?_
      refine WL.g (.pl rfl rfl rfl) (fun hg => Y.move (.pl rfl)) rfl ?_
      refine WL.g (.pl rfl rfl rfl) (fun hg => Y.len Try.underlying26 (.gd (hg) rfl)) rfl ?_
      refine WL.g (.pl rfl rfl rfl) (fun hg => Y.gtr (.gd (hg) rfl) (.gd (hg) rfl)) rfl ?_
      refine WL.q (Y.or (.pl rfl) (fun h2 => .gd (eqf h2) rfl)) rfl ?_
      refine WL.nil ?_
      exact W.joinAt1 hK6 ((((!r13) || (!r15)) || (decide (n6 < 0))) || (decide (((l1).length : Int) < n6))) (Option.some.inj hF5) (.cons rfl (.nil)) (.cons (i := 0) rfl (.cons (i := 1) rfl (.cons (i := 5) rfl (.cons (i := 7) rfl (.nil))))) (fun wz hw => hw.pick [1] rfl)
    · replace hF5 := cneg hg7 hF5
      refine WL.gn (.pl rfl rfl rfl) hg7 rfl ?_
      refine WL.gn (.pl rfl rfl rfl) hg7 rfl ?_
      refine WL.gn (.pl rfl rfl rfl) hg7 rfl ?_
      refine WL.q (Y.or (b := false) (.pl rfl) (fun h2 => (gabsO hg7 h2).elim)) rfl ?_
      refine WL.q (Y.move (.pl rfl)) rfl ?_
      refine WL.g (.pl rfl rfl rfl) (fun hg => Y.move (.pl rfl)) rfl ?_
      refine WL.g (.pl rfl rfl rfl) (fun hg => Y.lss (.gd (hg) rfl) (.pl rfl)) rfl ?_
      refine WL.q (Y.or (.pl rfl) (fun h2 => .gd (eqf h2) rfl)) rfl ?_
      refine WL.q (Y.move (.pl rfl)) rfl ?_
      refine WL.g (.pl rfl rfl rfl) (fun hg => Y.move (.pl rfl)) rfl ?_
      refine WL.g (.pl rfl rfl rfl) (fun hg => Y.move (.pl rfl)) rfl ?_
      refine WL.g (.pl rfl rfl rfl) (fun hg => Y.len Try.underlying26 (.gd (hg) rfl)) rfl ?_
      refine WL.g (.pl rfl rfl rfl) (fun hg => Y.gtr (.gd (hg) rfl) (.gd (hg) rfl)) rfl ?_
      refine WL.q (Y.or (.pl rfl) (fun h2 => .gd (eqf h2) rfl)) rfl ?_
      refine WL.nil ?_
      exact W.joinAt1 hK6 ((((!r13) || false) || (decide (n6 < 0))) || (decide (((l1).length : Int) < n6))) (Option.some.inj hF5) (.cons rfl (.nil)) (.cons (i := 0) rfl (.cons (i := 1) rfl (.cons (i := 5) rfl (.cons (i := 7) rfl (.nil))))) (fun wz hw => hw.pick [0] rfl)
  · -- behind
    rintro v12 rfl
    refine W.cond (.pl rfl) (fun hC8 => ?_) (fun hC8 => ?_)
    · replace hF := cpos hC8 hF
      refine W.seqR fun Q9 hQ9 => ?_
      obtain ⟨r16, hr16, hF⟩ := bnd hF
      refine WL.step (WO.callP isGo46 (.nil) rfl (fun wz hw => alibkeep_regularLives_ok (hr16) wz ) ?_)
      refine WL.q (Y.assign (.pl rfl)) rfl ?_
      refine WL.next hQ9 (.cons (i := 4) rfl (.nil)) ?_
      obtain rfl := Option.some.inj hF
      refine W.retV (fn := Try.f16) (vs := [.bool r16]) Try.results16 ⟨.tmp rfl, trivial⟩ (fun _ _ h => h) (fun wz hw => ?_)
      exact hR _ _ ⟨rfl, (hw.pick [] rfl)⟩
    · replace hF := cneg hC8 hF
      refine W.skip ?_
      refine W.go hK4 (.cons (i := 0) rfl (.cons (i := 1) rfl (.cons (i := 5) rfl (.cons (i := 7) rfl (.nil))))) ?_
      refine W.seqR fun Q10 hQ10 => ?_
      refine WL.q (Y.move (.pl rfl)) rfl ?_
      refine WL.q (Y.move (.pl rfl)) rfl ?_
      obtain ⟨hk17, hF⟩ := ckh hF
      refine WL.q (Y.slice0 (xs := l1) Try.underlying26 cells34 (.pl rfl) rfl (hs4).cap_le (.pl rfl) (hk17)) rfl ?_
      obtain ⟨r18, hr18, hF⟩ := bnd hF
      refine WL.step (WO.callP isGo45 (.cons (.pl rfl) (.nil)) rfl (fun wz hw => regular_Check_ok (hr18) wz ((SlIn.sub0 hs4 (slB_nat0 (hk17))).mono hw)) ?_)
      refine WL.q (Y.move (.pl rfl)) rfl ?_
      refine WL.q (Y.extract (.pl rfl) rfl) rfl ?_
      refine WL.q (Y.extract (.pl rfl) rfl) rfl ?_
      refine WL.q (Y.assign (.pl rfl)) rfl ?_
      refine WL.q (Y.assign (.pl rfl)) rfl ?_
      refine WL.next hQ10 (.cons (i := 0) rfl (.cons (i := 1) rfl (.cons (i := 5) rfl (.cons (i := 7) rfl (.cons (i := 10) rfl (.cons (i := 11) rfl (.nil))))))) ?_
      refine W.seq fun K11 hK11 => ?_
      refine W.seqR fun Q12 hQ12 => ?_
      refine WL.q (Y.move (.pl rfl)) rfl ?_
      refine WL.q (Y.neq (.pl rfl) (.pl rfl)) rfl ?_
      refine WL.q (Y.move (.pl rfl)) rfl ?_
      refine WL.g (.pl rfl rfl rfl) (fun hg => Y.move (.pl rfl)) rfl ?_
      refine WL.g (.pl rfl rfl rfl) (fun hg => Y.move (.pl rfl)) rfl ?_
      refine WL.g (.pl rfl rfl rfl) (fun hg => Y.lss (.gd (hg) rfl) (.gd (hg) rfl)) rfl ?_
      refine WL.q (Y.or (.pl rfl) (fun h2 => .gd (eqf h2) rfl)) rfl ?_
      refine WL.q (Y.move (.pl rfl)) rfl ?_
      refine WL.g (.pl rfl rfl rfl) (fun hg => Y.move (.pl rfl)) rfl ?_
      refine WL.g (.pl rfl rfl rfl) (fun hg => Y.lss (.gd (hg) rfl) (.pl rfl)) rfl ?_
      refine WL.q (Y.or (.pl rfl) (fun h2 => .gd (eqf h2) rfl)) rfl ?_
      refine WL.q (Y.move (.pl rfl)) rfl ?_
      refine WL.g (.pl rfl rfl rfl) (fun hg => Y.move (.pl rfl)) rfl ?_
      refine WL.g (.pl rfl rfl rfl) (fun hg => Y.gtr (.gd (hg) rfl) (.pl rfl)) rfl ?_
      refine WL.q (Y.or (.pl rfl) (fun h2 => .gd (eqf h2) rfl)) rfl ?_
      refine WL.next hQ12 (.cons (i := 0) rfl (.cons (i := 1) rfl (.cons (i := 5) rfl (.cons (i := 7) rfl (.cons (i := 69) rfl (.nil)))))) ?_
      refine W.cond (.pl rfl) (fun hC13 => ?_) (fun hC13 => ?_)
      · replace hF := cpos hC13 hF
        refine W.seqR fun Q14 hQ14 => ?_
        refine WL.q (Y.assign (.pl rfl)) rfl ?_
        refine WL.next hQ14 (.cons (i := 4) rfl (.nil)) ?_
        obtain rfl := Option.some.inj hF
        refine W.retV (fn := Try.f16) (vs := [.bool false]) Try.results16 ⟨.tmp rfl, trivial⟩ (fun _ _ h => h) (fun wz hw => ?_)
        exact hR _ _ ⟨rfl, (hw.pick [] rfl)⟩
      · replace hF := cneg hC13 hF
        refine W.skip ?_
        refine W.go hK11 (.cons (i := 0) rfl (.cons (i := 1) rfl (.cons (i := 5) rfl (.cons (i := 7) rfl (.nil))))) ?_
        refine W.seq fun K15 hK15 => ?_
        refine W.seqR fun Q16 hQ16 => ?_
        refine WL.q (Y.move (.pl rfl)) rfl ?_
        refine WL.q (Y.move (.pl rfl)) rfl ?_
        refine WL.q (Y.len Try.underlying44 (.pl rfl)) rfl ?_
        refine WL.q (Y.geq (.pl rfl) (.pl rfl)) rfl ?_
        refine WL.q (Y.move (.pl rfl)) rfl ?_
        refine WL.g (.pl rfl rfl rfl) (fun hg => Y.move (.pl rfl)) rfl ?_
        refine WL.g (.pl rfl rfl rfl) (fun hg => Y.move (.pl rfl)) rfl ?_
        obtain ⟨x19, hx19, hF⟩ := bnd hF
        refine WL.g (.pl rfl rfl rfl) (fun hg => Y.rowEl Try.underlying44 cells51 (i := 0) rfl (.gd (hg) rfl) rfl (.gd (hg) rfl) (ix_lt (gpos hg hx19))) rfl ?_
        refine WL.g (.pl rfl rfl rfl) (fun hg => Y.rowField (off := 2) (ft := 3) Try.underlying51 rfl cells3 (i' := 0) rfl (ix_lt (gpos hg hx19)) (.gd (hg) rfl)) rfl ?_
        refine WL.g (.pl rfl rfl rfl) (fun hg => Y.loadR (enc := encCall) (v := .int .i64 x19.kind) (a := x19) (idx := n6) (j := 2) Try.underlying3 rfl lenCall (i := 0) rfl (.gd (hg) rfl) (ix_get (gpos hg hx19)) rfl rfl) rfl ?_
        refine WL.g (.pl rfl rfl rfl) (fun hg => Y.neq (.gd (hg) rfl) (.pl rfl)) rfl ?_
        refine WL.q (Y.or (.pl rfl) (fun h2 => .gd (eqf h2) rfl)) rfl ?_
        refine WL.next hQ16 (.cons (i := 0) rfl (.cons (i := 1) rfl (.cons (i := 5) rfl (.cons (i := 7) rfl (.cons (i := 81) rfl (.nil)))))) ?_
        refine W.cond (.pl rfl) (fun hC17 => ?_) (fun hC17 => ?_)
        · replace hF := cpos hC17 hF
          refine W.seqR fun Q18 hQ18 => ?_
          refine WL.q (Y.assign (.pl rfl)) rfl ?_
          refine WL.next hQ18 (.cons (i := 4) rfl (.nil)) ?_
          obtain rfl := Option.some.inj hF
          refine W.retV (fn := Try.f16) (vs := [.bool true]) Try.results16 ⟨.tmp rfl, trivial⟩ (fun _ _ h => h) (fun wz hw => ?_)
          exact hR _ _ ⟨rfl, (hw.pick [] rfl)⟩
        · replace hF := cneg hC17 hF
          refine W.skip ?_
          refine W.go hK15 (.cons (i := 0) rfl (.cons (i := 1) rfl (.cons (i := 5) rfl (.cons (i := 7) rfl (.nil))))) ?_
          refine W.seqR fun Q19 hQ19 => ?_
          refine WL.q (Y.move (.pl rfl)) rfl ?_
          refine WL.q (Y.move (.pl rfl)) rfl ?_
          obtain ⟨x20, hx20, hF⟩ := bnd hF
          refine WL.q (Y.rowEl Try.underlying44 cells51 (i := 0) rfl (.pl rfl) rfl (.pl rfl) (ix_lt (hx20))) rfl ?_
          refine WL.q (Y.loadRA (enc := encCall) (ds := (encCall x20)) (a := x20) (idx := n6) (j := 0) Try.underlying51 rfl cells51 lenCall (i := 0) rfl (.pl rfl) (ix_get (hx20)) rfl rfl subW) rfl ?_
          refine WL.step (WO.alloc (cs := (encCall (Call.mk 0 0 0 0 0 0 0)).toArray) zero51 rfl rfl fun b21 => ?_)
          refine WL.step (WO.storeBA (ds := (encCall x20)) (cs' := (encCall x20)) cells51 (.pl rfl) (.pl rfl) rfl (oneCall _) (i := 0) rfl (lel (o := 0) (l := 7) (m := 7) (by decide) rfl rfl) (putW rfl) ?_)
          refine WL.next hQ19 (.cons (i := 0) rfl (.cons (i := 5) rfl (.cons (i := 12) rfl (.nil)))) ?_
          refine W.seqR fun Q20 hQ20 => ?_
          refine WL.q (Y.move (.pl rfl)) rfl ?_
          obtain ⟨hk22, hF⟩ := ckh hF
          refine WL.step (WO.callM isGo47 (.cons (.pl rfl) (.nil)) rfl (fun wz hw => slices_Clone_api_Event_api_Event_ok (hk22) wz (hs4.mono hw)) ?_)
          rintro ⟨A23, c24⟩ -
          refine WL.q (Y.assign (.pl rfl)) rfl ?_
          refine WL.next hQ20 (.cons (i := 5) rfl (.cons (i := 12) rfl (.cons (i := 13) rfl (.nil)))) ?_
          obtain ⟨o21, hF21, hF⟩ := bnd hF
          refine W.join1 (Em := fun (less25 : (List Event)) => [(13, .slice A23 (less25).length c24)]) (M := fun less25 => [cBx b21 51 (encCall x20), cR encEvent 4 A23 c24 34 less25]) (I := fun less25 => less25 = o21) (.cons (i := 5) rfl (.cons (i := 12) rfl (.nil))) (fun K22 hK22 => ?_) ?_
          · -- up to
            refine W.seqR fun Q23 hQ23 => ?_
            refine WL.q (Y.fieldAddr0 (off := 6) (ft := 3) Try.underlying51 rfl cells3 (.pl rfl)) rfl ?_
            refine WL.q (Y.loadB (v := .int .i64 x20.to_) Try.underlying3 rfl (.pl rfl) (i := 1) rfl (rfl)) rfl ?_
            refine WL.q (Y.neq (.pl rfl) (.pl rfl)) rfl ?_
            refine WL.next hQ23 (.cons (i := 5) rfl (.cons (i := 12) rfl (.cons (i := 13) rfl (.cons (i := 90) rfl (.nil))))) ?_
            refine W.cond (.pl rfl) (fun hC24 => ?_) (fun hC24 => ?_)
            · replace hF21 := cpos hC24 hF21
              refine W.reg ?_
              refine WL.q (Y.move (.pl rfl)) rfl ?_
              refine WL.q (Y.fieldAddr0 (off := 6) (ft := 3) Try.underlying51 rfl cells3 (.pl rfl)) rfl ?_
              refine WL.q (Y.loadB (v := .int .i64 x20.to_) Try.underlying3 rfl (.pl rfl) (i := 1) rfl (rfl)) rfl ?_
              refine WL.q (Y.fieldAddr0 (off := 6) (ft := 3) Try.underlying51 rfl cells3 (.pl rfl)) rfl ?_
              refine WL.q (Y.loadB (v := .int .i64 x20.to_) Try.underlying3 rfl (.pl rfl) (i := 1) rfl (rfl)) rfl ?_
              obtain ⟨hk26, hF21⟩ := ckh hF21
              refine WL.q (Y.add (.pl rfl) (.pl rfl) (ok64_lt (hk26))) rfl ?_
              obtain ⟨r27, hr27, hF21⟩ := bnd hF21
              refine WL.step (WO.call (γ := Unit) (fun g => .slice A23 (r27).length c24) (fun g => [cR encEvent 4 A23 c24 34 r27, cBx b21 51 (encCall x20), cR encCall 7 A10 c11 51 r9.1]) (fun g => True) isGo48 (.cons (.pl rfl) (.cons (.pl rfl) (.cons (.pl rfl) (.nil)))) rfl (fun wz hw => slices_Delete_api_Event_api_Event_ok (T := [cBx b21 51 (encCall x20), cR encCall 7 A10 c11 51 r9.1]) (hr27) (hw.pick [0, 1, 2] rfl) ) ?_)
              rintro _ -
              refine WL.q (Y.assign (.pl rfl)) rfl ?_
              refine WL.nil ?_
              exact W.joinAt1 hK22 r27 (Option.some.inj hF21) (.cons rfl (.nil)) (.cons (i := 5) rfl (.cons (i := 12) rfl (.nil))) (fun wz hw => hw.pick [1, 0] rfl)
            · replace hF21 := cneg hC24 hF21
              refine W.skip ?_
              exact W.joinAt1 hK22 l1 (Option.some.inj hF21) (.cons rfl (.nil)) (.cons (i := 5) rfl (.cons (i := 12) rfl (.nil))) (fun wz hw => hw.pick [1, 0] rfl)
          · -- behind
            rintro less25 rfl
            refine W.seqR fun Q26 hQ26 => ?_
            refine WL.q (Y.move (.pl rfl)) rfl ?_
            refine WL.q (Y.fieldAddr0 (off := 5) (ft := 3) Try.underlying51 rfl cells3 (.pl rfl)) rfl ?_
            refine WL.q (Y.loadB (v := .int .i64 x20.from_) Try.underlying3 rfl (.pl rfl) (i := 0) rfl (rfl)) rfl ?_
            refine WL.q (Y.fieldAddr0 (off := 5) (ft := 3) Try.underlying51 rfl cells3 (.pl rfl)) rfl ?_
            refine WL.q (Y.loadB (v := .int .i64 x20.from_) Try.underlying3 rfl (.pl rfl) (i := 0) rfl (rfl)) rfl ?_
            obtain ⟨hk28, hF⟩ := ckh hF
            refine WL.q (Y.add (.pl rfl) (.pl rfl) (ok64_lt (hk28))) rfl ?_
            obtain ⟨r29, hr29, hF⟩ := bnd hF
            refine WL.step (WO.call (γ := Unit) (fun g => .slice A23 (r29).length c24) (fun g => [cR encEvent 4 A23 c24 34 r29, cBx b21 51 (encCall x20)]) (fun g => True) isGo48 (.cons (.pl rfl) (.cons (.pl rfl) (.cons (.pl rfl) (.nil)))) rfl (fun wz hw => slices_Delete_api_Event_api_Event_ok (T := [cBx b21 51 (encCall x20)]) (hr29) (hw.pick [1, 0] rfl) ) ?_)
            rintro _ -
            refine WL.q (Y.assign (.pl rfl)) rfl ?_
            refine WL.next hQ26 (.cons (i := 5) rfl (.cons (i := 13) rfl (.nil))) ?_
            refine W.seqR fun Q27 hQ27 => ?_
            refine WL.q (Y.move (.pl rfl)) rfl ?_
            obtain ⟨r30, hr30, hF⟩ := bnd hF
            refine WL.step (WO.callP isGo45 (.cons (.pl rfl) (.nil)) rfl (fun wz hw => regular_Check_ok (hr30) wz (SlIn.ofRow lenEvent hw (i := 0) rfl)) ?_)
            refine WL.q (Y.move (.pl rfl)) rfl ?_
            refine WL.q (Y.extract (.pl rfl) rfl) rfl ?_
            refine WL.q (Y.extract (.pl rfl) rfl) rfl ?_
            refine WL.q (Y.assign (.pl rfl)) rfl ?_
            refine WL.q (Y.assign (.pl rfl)) rfl ?_
            refine WL.next hQ27 (.cons (i := 5) rfl (.cons (i := 14) rfl (.cons (i := 15) rfl (.nil)))) ?_
            refine W.seqR fun Q28 hQ28 => ?_
            refine WL.q (Y.move (.pl rfl)) rfl ?_
            refine WL.q (Y.eql (.pl rfl) (.pl rfl)) rfl ?_
            refine WL.q (Y.move (.pl rfl)) rfl ?_
            refine WL.g (.pl rfl rfl rfl) (fun hg => Y.move (.pl rfl)) rfl ?_
            refine WL.g (.pl rfl rfl rfl) (fun hg => Y.move (.pl rfl)) rfl ?_
            refine WL.g (.pl rfl rfl rfl) (fun hg => Y.geq (.gd (hg) rfl) (.gd (hg) rfl)) rfl ?_
            refine WL.q (Y.and (.pl rfl) (fun h2 => .gd (eqt h2) rfl)) rfl ?_
            refine WL.q (Y.assign (.pl rfl)) rfl ?_
            refine WL.next hQ28 (.cons (i := 4) rfl (.nil)) ?_
            obtain rfl := Option.some.inj hF
            refine W.retV (fn := Try.f16) (vs := [.bool ((decide (r30.2 = 0)) && (decide (r7.1 ≤ r30.1)))]) Try.results16 ⟨.tmp rfl, trivial⟩ (fun _ _ h => h) (fun wz hw => ?_)
            exact hR _ _ ⟨rfl, (hw.pick [] rfl)⟩

end Go.Proofs.Yteklmleiiiodfaa
