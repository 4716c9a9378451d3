/- ZonesShown: what the code computes, and the walk. -/
import Derived.Test.YtolneilkgjglkaaZ3
set_option linter.unusedVariables false
set_option linter.unusedSimpArgs false
set_option linter.unusedSectionVars false
set_option maxRecDepth 100000
namespace Go.Proofs.Ytolneilkgjglkaa
open Go.RowKit
theorem cells49 : Try.prog.cellsOf 49 = 0 + 1 := by kernel_rfl
theorem isGo29 : IsGo Try.prog 29 := ⟨_, Try.func29, by kernel_rfl, rfl⟩
theorem isGo30 : IsGo Try.prog 30 := ⟨_, Try.func30, by kernel_rfl, rfl⟩
theorem isGo31 : IsGo Try.prog 31 := ⟨_, Try.func31, by kernel_rfl, rfl⟩
theorem isGo32 : IsGo Try.prog 32 := ⟨_, Try.func32, by kernel_rfl, rfl⟩
theorem isGo33 : IsGo Try.prog 33 := ⟨_, Try.func33, by kernel_rfl, rfl⟩
theorem isGo34 : IsGo Try.prog 34 := ⟨_, Try.func34, by kernel_rfl, rfl⟩
theorem isGo70 : IsGo Try.prog 70 := ⟨_, Try.func70, by kernel_rfl, rfl⟩
theorem zero42 : ∃ i, Try.prog.info? 42 = some i ∧ i.zero = some (Value.slice none 0 0) := ⟨_, rfl, by kernel_rfl⟩
theorem zero49 : ∃ i, Try.prog.info? 49 = some i ∧ i.zero = some Value.nilFunc := ⟨_, rfl, by kernel_rfl⟩
def alibkeep_ZonesShown_3 (N : Nat) (x1 : Call) (a5 : (List Call)) (a7 : Bad) : Option Bool :=
  bd ((cond ((decide (x1.kind = 1)) == true) (ix a5 a7.a) (some Call.z))) fun (x9 : Call) =>
  some ((decide (x1.kind = 1)) && (decide (x1.arg = x9.res)))

theorem alibkeep_ZonesShown_3_ok {N : Nat} {x1 : Call} {a5 : (List Call)} {a7 : Bad} {b2 : Nat} {A3 : Option Addr} {c4 : Nat} {b6 : Nat} {res : Bool} (hF : alibkeep_ZonesShown_3 N x1 a5 a7 = some res) {w0 w : World} {T : List Chunk} (hw : St w0.heap.size w0 ([cBx b2 42 [.slice A3 (a5).length c4], cR encCall 7 A3 c4 48 a5, cBx b6 34 (encBad a7)] ++ T) w) :
    Calls Try.prog 34 (List.toArray [.agg (encCall x1).toArray, .pointer (some ⟨b2, 0, none⟩), .pointer (some ⟨b6, 0, none⟩)]) w (fun e w' => ∃ g : Unit, (True) ∧ e = .returned (.bool res) ∧ St w0.heap.size w0 ([cBx b2 42 [.slice A3 (a5).length c4], cR encCall 7 A3 c4 48 a5, cBx b6 34 (encBad a7)] ++ T) w') := by
  refine W.enter (n := 19) Try.func34 rfl rfl Sub.refl (by simp) hw fun R hR => ?_
  unfold alibkeep_ZonesShown_3 at hF
  -- region 0: zones.go:48
  refine W.seqR fun Q1 hQ1 => ?_
  refine WL.step (WO.boxA (.pl rfl) rfl fun b8 => ?_)
  refine WL.q (Y.assign (.pl rfl)) rfl ?_
  refine WL.next hQ1 (.cons (i := 1) rfl (.cons (i := 2) rfl (.cons (i := 3) rfl (.nil)))) ?_
  -- region 1: zones.go:48
  refine W.seqD (by kernel_rfl) (by kernel_rfl) fun R2 hR2 => ?_
  refine WD.q (Y.fieldAddr0 (off := 2) (ft := 3) Try.underlying48 rfl cells3 (.pl rfl)) rfl ?_
  refine WD.q (Y.loadB (v := .int .i64 x1.kind) Try.underlying3 rfl (.pl rfl) (i := 0) rfl (rfl)) rfl ?_
  refine WD.q (Y.eql (.pl rfl) (.pl rfl)) rfl ?_
  refine WD.q (Y.move (.pl rfl)) rfl ?_
  refine WD.g (.pl rfl rfl rfl) (fun hg => Y.fieldAddr0 (off := 3) (ft := 3) Try.underlying48 rfl cells3 (.pl rfl)) rfl ?_
  refine WD.g (.pl rfl rfl rfl) (fun hg => Y.loadB (v := .int .i64 x1.arg) Try.underlying3 rfl (.gd (hg) rfl) (i := 0) rfl (rfl)) rfl ?_
  refine WD.g (.pl rfl rfl rfl) (fun hg => Y.loadB (v := .slice A3 (a5).length c4) Try.underlying42 rfl (.pl rfl) (i := 1) rfl (rfl)) rfl ?_
  refine WD.g (.pl rfl rfl rfl) (fun hg => Y.fieldAddr0 (off := 1) (ft := 3) Try.underlying34 rfl cells3 (.pl rfl)) rfl ?_
  refine WD.g (.pl rfl rfl rfl) (fun hg => Y.loadB (v := .int .i64 a7.a) Try.underlying3 rfl (.gd (hg) rfl) (i := 3) rfl (rfl)) rfl ?_
  obtain ⟨x9, hx9, hF⟩ := bnd hF
  refine WD.g (.pl rfl rfl rfl) (fun hg => Y.rowEl Try.underlying42 cells48 (i := 2) rfl (.gd (hg) rfl) rfl (.gd (hg) rfl) (ix_lt (gpos hg hx9))) rfl ?_
  refine WD.g (.pl rfl rfl rfl) (fun hg => Y.rowField (off := 4) (ft := 3) Try.underlying48 rfl cells3 (i' := 2) rfl (ix_lt (gpos hg hx9)) (.gd (hg) rfl)) rfl ?_
  refine WD.g (.pl rfl rfl rfl) (fun hg => Y.loadR (enc := encCall) (v := .int .i64 x9.res) (a := x9) (idx := a7.a) (j := 4) Try.underlying3 rfl lenCall (i := 2) rfl (.gd (hg) rfl) (ix_get (gpos hg hx9)) rfl rfl) rfl ?_
  refine WD.g (.pl rfl rfl rfl) (fun hg => Y.eql (.gd (hg) rfl) (.gd (hg) rfl)) rfl ?_
  refine WD.q (Y.and (.pl rfl) (fun h2 => .gd (eqt h2) rfl)) rfl ?_
  refine WD.q (Y.assign (.pl rfl)) rfl ?_
  refine WD.next hR2 (.cons (i := 4) rfl (.nil)) ?_
  obtain rfl := Option.some.inj hF
  refine W.retV (fn := Try.f34) (vs := [.bool ((decide (x1.kind = 1)) && (decide (x1.arg = x9.res)))]) Try.results34 ⟨.tmp rfl, trivial⟩ (fun _ _ h => h) (fun wz hw => ?_)
  exact hR _ _ ⟨(), trivial, rfl, (hw.pickK 4 [1, 2, 3] rfl)⟩

def slices_IndexFunc_api_Call_api_Call_L3 (N : Nat) (s3 : (List Call)) (c6 : Bad) : Int → Option (Int ⊕ (Unit ⊕ Int))
  | v7 =>
    cond (decide (v7 < ((s3).length : Int)))
      (bd (ix s3 v7) fun (x8 : Call) =>
      bd (alibkeep_ZonesShown_3 N x8 s3 c6) fun (r9 : Bool) =>
      cond r9
        (some (.inr (.inr v7)))
        (ck (ok64 (v7 + 1)) <|
        some (.inl (v7 + 1))))
      (some (.inr (.inl ())))

def slices_IndexFunc_api_Call_api_Call (N : Nat) (s3 : (List Call)) (c6 : Bad) : Option Int :=
  bd (α := (Unit ⊕ Int)) (iter (slices_IndexFunc_api_Call_api_Call_L3 N s3 c6) N 0) <|
  Sum.elim (fun _ => 
    some (-1)) (fun p => some p)

theorem slices_IndexFunc_api_Call_api_Call_ok {N : Nat} {s3 : (List Call)} {c6 : Bad} {A1 : Option Addr} {c2 : Nat} {b4 : Nat} {b5 : Nat} {res : Int} (hF : slices_IndexFunc_api_Call_api_Call N s3 c6 = some res) {w0 w : World} {T : List Chunk} (hw : St w0.heap.size w0 ([cR encCall 7 A1 c2 48 s3, cBx b4 42 [.slice A1 (s3).length c2], cBx b5 34 (encBad c6)] ++ T) w) :
    Calls Try.prog 70 (List.toArray [.slice A1 (s3).length c2, .func (.func 34) #[] #[.pointer (some ⟨b4, 0, none⟩), .pointer (some ⟨b5, 0, none⟩)]]) w (fun e w' => ∃ g : Unit, (True) ∧ e = .returned (.int .i64 res) ∧ St w0.heap.size w0 ([cR encCall 7 A1 c2 48 s3, cBx b4 42 [.slice A1 (s3).length c2], cBx b5 34 (encBad c6)] ++ T) w') := by
  refine W.enter (n := 19) Try.func70 rfl rfl Sub.refl (by simp) hw fun R hR => ?_
  unfold slices_IndexFunc_api_Call_api_Call at hF
  -- region 0: slices.go:107
  refine W.seqR fun Q1 hQ1 => ?_
  refine WL.q (Y.assign (.pl rfl)) rfl ?_
  refine WL.next hQ1 (.cons (i := 0) rfl (.cons (i := 1) rfl (.nil))) ?_
  obtain ⟨o2, hF2, hF⟩ := bnd hF
  refine W.join0 (Em := []) (M := ([cR encCall 7 A1 c2 48 s3, cBx b4 42 [.slice A1 (s3).length c2], cBx b5 34 (encBad c6)] ++ T)) (I := (.inl ()) = o2) (.nil) (fun K3 hK3 => ?_) ?_
  · -- up to
    -- region 1: slices.go:108
    refine W.seqR fun Q4 hQ4 => ?_
    refine WL.q (Y.move (.pl rfl)) rfl ?_
    refine WL.q (Y.len Try.underlying42 (.pl rfl)) rfl ?_
    refine WL.q (Y.move (.pl rfl)) rfl ?_
    refine WL.next hQ4 (.cons (i := 0) rfl (.cons (i := 1) rfl (.cons (i := 7) rfl (.cons (i := 8) rfl (.nil))))) ?_
    refine W.block ?_
    refine W.loop1 (Em := fun (v7 : Int) => [(8, .int .i64 v7)]) (M := fun v7 => ([cR encCall 7 A1 c2 48 s3, cBx b4 42 [.slice A1 (s3).length c2], cBx b5 34 (encBad c6)] ++ T)) (I := fun v7 k5 => iter (slices_IndexFunc_api_Call_api_Call_L3 N s3 c6) k5 v7 = some o2) 0 N (hF2) (.cons rfl (.nil)) (.cons (i := 0) rfl (.cons (i := 1) rfl (.cons (i := 7) rfl (.nil)))) (fun wz hw => hw.pickK 3 [0, 1, 2] rfl) (fun v7 k5 hI K6 hK6 => ?_)
    obtain ⟨k5, t5, rfl, hF5, hN5⟩ := iter_step hI
    -- region 2: slices.go:108
    refine W.seqR fun Q7 hQ7 => ?_
    refine WL.q (Y.lss (.pl rfl) (.pl rfl)) rfl ?_
    refine WL.next hQ7 (.cons (i := 0) rfl (.cons (i := 1) rfl (.cons (i := 7) rfl (.cons (i := 8) rfl (.cons (i := 9) rfl (.nil)))))) ?_
    refine W.seq fun K8 hK8 => ?_
    refine W.cond (.pl rfl) (fun hC9 => ?_) (fun hC9 => ?_)
    · replace hF5 := cpos hC9 hF5
      refine W.skip ?_
      refine W.go hK8 (.cons (i := 0) rfl (.cons (i := 1) rfl (.cons (i := 7) rfl (.cons (i := 8) rfl (.nil))))) ?_
      refine W.seq fun K10 hK10 => ?_
      refine W.block ?_
      -- region 3: slices.go:108
      refine W.seqR fun Q11 hQ11 => ?_
      refine WL.q (Y.move (.pl rfl)) rfl ?_
      refine WL.q (Y.assign (.pl rfl)) rfl ?_
      refine WL.next hQ11 (.cons (i := 0) rfl (.cons (i := 1) rfl (.cons (i := 5) rfl (.cons (i := 7) rfl (.cons (i := 8) rfl (.nil)))))) ?_
      -- region 4: slices.go:109
      refine W.seqR fun Q12 hQ12 => ?_
      refine WL.q (Y.move (.pl rfl)) rfl ?_
      refine WL.q (Y.move (.pl rfl)) rfl ?_
      refine WL.q (Y.move (.pl rfl)) rfl ?_
      obtain ⟨x8, hx8, hF5⟩ := bnd hF5
      refine WL.q (Y.rowEl Try.underlying42 cells48 (i := 0) rfl (.pl rfl) rfl (.pl rfl) (ix_lt (hx8))) rfl ?_
      refine WL.q (Y.loadRA (enc := encCall) (ds := (encCall x8)) (a := x8) (idx := v7) (j := 0) Try.underlying48 rfl cells48 lenCall (i := 0) rfl (.pl rfl) (ix_get (hx8)) rfl rfl subW) rfl ?_
      obtain ⟨r9, hr9, hF5⟩ := bnd hF5
      refine WL.step (WO.callG (γ := Unit) (first := []) (cap := [.pointer (some ⟨b4, 0, none⟩), .pointer (some ⟨b5, 0, none⟩)]) (fun g => .bool r9) (fun g => ([cBx b4 42 [.slice A1 (s3).length c2], cR encCall 7 A1 c2 48 s3, cBx b5 34 (encBad c6)] ++ T)) (fun g => True) isGo34 (.pl rfl) (.cons (.pl rfl) (.nil)) rfl (fun wz hw => alibkeep_ZonesShown_3_ok (b2 := b4) (A3 := A1) (c4 := c2) (b6 := b5) (w0 := w0) (w := wz) (T := T) (hr9) (hw.pickK 3 [1, 0, 2] rfl) ) ?_)
      rintro _ -
      refine WL.next hQ12 (.cons (i := 0) rfl (.cons (i := 1) rfl (.cons (i := 5) rfl (.cons (i := 7) rfl (.cons (i := 8) rfl (.cons (i := 16) rfl (.nil))))))) ?_
      refine W.cond (.pl rfl) (fun hC13 => ?_) (fun hC13 => ?_)
      · replace hF5 := cpos hC13 hF5
        -- region 5: slices.go:110
        refine W.seqR fun Q14 hQ14 => ?_
        refine WL.q (Y.move (.pl rfl)) rfl ?_
        refine WL.q (Y.assign (.pl rfl)) rfl ?_
        refine WL.next hQ14 (.cons (i := 4) rfl (.nil)) ?_
        obtain rfl := Option.some.inj hF5
        obtain rfl := einr hN5
        obtain rfl := Option.some.inj hF
        refine W.retV (fn := Try.f70) (vs := [.int .i64 v7]) Try.results70 ⟨.tmp rfl, trivial⟩ (fun _ _ h => h) (fun wz hw => ?_)
        exact hR _ _ ⟨(), trivial, rfl, (hw.pickK 3 [1, 0, 2] rfl)⟩
      · replace hF5 := cneg hC13 hF5
        refine W.skip ?_
        refine W.go hK10 (.cons (i := 0) rfl (.cons (i := 1) rfl (.cons (i := 7) rfl (.cons (i := 8) rfl (.nil))))) ?_
        -- region 6: slices.go:108
        refine W.reg ?_
        obtain ⟨hk10, hF5⟩ := ckh hF5
        refine WL.q (Y.add (.pl rfl) (.pl rfl) (ok64_lt (hk10))) rfl ?_
        refine WL.q (Y.move (.pl rfl)) rfl ?_
        refine WL.nil ?_
        obtain rfl := Option.some.inj hF5
        exact W.again1 hK6 (v7 + 1) k5 hN5 (Nat.lt_succ_self _) (.cons rfl (.nil)) (.cons (i := 0) rfl (.cons (i := 1) rfl (.cons (i := 7) rfl (.nil)))) (fun wz hw => hw.pickK 3 [1, 0, 2] rfl)
    · replace hF5 := cneg hC9 hF5
      refine W.exit ?_
      obtain rfl := Option.some.inj hF5
      exact W.joinAt0 hK3  (einr hN5) (.nil) (.nil) (fun wz hw => hw.pickK 3 [0, 1, 2] rfl)
  · -- behind
    rintro  rfl
    -- region 7: slices.go:113
    refine W.seqR fun Q16 hQ16 => ?_
    refine WL.q (Y.assign (.pl rfl)) rfl ?_
    refine WL.next hQ16 (.cons (i := 4) rfl (.nil)) ?_
    obtain rfl := Option.some.inj hF
    refine W.retV (fn := Try.f70) (vs := [.int .i64 (-1)]) Try.results70 ⟨.tmp rfl, trivial⟩ (fun _ _ h => h) (fun wz hw => ?_)
    exact hR _ _ ⟨(), trivial, rfl, (hw.pickK 3 [0, 1, 2] rfl)⟩

def slices_ContainsFunc_api_Call_api_Call (N : Nat) (s3 : (List Call)) (c6 : Bad) : Option Bool :=
  bd (slices_IndexFunc_api_Call_api_Call N s3 c6) fun (r7 : Int) =>
  some (decide (0 ≤ r7))

theorem slices_ContainsFunc_api_Call_api_Call_ok {N : Nat} {s3 : (List Call)} {c6 : Bad} {A1 : Option Addr} {c2 : Nat} {b4 : Nat} {b5 : Nat} {res : Bool} (hF : slices_ContainsFunc_api_Call_api_Call N s3 c6 = some res) {w0 w : World} {T : List Chunk} (hw : St w0.heap.size w0 ([cR encCall 7 A1 c2 48 s3, cBx b4 42 [.slice A1 (s3).length c2], cBx b5 34 (encBad c6)] ++ T) w) :
    Calls Try.prog 31 (List.toArray [.slice A1 (s3).length c2, .func (.func 34) #[] #[.pointer (some ⟨b4, 0, none⟩), .pointer (some ⟨b5, 0, none⟩)]]) w (fun e w' => ∃ g : Unit, (True) ∧ e = .returned (.bool res) ∧ St w0.heap.size w0 ([cR encCall 7 A1 c2 48 s3, cBx b4 42 [.slice A1 (s3).length c2], cBx b5 34 (encBad c6)] ++ T) w') := by
  refine W.enter (n := 9) Try.func31 rfl rfl Sub.refl (by simp) hw fun R hR => ?_
  unfold slices_ContainsFunc_api_Call_api_Call at hF
  -- region 0: slices.go:124
  refine W.seqR fun Q1 hQ1 => ?_
  refine WL.q (Y.assign (.pl rfl)) rfl ?_
  refine WL.next hQ1 (.cons (i := 0) rfl (.cons (i := 1) rfl (.nil))) ?_
  -- region 1: slices.go:125
  refine W.seqR fun Q2 hQ2 => ?_
  refine WL.q (Y.move (.pl rfl)) rfl ?_
  refine WL.q (Y.move (.pl rfl)) rfl ?_
  obtain ⟨r7, hr7, hF⟩ := bnd hF
  refine WL.step (WO.call (γ := Unit) (fun g => .int .i64 r7) (fun g => ([cR encCall 7 A1 c2 48 s3, cBx b4 42 [.slice A1 (s3).length c2], cBx b5 34 (encBad c6)] ++ T)) (fun g => True) isGo70 (.cons (.pl rfl) (.cons (.pl rfl) (.nil))) rfl (fun wz hw => slices_IndexFunc_api_Call_api_Call_ok (T := ([] ++ T)) (hr7) (hw.pickK 3 [0, 1, 2] rfl) ) ?_)
  rintro _ -
  refine WL.q (Y.geq (.pl rfl) (.pl rfl)) rfl ?_
  refine WL.q (Y.assign (.pl rfl)) rfl ?_
  refine WL.next hQ2 (.cons (i := 4) rfl (.nil)) ?_
  obtain rfl := Option.some.inj hF
  refine W.retV (fn := Try.f31) (vs := [.bool (decide (0 ≤ r7))]) Try.results31 ⟨.tmp rfl, trivial⟩ (fun _ _ h => h) (fun wz hw => ?_)
  exact hR _ _ ⟨(), trivial, rfl, (hw.pickK 3 [0, 1, 2] rfl)⟩

def alibkeep_ZonesShown_1 (N : Nat) (v1 : Int) (x2 : Call) : Option Unit :=
  some ()

theorem alibkeep_ZonesShown_1_ok {N : Nat} {v1 : Int} {x2 : Call} {res : Unit} (hF : alibkeep_ZonesShown_1 N v1 x2 = some res) (w : World) :
    Pure Try.prog 29 [.int .i64 v1, .agg (encCall x2).toArray] w (.bool (((decide (x2.kind = 1)) && (decide (x2.arg = v1))) || (((decide (x2.kind = 2)) && (!(decide (x2.to_ = (-1))))) && (decide (x2.res = v1))))) := by
  refine W.enter (n := 30) Try.func29 rfl rfl Sub.refl (by simp) (St.start w) fun R hR => ?_
  unfold alibkeep_ZonesShown_1 at hF
  -- region 0: zones.go:37
  refine W.seqR fun Q1 hQ1 => ?_
  refine WL.step (WO.boxA (.pl rfl) rfl fun b3 => ?_)
  refine WL.q (Y.assign (.pl rfl)) rfl ?_
  refine WL.next hQ1 (.cons (i := 0) rfl (.cons (i := 3) rfl (.nil))) ?_
  -- region 1: zones.go:38
  refine W.seqR fun Q2 hQ2 => ?_
  refine WL.q (Y.fieldAddr0 (off := 2) (ft := 3) Try.underlying48 rfl cells3 (.pl rfl)) rfl ?_
  refine WL.q (Y.loadB (v := .int .i64 x2.kind) Try.underlying3 rfl (.pl rfl) (i := 0) rfl (rfl)) rfl ?_
  refine WL.q (Y.eql (.pl rfl) (.pl rfl)) rfl ?_
  refine WL.q (Y.move (.pl rfl)) rfl ?_
  refine WL.g (.pl rfl rfl rfl) (fun hg => Y.fieldAddr0 (off := 3) (ft := 3) Try.underlying48 rfl cells3 (.pl rfl)) rfl ?_
  refine WL.g (.pl rfl rfl rfl) (fun hg => Y.loadB (v := .int .i64 x2.arg) Try.underlying3 rfl (.gd (hg) rfl) (i := 0) rfl (rfl)) rfl ?_
  refine WL.g (.pl rfl rfl rfl) (fun hg => Y.move (.pl rfl)) rfl ?_
  refine WL.g (.pl rfl rfl rfl) (fun hg => Y.eql (.gd (hg) rfl) (.gd (hg) rfl)) rfl ?_
  refine WL.q (Y.and (.pl rfl) (fun h2 => .gd (eqt h2) rfl)) rfl ?_
  refine WL.q (Y.move (.pl rfl)) rfl ?_
  refine WL.g (.pl rfl rfl rfl) (fun hg => Y.fieldAddr0 (off := 2) (ft := 3) Try.underlying48 rfl cells3 (.pl rfl)) rfl ?_
  refine WL.g (.pl rfl rfl rfl) (fun hg => Y.loadB (v := .int .i64 x2.kind) Try.underlying3 rfl (.gd (hg) rfl) (i := 0) rfl (rfl)) rfl ?_
  refine WL.g (.pl rfl rfl rfl) (fun hg => Y.eql (.gd (hg) rfl) (.pl rfl)) rfl ?_
  refine WL.g (.pl rfl rfl rfl) (fun hg => Y.move (.gd (hg) rfl)) rfl ?_
  refine WL.g (.gd rfl rfl rfl) (fun hg => Y.fieldAddr0 (off := 6) (ft := 3) Try.underlying48 rfl cells3 (.pl rfl)) rfl ?_
  refine WL.g (.gd rfl rfl rfl) (fun hg => Y.loadB (v := .int .i64 x2.to_) Try.underlying3 rfl (.gd (hg) rfl) (i := 0) rfl (rfl)) rfl ?_
  refine WL.g (.gd rfl rfl rfl) (fun hg => Y.neq (.gd (hg) rfl) (.pl rfl)) rfl ?_
  refine WL.g (.pl rfl rfl rfl) (fun hg => Y.and (.gd (hg) rfl) (fun h2 => .gd (band hg (eqt h2)) rfl)) rfl ?_
  refine WL.g (.pl rfl rfl rfl) (fun hg => Y.move (.gd (hg) rfl)) rfl ?_
  refine WL.g (.gd rfl rfl rfl) (fun hg => Y.fieldAddr0 (off := 4) (ft := 3) Try.underlying48 rfl cells3 (.pl rfl)) rfl ?_
  refine WL.g (.gd rfl rfl rfl) (fun hg => Y.loadB (v := .int .i64 x2.res) Try.underlying3 rfl (.gd (hg) rfl) (i := 0) rfl (rfl)) rfl ?_
  refine WL.g (.gd rfl rfl rfl) (fun hg => Y.move (.pl rfl)) rfl ?_
  refine WL.g (.gd rfl rfl rfl) (fun hg => Y.eql (.gd (hg) rfl) (.gd (hg) rfl)) rfl ?_
  refine WL.g (.pl rfl rfl rfl) (fun hg => Y.and (.gd (hg) rfl) (fun h2 => .gd (band hg (eqt h2)) rfl)) rfl ?_
  refine WL.q (Y.or (.pl rfl) (fun h2 => .gd (eqf h2) rfl)) rfl ?_
  refine WL.q (Y.assign (.pl rfl)) rfl ?_
  refine WL.next hQ2 (.cons (i := 4) rfl (.nil)) ?_
  obtain rfl := Option.some.inj hF
  refine W.retV (fn := Try.f29) (vs := [.bool (((decide (x2.kind = 1)) && (decide (x2.arg = v1))) || (((decide (x2.kind = 2)) && (!(decide (x2.to_ = (-1))))) && (decide (x2.res = v1))))]) Try.results29 ⟨.tmp rfl, trivial⟩ (fun _ _ h => h) (fun wz hw => ?_)
  exact hR _ _ ⟨rfl, (hw.pick [] rfl)⟩

def alibkeep_ZonesShown_2_1_1 (N : Nat) (x1 : Call) (a4 : Int) (a6 : Call) : Option Unit :=
  bd (alibkeep_ZonesShown_1 N a4 x1) fun (r8 : Unit) =>
  some ()

theorem alibkeep_ZonesShown_2_1_1_ok {N : Nat} {x1 : Call} {a4 : Int} {a6 : Call} {b2 : Nat} {b3 : Nat} {b5 : Nat} {res : Unit} (hF : alibkeep_ZonesShown_2_1_1 N x1 a4 a6 = some res) {w0 w : World} {T : List Chunk} (hw : St w0.heap.size w0 ([cBx b2 49 [.func (.func 29) #[] #[]], cBx b3 3 [.int .i64 a4], cBx b5 48 (encCall a6)] ++ T) w) :
    Calls Try.prog 33 (List.toArray [.agg (encCall x1).toArray, .pointer (some ⟨b2, 0, none⟩), .pointer (some ⟨b3, 0, none⟩), .pointer (some ⟨b5, 0, none⟩)]) w (fun e w' => ∃ g : Unit, (True) ∧ e = .returned (.bool (((((decide (x1.kind = 1)) && (decide (x1.arg = a4))) || (((decide (x1.kind = 2)) && (!(decide (x1.to_ = (-1))))) && (decide (x1.res = a4)))) && (!(decide (x1.to_ = (-1))))) && (decide (x1.to_ < a6.from_)))) ∧ St w0.heap.size w0 ([cBx b2 49 [.func (.func 29) #[] #[]], cBx b3 3 [.int .i64 a4], cBx b5 48 (encCall a6)] ++ T) w') := by
  refine W.enter (n := 22) Try.func33 rfl rfl Sub.refl (by simp) hw fun R hR => ?_
  unfold alibkeep_ZonesShown_2_1_1 at hF
  -- region 0: zones.go:43
  refine W.seqR fun Q1 hQ1 => ?_
  refine WL.step (WO.boxA (.pl rfl) rfl fun b7 => ?_)
  refine WL.q (Y.assign (.pl rfl)) rfl ?_
  refine WL.next hQ1 (.cons (i := 1) rfl (.cons (i := 2) rfl (.cons (i := 3) rfl (.cons (i := 4) rfl (.nil))))) ?_
  -- region 1: zones.go:43
  refine W.seqR fun Q2 hQ2 => ?_
  refine WL.q (Y.loadB (v := .func (.func 29) #[] #[]) Try.underlying49 rfl (.pl rfl) (i := 1) rfl (rfl)) rfl ?_
  refine WL.q (Y.loadB (v := .int .i64 a4) Try.underlying3 rfl (.pl rfl) (i := 2) rfl (rfl)) rfl ?_
  refine WL.q (Y.loadBA (ds := (encCall x1)) Try.underlying48 rfl cells48 (.pl rfl) (i := 0) rfl rfl subW) rfl ?_
  obtain ⟨r8, hr8, hF⟩ := bnd hF
  refine WL.step (WO.callG (γ := Unit) (first := []) (cap := []) (fun g => .bool (((decide (x1.kind = 1)) && (decide (x1.arg = a4))) || (((decide (x1.kind = 2)) && (!(decide (x1.to_ = (-1))))) && (decide (x1.res = a4))))) (fun g => ([cBx b7 48 (encCall x1), cBx b2 49 [.func (.func 29) #[] #[]], cBx b3 3 [.int .i64 a4], cBx b5 48 (encCall a6)] ++ T)) (fun g => True) isGo29 (.pl rfl) (.cons (.pl rfl) (.cons (.pl rfl) (.nil))) rfl (fun wz hw => (alibkeep_ZonesShown_1_ok (hr8) wz ).calls hw) ?_)
  rintro _ -
  refine WL.q (Y.move (.pl rfl)) rfl ?_
  refine WL.g (.pl rfl rfl rfl) (fun hg => Y.fieldAddr0 (off := 6) (ft := 3) Try.underlying48 rfl cells3 (.pl rfl)) rfl ?_
  refine WL.g (.pl rfl rfl rfl) (fun hg => Y.loadB (v := .int .i64 x1.to_) Try.underlying3 rfl (.gd (hg) rfl) (i := 0) rfl (rfl)) rfl ?_
  refine WL.g (.pl rfl rfl rfl) (fun hg => Y.neq (.gd (hg) rfl) (.pl rfl)) rfl ?_
  refine WL.q (Y.and (.pl rfl) (fun h2 => .gd (eqt h2) rfl)) rfl ?_
  refine WL.q (Y.move (.pl rfl)) rfl ?_
  refine WL.g (.pl rfl rfl rfl) (fun hg => Y.fieldAddr0 (off := 6) (ft := 3) Try.underlying48 rfl cells3 (.pl rfl)) rfl ?_
  refine WL.g (.pl rfl rfl rfl) (fun hg => Y.loadB (v := .int .i64 x1.to_) Try.underlying3 rfl (.gd (hg) rfl) (i := 0) rfl (rfl)) rfl ?_
  refine WL.g (.pl rfl rfl rfl) (fun hg => Y.fieldAddr0 (off := 5) (ft := 3) Try.underlying48 rfl cells3 (.pl rfl)) rfl ?_
  refine WL.g (.pl rfl rfl rfl) (fun hg => Y.loadB (v := .int .i64 a6.from_) Try.underlying3 rfl (.gd (hg) rfl) (i := 3) rfl (rfl)) rfl ?_
  refine WL.g (.pl rfl rfl rfl) (fun hg => Y.lss (.gd (hg) rfl) (.gd (hg) rfl)) rfl ?_
  refine WL.q (Y.and (.pl rfl) (fun h2 => .gd (eqt h2) rfl)) rfl ?_
  refine WL.q (Y.assign (.pl rfl)) rfl ?_
  refine WL.next hQ2 (.cons (i := 5) rfl (.nil)) ?_
  obtain rfl := Option.some.inj hF
  refine W.retV (fn := Try.f33) (vs := [.bool (((((decide (x1.kind = 1)) && (decide (x1.arg = a4))) || (((decide (x1.kind = 2)) && (!(decide (x1.to_ = (-1))))) && (decide (x1.res = a4)))) && (!(decide (x1.to_ = (-1))))) && (decide (x1.to_ < a6.from_)))]) Try.results33 ⟨.tmp rfl, trivial⟩ (fun _ _ h => h) (fun wz hw => ?_)
  exact hR _ _ ⟨(), trivial, rfl, (hw.pickK 4 [1, 2, 3] rfl)⟩

def slices_IndexFunc_api_Call_api_Call_2_L3 (N : Nat) (s3 : (List Call)) (c6 : Int) (c8 : Call) : Int → Option (Int ⊕ (Unit ⊕ Int))
  | v9 =>
    cond (decide (v9 < ((s3).length : Int)))
      (bd (ix s3 v9) fun (x10 : Call) =>
      bd (alibkeep_ZonesShown_2_1_1 N x10 c6 c8) fun (r11 : Unit) =>
      cond (((((decide (x10.kind = 1)) && (decide (x10.arg = c6))) || (((decide (x10.kind = 2)) && (!(decide (x10.to_ = (-1))))) && (decide (x10.res = c6)))) && (!(decide (x10.to_ = (-1))))) && (decide (x10.to_ < c8.from_)))
        (some (.inr (.inr v9)))
        (ck (ok64 (v9 + 1)) <|
        some (.inl (v9 + 1))))
      (some (.inr (.inl ())))

def slices_IndexFunc_api_Call_api_Call_2 (N : Nat) (s3 : (List Call)) (c6 : Int) (c8 : Call) : Option Int :=
  bd (α := (Unit ⊕ Int)) (iter (slices_IndexFunc_api_Call_api_Call_2_L3 N s3 c6 c8) N 0) <|
  Sum.elim (fun _ => 
    some (-1)) (fun p => some p)

theorem slices_IndexFunc_api_Call_api_Call_2_ok {N : Nat} {s3 : (List Call)} {c6 : Int} {c8 : Call} {A1 : Option Addr} {c2 : Nat} {b4 : Nat} {b5 : Nat} {b7 : Nat} {res : Int} (hF : slices_IndexFunc_api_Call_api_Call_2 N s3 c6 c8 = some res) {w0 w : World} {T : List Chunk} (hw : St w0.heap.size w0 ([cR encCall 7 A1 c2 48 s3, cBx b4 49 [.func (.func 29) #[] #[]], cBx b5 3 [.int .i64 c6], cBx b7 48 (encCall c8)] ++ T) w) :
    Calls Try.prog 70 (List.toArray [.slice A1 (s3).length c2, .func (.func 33) #[] #[.pointer (some ⟨b4, 0, none⟩), .pointer (some ⟨b5, 0, none⟩), .pointer (some ⟨b7, 0, none⟩)]]) w (fun e w' => ∃ g : Unit, (True) ∧ e = .returned (.int .i64 res) ∧ St w0.heap.size w0 ([cR encCall 7 A1 c2 48 s3, cBx b4 49 [.func (.func 29) #[] #[]], cBx b5 3 [.int .i64 c6], cBx b7 48 (encCall c8)] ++ T) w') := by
  refine W.enter (n := 19) Try.func70 rfl rfl Sub.refl (by simp) hw fun R hR => ?_
  unfold slices_IndexFunc_api_Call_api_Call_2 at hF
  -- region 0: slices.go:107
  refine W.seqR fun Q1 hQ1 => ?_
  refine WL.q (Y.assign (.pl rfl)) rfl ?_
  refine WL.next hQ1 (.cons (i := 0) rfl (.cons (i := 1) rfl (.nil))) ?_
  obtain ⟨o2, hF2, hF⟩ := bnd hF
  refine W.join0 (Em := []) (M := ([cR encCall 7 A1 c2 48 s3, cBx b4 49 [.func (.func 29) #[] #[]], cBx b5 3 [.int .i64 c6], cBx b7 48 (encCall c8)] ++ T)) (I := (.inl ()) = o2) (.nil) (fun K3 hK3 => ?_) ?_
  · -- up to
    -- region 1: slices.go:108
    refine W.seqR fun Q4 hQ4 => ?_
    refine WL.q (Y.move (.pl rfl)) rfl ?_
    refine WL.q (Y.len Try.underlying42 (.pl rfl)) rfl ?_
    refine WL.q (Y.move (.pl rfl)) rfl ?_
    refine WL.next hQ4 (.cons (i := 0) rfl (.cons (i := 1) rfl (.cons (i := 7) rfl (.cons (i := 8) rfl (.nil))))) ?_
    refine W.block ?_
    refine W.loop1 (Em := fun (v9 : Int) => [(8, .int .i64 v9)]) (M := fun v9 => ([cR encCall 7 A1 c2 48 s3, cBx b4 49 [.func (.func 29) #[] #[]], cBx b5 3 [.int .i64 c6], cBx b7 48 (encCall c8)] ++ T)) (I := fun v9 k5 => iter (slices_IndexFunc_api_Call_api_Call_2_L3 N s3 c6 c8) k5 v9 = some o2) 0 N (hF2) (.cons rfl (.nil)) (.cons (i := 0) rfl (.cons (i := 1) rfl (.cons (i := 7) rfl (.nil)))) (fun wz hw => hw.pickK 4 [0, 1, 2, 3] rfl) (fun v9 k5 hI K6 hK6 => ?_)
    obtain ⟨k5, t5, rfl, hF5, hN5⟩ := iter_step hI
    -- region 2: slices.go:108
    refine W.seqR fun Q7 hQ7 => ?_
    refine WL.q (Y.lss (.pl rfl) (.pl rfl)) rfl ?_
    refine WL.next hQ7 (.cons (i := 0) rfl (.cons (i := 1) rfl (.cons (i := 7) rfl (.cons (i := 8) rfl (.cons (i := 9) rfl (.nil)))))) ?_
    refine W.seq fun K8 hK8 => ?_
    refine W.cond (.pl rfl) (fun hC9 => ?_) (fun hC9 => ?_)
    · replace hF5 := cpos hC9 hF5
      refine W.skip ?_
      refine W.go hK8 (.cons (i := 0) rfl (.cons (i := 1) rfl (.cons (i := 7) rfl (.cons (i := 8) rfl (.nil))))) ?_
      refine W.seq fun K10 hK10 => ?_
      refine W.block ?_
      -- region 3: slices.go:108
      refine W.seqR fun Q11 hQ11 => ?_
      refine WL.q (Y.move (.pl rfl)) rfl ?_
      refine WL.q (Y.assign (.pl rfl)) rfl ?_
      refine WL.next hQ11 (.cons (i := 0) rfl (.cons (i := 1) rfl (.cons (i := 5) rfl (.cons (i := 7) rfl (.cons (i := 8) rfl (.nil)))))) ?_
      -- region 4: slices.go:109
      refine W.seqR fun Q12 hQ12 => ?_
      refine WL.q (Y.move (.pl rfl)) rfl ?_
      refine WL.q (Y.move (.pl rfl)) rfl ?_
      refine WL.q (Y.move (.pl rfl)) rfl ?_
      obtain ⟨x10, hx10, hF5⟩ := bnd hF5
      refine WL.q (Y.rowEl Try.underlying42 cells48 (i := 0) rfl (.pl rfl) rfl (.pl rfl) (ix_lt (hx10))) rfl ?_
      refine WL.q (Y.loadRA (enc := encCall) (ds := (encCall x10)) (a := x10) (idx := v9) (j := 0) Try.underlying48 rfl cells48 lenCall (i := 0) rfl (.pl rfl) (ix_get (hx10)) rfl rfl subW) rfl ?_
      obtain ⟨r11, hr11, hF5⟩ := bnd hF5
      refine WL.step (WO.callG (γ := Unit) (first := []) (cap := [.pointer (some ⟨b4, 0, none⟩), .pointer (some ⟨b5, 0, none⟩), .pointer (some ⟨b7, 0, none⟩)]) (fun g => .bool (((((decide (x10.kind = 1)) && (decide (x10.arg = c6))) || (((decide (x10.kind = 2)) && (!(decide (x10.to_ = (-1))))) && (decide (x10.res = c6)))) && (!(decide (x10.to_ = (-1))))) && (decide (x10.to_ < c8.from_)))) (fun g => ([cBx b4 49 [.func (.func 29) #[] #[]], cBx b5 3 [.int .i64 c6], cBx b7 48 (encCall c8), cR encCall 7 A1 c2 48 s3] ++ T)) (fun g => True) isGo33 (.pl rfl) (.cons (.pl rfl) (.nil)) rfl (fun wz hw => (by have h := alibkeep_ZonesShown_2_1_1_ok (T := ([cR encCall 7 A1 c2 48 s3] ++ T)) (b2 := b4) (b3 := b5) (b5 := b7) (hr11) (hw.pickK 4 [1, 2, 3, 0] rfl) ; unfold Calls at h ⊢; intro cs; obtain ⟨e, w2, fr, h1, h2⟩ := h cs; exact ⟨e, w2, fr, h1, h2⟩)) ?_)
      rintro _ -
      refine WL.next hQ12 (.cons (i := 0) rfl (.cons (i := 1) rfl (.cons (i := 5) rfl (.cons (i := 7) rfl (.cons (i := 8) rfl (.cons (i := 16) rfl (.nil))))))) ?_
      refine W.cond (.pl rfl) (fun hC13 => ?_) (fun hC13 => ?_)
      · replace hF5 := cpos hC13 hF5
        -- region 5: slices.go:110
        refine W.seqR fun Q14 hQ14 => ?_
        refine WL.q (Y.move (.pl rfl)) rfl ?_
        refine WL.q (Y.assign (.pl rfl)) rfl ?_
        refine WL.next hQ14 (.cons (i := 4) rfl (.nil)) ?_
        obtain rfl := Option.some.inj hF5
        obtain rfl := einr hN5
        obtain rfl := Option.some.inj hF
        refine W.retV (fn := Try.f70) (vs := [.int .i64 v9]) Try.results70 ⟨.tmp rfl, trivial⟩ (fun _ _ h => h) (fun wz hw => ?_)
        exact hR _ _ ⟨(), trivial, rfl, (hw.pickK 4 [3, 0, 1, 2] rfl)⟩
      · replace hF5 := cneg hC13 hF5
        refine W.skip ?_
        refine W.go hK10 (.cons (i := 0) rfl (.cons (i := 1) rfl (.cons (i := 7) rfl (.cons (i := 8) rfl (.nil))))) ?_
        -- region 6: slices.go:108
        refine W.reg ?_
        obtain ⟨hk12, hF5⟩ := ckh hF5
        refine WL.q (Y.add (.pl rfl) (.pl rfl) (ok64_lt (hk12))) rfl ?_
        refine WL.q (Y.move (.pl rfl)) rfl ?_
        refine WL.nil ?_
        obtain rfl := Option.some.inj hF5
        exact W.again1 hK6 (v9 + 1) k5 hN5 (Nat.lt_succ_self _) (.cons rfl (.nil)) (.cons (i := 0) rfl (.cons (i := 1) rfl (.cons (i := 7) rfl (.nil)))) (fun wz hw => hw.pickK 4 [3, 0, 1, 2] rfl)
    · replace hF5 := cneg hC9 hF5
      refine W.exit ?_
      obtain rfl := Option.some.inj hF5
      exact W.joinAt0 hK3  (einr hN5) (.nil) (.nil) (fun wz hw => hw.pickK 4 [0, 1, 2, 3] rfl)
  · -- behind
    rintro  rfl
    -- region 7: slices.go:113
    refine W.seqR fun Q16 hQ16 => ?_
    refine WL.q (Y.assign (.pl rfl)) rfl ?_
    refine WL.next hQ16 (.cons (i := 4) rfl (.nil)) ?_
    obtain rfl := Option.some.inj hF
    refine W.retV (fn := Try.f70) (vs := [.int .i64 (-1)]) Try.results70 ⟨.tmp rfl, trivial⟩ (fun _ _ h => h) (fun wz hw => ?_)
    exact hR _ _ ⟨(), trivial, rfl, (hw.pickK 4 [0, 1, 2, 3] rfl)⟩

def slices_ContainsFunc_api_Call_api_Call_2 (N : Nat) (s3 : (List Call)) (c6 : Int) (c8 : Call) : Option Bool :=
  bd (slices_IndexFunc_api_Call_api_Call_2 N s3 c6 c8) fun (r9 : Int) =>
  some (decide (0 ≤ r9))

theorem slices_ContainsFunc_api_Call_api_Call_2_ok {N : Nat} {s3 : (List Call)} {c6 : Int} {c8 : Call} {A1 : Option Addr} {c2 : Nat} {b4 : Nat} {b5 : Nat} {b7 : Nat} {res : Bool} (hF : slices_ContainsFunc_api_Call_api_Call_2 N s3 c6 c8 = some res) {w0 w : World} {T : List Chunk} (hw : St w0.heap.size w0 ([cR encCall 7 A1 c2 48 s3, cBx b4 49 [.func (.func 29) #[] #[]], cBx b5 3 [.int .i64 c6], cBx b7 48 (encCall c8)] ++ T) w) :
    Calls Try.prog 31 (List.toArray [.slice A1 (s3).length c2, .func (.func 33) #[] #[.pointer (some ⟨b4, 0, none⟩), .pointer (some ⟨b5, 0, none⟩), .pointer (some ⟨b7, 0, none⟩)]]) w (fun e w' => ∃ g : Unit, (True) ∧ e = .returned (.bool res) ∧ St w0.heap.size w0 ([cR encCall 7 A1 c2 48 s3, cBx b4 49 [.func (.func 29) #[] #[]], cBx b5 3 [.int .i64 c6], cBx b7 48 (encCall c8)] ++ T) w') := by
  refine W.enter (n := 9) Try.func31 rfl rfl Sub.refl (by simp) hw fun R hR => ?_
  unfold slices_ContainsFunc_api_Call_api_Call_2 at hF
  -- region 0: slices.go:124
  refine W.seqR fun Q1 hQ1 => ?_
  refine WL.q (Y.assign (.pl rfl)) rfl ?_
  refine WL.next hQ1 (.cons (i := 0) rfl (.cons (i := 1) rfl (.nil))) ?_
  -- region 1: slices.go:125
  refine W.seqR fun Q2 hQ2 => ?_
  refine WL.q (Y.move (.pl rfl)) rfl ?_
  refine WL.q (Y.move (.pl rfl)) rfl ?_
  obtain ⟨r9, hr9, hF⟩ := bnd hF
  refine WL.step (WO.call (γ := Unit) (fun g => .int .i64 r9) (fun g => ([cR encCall 7 A1 c2 48 s3, cBx b4 49 [.func (.func 29) #[] #[]], cBx b5 3 [.int .i64 c6], cBx b7 48 (encCall c8)] ++ T)) (fun g => True) isGo70 (.cons (.pl rfl) (.cons (.pl rfl) (.nil))) rfl (fun wz hw => slices_IndexFunc_api_Call_api_Call_2_ok (T := ([] ++ T)) (hr9) (hw.pickK 4 [0, 1, 2, 3] rfl) ) ?_)
  rintro _ -
  refine WL.q (Y.geq (.pl rfl) (.pl rfl)) rfl ?_
  refine WL.q (Y.assign (.pl rfl)) rfl ?_
  refine WL.next hQ2 (.cons (i := 4) rfl (.nil)) ?_
  obtain rfl := Option.some.inj hF
  refine W.retV (fn := Try.f31) (vs := [.bool (decide (0 ≤ r9))]) Try.results31 ⟨.tmp rfl, trivial⟩ (fun _ _ h => h) (fun wz hw => ?_)
  exact hR _ _ ⟨(), trivial, rfl, (hw.pickK 4 [0, 1, 2, 3] rfl)⟩

def alibkeep_ZonesShown_2_1 (N : Nat) (y1 : Call) (a4 : Int) (a6 : Int) (a10 : (List Call)) : Option Bool :=
  bd (α := Bool) (bd (alibkeep_ZonesShown_1 N a4 y1) fun (r13 : Unit) =>
    cond (((((decide (y1.kind = 1)) && (decide (y1.arg = a4))) || (((decide (y1.kind = 2)) && (!(decide (y1.to_ = (-1))))) && (decide (y1.res = a4)))) == true) && ((decide (a6 = 0)) == false))
      (bd (slices_ContainsFunc_api_Call_api_Call_2 N a10 a6 y1) fun (r14 : Bool) =>
      some ((((decide (y1.kind = 1)) && (decide (y1.arg = a4))) || (((decide (y1.kind = 2)) && (!(decide (y1.to_ = (-1))))) && (decide (y1.res = a4)))) && ((decide (a6 = 0)) || r14)))
      (some ((((decide (y1.kind = 1)) && (decide (y1.arg = a4))) || (((decide (y1.kind = 2)) && (!(decide (y1.to_ = (-1))))) && (decide (y1.res = a4)))) && ((decide (a6 = 0)) || false)))) <|
  fun (v12 : Bool) => 
    some v12

theorem alibkeep_ZonesShown_2_1_ok {N : Nat} {y1 : Call} {a4 : Int} {a6 : Int} {a10 : (List Call)} {b2 : Nat} {b3 : Nat} {b5 : Nat} {b7 : Nat} {A8 : Option Addr} {c9 : Nat} {res : Bool} (hF : alibkeep_ZonesShown_2_1 N y1 a4 a6 a10 = some res) {w0 w : World} {T : List Chunk} (hw : St w0.heap.size w0 ([cBx b2 49 [.func (.func 29) #[] #[]], cBx b3 3 [.int .i64 a4], cBx b5 3 [.int .i64 a6], cBx b7 42 [.slice A8 (a10).length c9], cR encCall 7 A8 c9 48 a10] ++ T) w) :
    Calls Try.prog 32 (List.toArray [.agg (encCall y1).toArray, .pointer (some ⟨b2, 0, none⟩), .pointer (some ⟨b3, 0, none⟩), .pointer (some ⟨b5, 0, none⟩), .pointer (some ⟨b7, 0, none⟩)]) w (fun e w' => ∃ g : Unit, (True) ∧ e = .returned (.bool res) ∧ St w0.heap.size w0 ([cBx b2 49 [.func (.func 29) #[] #[]], cBx b3 3 [.int .i64 a4], cBx b5 3 [.int .i64 a6], cBx b7 42 [.slice A8 (a10).length c9], cR encCall 7 A8 c9 48 a10] ++ T) w') := by
  refine W.enter (n := 20) Try.func32 rfl rfl Sub.refl (by simp) hw fun R hR => ?_
  unfold alibkeep_ZonesShown_2_1 at hF
  -- region 0: zones.go:42
  refine W.seqR fun Q1 hQ1 => ?_
  refine WL.step (WO.boxA (.pl rfl) rfl fun b11 => ?_)
  refine WL.q (Y.assign (.pl rfl)) rfl ?_
  refine WL.next hQ1 (.cons (i := 1) rfl (.cons (i := 2) rfl (.cons (i := 3) rfl (.cons (i := 4) rfl (.cons (i := 5) rfl (.nil)))))) ?_
  obtain ⟨o2, hF2, hF⟩ := bnd hF
  refine W.join1 (Em := fun (v12 : Bool) => [(6, .bool v12)]) (M := fun v12 => ([cBx b2 49 [.func (.func 29) #[] #[]], cBx b3 3 [.int .i64 a4], cBx b5 3 [.int .i64 a6], cBx b7 42 [.slice A8 (a10).length c9], cR encCall 7 A8 c9 48 a10] ++ T)) (I := fun v12 => v12 = o2) (.nil) (fun K3 hK3 => ?_) ?_
  · -- up to
    -- region 1: zones.go:43
    refine W.reg ?_
    refine WL.q (Y.loadB (v := .func (.func 29) #[] #[]) Try.underlying49 rfl (.pl rfl) (i := 1) rfl (rfl)) rfl ?_
    refine WL.q (Y.loadB (v := .int .i64 a4) Try.underlying3 rfl (.pl rfl) (i := 2) rfl (rfl)) rfl ?_
    refine WL.q (Y.loadBA (ds := (encCall y1)) Try.underlying48 rfl cells48 (.pl rfl) (i := 0) rfl rfl subW) rfl ?_
    obtain ⟨r13, hr13, hF2⟩ := bnd hF2
    refine WL.step (WO.callG (γ := Unit) (first := []) (cap := []) (fun g => .bool (((decide (y1.kind = 1)) && (decide (y1.arg = a4))) || (((decide (y1.kind = 2)) && (!(decide (y1.to_ = (-1))))) && (decide (y1.res = a4))))) (fun g => ([cBx b11 48 (encCall y1), cBx b2 49 [.func (.func 29) #[] #[]], cBx b3 3 [.int .i64 a4], cBx b5 3 [.int .i64 a6], cBx b7 42 [.slice A8 (a10).length c9], cR encCall 7 A8 c9 48 a10] ++ T)) (fun g => True) isGo29 (.pl rfl) (.cons (.pl rfl) (.cons (.pl rfl) (.nil))) rfl (fun wz hw => (alibkeep_ZonesShown_1_ok (hr13) wz ).calls hw) ?_)
    rintro _ -
    refine WL.q (Y.move (.pl rfl)) rfl ?_
    refine WL.g (.pl rfl rfl rfl) (fun hg => Y.loadB (v := .int .i64 a6) Try.underlying3 rfl (.pl rfl) (i := 3) rfl (rfl)) rfl ?_
    refine WL.g (.pl rfl rfl rfl) (fun hg => Y.eql (.gd (hg) rfl) (.pl rfl)) rfl ?_
    refine WL.g (.pl rfl rfl rfl) (fun hg => Y.move (.gd (hg) rfl)) rfl ?_
    refine WL.g (.gd rfl rfl rfl) (fun hg => Y.loadB (v := .slice A8 (a10).length c9) Try.underlying42 rfl (.pl rfl) (i := 4) rfl (rfl)) rfl ?_
    refine WL.g (.gd rfl rfl rfl) (fun hg => Y.fnC (.cons (.pl rfl) (.cons (.pl rfl) (.cons (.pl rfl) (.nil))))) rfl ?_
    refine bsplit (((((decide (y1.kind = 1)) && (decide (y1.arg = a4))) || (((decide (y1.kind = 2)) && (!(decide (y1.to_ = (-1))))) && (decide (y1.res = a4)))) == true) && ((decide (a6 = 0)) == false)) (fun hg4 => ?_) (fun hg4 => ?_)
    · replace hF2 := cpos hg4 hF2
      refine WL.gd (.gd rfl rfl rfl) (hg4) ?_
      obtain ⟨r14, hr14, hF2⟩ := bnd hF2
      refine WL.step (WO.call (γ := Unit) (fun g => .bool r14) (fun g => ([cR encCall 7 A8 c9 48 a10, cBx b2 49 [.func (.func 29) #[] #[]], cBx b5 3 [.int .i64 a6], cBx b11 48 (encCall y1), cBx b3 3 [.int .i64 a4], cBx b7 42 [.slice A8 (a10).length c9]] ++ T)) (fun g => True) isGo31 (.cons (.gd (hg4) rfl) (.cons (.gd (hg4) rfl) (.nil))) rfl (fun wz hw => slices_ContainsFunc_api_Call_api_Call_2_ok (T := ([cBx b3 3 [.int .i64 a4], cBx b7 42 [.slice A8 (a10).length c9]] ++ T)) (hr14) (hw.pickK 6 [5, 1, 3, 0, 2, 4] rfl) ) ?_)
      rintro _ -
      refine WL.g (.pl rfl rfl rfl) (fun hg => Y.or (.gd (hg) rfl) (fun _ => .pl rfl)) rfl ?_
      refine WL.q (Y.and (.pl rfl) (fun h2 => .gd (eqt h2) rfl)) rfl ?_
      refine WL.q (Y.assign (.pl rfl)) rfl ?_
      refine WL.nil ?_
      exact W.joinAt1 hK3 ((((decide (y1.kind = 1)) && (decide (y1.arg = a4))) || (((decide (y1.kind = 2)) && (!(decide (y1.to_ = (-1))))) && (decide (y1.res = a4)))) && ((decide (a6 = 0)) || r14)) (Option.some.inj hF2) (.cons rfl (.nil)) (.nil) (fun wz hw => hw.pickK 6 [1, 4, 2, 5, 0] rfl)
    · replace hF2 := cneg hg4 hF2
      refine WL.gn (.gd rfl rfl rfl) hg4 rfl ?_
      refine WL.g (.pl rfl rfl rfl) (fun hg => Y.or (b := false) (.gd (hg) rfl) (fun h2 => (gabsO (by have h3 := hg4; rw [hg, Bool.true_and] at h3; exact h3) h2).elim)) rfl ?_
      refine WL.q (Y.and (.pl rfl) (fun h2 => .gd (eqt h2) rfl)) rfl ?_
      refine WL.q (Y.assign (.pl rfl)) rfl ?_
      refine WL.nil ?_
      exact W.joinAt1 hK3 ((((decide (y1.kind = 1)) && (decide (y1.arg = a4))) || (((decide (y1.kind = 2)) && (!(decide (y1.to_ = (-1))))) && (decide (y1.res = a4)))) && ((decide (a6 = 0)) || false)) (Option.some.inj hF2) (.cons rfl (.nil)) (.nil) (fun wz hw => hw.pickK 6 [1, 2, 3, 4, 5] rfl)
  · -- behind
    rintro v12 rfl
    obtain rfl := Option.some.inj hF
    refine W.retV (fn := Try.f32) (vs := [.bool v12]) Try.results32 ⟨.tmp rfl, trivial⟩ (fun _ _ h => h) (fun wz hw => ?_)
    exact hR _ _ ⟨(), trivial, rfl, (hw.pickK 5 [0, 1, 2, 3, 4] rfl)⟩

def slices_IndexFunc_api_Call_api_Call_1_L3 (N : Nat) (s3 : (List Call)) (c6 : Int) (c8 : Int) : Int → Option (Int ⊕ (Unit ⊕ Int))
  | v10 =>
    cond (decide (v10 < ((s3).length : Int)))
      (bd (ix s3 v10) fun (x11 : Call) =>
      bd (alibkeep_ZonesShown_2_1 N x11 c6 c8 s3) fun (r12 : Bool) =>
      cond r12
        (some (.inr (.inr v10)))
        (ck (ok64 (v10 + 1)) <|
        some (.inl (v10 + 1))))
      (some (.inr (.inl ())))

def slices_IndexFunc_api_Call_api_Call_1 (N : Nat) (s3 : (List Call)) (c6 : Int) (c8 : Int) : Option Int :=
  bd (α := (Unit ⊕ Int)) (iter (slices_IndexFunc_api_Call_api_Call_1_L3 N s3 c6 c8) N 0) <|
  Sum.elim (fun _ => 
    some (-1)) (fun p => some p)

theorem slices_IndexFunc_api_Call_api_Call_1_ok {N : Nat} {s3 : (List Call)} {c6 : Int} {c8 : Int} {A1 : Option Addr} {c2 : Nat} {b4 : Nat} {b5 : Nat} {b7 : Nat} {b9 : Nat} {res : Int} (hF : slices_IndexFunc_api_Call_api_Call_1 N s3 c6 c8 = some res) {w0 w : World} {T : List Chunk} (hw : St w0.heap.size w0 ([cR encCall 7 A1 c2 48 s3, cBx b4 49 [.func (.func 29) #[] #[]], cBx b5 3 [.int .i64 c6], cBx b7 3 [.int .i64 c8], cBx b9 42 [.slice A1 (s3).length c2]] ++ T) w) :
    Calls Try.prog 70 (List.toArray [.slice A1 (s3).length c2, .func (.func 32) #[] #[.pointer (some ⟨b4, 0, none⟩), .pointer (some ⟨b5, 0, none⟩), .pointer (some ⟨b7, 0, none⟩), .pointer (some ⟨b9, 0, none⟩)]]) w (fun e w' => ∃ g : Unit, (True) ∧ e = .returned (.int .i64 res) ∧ St w0.heap.size w0 ([cR encCall 7 A1 c2 48 s3, cBx b4 49 [.func (.func 29) #[] #[]], cBx b5 3 [.int .i64 c6], cBx b7 3 [.int .i64 c8], cBx b9 42 [.slice A1 (s3).length c2]] ++ T) w') := by
  refine W.enter (n := 19) Try.func70 rfl rfl Sub.refl (by simp) hw fun R hR => ?_
  unfold slices_IndexFunc_api_Call_api_Call_1 at hF
  -- region 0: slices.go:107
  refine W.seqR fun Q1 hQ1 => ?_
  refine WL.q (Y.assign (.pl rfl)) rfl ?_
  refine WL.next hQ1 (.cons (i := 0) rfl (.cons (i := 1) rfl (.nil))) ?_
  obtain ⟨o2, hF2, hF⟩ := bnd hF
  refine W.join0 (Em := []) (M := ([cR encCall 7 A1 c2 48 s3, cBx b4 49 [.func (.func 29) #[] #[]], cBx b5 3 [.int .i64 c6], cBx b7 3 [.int .i64 c8], cBx b9 42 [.slice A1 (s3).length c2]] ++ T)) (I := (.inl ()) = o2) (.nil) (fun K3 hK3 => ?_) ?_
  · -- up to
    -- region 1: slices.go:108
    refine W.seqR fun Q4 hQ4 => ?_
    refine WL.q (Y.move (.pl rfl)) rfl ?_
    refine WL.q (Y.len Try.underlying42 (.pl rfl)) rfl ?_
    refine WL.q (Y.move (.pl rfl)) rfl ?_
    refine WL.next hQ4 (.cons (i := 0) rfl (.cons (i := 1) rfl (.cons (i := 7) rfl (.cons (i := 8) rfl (.nil))))) ?_
    refine W.block ?_
    refine W.loop1 (Em := fun (v10 : Int) => [(8, .int .i64 v10)]) (M := fun v10 => ([cR encCall 7 A1 c2 48 s3, cBx b4 49 [.func (.func 29) #[] #[]], cBx b5 3 [.int .i64 c6], cBx b7 3 [.int .i64 c8], cBx b9 42 [.slice A1 (s3).length c2]] ++ T)) (I := fun v10 k5 => iter (slices_IndexFunc_api_Call_api_Call_1_L3 N s3 c6 c8) k5 v10 = some o2) 0 N (hF2) (.cons rfl (.nil)) (.cons (i := 0) rfl (.cons (i := 1) rfl (.cons (i := 7) rfl (.nil)))) (fun wz hw => hw.pickK 5 [0, 1, 2, 3, 4] rfl) (fun v10 k5 hI K6 hK6 => ?_)
    obtain ⟨k5, t5, rfl, hF5, hN5⟩ := iter_step hI
    -- region 2: slices.go:108
    refine W.seqR fun Q7 hQ7 => ?_
    refine WL.q (Y.lss (.pl rfl) (.pl rfl)) rfl ?_
    refine WL.next hQ7 (.cons (i := 0) rfl (.cons (i := 1) rfl (.cons (i := 7) rfl (.cons (i := 8) rfl (.cons (i := 9) rfl (.nil)))))) ?_
    refine W.seq fun K8 hK8 => ?_
    refine W.cond (.pl rfl) (fun hC9 => ?_) (fun hC9 => ?_)
    · replace hF5 := cpos hC9 hF5
      refine W.skip ?_
      refine W.go hK8 (.cons (i := 0) rfl (.cons (i := 1) rfl (.cons (i := 7) rfl (.cons (i := 8) rfl (.nil))))) ?_
      refine W.seq fun K10 hK10 => ?_
      refine W.block ?_
      -- region 3: slices.go:108
      refine W.seqR fun Q11 hQ11 => ?_
      refine WL.q (Y.move (.pl rfl)) rfl ?_
      refine WL.q (Y.assign (.pl rfl)) rfl ?_
      refine WL.next hQ11 (.cons (i := 0) rfl (.cons (i := 1) rfl (.cons (i := 5) rfl (.cons (i := 7) rfl (.cons (i := 8) rfl (.nil)))))) ?_
      -- region 4: slices.go:109
      refine W.seqR fun Q12 hQ12 => ?_
      refine WL.q (Y.move (.pl rfl)) rfl ?_
      refine WL.q (Y.move (.pl rfl)) rfl ?_
      refine WL.q (Y.move (.pl rfl)) rfl ?_
      obtain ⟨x11, hx11, hF5⟩ := bnd hF5
      refine WL.q (Y.rowEl Try.underlying42 cells48 (i := 0) rfl (.pl rfl) rfl (.pl rfl) (ix_lt (hx11))) rfl ?_
      refine WL.q (Y.loadRA (enc := encCall) (ds := (encCall x11)) (a := x11) (idx := v10) (j := 0) Try.underlying48 rfl cells48 lenCall (i := 0) rfl (.pl rfl) (ix_get (hx11)) rfl rfl subW) rfl ?_
      obtain ⟨r12, hr12, hF5⟩ := bnd hF5
      refine WL.step (WO.callG (γ := Unit) (first := []) (cap := [.pointer (some ⟨b4, 0, none⟩), .pointer (some ⟨b5, 0, none⟩), .pointer (some ⟨b7, 0, none⟩), .pointer (some ⟨b9, 0, none⟩)]) (fun g => .bool r12) (fun g => ([cBx b4 49 [.func (.func 29) #[] #[]], cBx b5 3 [.int .i64 c6], cBx b7 3 [.int .i64 c8], cBx b9 42 [.slice A1 (s3).length c2], cR encCall 7 A1 c2 48 s3] ++ T)) (fun g => True) isGo32 (.pl rfl) (.cons (.pl rfl) (.nil)) rfl (fun wz hw => (by have h := alibkeep_ZonesShown_2_1_ok (T := ([] ++ T)) (b2 := b4) (b3 := b5) (b5 := b7) (b7 := b9) (A8 := A1) (c9 := c2) (hr12) (hw.pickK 5 [1, 2, 3, 4, 0] rfl) ; unfold Calls at h ⊢; intro cs; obtain ⟨e, w2, fr, h1, h2⟩ := h cs; exact ⟨e, w2, fr, h1, h2⟩)) ?_)
      rintro _ -
      refine WL.next hQ12 (.cons (i := 0) rfl (.cons (i := 1) rfl (.cons (i := 5) rfl (.cons (i := 7) rfl (.cons (i := 8) rfl (.cons (i := 16) rfl (.nil))))))) ?_
      refine W.cond (.pl rfl) (fun hC13 => ?_) (fun hC13 => ?_)
      · replace hF5 := cpos hC13 hF5
        -- region 5: slices.go:110
        refine W.seqR fun Q14 hQ14 => ?_
        refine WL.q (Y.move (.pl rfl)) rfl ?_
        refine WL.q (Y.assign (.pl rfl)) rfl ?_
        refine WL.next hQ14 (.cons (i := 4) rfl (.nil)) ?_
        obtain rfl := Option.some.inj hF5
        obtain rfl := einr hN5
        obtain rfl := Option.some.inj hF
        refine W.retV (fn := Try.f70) (vs := [.int .i64 v10]) Try.results70 ⟨.tmp rfl, trivial⟩ (fun _ _ h => h) (fun wz hw => ?_)
        exact hR _ _ ⟨(), trivial, rfl, (hw.pickK 5 [4, 0, 1, 2, 3] rfl)⟩
      · replace hF5 := cneg hC13 hF5
        refine W.skip ?_
        refine W.go hK10 (.cons (i := 0) rfl (.cons (i := 1) rfl (.cons (i := 7) rfl (.cons (i := 8) rfl (.nil))))) ?_
        -- region 6: slices.go:108
        refine W.reg ?_
        obtain ⟨hk13, hF5⟩ := ckh hF5
        refine WL.q (Y.add (.pl rfl) (.pl rfl) (ok64_lt (hk13))) rfl ?_
        refine WL.q (Y.move (.pl rfl)) rfl ?_
        refine WL.nil ?_
        obtain rfl := Option.some.inj hF5
        exact W.again1 hK6 (v10 + 1) k5 hN5 (Nat.lt_succ_self _) (.cons rfl (.nil)) (.cons (i := 0) rfl (.cons (i := 1) rfl (.cons (i := 7) rfl (.nil)))) (fun wz hw => hw.pickK 5 [4, 0, 1, 2, 3] rfl)
    · replace hF5 := cneg hC9 hF5
      refine W.exit ?_
      obtain rfl := Option.some.inj hF5
      exact W.joinAt0 hK3  (einr hN5) (.nil) (.nil) (fun wz hw => hw.pickK 5 [0, 1, 2, 3, 4] rfl)
  · -- behind
    rintro  rfl
    -- region 7: slices.go:113
    refine W.seqR fun Q16 hQ16 => ?_
    refine WL.q (Y.assign (.pl rfl)) rfl ?_
    refine WL.next hQ16 (.cons (i := 4) rfl (.nil)) ?_
    obtain rfl := Option.some.inj hF
    refine W.retV (fn := Try.f70) (vs := [.int .i64 (-1)]) Try.results70 ⟨.tmp rfl, trivial⟩ (fun _ _ h => h) (fun wz hw => ?_)
    exact hR _ _ ⟨(), trivial, rfl, (hw.pickK 5 [0, 1, 2, 3, 4] rfl)⟩

def slices_ContainsFunc_api_Call_api_Call_1 (N : Nat) (s3 : (List Call)) (c6 : Int) (c8 : Int) : Option Bool :=
  bd (slices_IndexFunc_api_Call_api_Call_1 N s3 c6 c8) fun (r10 : Int) =>
  some (decide (0 ≤ r10))

theorem slices_ContainsFunc_api_Call_api_Call_1_ok {N : Nat} {s3 : (List Call)} {c6 : Int} {c8 : Int} {A1 : Option Addr} {c2 : Nat} {b4 : Nat} {b5 : Nat} {b7 : Nat} {b9 : Nat} {res : Bool} (hF : slices_ContainsFunc_api_Call_api_Call_1 N s3 c6 c8 = some res) {w0 w : World} {T : List Chunk} (hw : St w0.heap.size w0 ([cR encCall 7 A1 c2 48 s3, cBx b4 49 [.func (.func 29) #[] #[]], cBx b5 3 [.int .i64 c6], cBx b7 3 [.int .i64 c8], cBx b9 42 [.slice A1 (s3).length c2]] ++ T) w) :
    Calls Try.prog 31 (List.toArray [.slice A1 (s3).length c2, .func (.func 32) #[] #[.pointer (some ⟨b4, 0, none⟩), .pointer (some ⟨b5, 0, none⟩), .pointer (some ⟨b7, 0, none⟩), .pointer (some ⟨b9, 0, none⟩)]]) w (fun e w' => ∃ g : Unit, (True) ∧ e = .returned (.bool res) ∧ St w0.heap.size w0 ([cR encCall 7 A1 c2 48 s3, cBx b4 49 [.func (.func 29) #[] #[]], cBx b5 3 [.int .i64 c6], cBx b7 3 [.int .i64 c8], cBx b9 42 [.slice A1 (s3).length c2]] ++ T) w') := by
  refine W.enter (n := 9) Try.func31 rfl rfl Sub.refl (by simp) hw fun R hR => ?_
  unfold slices_ContainsFunc_api_Call_api_Call_1 at hF
  -- region 0: slices.go:124
  refine W.seqR fun Q1 hQ1 => ?_
  refine WL.q (Y.assign (.pl rfl)) rfl ?_
  refine WL.next hQ1 (.cons (i := 0) rfl (.cons (i := 1) rfl (.nil))) ?_
  -- region 1: slices.go:125
  refine W.seqR fun Q2 hQ2 => ?_
  refine WL.q (Y.move (.pl rfl)) rfl ?_
  refine WL.q (Y.move (.pl rfl)) rfl ?_
  obtain ⟨r10, hr10, hF⟩ := bnd hF
  refine WL.step (WO.call (γ := Unit) (fun g => .int .i64 r10) (fun g => ([cR encCall 7 A1 c2 48 s3, cBx b4 49 [.func (.func 29) #[] #[]], cBx b5 3 [.int .i64 c6], cBx b7 3 [.int .i64 c8], cBx b9 42 [.slice A1 (s3).length c2]] ++ T)) (fun g => True) isGo70 (.cons (.pl rfl) (.cons (.pl rfl) (.nil))) rfl (fun wz hw => slices_IndexFunc_api_Call_api_Call_1_ok (T := ([] ++ T)) (hr10) (hw.pickK 5 [0, 1, 2, 3, 4] rfl) ) ?_)
  rintro _ -
  refine WL.q (Y.geq (.pl rfl) (.pl rfl)) rfl ?_
  refine WL.q (Y.assign (.pl rfl)) rfl ?_
  refine WL.next hQ2 (.cons (i := 4) rfl (.nil)) ?_
  obtain rfl := Option.some.inj hF
  refine W.retV (fn := Try.f31) (vs := [.bool (decide (0 ≤ r10))]) Try.results31 ⟨.tmp rfl, trivial⟩ (fun _ _ h => h) (fun wz hw => ?_)
  exact hR _ _ ⟨(), trivial, rfl, (hw.pickK 5 [0, 1, 2, 3, 4] rfl)⟩

def alibkeep_ZonesShown_2 (N : Nat) (a1 : Int) (b2 : Int) (a6 : (List Call)) : Option Bool :=
  bd (slices_ContainsFunc_api_Call_api_Call_1 N a6 b2 a1) fun (r10 : Bool) =>
  some r10

theorem alibkeep_ZonesShown_2_ok {N : Nat} {a1 : Int} {b2 : Int} {a6 : (List Call)} {b3 : Nat} {A4 : Option Addr} {c5 : Nat} {b7 : Nat} {res : Bool} (hF : alibkeep_ZonesShown_2 N a1 b2 a6 = some res) {w0 w : World} {T : List Chunk} (hw : St w0.heap.size w0 ([cBx b3 42 [.slice A4 (a6).length c5], cR encCall 7 A4 c5 48 a6, cBx b7 49 [.func (.func 29) #[] #[]]] ++ T) w) :
    Calls Try.prog 30 (List.toArray [.int .i64 a1, .int .i64 b2, .pointer (some ⟨b3, 0, none⟩), .pointer (some ⟨b7, 0, none⟩)]) w (fun e w' => ∃ g : Unit, (True) ∧ e = .returned (.bool res) ∧ St w0.heap.size w0 ([cBx b3 42 [.slice A4 (a6).length c5], cR encCall 7 A4 c5 48 a6, cBx b7 49 [.func (.func 29) #[] #[]]] ++ T) w') := by
  refine W.enter (n := 10) Try.func30 rfl rfl Sub.refl (by simp) hw fun R hR => ?_
  unfold alibkeep_ZonesShown_2 at hF
  -- region 0: zones.go:41
  refine W.seqR fun Q1 hQ1 => ?_
  refine WL.step (WO.box1 (.pl rfl) rfl rfl fun b8 => ?_)
  refine WL.step (WO.box1 (.pl rfl) rfl rfl fun b9 => ?_)
  refine WL.q (Y.assign (.pl rfl)) rfl ?_
  refine WL.next hQ1 (.cons (i := 2) rfl (.cons (i := 3) rfl (.cons (i := 4) rfl (.cons (i := 5) rfl (.nil))))) ?_
  -- region 1: zones.go:42
  refine W.seqR fun Q2 hQ2 => ?_
  refine WL.q (Y.loadB (v := .slice A4 (a6).length c5) Try.underlying42 rfl (.pl rfl) (i := 2) rfl (rfl)) rfl ?_
  refine WL.q (Y.fnC (.cons (.pl rfl) (.cons (.pl rfl) (.cons (.pl rfl) (.cons (.pl rfl) (.nil)))))) rfl ?_
  obtain ⟨r10, hr10, hF⟩ := bnd hF
  refine WL.step (WO.call (γ := Unit) (fun g => .bool r10) (fun g => ([cR encCall 7 A4 c5 48 a6, cBx b7 49 [.func (.func 29) #[] #[]], cBx b9 3 [.int .i64 b2], cBx b8 3 [.int .i64 a1], cBx b3 42 [.slice A4 (a6).length c5]] ++ T)) (fun g => True) isGo31 (.cons (.pl rfl) (.cons (.pl rfl) (.nil))) rfl (fun wz hw => slices_ContainsFunc_api_Call_api_Call_1_ok (T := ([] ++ T)) (hr10) (hw.pickK 5 [3, 4, 0, 1, 2] rfl) ) ?_)
  rintro _ -
  refine WL.q (Y.assign (.pl rfl)) rfl ?_
  refine WL.next hQ2 (.cons (i := 6) rfl (.nil)) ?_
  obtain rfl := Option.some.inj hF
  refine W.retV (fn := Try.f30) (vs := [.bool r10]) Try.results30 ⟨.tmp rfl, trivial⟩ (fun _ _ h => h) (fun wz hw => ?_)
  exact hR _ _ ⟨(), trivial, rfl, (hw.pickK 5 [4, 0, 1] rfl)⟩

def alibkeep_ZonesShown (N : Nat) (l1 : (List Event)) : Option Bool :=
  bd (zones_Check N l1) fun (r6 : (Bool × Int × Int × Int × Int)) =>
  bd (history_Calls N ([1] : List Int) l1) fun (r9 : ((List Call) × Int × Int)) =>
  bd (α := Bool) (bd (alibkeep_zonesLives N) fun (r14 : Bool) =>
    cond ((!r14) == false)
      (bd (alibkeep_ok N ([r6.2.2.2.2, r9.2.2] : List Int)) fun (r16 : Bool) =>
      some (((!r14) || (!r16)) || r6.1))
      (some (((!r14) || false) || r6.1))) <|
  fun (v13 : Bool) => 
    cond v13
      (bd (alibkeep_zonesLives N) fun (r17 : Bool) =>
      some r17)
      (cond (decide (r6.2.1 = 1))
        (bd (α := Bool) (bd ((cond (((decide (0 ≤ r6.2.2.1)) && (decide (r6.2.2.1 < ((r9.1).length : Int)))) == true) (ix r9.1 r6.2.2.1) (some Call.z))) fun (x20 : Call) =>
          cond ((((decide (0 ≤ r6.2.2.1)) && (decide (r6.2.2.1 < ((r9.1).length : Int)))) && (decide (x20.kind = 2))) == true)
            (bd (slices_ContainsFunc_api_Call_api_Call N r9.1 (Bad.mk r6.2.1 r6.2.2.1 r6.2.2.2.1)) fun (r21 : Bool) =>
            some ((((decide (0 ≤ r6.2.2.1)) && (decide (r6.2.2.1 < ((r9.1).length : Int)))) && (decide (x20.kind = 2))) && (!r21)))
            (some ((((decide (0 ≤ r6.2.2.1)) && (decide (r6.2.2.1 < ((r9.1).length : Int)))) && (decide (x20.kind = 2))) && false))) <|
        fun (v19 : Bool) => 
          some v19)
        (cond (decide (r6.2.1 = 3))
          (bd ((cond (((((decide (0 ≤ r6.2.2.1)) && (decide (r6.2.2.1 < ((r9.1).length : Int)))) && (decide (0 ≤ r6.2.2.2.1))) && (decide (r6.2.2.2.1 < ((r9.1).length : Int)))) == true) (ix r9.1 r6.2.2.2.1) (some Call.z))) fun (x22 : Call) =>
          bd ((cond (((((decide (0 ≤ r6.2.2.1)) && (decide (r6.2.2.1 < ((r9.1).length : Int)))) && (decide (0 ≤ r6.2.2.2.1))) && (decide (r6.2.2.2.1 < ((r9.1).length : Int)))) == true) (ix r9.1 r6.2.2.1) (some Call.z))) fun (x23 : Call) =>
          bd ((cond ((((((decide (0 ≤ r6.2.2.1)) && (decide (r6.2.2.1 < ((r9.1).length : Int)))) && (decide (0 ≤ r6.2.2.2.1))) && (decide (r6.2.2.2.1 < ((r9.1).length : Int)))) && (decide (x22.arg = x23.res))) == true) (ix r9.1 r6.2.2.1) (some Call.z))) fun (x24 : Call) =>
          bd ((cond ((((((decide (0 ≤ r6.2.2.1)) && (decide (r6.2.2.1 < ((r9.1).length : Int)))) && (decide (0 ≤ r6.2.2.2.1))) && (decide (r6.2.2.2.1 < ((r9.1).length : Int)))) && (decide (x22.arg = x23.res))) == true) (ix r9.1 r6.2.2.2.1) (some Call.z))) fun (x25 : Call) =>
          some ((((((decide (0 ≤ r6.2.2.1)) && (decide (r6.2.2.1 < ((r9.1).length : Int)))) && (decide (0 ≤ r6.2.2.2.1))) && (decide (r6.2.2.2.1 < ((r9.1).length : Int)))) && (decide (x22.arg = x23.res))) && (decide (x24.to_ < x25.from_))))
          (bd (α := Bool) (cond (((decide (r6.2.1 = 4)) || (decide (r6.2.1 = 5))) == true)
              (bd (alibkeep_ZonesShown_2 N r6.2.2.1 r6.2.2.2.1 r9.1) fun (r27 : Bool) =>
              cond ((((decide (r6.2.1 = 4)) || (decide (r6.2.1 = 5))) && r27) == true)
                (bd (alibkeep_ZonesShown_2 N r6.2.2.2.1 r6.2.2.1 r9.1) fun (r28 : Bool) =>
                some ((((decide (r6.2.1 = 4)) || (decide (r6.2.1 = 5))) && r27) && r28))
                (some ((((decide (r6.2.1 = 4)) || (decide (r6.2.1 = 5))) && r27) && false)))
              (cond ((((decide (r6.2.1 = 4)) || (decide (r6.2.1 = 5))) && false) == true)
                (bd (alibkeep_ZonesShown_2 N r6.2.2.2.1 r6.2.2.1 r9.1) fun (r29 : Bool) =>
                some ((((decide (r6.2.1 = 4)) || (decide (r6.2.1 = 5))) && false) && r29))
                (some ((((decide (r6.2.1 = 4)) || (decide (r6.2.1 = 5))) && false) && false)))) <|
          fun (v26 : Bool) => 
            some v26)))

theorem alibkeep_ZonesShown_ok {N : Nat} {l1 : (List Event)} {res : Bool} (hF : alibkeep_ZonesShown N l1 = some res) (w : World) {v5 : Value} (hs4 : SlIn encEvent 4 w v5 l1) :
    Pure Try.prog 6 [v5] w (.bool res) := by
  obtain ⟨A2, c3, rfl, hcc3, hs4⟩ := hs4.form
  refine W.enter (n := 145) Try.func6 rfl rfl Sub.refl (by simp) (St.start w) fun R hR => ?_
  unfold alibkeep_ZonesShown at hF
  -- region 0: zones.go:31
  refine W.seqR fun Q1 hQ1 => ?_
  refine WL.q (Y.assign (.pl rfl)) rfl ?_
  refine WL.next hQ1 (.cons (i := 0) rfl (.nil)) ?_
  -- region 1: zones.go:32
  refine W.seqR fun Q2 hQ2 => ?_
  refine WL.q (Y.move (.pl rfl)) rfl ?_
  obtain ⟨r6, hr6, hF⟩ := bnd hF
  refine WL.step (WO.callP isGo25 (.cons (.pl rfl) (.nil)) rfl (fun wz hw => zones_Check_ok (hr6) wz (hs4.mono hw)) ?_)
  refine WL.q (Y.move (.pl rfl)) rfl ?_
  refine WL.q (Y.extract (.pl rfl) rfl) rfl ?_
  refine WL.q (Y.extract (.pl rfl) rfl) rfl ?_
  refine WL.q (Y.extract (.pl rfl) rfl) rfl ?_
  refine WL.step (WO.alloc (cs := (encBad (Bad.mk 0 0 0)).toArray) zero34 rfl rfl fun b7 => ?_)
  refine WL.q (Y.assign (.pl rfl)) rfl ?_
  refine WL.step (WO.storeBA (ds := (encBad (Bad.mk r6.2.1 r6.2.2.1 r6.2.2.2.1))) (cs' := (encBad (Bad.mk r6.2.1 r6.2.2.1 r6.2.2.2.1))) cells34 (.pl rfl) (.pl rfl) rfl (oneBad _) (i := 0) rfl (lel (o := 0) (l := 3) (m := 3) (by decide) rfl rfl) (putW rfl) ?_)
  refine WL.q (Y.assign (.pl rfl)) rfl ?_
  refine WL.next hQ2 (.cons (i := 0) rfl (.cons (i := 3) rfl (.cons (i := 4) rfl (.cons (i := 5) rfl (.nil))))) ?_
  -- region 2: zones.go:33
  refine W.seqR fun Q3 hQ3 => ?_
  refine WL.step (WO.bsliceC (enc := (eI .i64)) (ys := ([1] : List Int)) Try.underlying45 bz3 (.cons (.pl rfl) (.nil)) rfl (fun _ => rfl) rfl rfl (by decide) (by decide) rfl fun b8 => ?_)
  refine WL.q (Y.move (.pl rfl)) rfl ?_
  obtain ⟨r9, hr9, hF⟩ := bnd hF
  refine WL.step (WO.callM isGo26 (.cons (.pl rfl) (.cons (.pl rfl) (.nil))) rfl (fun wz hw => history_Calls_ok (hr9) wz (SlIn.ofRow (fun _ => rfl) hw (i := 0) rfl) (hs4.mono hw)) ?_)
  rintro ⟨A10, c11⟩ -
  refine WL.q (Y.move (.pl rfl)) rfl ?_
  refine WL.q (Y.extract (.pl rfl) rfl) rfl ?_
  refine WL.q (Y.extract (.pl rfl) rfl) rfl ?_
  refine WL.q (Y.extract (.pl rfl) rfl) rfl ?_
  refine WL.step (WO.alloc (cs := [.slice none 0 0].toArray) zero42 rfl rfl fun b12 => ?_)
  refine WL.step (WO.storeB (cs' := [.slice A10 (r9.1).length c11]) cells42 (.pl rfl) (.pl rfl) rfl (i := 0) rfl (ltl (m := 1) (by decide) rfl) (rfl) ?_)
  refine WL.q (Y.assign (.pl rfl)) rfl ?_
  refine WL.q (Y.assign (.pl rfl)) rfl ?_
  refine WL.next hQ3 (.cons (i := 3) rfl (.cons (i := 4) rfl (.cons (i := 5) rfl (.cons (i := 6) rfl (.cons (i := 8) rfl (.nil)))))) ?_
  refine W.seq fun K4 hK4 => ?_
  obtain ⟨o5, hF5, hF⟩ := bnd hF
  refine W.join1 (Em := fun (v13 : Bool) => [(35, .bool v13)]) (M := fun v13 => [cBx b7 34 (encBad (Bad.mk r6.2.1 r6.2.2.1 r6.2.2.2.1)), cBx b12 42 [.slice A10 (r9.1).length c11], cR encCall 7 A10 c11 48 r9.1]) (I := fun v13 => v13 = o5) (.cons (i := 4) rfl (.cons (i := 6) rfl (.nil))) (fun K6 hK6 => ?_) ?_
  · -- up to
    -- region 3: zones.go:34
    refine W.reg ?_
    obtain ⟨r14, hr14, hF5⟩ := bnd hF5
    refine WL.step (WO.callP isGo27 (.nil) rfl (fun wz hw => alibkeep_zonesLives_ok (hr14) wz ) ?_)
    refine WL.q (Y.not (.pl rfl)) rfl ?_
    refine WL.q (Y.move (.pl rfl)) rfl ?_
    refine WL.g (.pl rfl rfl rfl) (fun hg => Y.move (.pl rfl)) rfl ?_
    refine WL.g (.pl rfl rfl rfl) (fun hg => Y.move (.pl rfl)) rfl ?_
    refine bsplit ((!r14) == false) (fun hg7 => ?_) (fun hg7 => ?_)
    · replace hF5 := cpos hg7 hF5
      refine WL.gd (.pl rfl rfl rfl) (hg7) ?_
      refine WL.step (WO.bsliceC (enc := (eI .i64)) (ys := ([r6.2.2.2.2, r9.2.2] : List Int)) Try.underlying106 bz24 (.cons (.gd (hg7) rfl) (.cons (.gd (hg7) rfl) (.nil))) rfl (fun _ => rfl) rfl rfl (by decide) (by decide) rfl fun b15 => ?_)
      refine WL.gd (.pl rfl rfl rfl) (hg7) ?_
      obtain ⟨r16, hr16, hF5⟩ := bnd hF5
      refine WL.step (WO.callP isGo28 (.cons (.pl rfl) (.nil)) rfl (fun wz hw => alibkeep_ok_ok (hr16) wz (SlIn.ofRow (fun _ => rfl) hw (i := 0) rfl)) ?_)
      refine WL.gd (.pl rfl rfl rfl) (hg7) ?_
      refine WL.q (Y.not (.pl rfl)) rfl ?_
      refine WL.q (Y.or (.pl rfl) (fun _ => .pl rfl)) rfl ?_
      refine WL.q (Y.move (.pl rfl)) rfl ?_
      refine WL.g (.pl rfl rfl rfl) (fun hg => Y.move (.pl rfl)) rfl ?_
      refine WL.q (Y.or (.pl rfl) (fun h2 => .gd (eqf h2) rfl)) rfl ?_
      refine WL.nil ?_
      exact W.joinAt1 hK6 (((!r14) || (!r16)) || r6.1) (Option.some.inj hF5) (.cons rfl (.nil)) (.cons (i := 4) rfl (.cons (i := 6) rfl (.nil))) (fun wz hw => hw.pick [4, 1, 2] rfl)
    · replace hF5 := cneg hg7 hF5
      refine WL.gn (.pl rfl rfl rfl) hg7 rfl ?_
      refine WL.gn (.pl rfl rfl rfl) hg7 rfl ?_
      refine WL.gn (.pl rfl rfl rfl) hg7 rfl ?_
      refine WL.q (Y.or (b := false) (.pl rfl) (fun h2 => (gabsO hg7 h2).elim)) rfl ?_
      refine WL.q (Y.move (.pl rfl)) rfl ?_
      refine WL.g (.pl rfl rfl rfl) (fun hg => Y.move (.pl rfl)) rfl ?_
      refine WL.q (Y.or (.pl rfl) (fun h2 => .gd (eqf h2) rfl)) rfl ?_
      refine WL.nil ?_
      exact W.joinAt1 hK6 (((!r14) || false) || r6.1) (Option.some.inj hF5) (.cons rfl (.nil)) (.cons (i := 4) rfl (.cons (i := 6) rfl (.nil))) (fun wz hw => hw.pick [3, 0, 1] rfl)
  · -- behind
    rintro v13 rfl
    refine W.cond (.pl rfl) (fun hC8 => ?_) (fun hC8 => ?_)
    · replace hF := cpos hC8 hF
      -- region 4: zones.go:35
      refine W.seqR fun Q9 hQ9 => ?_
      obtain ⟨r17, hr17, hF⟩ := bnd hF
      refine WL.step (WO.callP isGo27 (.nil) rfl (fun wz hw => alibkeep_zonesLives_ok (hr17) wz ) ?_)
      refine WL.q (Y.assign (.pl rfl)) rfl ?_
      refine WL.next hQ9 (.cons (i := 2) rfl (.nil)) ?_
      obtain rfl := Option.some.inj hF
      refine W.retV (fn := Try.f6) (vs := [.bool r17]) Try.results6 ⟨.tmp rfl, trivial⟩ (fun _ _ h => h) (fun wz hw => ?_)
      exact hR _ _ ⟨rfl, (hw.pick [] rfl)⟩
    · replace hF := cneg hC8 hF
      refine W.skip ?_
      refine W.go hK4 (.cons (i := 4) rfl (.cons (i := 6) rfl (.nil))) ?_
      -- region 5: zones.go:37
      refine W.seqR fun Q10 hQ10 => ?_
      refine WL.step (WO.alloc (cs := [.nilFunc].toArray) zero49 rfl rfl fun b18 => ?_)
      refine WL.step (WO.storeB (cs' := [.func (.func 29) #[] #[]]) cells49 (.pl rfl) (.pl rfl) rfl (i := 0) rfl (ltl (m := 1) (by decide) rfl) (rfl) ?_)
      refine WL.next hQ10 (.cons (i := 4) rfl (.cons (i := 6) rfl (.cons (i := 9) rfl (.nil)))) ?_
      -- region 6: zones.go:41
      refine W.seqR fun Q11 hQ11 => ?_
      refine WL.q (Y.fnC (.cons (.pl rfl) (.cons (.pl rfl) (.nil)))) rfl ?_
      refine WL.q (Y.assign (.pl rfl)) rfl ?_
      refine WL.next hQ11 (.cons (i := 4) rfl (.cons (i := 6) rfl (.cons (i := 10) rfl (.nil)))) ?_
      refine W.seq fun K12 hK12 => ?_
      -- region 7: zones.go:46
      refine W.seqR fun Q13 hQ13 => ?_
      refine WL.q (Y.fieldAddr0 (off := 0) (ft := 3) Try.underlying34 rfl cells3 (.pl rfl)) rfl ?_
      refine WL.q (Y.loadB (v := .int .i64 r6.2.1) Try.underlying3 rfl (.pl rfl) (i := 1) rfl (rfl)) rfl ?_
      refine WL.next hQ13 (.cons (i := 4) rfl (.cons (i := 6) rfl (.cons (i := 10) rfl (.cons (i := 39) rfl (.nil))))) ?_
      refine W.block ?_
      -- region 8: zones.go:47
      refine W.seqR fun Q14 hQ14 => ?_
      refine WL.q (Y.eql (.pl rfl) (.pl rfl)) rfl ?_
      refine WL.q (Y.assign (.pl rfl)) rfl ?_
      refine WL.next hQ14 (.cons (i := 4) rfl (.cons (i := 6) rfl (.cons (i := 10) rfl (.cons (i := 39) rfl (.cons (i := 40) rfl (.nil)))))) ?_
      refine W.cond (.pl rfl) (fun hC15 => ?_) (fun hC15 => ?_)
      · replace hF := cpos hC15 hF
        obtain ⟨o16, hF16, hF⟩ := bnd hF
        refine W.join1 (Em := fun (v19 : Bool) => [(2, .bool v19)]) (M := fun v19 => []) (I := fun v19 => v19 = o16) (.nil) (fun K17 hK17 => ?_) ?_
        · -- up to
          -- region 9: zones.go:48
          refine W.reg ?_
          refine WL.q (Y.fieldAddr0 (off := 1) (ft := 3) Try.underlying34 rfl cells3 (.pl rfl)) rfl ?_
          refine WL.q (Y.loadB (v := .int .i64 r6.2.2.1) Try.underlying3 rfl (.pl rfl) (i := 1) rfl (rfl)) rfl ?_
          refine WL.q (Y.geq (.pl rfl) (.pl rfl)) rfl ?_
          refine WL.q (Y.move (.pl rfl)) rfl ?_
          refine WL.g (.pl rfl rfl rfl) (fun hg => Y.fieldAddr0 (off := 1) (ft := 3) Try.underlying34 rfl cells3 (.pl rfl)) rfl ?_
          refine WL.g (.pl rfl rfl rfl) (fun hg => Y.loadB (v := .int .i64 r6.2.2.1) Try.underlying3 rfl (.gd (hg) rfl) (i := 1) rfl (rfl)) rfl ?_
          refine WL.g (.pl rfl rfl rfl) (fun hg => Y.loadB (v := .slice A10 (r9.1).length c11) Try.underlying42 rfl (.pl rfl) (i := 2) rfl (rfl)) rfl ?_
          refine WL.g (.pl rfl rfl rfl) (fun hg => Y.len Try.underlying42 (.gd (hg) rfl)) rfl ?_
          refine WL.g (.pl rfl rfl rfl) (fun hg => Y.lss (.gd (hg) rfl) (.gd (hg) rfl)) rfl ?_
          refine WL.q (Y.and (.pl rfl) (fun h2 => .gd (eqt h2) rfl)) rfl ?_
          refine WL.q (Y.move (.pl rfl)) rfl ?_
          refine WL.g (.pl rfl rfl rfl) (fun hg => Y.loadB (v := .slice A10 (r9.1).length c11) Try.underlying42 rfl (.pl rfl) (i := 2) rfl (rfl)) rfl ?_
          refine WL.g (.pl rfl rfl rfl) (fun hg => Y.fieldAddr0 (off := 1) (ft := 3) Try.underlying34 rfl cells3 (.pl rfl)) rfl ?_
          refine WL.g (.pl rfl rfl rfl) (fun hg => Y.loadB (v := .int .i64 r6.2.2.1) Try.underlying3 rfl (.gd (hg) rfl) (i := 1) rfl (rfl)) rfl ?_
          obtain ⟨x20, hx20, hF16⟩ := bnd hF16
          refine WL.g (.pl rfl rfl rfl) (fun hg => Y.rowEl Try.underlying42 cells48 (i := 3) rfl (.gd (hg) rfl) rfl (.gd (hg) rfl) (ix_lt (gpos hg hx20))) rfl ?_
          refine WL.g (.pl rfl rfl rfl) (fun hg => Y.rowField (off := 2) (ft := 3) Try.underlying48 rfl cells3 (i' := 3) rfl (ix_lt (gpos hg hx20)) (.gd (hg) rfl)) rfl ?_
          refine WL.g (.pl rfl rfl rfl) (fun hg => Y.loadR (enc := encCall) (v := .int .i64 x20.kind) (a := x20) (idx := r6.2.2.1) (j := 2) Try.underlying3 rfl lenCall (i := 3) rfl (.gd (hg) rfl) (ix_get (gpos hg hx20)) rfl rfl) rfl ?_
          refine WL.g (.pl rfl rfl rfl) (fun hg => Y.eql (.gd (hg) rfl) (.pl rfl)) rfl ?_
          refine WL.q (Y.and (.pl rfl) (fun h2 => .gd (eqt h2) rfl)) rfl ?_
          refine WL.q (Y.move (.pl rfl)) rfl ?_
          refine WL.g (.pl rfl rfl rfl) (fun hg => Y.loadB (v := .slice A10 (r9.1).length c11) Try.underlying42 rfl (.pl rfl) (i := 2) rfl (rfl)) rfl ?_
          refine WL.g (.pl rfl rfl rfl) (fun hg => Y.fnC (.cons (.pl rfl) (.cons (.pl rfl) (.nil)))) rfl ?_
          refine bsplit ((((decide (0 ≤ r6.2.2.1)) && (decide (r6.2.2.1 < ((r9.1).length : Int)))) && (decide (x20.kind = 2))) == true) (fun hg18 => ?_) (fun hg18 => ?_)
          · replace hF16 := cpos hg18 hF16
            refine WL.gd (.pl rfl rfl rfl) (hg18) ?_
            obtain ⟨r21, hr21, hF16⟩ := bnd hF16
            refine WL.step (WO.call (γ := Unit) (fun g => .bool r21) (fun g => [cR encCall 7 A10 c11 48 r9.1, cBx b12 42 [.slice A10 (r9.1).length c11], cBx b7 34 (encBad (Bad.mk r6.2.1 r6.2.2.1 r6.2.2.2.1)), cBx b18 49 [.func (.func 29) #[] #[]]]) (fun g => True) isGo31 (.cons (.gd (hg18) rfl) (.cons (.gd (hg18) rfl) (.nil))) rfl (fun wz hw => slices_ContainsFunc_api_Call_api_Call_ok (T := [cBx b18 49 [.func (.func 29) #[] #[]]]) (hr21) (hw.pick [3, 2, 1, 0] rfl) ) ?_)
            rintro _ -
            refine WL.gd (.pl rfl rfl rfl) (hg18) ?_
            refine WL.q (Y.not (.pl rfl)) rfl ?_
            refine WL.q (Y.and (.pl rfl) (fun _ => .pl rfl)) rfl ?_
            refine WL.q (Y.assign (.pl rfl)) rfl ?_
            refine WL.nil ?_
            exact W.joinAt1 hK17 ((((decide (0 ≤ r6.2.2.1)) && (decide (r6.2.2.1 < ((r9.1).length : Int)))) && (decide (x20.kind = 2))) && (!r21)) (Option.some.inj hF16) (.cons rfl (.nil)) (.nil) (fun wz hw => hw.pick [] rfl)
          · replace hF16 := cneg hg18 hF16
            refine WL.gn (.pl rfl rfl rfl) hg18 rfl ?_
            refine WL.gn (.pl rfl rfl rfl) hg18 rfl ?_
            refine WL.q (Y.and (b := false) (.pl rfl) (fun h2 => (gabsA hg18 h2).elim)) rfl ?_
            refine WL.q (Y.assign (.pl rfl)) rfl ?_
            refine WL.nil ?_
            exact W.joinAt1 hK17 ((((decide (0 ≤ r6.2.2.1)) && (decide (r6.2.2.1 < ((r9.1).length : Int)))) && (decide (x20.kind = 2))) && false) (Option.some.inj hF16) (.cons rfl (.nil)) (.nil) (fun wz hw => hw.pick [] rfl)
        · -- behind
          rintro v19 rfl
          obtain rfl := Option.some.inj hF
          refine W.retV (fn := Try.f6) (vs := [.bool v19]) Try.results6 ⟨.tmp rfl, trivial⟩ (fun _ _ h => h) (fun wz hw => ?_)
          exact hR _ _ ⟨rfl, (hw.pick [] rfl)⟩
      · replace hF := cneg hC15 hF
        -- region 10: zones.go:49
        refine W.seqR fun Q19 hQ19 => ?_
        refine WL.q (Y.eql (.pl rfl) (.pl rfl)) rfl ?_
        refine WL.q (Y.assign (.pl rfl)) rfl ?_
        refine WL.next hQ19 (.cons (i := 4) rfl (.cons (i := 6) rfl (.cons (i := 10) rfl (.cons (i := 67) rfl (.nil))))) ?_
        refine W.cond (.pl rfl) (fun hC20 => ?_) (fun hC20 => ?_)
        · replace hF := cpos hC20 hF
          -- region 11: zones.go:50
          refine W.seqD (by kernel_rfl) (by kernel_rfl) fun R21 hR21 => ?_
          refine WD.q (Y.fieldAddr0 (off := 1) (ft := 3) Try.underlying34 rfl cells3 (.pl rfl)) rfl ?_
          refine WD.q (Y.loadB (v := .int .i64 r6.2.2.1) Try.underlying3 rfl (.pl rfl) (i := 1) rfl (rfl)) rfl ?_
          refine WD.q (Y.geq (.pl rfl) (.pl rfl)) rfl ?_
          refine WD.q (Y.move (.pl rfl)) rfl ?_
          refine WD.g (.pl rfl rfl rfl) (fun hg => Y.fieldAddr0 (off := 1) (ft := 3) Try.underlying34 rfl cells3 (.pl rfl)) rfl ?_
          refine WD.g (.pl rfl rfl rfl) (fun hg => Y.loadB (v := .int .i64 r6.2.2.1) Try.underlying3 rfl (.gd (hg) rfl) (i := 1) rfl (rfl)) rfl ?_
          refine WD.g (.pl rfl rfl rfl) (fun hg => Y.loadB (v := .slice A10 (r9.1).length c11) Try.underlying42 rfl (.pl rfl) (i := 2) rfl (rfl)) rfl ?_
          refine WD.g (.pl rfl rfl rfl) (fun hg => Y.len Try.underlying42 (.gd (hg) rfl)) rfl ?_
          refine WD.g (.pl rfl rfl rfl) (fun hg => Y.lss (.gd (hg) rfl) (.gd (hg) rfl)) rfl ?_
          refine WD.q (Y.and (.pl rfl) (fun h2 => .gd (eqt h2) rfl)) rfl ?_
          refine WD.q (Y.move (.pl rfl)) rfl ?_
          refine WD.g (.pl rfl rfl rfl) (fun hg => Y.fieldAddr0 (off := 2) (ft := 3) Try.underlying34 rfl cells3 (.pl rfl)) rfl ?_
          refine WD.g (.pl rfl rfl rfl) (fun hg => Y.loadB (v := .int .i64 r6.2.2.2.1) Try.underlying3 rfl (.gd (hg) rfl) (i := 1) rfl (rfl)) rfl ?_
          refine WD.g (.pl rfl rfl rfl) (fun hg => Y.geq (.gd (hg) rfl) (.pl rfl)) rfl ?_
          refine WD.q (Y.and (.pl rfl) (fun h2 => .gd (eqt h2) rfl)) rfl ?_
          refine WD.q (Y.move (.pl rfl)) rfl ?_
          refine WD.g (.pl rfl rfl rfl) (fun hg => Y.fieldAddr0 (off := 2) (ft := 3) Try.underlying34 rfl cells3 (.pl rfl)) rfl ?_
          refine WD.g (.pl rfl rfl rfl) (fun hg => Y.loadB (v := .int .i64 r6.2.2.2.1) Try.underlying3 rfl (.gd (hg) rfl) (i := 1) rfl (rfl)) rfl ?_
          refine WD.g (.pl rfl rfl rfl) (fun hg => Y.loadB (v := .slice A10 (r9.1).length c11) Try.underlying42 rfl (.pl rfl) (i := 2) rfl (rfl)) rfl ?_
          refine WD.g (.pl rfl rfl rfl) (fun hg => Y.len Try.underlying42 (.gd (hg) rfl)) rfl ?_
          refine WD.g (.pl rfl rfl rfl) (fun hg => Y.lss (.gd (hg) rfl) (.gd (hg) rfl)) rfl ?_
          refine WD.q (Y.and (.pl rfl) (fun h2 => .gd (eqt h2) rfl)) rfl ?_
          refine WD.q (Y.move (.pl rfl)) rfl ?_
          refine WD.g (.pl rfl rfl rfl) (fun hg => Y.loadB (v := .slice A10 (r9.1).length c11) Try.underlying42 rfl (.pl rfl) (i := 2) rfl (rfl)) rfl ?_
          refine WD.g (.pl rfl rfl rfl) (fun hg => Y.fieldAddr0 (off := 2) (ft := 3) Try.underlying34 rfl cells3 (.pl rfl)) rfl ?_
          refine WD.g (.pl rfl rfl rfl) (fun hg => Y.loadB (v := .int .i64 r6.2.2.2.1) Try.underlying3 rfl (.gd (hg) rfl) (i := 1) rfl (rfl)) rfl ?_
          obtain ⟨x22, hx22, hF⟩ := bnd hF
          refine WD.g (.pl rfl rfl rfl) (fun hg => Y.rowEl Try.underlying42 cells48 (i := 3) rfl (.gd (hg) rfl) rfl (.gd (hg) rfl) (ix_lt (gpos hg hx22))) rfl ?_
          refine WD.g (.pl rfl rfl rfl) (fun hg => Y.rowField (off := 3) (ft := 3) Try.underlying48 rfl cells3 (i' := 3) rfl (ix_lt (gpos hg hx22)) (.gd (hg) rfl)) rfl ?_
          refine WD.g (.pl rfl rfl rfl) (fun hg => Y.loadR (enc := encCall) (v := .int .i64 x22.arg) (a := x22) (idx := r6.2.2.2.1) (j := 3) Try.underlying3 rfl lenCall (i := 3) rfl (.gd (hg) rfl) (ix_get (gpos hg hx22)) rfl rfl) rfl ?_
          refine WD.g (.pl rfl rfl rfl) (fun hg => Y.loadB (v := .slice A10 (r9.1).length c11) Try.underlying42 rfl (.pl rfl) (i := 2) rfl (rfl)) rfl ?_
          refine WD.g (.pl rfl rfl rfl) (fun hg => Y.fieldAddr0 (off := 1) (ft := 3) Try.underlying34 rfl cells3 (.pl rfl)) rfl ?_
          refine WD.g (.pl rfl rfl rfl) (fun hg => Y.loadB (v := .int .i64 r6.2.2.1) Try.underlying3 rfl (.gd (hg) rfl) (i := 1) rfl (rfl)) rfl ?_
          obtain ⟨x23, hx23, hF⟩ := bnd hF
          refine WD.g (.pl rfl rfl rfl) (fun hg => Y.rowEl Try.underlying42 cells48 (i := 3) rfl (.gd (hg) rfl) rfl (.gd (hg) rfl) (ix_lt (gpos hg hx23))) rfl ?_
          refine WD.g (.pl rfl rfl rfl) (fun hg => Y.rowField (off := 4) (ft := 3) Try.underlying48 rfl cells3 (i' := 3) rfl (ix_lt (gpos hg hx23)) (.gd (hg) rfl)) rfl ?_
          refine WD.g (.pl rfl rfl rfl) (fun hg => Y.loadR (enc := encCall) (v := .int .i64 x23.res) (a := x23) (idx := r6.2.2.1) (j := 4) Try.underlying3 rfl lenCall (i := 3) rfl (.gd (hg) rfl) (ix_get (gpos hg hx23)) rfl rfl) rfl ?_
          refine WD.g (.pl rfl rfl rfl) (fun hg => Y.eql (.gd (hg) rfl) (.gd (hg) rfl)) rfl ?_
          refine WD.q (Y.and (.pl rfl) (fun h2 => .gd (eqt h2) rfl)) rfl ?_
          refine WD.q (Y.move (.pl rfl)) rfl ?_
          refine WD.g (.pl rfl rfl rfl) (fun hg => Y.loadB (v := .slice A10 (r9.1).length c11) Try.underlying42 rfl (.pl rfl) (i := 2) rfl (rfl)) rfl ?_
          refine WD.g (.pl rfl rfl rfl) (fun hg => Y.fieldAddr0 (off := 1) (ft := 3) Try.underlying34 rfl cells3 (.pl rfl)) rfl ?_
          refine WD.g (.pl rfl rfl rfl) (fun hg => Y.loadB (v := .int .i64 r6.2.2.1) Try.underlying3 rfl (.gd (hg) rfl) (i := 1) rfl (rfl)) rfl ?_
          obtain ⟨x24, hx24, hF⟩ := bnd hF
          refine WD.g (.pl rfl rfl rfl) (fun hg => Y.rowEl Try.underlying42 cells48 (i := 3) rfl (.gd (hg) rfl) rfl (.gd (hg) rfl) (ix_lt (gpos hg hx24))) rfl ?_
          refine WD.g (.pl rfl rfl rfl) (fun hg => Y.rowField (off := 6) (ft := 3) Try.underlying48 rfl cells3 (i' := 3) rfl (ix_lt (gpos hg hx24)) (.gd (hg) rfl)) rfl ?_
          refine WD.g (.pl rfl rfl rfl) (fun hg => Y.loadR (enc := encCall) (v := .int .i64 x24.to_) (a := x24) (idx := r6.2.2.1) (j := 6) Try.underlying3 rfl lenCall (i := 3) rfl (.gd (hg) rfl) (ix_get (gpos hg hx24)) rfl rfl) rfl ?_
          refine WD.g (.pl rfl rfl rfl) (fun hg => Y.loadB (v := .slice A10 (r9.1).length c11) Try.underlying42 rfl (.pl rfl) (i := 2) rfl (rfl)) rfl ?_
          refine WD.g (.pl rfl rfl rfl) (fun hg => Y.fieldAddr0 (off := 2) (ft := 3) Try.underlying34 rfl cells3 (.pl rfl)) rfl ?_
          refine WD.g (.pl rfl rfl rfl) (fun hg => Y.loadB (v := .int .i64 r6.2.2.2.1) Try.underlying3 rfl (.gd (hg) rfl) (i := 1) rfl (rfl)) rfl ?_
          obtain ⟨x25, hx25, hF⟩ := bnd hF
          refine WD.g (.pl rfl rfl rfl) (fun hg => Y.rowEl Try.underlying42 cells48 (i := 3) rfl (.gd (hg) rfl) rfl (.gd (hg) rfl) (ix_lt (gpos hg hx25))) rfl ?_
          refine WD.g (.pl rfl rfl rfl) (fun hg => Y.rowField (off := 5) (ft := 3) Try.underlying48 rfl cells3 (i' := 3) rfl (ix_lt (gpos hg hx25)) (.gd (hg) rfl)) rfl ?_
          refine WD.g (.pl rfl rfl rfl) (fun hg => Y.loadR (enc := encCall) (v := .int .i64 x25.from_) (a := x25) (idx := r6.2.2.2.1) (j := 5) Try.underlying3 rfl lenCall (i := 3) rfl (.gd (hg) rfl) (ix_get (gpos hg hx25)) rfl rfl) rfl ?_
          refine WD.g (.pl rfl rfl rfl) (fun hg => Y.lss (.gd (hg) rfl) (.gd (hg) rfl)) rfl ?_
          refine WD.q (Y.and (.pl rfl) (fun h2 => .gd (eqt h2) rfl)) rfl ?_
          refine WD.q (Y.assign (.pl rfl)) rfl ?_
          refine WD.next hR21 (.cons (i := 2) rfl (.nil)) ?_
          obtain rfl := Option.some.inj hF
          refine W.retV (fn := Try.f6) (vs := [.bool ((((((decide (0 ≤ r6.2.2.1)) && (decide (r6.2.2.1 < ((r9.1).length : Int)))) && (decide (0 ≤ r6.2.2.2.1))) && (decide (r6.2.2.2.1 < ((r9.1).length : Int)))) && (decide (x22.arg = x23.res))) && (decide (x24.to_ < x25.from_)))]) Try.results6 ⟨.tmp rfl, trivial⟩ (fun _ _ h => h) (fun wz hw => ?_)
          exact hR _ _ ⟨rfl, (hw.pick [] rfl)⟩
        · replace hF := cneg hC20 hF
          refine W.skip ?_
          refine W.go hK12 (.cons (i := 4) rfl (.cons (i := 10) rfl (.nil))) ?_
          obtain ⟨o22, hF22, hF⟩ := bnd hF
          refine W.join1 (Em := fun (v26 : Bool) => [(2, .bool v26)]) (M := fun v26 => []) (I := fun v26 => v26 = o22) (.nil) (fun K23 hK23 => ?_) ?_
          · -- up to
            -- region 12: zones.go:52
            refine W.reg ?_
            refine WL.q (Y.fieldAddr0 (off := 0) (ft := 3) Try.underlying34 rfl cells3 (.pl rfl)) rfl ?_
            refine WL.q (Y.loadB (v := .int .i64 r6.2.1) Try.underlying3 rfl (.pl rfl) (i := 1) rfl (rfl)) rfl ?_
            refine WL.q (Y.eql (.pl rfl) (.pl rfl)) rfl ?_
            refine WL.q (Y.move (.pl rfl)) rfl ?_
            refine WL.g (.pl rfl rfl rfl) (fun hg => Y.fieldAddr0 (off := 0) (ft := 3) Try.underlying34 rfl cells3 (.pl rfl)) rfl ?_
            refine WL.g (.pl rfl rfl rfl) (fun hg => Y.loadB (v := .int .i64 r6.2.1) Try.underlying3 rfl (.gd (hg) rfl) (i := 1) rfl (rfl)) rfl ?_
            refine WL.g (.pl rfl rfl rfl) (fun hg => Y.eql (.gd (hg) rfl) (.pl rfl)) rfl ?_
            refine WL.q (Y.or (.pl rfl) (fun h2 => .gd (eqf h2) rfl)) rfl ?_
            refine WL.q (Y.move (.pl rfl)) rfl ?_
            refine WL.g (.pl rfl rfl rfl) (fun hg => Y.move (.pl rfl)) rfl ?_
            refine WL.g (.pl rfl rfl rfl) (fun hg => Y.fieldAddr0 (off := 1) (ft := 3) Try.underlying34 rfl cells3 (.pl rfl)) rfl ?_
            refine WL.g (.pl rfl rfl rfl) (fun hg => Y.loadB (v := .int .i64 r6.2.2.1) Try.underlying3 rfl (.gd (hg) rfl) (i := 1) rfl (rfl)) rfl ?_
            refine WL.g (.pl rfl rfl rfl) (fun hg => Y.fieldAddr0 (off := 2) (ft := 3) Try.underlying34 rfl cells3 (.pl rfl)) rfl ?_
            refine WL.g (.pl rfl rfl rfl) (fun hg => Y.loadB (v := .int .i64 r6.2.2.2.1) Try.underlying3 rfl (.gd (hg) rfl) (i := 1) rfl (rfl)) rfl ?_
            refine bsplit (((decide (r6.2.1 = 4)) || (decide (r6.2.1 = 5))) == true) (fun hg24 => ?_) (fun hg24 => ?_)
            · replace hF22 := cpos hg24 hF22
              refine WL.gd (.pl rfl rfl rfl) (hg24) ?_
              obtain ⟨r27, hr27, hF22⟩ := bnd hF22
              refine WL.step (WO.callG (γ := Unit) (first := []) (cap := [.pointer (some ⟨b12, 0, none⟩), .pointer (some ⟨b18, 0, none⟩)]) (fun g => .bool r27) (fun g => [cBx b12 42 [.slice A10 (r9.1).length c11], cR encCall 7 A10 c11 48 r9.1, cBx b18 49 [.func (.func 29) #[] #[]], cBx b7 34 (encBad (Bad.mk r6.2.1 r6.2.2.1 r6.2.2.2.1))]) (fun g => True) isGo30 (.gd (hg24) rfl) (.cons (.gd (hg24) rfl) (.cons (.gd (hg24) rfl) (.nil))) rfl (fun wz hw => alibkeep_ZonesShown_2_ok (T := [cBx b7 34 (encBad (Bad.mk r6.2.1 r6.2.2.1 r6.2.2.2.1))]) (hr27) (hw.pick [2, 3, 0, 1] rfl) ) ?_)
              rintro _ -
              refine WL.q (Y.and (.pl rfl) (fun _ => .pl rfl)) rfl ?_
              refine WL.q (Y.move (.pl rfl)) rfl ?_
              refine WL.g (.pl rfl rfl rfl) (fun hg => Y.move (.pl rfl)) rfl ?_
              refine WL.g (.pl rfl rfl rfl) (fun hg => Y.fieldAddr0 (off := 2) (ft := 3) Try.underlying34 rfl cells3 (.pl rfl)) rfl ?_
              refine WL.g (.pl rfl rfl rfl) (fun hg => Y.loadB (v := .int .i64 r6.2.2.2.1) Try.underlying3 rfl (.gd (hg) rfl) (i := 3) rfl (rfl)) rfl ?_
              refine WL.g (.pl rfl rfl rfl) (fun hg => Y.fieldAddr0 (off := 1) (ft := 3) Try.underlying34 rfl cells3 (.pl rfl)) rfl ?_
              refine WL.g (.pl rfl rfl rfl) (fun hg => Y.loadB (v := .int .i64 r6.2.2.1) Try.underlying3 rfl (.gd (hg) rfl) (i := 3) rfl (rfl)) rfl ?_
              refine bsplit ((((decide (r6.2.1 = 4)) || (decide (r6.2.1 = 5))) && r27) == true) (fun hg25 => ?_) (fun hg25 => ?_)
              · replace hF22 := cpos hg25 hF22
                refine WL.gd (.pl rfl rfl rfl) (hg25) ?_
                obtain ⟨r28, hr28, hF22⟩ := bnd hF22
                refine WL.step (WO.callG (γ := Unit) (first := []) (cap := [.pointer (some ⟨b12, 0, none⟩), .pointer (some ⟨b18, 0, none⟩)]) (fun g => .bool r28) (fun g => [cBx b12 42 [.slice A10 (r9.1).length c11], cR encCall 7 A10 c11 48 r9.1, cBx b18 49 [.func (.func 29) #[] #[]], cBx b7 34 (encBad (Bad.mk r6.2.1 r6.2.2.1 r6.2.2.2.1))]) (fun g => True) isGo30 (.gd (hg25) rfl) (.cons (.gd (hg25) rfl) (.cons (.gd (hg25) rfl) (.nil))) rfl (fun wz hw => alibkeep_ZonesShown_2_ok (T := [cBx b7 34 (encBad (Bad.mk r6.2.1 r6.2.2.1 r6.2.2.2.1))]) (hr28) (hw.pick [0, 1, 2, 3] rfl) ) ?_)
                rintro _ -
                refine WL.q (Y.and (.pl rfl) (fun _ => .pl rfl)) rfl ?_
                refine WL.q (Y.assign (.pl rfl)) rfl ?_
                refine WL.nil ?_
                exact W.joinAt1 hK23 ((((decide (r6.2.1 = 4)) || (decide (r6.2.1 = 5))) && r27) && r28) (Option.some.inj hF22) (.cons rfl (.nil)) (.nil) (fun wz hw => hw.pick [] rfl)
              · replace hF22 := cneg hg25 hF22
                refine WL.gn (.pl rfl rfl rfl) hg25 rfl ?_
                refine WL.q (Y.and (b := false) (.pl rfl) (fun h2 => (gabsA hg25 h2).elim)) rfl ?_
                refine WL.q (Y.assign (.pl rfl)) rfl ?_
                refine WL.nil ?_
                exact W.joinAt1 hK23 ((((decide (r6.2.1 = 4)) || (decide (r6.2.1 = 5))) && r27) && false) (Option.some.inj hF22) (.cons rfl (.nil)) (.nil) (fun wz hw => hw.pick [] rfl)
            · replace hF22 := cneg hg24 hF22
              refine WL.gn (.pl rfl rfl rfl) hg24 rfl ?_
              refine WL.q (Y.and (b := false) (.pl rfl) (fun h2 => (gabsA hg24 h2).elim)) rfl ?_
              refine WL.q (Y.move (.pl rfl)) rfl ?_
              refine WL.g (.pl rfl rfl rfl) (fun hg => Y.move (.pl rfl)) rfl ?_
              refine WL.g (.pl rfl rfl rfl) (fun hg => Y.fieldAddr0 (off := 2) (ft := 3) Try.underlying34 rfl cells3 (.pl rfl)) rfl ?_
              refine WL.g (.pl rfl rfl rfl) (fun hg => Y.loadB (v := .int .i64 r6.2.2.2.1) Try.underlying3 rfl (.gd (hg) rfl) (i := 1) rfl (rfl)) rfl ?_
              refine WL.g (.pl rfl rfl rfl) (fun hg => Y.fieldAddr0 (off := 1) (ft := 3) Try.underlying34 rfl cells3 (.pl rfl)) rfl ?_
              refine WL.g (.pl rfl rfl rfl) (fun hg => Y.loadB (v := .int .i64 r6.2.2.1) Try.underlying3 rfl (.gd (hg) rfl) (i := 1) rfl (rfl)) rfl ?_
              refine bsplit ((((decide (r6.2.1 = 4)) || (decide (r6.2.1 = 5))) && false) == true) (fun hg26 => ?_) (fun hg26 => ?_)
              · replace hF22 := cpos hg26 hF22
                refine WL.gd (.pl rfl rfl rfl) (hg26) ?_
                obtain ⟨r29, hr29, hF22⟩ := bnd hF22
                refine WL.step (WO.callG (γ := Unit) (first := []) (cap := [.pointer (some ⟨b12, 0, none⟩), .pointer (some ⟨b18, 0, none⟩)]) (fun g => .bool r29) (fun g => [cBx b12 42 [.slice A10 (r9.1).length c11], cR encCall 7 A10 c11 48 r9.1, cBx b18 49 [.func (.func 29) #[] #[]], cBx b7 34 (encBad (Bad.mk r6.2.1 r6.2.2.1 r6.2.2.2.1))]) (fun g => True) isGo30 (.gd (hg26) rfl) (.cons (.gd (hg26) rfl) (.cons (.gd (hg26) rfl) (.nil))) rfl (fun wz hw => alibkeep_ZonesShown_2_ok (T := [cBx b7 34 (encBad (Bad.mk r6.2.1 r6.2.2.1 r6.2.2.2.1))]) (hr29) (hw.pick [2, 3, 0, 1] rfl) ) ?_)
                rintro _ -
                refine WL.q (Y.and (.pl rfl) (fun _ => .pl rfl)) rfl ?_
                refine WL.q (Y.assign (.pl rfl)) rfl ?_
                refine WL.nil ?_
                exact W.joinAt1 hK23 ((((decide (r6.2.1 = 4)) || (decide (r6.2.1 = 5))) && false) && r29) (Option.some.inj hF22) (.cons rfl (.nil)) (.nil) (fun wz hw => hw.pick [] rfl)
              · replace hF22 := cneg hg26 hF22
                refine WL.gn (.pl rfl rfl rfl) hg26 rfl ?_
                refine WL.q (Y.and (b := false) (.pl rfl) (fun h2 => (gabsA hg26 h2).elim)) rfl ?_
                refine WL.q (Y.assign (.pl rfl)) rfl ?_
                refine WL.nil ?_
                exact W.joinAt1 hK23 ((((decide (r6.2.1 = 4)) || (decide (r6.2.1 = 5))) && false) && false) (Option.some.inj hF22) (.cons rfl (.nil)) (.nil) (fun wz hw => hw.pick [] rfl)
          · -- behind
            rintro v26 rfl
            obtain rfl := Option.some.inj hF
            refine W.retV (fn := Try.f6) (vs := [.bool v26]) Try.results6 ⟨.tmp rfl, trivial⟩ (fun _ _ h => h) (fun wz hw => ?_)
            exact hR _ _ ⟨rfl, (hw.pick [] rfl)⟩

end Go.Proofs.Ytolneilkgjglkaa
