/- Rows: what their code computes, and the walks; sorts of few. -/
import Derived.Test.YtkmmagekepoapaaG1
import Derived.Test.YtkmmagekepoapaaOpt
set_option linter.unusedVariables false
set_option linter.unusedSimpArgs false
set_option linter.unusedSectionVars false
set_option maxRecDepth 100000
namespace Go.Proofs.Ytkmmagekepoapaa
open Go.RowKit
structure RowsValue where
  n : Int
  enq : Int
  deq : Int
deriving DecidableEq
def RowsValue.z : RowsValue := ⟨0, 0, 0⟩
def encRowsValue (x : RowsValue) : List Value := (Value.int .i64 x.n :: (Value.int .i64 x.enq :: (Value.int .i64 x.deq :: [])))
theorem lenRowsValue (x : RowsValue) : (encRowsValue x).length = 3 := rfl
theorem oneRowsValue : ∀ x, ∀ v ∈ encRowsValue x, v.oneCell' = true := fun x => (one_cons rfl (one_cons rfl (one_cons rfl one_nil)))
theorem cells161 : Try.prog.cellsOf 161 = 0 + 1 := by kernel_rfl
theorem cells167 : Try.prog.cellsOf 167 = 2 + 1 := by kernel_rfl
theorem isGo73 : IsGo Try.prog 73 := ⟨_, Try.func73, by kernel_rfl, rfl⟩
theorem isGo74 : IsGo Try.prog 74 := ⟨_, Try.func74, by kernel_rfl, rfl⟩
theorem isGo75 : IsGo Try.prog 75 := ⟨_, Try.func75, by kernel_rfl, rfl⟩
theorem isGo99 : IsGo Try.prog 99 := ⟨_, Try.func99, by kernel_rfl, rfl⟩
theorem isGo100 : IsGo Try.prog 100 := ⟨_, Try.func100, by kernel_rfl, rfl⟩
theorem isGo101 : IsGo Try.prog 101 := ⟨_, Try.func101, by kernel_rfl, rfl⟩
theorem isGo102 : IsGo Try.prog 102 := ⟨_, Try.func102, by kernel_rfl, rfl⟩
theorem isGo111 : IsGo Try.prog 111 := ⟨_, Try.func111, by kernel_rfl, rfl⟩
theorem isGo119 : IsGo Try.prog 119 := ⟨_, Try.func119, by kernel_rfl, rfl⟩
theorem isGo120 : IsGo Try.prog 120 := ⟨_, Try.func120, by kernel_rfl, rfl⟩
theorem bz167 : ∃ i, Try.prog.info? 167 = some i ∧ i.zero = some (Value.agg #[(Value.int .i64 0), (Value.int .i64 0), (Value.int .i64 0)]) ∧ i.size = 3 := ⟨_, rfl, by kernel_rfl, by kernel_rfl⟩
theorem ap167 : ∃ i z, Try.prog.info? 167 = some i ∧ i.zero = some z ∧ i.size = 3 ∧ i.bytes = 24 ∧ z.cells.size = 3 ∧ 0 < 3 := ⟨_, (Value.agg #[(Value.int .i64 0), (Value.int .i64 0), (Value.int .i64 0)]), rfl, by kernel_rfl, by kernel_rfl, by kernel_rfl, by kernel_rfl, by decide⟩
theorem shape163 : Shape Try.prog 163 [(0, 1), (1, 1)] #[(Value.slice none 0 0), (Value.slice none 0 0)] := ⟨_, _, Value.agg #[(Value.slice none 0 0), (Value.slice none 0 0)], Try.underlying163, rfl, by kernel_rfl, rfl, by kernel_rfl, by decide⟩
theorem shape167 : Shape Try.prog 167 [(0, 1), (1, 1), (2, 1)] #[(Value.int .i64 0), (Value.int .i64 0), (Value.int .i64 0)] := ⟨_, _, Value.agg #[(Value.int .i64 0), (Value.int .i64 0), (Value.int .i64 0)], Try.underlying167, rfl, by kernel_rfl, rfl, by kernel_rfl, by decide⟩
def rows_log_find_1 (N : Nat) (v1 : RowsValue) (a3 : Int) : Option Unit :=
  some ()

theorem rows_log_find_1_ok {N : Nat} {v1 : RowsValue} {a3 : Int} {b2 : Nat} {res : Unit} (hF : rows_log_find_1 N v1 a3 = some res) {w0 w : World} {T : List Chunk} (hw : St w0.heap.size w0 ([cBx b2 3 [.int .i64 a3]] ++ T) w) :
    Calls Try.prog 100 (List.toArray [.agg (encRowsValue v1).toArray, .pointer (some ⟨b2, 0, none⟩)]) w (fun e w' => ∃ g : Unit, (True) ∧ e = .returned (.bool (decide (v1.n = a3))) ∧ St w0.heap.size w0 ([cBx b2 3 [.int .i64 a3]] ++ T) w') := by
  refine W.enter (n := 8) Try.func100 rfl rfl Sub.refl (by simp) hw fun R hR => ?_
  unfold rows_log_find_1 at hF
  refine W.seqR fun Q1 hQ1 => ?_
  refine WL.step (WO.boxA (.pl rfl) rfl fun b4 => ?_)
  refine WL.q (Y.assign (.pl rfl)) rfl ?_
  refine WL.next hQ1 (.cons (i := 1) rfl (.cons (i := 2) rfl (.nil))) ?_
  refine W.seqR fun Q2 hQ2 => ?_
  refine WL.q (Y.fieldAddr0 (off := 0) (ft := 3) Try.underlying167 rfl cells3 (.pl rfl)) rfl ?_
  refine WL.q (Y.loadB (v := .int .i64 v1.n) Try.underlying3 rfl (.pl rfl) (i := 0) rfl (rfl)) rfl ?_
  refine WL.q (Y.loadB (v := .int .i64 a3) Try.underlying3 rfl (.pl rfl) (i := 1) rfl (rfl)) rfl ?_
  refine WL.q (Y.eql (.pl rfl) (.pl rfl)) rfl ?_
  refine WL.q (Y.assign (.pl rfl)) rfl ?_
  refine WL.next hQ2 (.cons (i := 3) rfl (.nil)) ?_
  obtain rfl := Option.some.inj hF
  refine W.retV (fn := Try.f100) (vs := [.bool (decide (v1.n = a3))]) Try.results100 ⟨.tmp rfl, trivial⟩ (fun _ _ h => h) (fun wz hw => ?_)
  exact hR _ _ ⟨(), trivial, rfl, (hw.pickK 2 [1] rfl)⟩

def slices_IndexFunc_rows_value_rows_value_L3 (N : Nat) (s3 : (List RowsValue)) (c5 : Int) : Int → Option (Int ⊕ (Unit ⊕ Int))
  | v6 =>
    cond (decide (v6 < ((s3).length : Int)))
      (bd (ix s3 v6) fun (x7 : RowsValue) =>
      bd (rows_log_find_1 N x7 c5) fun (r8 : Unit) =>
      cond (decide (x7.n = c5))
        (some (.inr (.inr v6)))
        (ck (ok64 (v6 + 1)) <|
        some (.inl (v6 + 1))))
      (some (.inr (.inl ())))

def slices_IndexFunc_rows_value_rows_value (N : Nat) (s3 : (List RowsValue)) (c5 : Int) : Option Int :=
  bd (α := (Unit ⊕ Int)) (iter (slices_IndexFunc_rows_value_rows_value_L3 N s3 c5) N 0) <|
  Sum.elim (fun _ => 
    some (-1)) (fun p => some p)

theorem slices_IndexFunc_rows_value_rows_value_ok {N : Nat} {s3 : (List RowsValue)} {c5 : Int} {A1 : Option Addr} {c2 : Nat} {b4 : Nat} {res : Int} (hF : slices_IndexFunc_rows_value_rows_value N s3 c5 = some res) {w0 w : World} {T : List Chunk} (hw : St w0.heap.size w0 ([cR encRowsValue 3 A1 c2 167 s3, cBx b4 3 [.int .i64 c5]] ++ T) w) :
    Calls Try.prog 99 (List.toArray [.slice A1 (s3).length c2, .func (.func 100) #[] #[.pointer (some ⟨b4, 0, none⟩)]]) w (fun e w' => ∃ g : Unit, (True) ∧ e = .returned (.int .i64 res) ∧ St w0.heap.size w0 ([cR encRowsValue 3 A1 c2 167 s3, cBx b4 3 [.int .i64 c5]] ++ T) w') := by
  refine W.enter (n := 19) Try.func99 rfl rfl Sub.refl (by simp) hw fun R hR => ?_
  unfold slices_IndexFunc_rows_value_rows_value at hF
  refine W.seqR fun Q1 hQ1 => ?_
  refine WL.q (Y.assign (.pl rfl)) rfl ?_
  refine WL.next hQ1 (.cons (i := 0) rfl (.cons (i := 1) rfl (.nil))) ?_
  obtain ⟨o2, hF2, hF⟩ := bnd hF
  refine W.join0 (Em := []) (M := ([cR encRowsValue 3 A1 c2 167 s3, cBx b4 3 [.int .i64 c5]] ++ T)) (I := (.inl ()) = o2) (.nil) (fun K3 hK3 => ?_) ?_
  · -- up to
    refine W.seqR fun Q4 hQ4 => ?_
    refine WL.q (Y.move (.pl rfl)) rfl ?_
    refine WL.q (Y.len Try.underlying161 (.pl rfl)) rfl ?_
    refine WL.q (Y.move (.pl rfl)) rfl ?_
    refine WL.next hQ4 (.cons (i := 0) rfl (.cons (i := 1) rfl (.cons (i := 7) rfl (.cons (i := 8) rfl (.nil))))) ?_
    refine W.block ?_
    refine W.loop1 (Em := fun (v6 : Int) => [(8, .int .i64 v6)]) (M := fun v6 => ([cR encRowsValue 3 A1 c2 167 s3, cBx b4 3 [.int .i64 c5]] ++ T)) (I := fun v6 k5 => iter (slices_IndexFunc_rows_value_rows_value_L3 N s3 c5) k5 v6 = some o2) 0 N (hF2) (.cons rfl (.nil)) (.cons (i := 0) rfl (.cons (i := 1) rfl (.cons (i := 7) rfl (.nil)))) (fun wz hw => hw.pickK 2 [0, 1] rfl) (fun v6 k5 hI K6 hK6 => ?_)
    obtain ⟨k5, t5, rfl, hF5, hN5⟩ := iter_step hI
    refine W.seqR fun Q7 hQ7 => ?_
    refine WL.q (Y.lss (.pl rfl) (.pl rfl)) rfl ?_
    refine WL.next hQ7 (.cons (i := 0) rfl (.cons (i := 1) rfl (.cons (i := 7) rfl (.cons (i := 8) rfl (.cons (i := 9) rfl (.nil)))))) ?_
    refine W.seq fun K8 hK8 => ?_
    refine W.cond (.pl rfl) (fun hC9 => ?_) (fun hC9 => ?_)
    · replace hF5 := cpos hC9 hF5
      refine W.skip ?_
      refine W.go hK8 (.cons (i := 0) rfl (.cons (i := 1) rfl (.cons (i := 7) rfl (.cons (i := 8) rfl (.nil))))) ?_
      refine W.seq fun K10 hK10 => ?_
      refine W.block ?_
      refine W.seqR fun Q11 hQ11 => ?_
      refine WL.q (Y.move (.pl rfl)) rfl ?_
      refine WL.q (Y.assign (.pl rfl)) rfl ?_
      refine WL.next hQ11 (.cons (i := 0) rfl (.cons (i := 1) rfl (.cons (i := 5) rfl (.cons (i := 7) rfl (.cons (i := 8) rfl (.nil)))))) ?_
      refine W.seqR fun Q12 hQ12 => ?_
      refine WL.q (Y.move (.pl rfl)) rfl ?_
      refine WL.q (Y.move (.pl rfl)) rfl ?_
      refine WL.q (Y.move (.pl rfl)) rfl ?_
      obtain ⟨x7, hx7, hF5⟩ := bnd hF5
      refine WL.q (Y.rowEl Try.underlying161 cells167 (i := 0) rfl (.pl rfl) rfl (.pl rfl) (ix_lt (hx7))) rfl ?_
      refine WL.q (Y.loadRA (enc := encRowsValue) (ds := (encRowsValue x7)) (a := x7) (idx := v6) (j := 0) Try.underlying167 rfl cells167 lenRowsValue (i := 0) rfl (.pl rfl) (ix_get (hx7)) rfl rfl subW) rfl ?_
      obtain ⟨r8, hr8, hF5⟩ := bnd hF5
      refine WL.step (WO.callG (γ := Unit) (first := []) (cap := [.pointer (some ⟨b4, 0, none⟩)]) (fun g => .bool (decide (x7.n = c5))) (fun g => ([cBx b4 3 [.int .i64 c5], cR encRowsValue 3 A1 c2 167 s3] ++ T)) (fun g => True) isGo100 (.pl rfl) (.cons (.pl rfl) (.nil)) rfl (fun wz hw => (by have h := rows_log_find_1_ok (T := ([cR encRowsValue 3 A1 c2 167 s3] ++ T)) (b2 := b4) (hr8) (hw.pickK 2 [1, 0] rfl) ; unfold Calls at h ⊢; intro cs; obtain ⟨e, w2, fr, h1, h2⟩ := h cs; exact ⟨e, w2, fr, h1, h2⟩)) ?_)
      rintro _ -
      refine WL.next hQ12 (.cons (i := 0) rfl (.cons (i := 1) rfl (.cons (i := 5) rfl (.cons (i := 7) rfl (.cons (i := 8) rfl (.cons (i := 16) rfl (.nil))))))) ?_
      refine W.cond (.pl rfl) (fun hC13 => ?_) (fun hC13 => ?_)
      · replace hF5 := cpos hC13 hF5
        refine W.seqR fun Q14 hQ14 => ?_
        refine WL.q (Y.move (.pl rfl)) rfl ?_
        refine WL.q (Y.assign (.pl rfl)) rfl ?_
        refine WL.next hQ14 (.cons (i := 4) rfl (.nil)) ?_
        obtain rfl := Option.some.inj hF5
        obtain rfl := einr hN5
        obtain rfl := Option.some.inj hF
        refine W.retV (fn := Try.f99) (vs := [.int .i64 v6]) Try.results99 ⟨.tmp rfl, trivial⟩ (fun _ _ h => h) (fun wz hw => ?_)
        exact hR _ _ ⟨(), trivial, rfl, (hw.pickK 2 [1, 0] rfl)⟩
      · replace hF5 := cneg hC13 hF5
        refine W.skip ?_
        refine W.go hK10 (.cons (i := 0) rfl (.cons (i := 1) rfl (.cons (i := 7) rfl (.cons (i := 8) rfl (.nil))))) ?_
        refine W.reg ?_
        obtain ⟨hk9, hF5⟩ := ckh hF5
        refine WL.q (Y.add (.pl rfl) (.pl rfl) (ok64_lt (hk9))) rfl ?_
        refine WL.q (Y.move (.pl rfl)) rfl ?_
        refine WL.nil ?_
        obtain rfl := Option.some.inj hF5
        exact W.again1 hK6 (v6 + 1) k5 hN5 (Nat.lt_succ_self _) (.cons rfl (.nil)) (.cons (i := 0) rfl (.cons (i := 1) rfl (.cons (i := 7) rfl (.nil)))) (fun wz hw => hw.pickK 2 [1, 0] rfl)
    · replace hF5 := cneg hC9 hF5
      refine W.exit ?_
      obtain rfl := Option.some.inj hF5
      exact W.joinAt0 hK3  (einr hN5) (.nil) (.nil) (fun wz hw => hw.pickK 2 [0, 1] rfl)
  · -- behind
    rintro  rfl
    refine W.seqR fun Q16 hQ16 => ?_
    refine WL.q (Y.assign (.pl rfl)) rfl ?_
    refine WL.next hQ16 (.cons (i := 4) rfl (.nil)) ?_
    obtain rfl := Option.some.inj hF
    refine W.retV (fn := Try.f99) (vs := [.int .i64 (-1)]) Try.results99 ⟨.tmp rfl, trivial⟩ (fun _ _ h => h) (fun wz hw => ?_)
    exact hR _ _ ⟨(), trivial, rfl, (hw.pickK 2 [0, 1] rfl)⟩

def rows_log_find (N : Nat) (calls4 : (List Call)) (values7 : (List RowsValue)) (n8 : Int) : Option Int :=
  bd (slices_IndexFunc_rows_value_rows_value N values7 n8) fun (r10 : Int) =>
  cond (decide (r10 < 0))
    (some (-1))
    (bd (ix values7 r10) fun (x11 : RowsValue) =>
    some r10)

theorem rows_log_find_ok {N : Nat} {calls4 : (List Call)} {values7 : (List RowsValue)} {n8 : Int} {b1 : Nat} {A2 : Option Addr} {c3 : Nat} {A5 : Option Addr} {c6 : Nat} {res : Int} (hF : rows_log_find N calls4 values7 n8 = some res) {w0 w : World} {T : List Chunk} (hw : St w0.heap.size w0 ([cBx b1 163 (Value.slice A2 (calls4).length c3 :: (Value.slice A5 (values7).length c6 :: [])), cR encCall 7 A2 c3 129 calls4, cR encRowsValue 3 A5 c6 167 values7] ++ T) w) :
    Calls Try.prog 73 (List.toArray [.pointer (some ⟨b1, 0, none⟩), .int .i64 n8]) w (fun e w' => ∃ g : Unit, (True) ∧ e = .returned (.pointer (oel A5 res 3)) ∧ St w0.heap.size w0 ([cBx b1 163 (Value.slice A2 (calls4).length c3 :: (Value.slice A5 (values7).length c6 :: [])), cR encCall 7 A2 c3 129 calls4, cR encRowsValue 3 A5 c6 167 values7] ++ T) w') := by
  refine W.enter (n := 20) Try.func73 rfl rfl Sub.refl (by simp) hw fun R hR => ?_
  unfold rows_log_find at hF
  refine W.seqR fun Q1 hQ1 => ?_
  refine WL.step (WO.box1 (.pl rfl) rfl rfl fun b9 => ?_)
  refine WL.q (Y.assign (.pl rfl)) rfl ?_
  refine WL.next hQ1 (.cons (i := 0) rfl (.cons (i := 3) rfl (.nil))) ?_
  refine W.seqR fun Q2 hQ2 => ?_
  refine WL.q (Y.move (.pl rfl)) rfl ?_
  refine WL.q (Y.nilCheck (.pl rfl)) rfl ?_
  refine WL.q (Y.fieldAddr0 (off := 1) (ft := 161) Try.underlying163 rfl cells161 (.pl rfl)) rfl ?_
  refine WL.q (Y.loadB (v := .slice A5 (values7).length c6) Try.underlying161 rfl (.pl rfl) (i := 1) rfl (rfl)) rfl ?_
  refine WL.q (Y.fnC (.cons (.pl rfl) (.nil))) rfl ?_
  obtain ⟨r10, hr10, hF⟩ := bnd hF
  refine WL.step (WO.call (γ := Unit) (fun g => .int .i64 r10) (fun g => ([cR encRowsValue 3 A5 c6 167 values7, cBx b9 3 [.int .i64 n8], cBx b1 163 (Value.slice A2 (calls4).length c3 :: (Value.slice A5 (values7).length c6 :: [])), cR encCall 7 A2 c3 129 calls4] ++ T)) (fun g => True) isGo99 (.cons (.pl rfl) (.cons (.pl rfl) (.nil))) rfl (fun wz hw => slices_IndexFunc_rows_value_rows_value_ok (T := ([cBx b1 163 (Value.slice A2 (calls4).length c3 :: (Value.slice A5 (values7).length c6 :: [])), cR encCall 7 A2 c3 129 calls4] ++ T)) (hr10) (hw.pickK 4 [3, 0, 1, 2] rfl) ) ?_)
  rintro _ -
  refine WL.q (Y.assign (.pl rfl)) rfl ?_
  refine WL.next hQ2 (.cons (i := 0) rfl (.cons (i := 5) rfl (.nil))) ?_
  refine W.seq fun K3 hK3 => ?_
  refine W.seqR fun Q4 hQ4 => ?_
  refine WL.q (Y.move (.pl rfl)) rfl ?_
  refine WL.q (Y.lss (.pl rfl) (.pl rfl)) rfl ?_
  refine WL.next hQ4 (.cons (i := 0) rfl (.cons (i := 5) rfl (.cons (i := 13) rfl (.nil)))) ?_
  refine W.cond (.pl rfl) (fun hC5 => ?_) (fun hC5 => ?_)
  · replace hF := cpos hC5 hF
    refine W.seqR fun Q6 hQ6 => ?_
    refine WL.q (Y.assign (.pl rfl)) rfl ?_
    refine WL.next hQ6 (.cons (i := 4) rfl (.nil)) ?_
    obtain rfl := Option.some.inj hF
    refine W.retV (fn := Try.f73) (vs := [.pointer none]) Try.results73 ⟨.tmp rfl, trivial⟩ (fun _ _ h => h) (fun wz hw => ?_)
    exact hR _ _ ⟨(), trivial, resOelN, (hw.pickK 4 [2, 3, 0] rfl)⟩
  · replace hF := cneg hC5 hF
    refine W.skip ?_
    refine W.go hK3 (.cons (i := 0) rfl (.cons (i := 5) rfl (.nil))) ?_
    refine W.seqR fun Q7 hQ7 => ?_
    refine WL.q (Y.move (.pl rfl)) rfl ?_
    refine WL.q (Y.nilCheck (.pl rfl)) rfl ?_
    refine WL.q (Y.fieldAddr0 (off := 1) (ft := 161) Try.underlying163 rfl cells161 (.pl rfl)) rfl ?_
    refine WL.q (Y.loadB (v := .slice A5 (values7).length c6) Try.underlying161 rfl (.pl rfl) (i := 2) rfl (rfl)) rfl ?_
    refine WL.q (Y.move (.pl rfl)) rfl ?_
    obtain ⟨x11, hx11, hF⟩ := bnd hF
    refine WL.q (Y.rowEl Try.underlying161 cells167 (i := 0) rfl (.pl rfl) rfl (.pl rfl) (ix_lt (hx11))) rfl ?_
    refine WL.q (Y.assign (.pl rfl)) rfl ?_
    refine WL.next hQ7 (.cons (i := 4) rfl (.nil)) ?_
    obtain rfl := Option.some.inj hF
    refine W.retV (fn := Try.f73) (vs := [.pointer (some (elA A5 (r10.toNat * (2 + 1))))]) Try.results73 ⟨.tmp rfl, trivial⟩ (fun _ _ h => h) (fun wz hw => ?_)
    exact hR _ _ ⟨(), trivial, (resOel (ix_lt (hx11)).1), (hw.pickK 4 [2, 3, 0] rfl)⟩

def math_bits_Len32 (N : Nat) (x1 : Int) : Option Int :=
  bd (α := (Int × Int)) (cond (decide (65536 ≤ x1))
      (some ((shrI .u32 x1 16), 16))
      (some (x1, 0))) <|
  fun (x2, n3) => 
    bd (α := (Int × Int)) (cond (decide (256 ≤ x2))
        (ck (ok64 (n3 + 8)) <|
        some ((shrI .u32 x2 8), (n3 + 8)))
        (some (x2, n3))) <|
    fun (x4, n5) => 
      bd (sx ⟨#[0, 1, 2, 2, 3, 3, 3, 3, 4, 4, 4, 4, 4, 4, 4, 4, 5, 5, 5, 5, 5, 5, 5, 5, 5, 5, 5, 5, 5, 5, 5, 5, 6, 6, 6, 6, 6, 6, 6, 6, 6, 6, 6, 6, 6, 6, 6, 6, 6, 6, 6, 6, 6, 6, 6, 6, 6, 6, 6, 6, 6, 6, 6, 6, 7, 7, 7, 7, 7, 7, 7, 7, 7, 7, 7, 7, 7, 7, 7, 7, 7, 7, 7, 7, 7, 7, 7, 7, 7, 7, 7, 7, 7, 7, 7, 7, 7, 7, 7, 7, 7, 7, 7, 7, 7, 7, 7, 7, 7, 7, 7, 7, 7, 7, 7, 7, 7, 7, 7, 7, 7, 7, 7, 7, 7, 7, 7, 7, 8, 8, 8, 8, 8, 8, 8, 8, 8, 8, 8, 8, 8, 8, 8, 8, 8, 8, 8, 8, 8, 8, 8, 8, 8, 8, 8, 8, 8, 8, 8, 8, 8, 8, 8, 8, 8, 8, 8, 8, 8, 8, 8, 8, 8, 8, 8, 8, 8, 8, 8, 8, 8, 8, 8, 8, 8, 8, 8, 8, 8, 8, 8, 8, 8, 8, 8, 8, 8, 8, 8, 8, 8, 8, 8, 8, 8, 8, 8, 8, 8, 8, 8, 8, 8, 8, 8, 8, 8, 8, 8, 8, 8, 8, 8, 8, 8, 8, 8, 8, 8, 8, 8, 8, 8, 8, 8, 8, 8, 8, 8, 8, 8, 8, 8, 8, 8, 8, 8, 8, 8, 8, 8, 8, 8, 8, 8, 8]⟩ (IntKind.u8.wrap x4)) fun (x7 : Int) =>
      ck (ok64 (n5 + (IntKind.i64.wrap x7))) <|
      some (n5 + (IntKind.i64.wrap x7))

theorem math_bits_Len32_ok {N : Nat} {x1 : Int} {res : Int} (hF : math_bits_Len32 N x1 = some res) (w : World) :
    Pure Try.prog 119 [.int .u32 x1] w (.int .i64 res) := by
  refine W.enter (n := 19) Try.func119 rfl rfl Sub.refl (by simp) (St.start w) fun R hR => ?_
  unfold math_bits_Len32 at hF
  refine W.seqR fun Q1 hQ1 => ?_
  refine WL.q (Y.assign (.pl rfl)) rfl ?_
  refine WL.next hQ1 (.cons (i := 0) rfl (.cons (i := 2) rfl (.nil))) ?_
  obtain ⟨o2, hF2, hF⟩ := bnd hF
  refine W.join2 (Em := fun (x2 : Int) (n3 : Int) => [(0, .int .u32 x2), (2, .int .i64 n3)]) (M := fun x2 n3 => []) (I := fun x2 n3 => (x2, n3) = o2) (.nil) (fun K3 hK3 => ?_) ?_
  · -- up to
    refine W.seqR fun Q4 hQ4 => ?_
    refine WL.q (Y.move (.pl rfl)) rfl ?_
    refine WL.q (Y.geq (.pl rfl) (.pl rfl)) rfl ?_
    refine WL.next hQ4 (.cons (i := 0) rfl (.cons (i := 2) rfl (.cons (i := 4) rfl (.nil)))) ?_
    refine W.cond (.pl rfl) (fun hC5 => ?_) (fun hC5 => ?_)
    · replace hF2 := cpos hC5 hF2
      refine W.seqR fun Q6 hQ6 => ?_
      refine WL.q (Y.move (.pl rfl)) rfl ?_
      refine WL.q (Y.shr (.pl rfl) (.pl rfl) (by decide)) rfl ?_
      refine WL.q (Y.assign (.pl rfl)) rfl ?_
      refine WL.next hQ6 (.cons (i := 0) rfl (.nil)) ?_
      refine W.reg ?_
      refine WL.q (Y.assign (.pl rfl)) rfl ?_
      refine WL.nil ?_
      exact W.joinAt2 hK3 (shrI .u32 x1 16) 16 (Option.some.inj hF2) (.cons rfl (.cons rfl (.nil))) (.nil) (fun wz hw => hw.pick [] rfl)
    · replace hF2 := cneg hC5 hF2
      refine W.skip ?_
      exact W.joinAt2 hK3 x1 0 (Option.some.inj hF2) (.cons rfl (.cons rfl (.nil))) (.nil) (fun wz hw => hw.pick [] rfl)
  · -- behind
    rintro x2 n3 rfl
    obtain ⟨o8, hF8, hF⟩ := bnd hF
    refine W.join2 (Em := fun (x4 : Int) (n5 : Int) => [(0, .int .u32 x4), (2, .int .i64 n5)]) (M := fun x4 n5 => []) (I := fun x4 n5 => (x4, n5) = o8) (.nil) (fun K9 hK9 => ?_) ?_
    · -- up to
      refine W.seqR fun Q10 hQ10 => ?_
      refine WL.q (Y.move (.pl rfl)) rfl ?_
      refine WL.q (Y.geq (.pl rfl) (.pl rfl)) rfl ?_
      refine WL.next hQ10 (.cons (i := 0) rfl (.cons (i := 2) rfl (.cons (i := 8) rfl (.nil)))) ?_
      refine W.cond (.pl rfl) (fun hC11 => ?_) (fun hC11 => ?_)
      · replace hF8 := cpos hC11 hF8
        refine W.seqR fun Q12 hQ12 => ?_
        refine WL.q (Y.move (.pl rfl)) rfl ?_
        refine WL.q (Y.shr (.pl rfl) (.pl rfl) (by decide)) rfl ?_
        refine WL.q (Y.assign (.pl rfl)) rfl ?_
        refine WL.next hQ12 (.cons (i := 0) rfl (.cons (i := 2) rfl (.nil))) ?_
        refine W.reg ?_
        refine WL.q (Y.move (.pl rfl)) rfl ?_
        obtain ⟨hk6, hF8⟩ := ckh hF8
        refine WL.q (Y.add (.pl rfl) (.pl rfl) (ok64_lt (hk6))) rfl ?_
        refine WL.q (Y.assign (.pl rfl)) rfl ?_
        refine WL.nil ?_
        exact W.joinAt2 hK9 (shrI .u32 x2 8) (n3 + 8) (Option.some.inj hF8) (.cons rfl (.cons rfl (.nil))) (.nil) (fun wz hw => hw.pick [] rfl)
      · replace hF8 := cneg hC11 hF8
        refine W.skip ?_
        exact W.joinAt2 hK9 x2 n3 (Option.some.inj hF8) (.cons rfl (.cons rfl (.nil))) (.nil) (fun wz hw => hw.pick [] rfl)
    · -- behind
      rintro x4 n5 rfl
      refine W.seqR fun Q14 hQ14 => ?_
      refine WL.q (Y.move (.pl rfl)) rfl ?_
      refine WL.q (Y.move (.pl rfl)) rfl ?_
      refine WL.q (Y.conv Try.underlying197 Try.underlying5 (.pl rfl)) rfl ?_
      obtain ⟨x7, hx7, hF⟩ := bnd hF
      refine WL.q (Y.sindex Try.underlying9 (.pl rfl) (.pl rfl) (hx7)) rfl ?_
      refine WL.q (Y.conv Try.underlying5 Try.underlying3 (.pl rfl)) rfl ?_
      obtain ⟨hk8, hF⟩ := ckh hF
      refine WL.q (Y.add (.pl rfl) (.pl rfl) (ok64_lt (hk8))) rfl ?_
      refine WL.q (Y.assign (.pl rfl)) rfl ?_
      refine WL.next hQ14 (.cons (i := 2) rfl (.nil)) ?_
      obtain rfl := Option.some.inj hF
      refine W.retV (fn := Try.f119) (vs := [.int .i64 (n5 + (IntKind.i64.wrap x7))]) Try.results119 ⟨.tmp rfl, trivial⟩ (fun _ _ h => h) (fun wz hw => ?_)
      exact hR _ _ ⟨rfl, (hw.pick [] rfl)⟩

def math_bits_Len64 (N : Nat) (x1 : Int) : Option Int :=
  bd (α := (Int × Int)) (cond (decide (4294967296 ≤ x1))
      (some ((shrI .u64 x1 32), 32))
      (some (x1, 0))) <|
  fun (x2, n3) => 
    bd (α := (Int × Int)) (cond (decide (65536 ≤ x2))
        (ck (ok64 (n3 + 16)) <|
        some ((shrI .u64 x2 16), (n3 + 16)))
        (some (x2, n3))) <|
    fun (x4, n5) => 
      bd (α := (Int × Int)) (cond (decide (256 ≤ x4))
          (ck (ok64 (n5 + 8)) <|
          some ((shrI .u64 x4 8), (n5 + 8)))
          (some (x4, n5))) <|
      fun (x7, n8) => 
        bd (sx ⟨#[0, 1, 2, 2, 3, 3, 3, 3, 4, 4, 4, 4, 4, 4, 4, 4, 5, 5, 5, 5, 5, 5, 5, 5, 5, 5, 5, 5, 5, 5, 5, 5, 6, 6, 6, 6, 6, 6, 6, 6, 6, 6, 6, 6, 6, 6, 6, 6, 6, 6, 6, 6, 6, 6, 6, 6, 6, 6, 6, 6, 6, 6, 6, 6, 7, 7, 7, 7, 7, 7, 7, 7, 7, 7, 7, 7, 7, 7, 7, 7, 7, 7, 7, 7, 7, 7, 7, 7, 7, 7, 7, 7, 7, 7, 7, 7, 7, 7, 7, 7, 7, 7, 7, 7, 7, 7, 7, 7, 7, 7, 7, 7, 7, 7, 7, 7, 7, 7, 7, 7, 7, 7, 7, 7, 7, 7, 7, 7, 8, 8, 8, 8, 8, 8, 8, 8, 8, 8, 8, 8, 8, 8, 8, 8, 8, 8, 8, 8, 8, 8, 8, 8, 8, 8, 8, 8, 8, 8, 8, 8, 8, 8, 8, 8, 8, 8, 8, 8, 8, 8, 8, 8, 8, 8, 8, 8, 8, 8, 8, 8, 8, 8, 8, 8, 8, 8, 8, 8, 8, 8, 8, 8, 8, 8, 8, 8, 8, 8, 8, 8, 8, 8, 8, 8, 8, 8, 8, 8, 8, 8, 8, 8, 8, 8, 8, 8, 8, 8, 8, 8, 8, 8, 8, 8, 8, 8, 8, 8, 8, 8, 8, 8, 8, 8, 8, 8, 8, 8, 8, 8, 8, 8, 8, 8, 8, 8, 8, 8, 8, 8, 8, 8, 8, 8, 8, 8]⟩ (IntKind.u8.wrap x7)) fun (x10 : Int) =>
        ck (ok64 (n8 + (IntKind.i64.wrap x10))) <|
        some (n8 + (IntKind.i64.wrap x10))

theorem math_bits_Len64_ok {N : Nat} {x1 : Int} {res : Int} (hF : math_bits_Len64 N x1 = some res) (w : World) :
    Pure Try.prog 120 [.int .u64 x1] w (.int .i64 res) := by
  refine W.enter (n := 25) Try.func120 rfl rfl Sub.refl (by simp) (St.start w) fun R hR => ?_
  unfold math_bits_Len64 at hF
  refine W.seqR fun Q1 hQ1 => ?_
  refine WL.q (Y.assign (.pl rfl)) rfl ?_
  refine WL.next hQ1 (.cons (i := 0) rfl (.cons (i := 2) rfl (.nil))) ?_
  obtain ⟨o2, hF2, hF⟩ := bnd hF
  refine W.join2 (Em := fun (x2 : Int) (n3 : Int) => [(0, .int .u64 x2), (2, .int .i64 n3)]) (M := fun x2 n3 => []) (I := fun x2 n3 => (x2, n3) = o2) (.nil) (fun K3 hK3 => ?_) ?_
  · -- up to
    refine W.seqR fun Q4 hQ4 => ?_
    refine WL.q (Y.move (.pl rfl)) rfl ?_
    refine WL.q (Y.geq (.pl rfl) (.pl rfl)) rfl ?_
    refine WL.next hQ4 (.cons (i := 0) rfl (.cons (i := 2) rfl (.cons (i := 4) rfl (.nil)))) ?_
    refine W.cond (.pl rfl) (fun hC5 => ?_) (fun hC5 => ?_)
    · replace hF2 := cpos hC5 hF2
      refine W.seqR fun Q6 hQ6 => ?_
      refine WL.q (Y.move (.pl rfl)) rfl ?_
      refine WL.q (Y.shr (.pl rfl) (.pl rfl) (by decide)) rfl ?_
      refine WL.q (Y.assign (.pl rfl)) rfl ?_
      refine WL.next hQ6 (.cons (i := 0) rfl (.nil)) ?_
      refine W.reg ?_
      refine WL.q (Y.assign (.pl rfl)) rfl ?_
      refine WL.nil ?_
      exact W.joinAt2 hK3 (shrI .u64 x1 32) 32 (Option.some.inj hF2) (.cons rfl (.cons rfl (.nil))) (.nil) (fun wz hw => hw.pick [] rfl)
    · replace hF2 := cneg hC5 hF2
      refine W.skip ?_
      exact W.joinAt2 hK3 x1 0 (Option.some.inj hF2) (.cons rfl (.cons rfl (.nil))) (.nil) (fun wz hw => hw.pick [] rfl)
  · -- behind
    rintro x2 n3 rfl
    obtain ⟨o8, hF8, hF⟩ := bnd hF
    refine W.join2 (Em := fun (x4 : Int) (n5 : Int) => [(0, .int .u64 x4), (2, .int .i64 n5)]) (M := fun x4 n5 => []) (I := fun x4 n5 => (x4, n5) = o8) (.nil) (fun K9 hK9 => ?_) ?_
    · -- up to
      refine W.seqR fun Q10 hQ10 => ?_
      refine WL.q (Y.move (.pl rfl)) rfl ?_
      refine WL.q (Y.geq (.pl rfl) (.pl rfl)) rfl ?_
      refine WL.next hQ10 (.cons (i := 0) rfl (.cons (i := 2) rfl (.cons (i := 8) rfl (.nil)))) ?_
      refine W.cond (.pl rfl) (fun hC11 => ?_) (fun hC11 => ?_)
      · replace hF8 := cpos hC11 hF8
        refine W.seqR fun Q12 hQ12 => ?_
        refine WL.q (Y.move (.pl rfl)) rfl ?_
        refine WL.q (Y.shr (.pl rfl) (.pl rfl) (by decide)) rfl ?_
        refine WL.q (Y.assign (.pl rfl)) rfl ?_
        refine WL.next hQ12 (.cons (i := 0) rfl (.cons (i := 2) rfl (.nil))) ?_
        refine W.reg ?_
        refine WL.q (Y.move (.pl rfl)) rfl ?_
        obtain ⟨hk6, hF8⟩ := ckh hF8
        refine WL.q (Y.add (.pl rfl) (.pl rfl) (ok64_lt (hk6))) rfl ?_
        refine WL.q (Y.assign (.pl rfl)) rfl ?_
        refine WL.nil ?_
        exact W.joinAt2 hK9 (shrI .u64 x2 16) (n3 + 16) (Option.some.inj hF8) (.cons rfl (.cons rfl (.nil))) (.nil) (fun wz hw => hw.pick [] rfl)
      · replace hF8 := cneg hC11 hF8
        refine W.skip ?_
        exact W.joinAt2 hK9 x2 n3 (Option.some.inj hF8) (.cons rfl (.cons rfl (.nil))) (.nil) (fun wz hw => hw.pick [] rfl)
    · -- behind
      rintro x4 n5 rfl
      obtain ⟨o14, hF14, hF⟩ := bnd hF
      refine W.join2 (Em := fun (x7 : Int) (n8 : Int) => [(0, .int .u64 x7), (2, .int .i64 n8)]) (M := fun x7 n8 => []) (I := fun x7 n8 => (x7, n8) = o14) (.nil) (fun K15 hK15 => ?_) ?_
      · -- up to
        refine W.seqR fun Q16 hQ16 => ?_
        refine WL.q (Y.move (.pl rfl)) rfl ?_
        refine WL.q (Y.geq (.pl rfl) (.pl rfl)) rfl ?_
        refine WL.next hQ16 (.cons (i := 0) rfl (.cons (i := 2) rfl (.cons (i := 14) rfl (.nil)))) ?_
        refine W.cond (.pl rfl) (fun hC17 => ?_) (fun hC17 => ?_)
        · replace hF14 := cpos hC17 hF14
          refine W.seqR fun Q18 hQ18 => ?_
          refine WL.q (Y.move (.pl rfl)) rfl ?_
          refine WL.q (Y.shr (.pl rfl) (.pl rfl) (by decide)) rfl ?_
          refine WL.q (Y.assign (.pl rfl)) rfl ?_
          refine WL.next hQ18 (.cons (i := 0) rfl (.cons (i := 2) rfl (.nil))) ?_
          refine W.reg ?_
          refine WL.q (Y.move (.pl rfl)) rfl ?_
          obtain ⟨hk9, hF14⟩ := ckh hF14
          refine WL.q (Y.add (.pl rfl) (.pl rfl) (ok64_lt (hk9))) rfl ?_
          refine WL.q (Y.assign (.pl rfl)) rfl ?_
          refine WL.nil ?_
          exact W.joinAt2 hK15 (shrI .u64 x4 8) (n5 + 8) (Option.some.inj hF14) (.cons rfl (.cons rfl (.nil))) (.nil) (fun wz hw => hw.pick [] rfl)
        · replace hF14 := cneg hC17 hF14
          refine W.skip ?_
          exact W.joinAt2 hK15 x4 n5 (Option.some.inj hF14) (.cons rfl (.cons rfl (.nil))) (.nil) (fun wz hw => hw.pick [] rfl)
      · -- behind
        rintro x7 n8 rfl
        refine W.seqR fun Q20 hQ20 => ?_
        refine WL.q (Y.move (.pl rfl)) rfl ?_
        refine WL.q (Y.move (.pl rfl)) rfl ?_
        refine WL.q (Y.conv Try.underlying200 Try.underlying5 (.pl rfl)) rfl ?_
        obtain ⟨x10, hx10, hF⟩ := bnd hF
        refine WL.q (Y.sindex Try.underlying9 (.pl rfl) (.pl rfl) (hx10)) rfl ?_
        refine WL.q (Y.conv Try.underlying5 Try.underlying3 (.pl rfl)) rfl ?_
        obtain ⟨hk11, hF⟩ := ckh hF
        refine WL.q (Y.add (.pl rfl) (.pl rfl) (ok64_lt (hk11))) rfl ?_
        refine WL.q (Y.assign (.pl rfl)) rfl ?_
        refine WL.next hQ20 (.cons (i := 2) rfl (.nil)) ?_
        obtain rfl := Option.some.inj hF
        refine W.retV (fn := Try.f120) (vs := [.int .i64 (n8 + (IntKind.i64.wrap x10))]) Try.results120 ⟨.tmp rfl, trivial⟩ (fun _ _ h => h) (fun wz hw => ?_)
        exact hR _ _ ⟨rfl, (hw.pick [] rfl)⟩

def math_bits_Len (N : Nat) (x1 : Int) : Option Int :=
  cond false
    (bd (math_bits_Len32 N (IntKind.u32.wrap x1)) fun (r2 : Int) =>
    some r2)
    (bd (math_bits_Len64 N x1) fun (r3 : Int) =>
    some r3)

theorem math_bits_Len_ok {N : Nat} {x1 : Int} {res : Int} (hF : math_bits_Len N x1 = some res) (w : World) :
    Pure Try.prog 102 [.int .u64 x1] w (.int .i64 res) := by
  refine W.enter (n := 8) Try.func102 rfl rfl Sub.refl (by simp) (St.start w) fun R hR => ?_
  unfold math_bits_Len at hF
  refine W.seqR fun Q1 hQ1 => ?_
  refine WL.q (Y.assign (.pl rfl)) rfl ?_
  refine WL.next hQ1 (.cons (i := 0) rfl (.nil)) ?_
  refine W.seq fun K2 hK2 => ?_
  refine W.cond (.pl rfl) (fun hC3 => ?_) (fun hC3 => ?_)
  · replace hF := cpos hC3 hF
    refine W.seqR fun Q4 hQ4 => ?_
    refine WL.q (Y.move (.pl rfl)) rfl ?_
    refine WL.q (Y.conv Try.underlying98 Try.underlying197 (.pl rfl)) rfl ?_
    obtain ⟨r2, hr2, hF⟩ := bnd hF
    refine WL.step (WO.callP isGo119 (.cons (.pl rfl) (.nil)) rfl (fun wz hw => math_bits_Len32_ok (hr2) wz ) ?_)
    refine WL.q (Y.assign (.pl rfl)) rfl ?_
    refine WL.next hQ4 (.cons (i := 2) rfl (.nil)) ?_
    obtain rfl := Option.some.inj hF
    refine W.retV (fn := Try.f102) (vs := [.int .i64 r2]) Try.results102 ⟨.tmp rfl, trivial⟩ (fun _ _ h => h) (fun wz hw => ?_)
    exact hR _ _ ⟨rfl, (hw.pick [] rfl)⟩
  · replace hF := cneg hC3 hF
    refine W.skip ?_
    refine W.go hK2 (.cons (i := 0) rfl (.nil)) ?_
    refine W.seqR fun Q5 hQ5 => ?_
    refine WL.q (Y.move (.pl rfl)) rfl ?_
    obtain ⟨r3, hr3, hF⟩ := bnd hF
    refine WL.step (WO.callP isGo120 (.cons (.pl rfl) (.nil)) rfl (fun wz hw => math_bits_Len64_ok (hr3) wz ) ?_)
    refine WL.q (Y.assign (.pl rfl)) rfl ?_
    refine WL.next hQ5 (.cons (i := 2) rfl (.nil)) ?_
    obtain rfl := Option.some.inj hF
    refine W.retV (fn := Try.f102) (vs := [.int .i64 r3]) Try.results102 ⟨.tmp rfl, trivial⟩ (fun _ _ h => h) (fun wz hw => ?_)
    exact hR _ _ ⟨rfl, (hw.pick [] rfl)⟩

def rows_read_1 (N : Nat) (a1 : RowsValue) (b2 : RowsValue) : Option Unit :=
  ck (ok64 (a1.n - b2.n)) <|
  some ()

theorem rows_read_1_ok {N : Nat} {a1 : RowsValue} {b2 : RowsValue} {res : Unit} (hF : rows_read_1 N a1 b2 = some res) (w : World) :
    Pure Try.prog 75 [.agg (encRowsValue a1).toArray, .agg (encRowsValue b2).toArray] w (.int .i64 (a1.n - b2.n)) := by
  refine W.enter (n := 10) Try.func75 rfl rfl Sub.refl (by simp) (St.start w) fun R hR => ?_
  unfold rows_read_1 at hF
  refine W.seqR fun Q1 hQ1 => ?_
  refine WL.step (WO.boxA (.pl rfl) rfl fun b3 => ?_)
  refine WL.step (WO.boxA (.pl rfl) rfl fun b4 => ?_)
  refine WL.q (Y.assign (.pl rfl)) rfl ?_
  refine WL.next hQ1 (.cons (i := 2) rfl (.cons (i := 3) rfl (.nil))) ?_
  refine W.seqR fun Q2 hQ2 => ?_
  refine WL.q (Y.fieldAddr0 (off := 0) (ft := 3) Try.underlying167 rfl cells3 (.pl rfl)) rfl ?_
  refine WL.q (Y.loadB (v := .int .i64 a1.n) Try.underlying3 rfl (.pl rfl) (i := 1) rfl (rfl)) rfl ?_
  refine WL.q (Y.fieldAddr0 (off := 0) (ft := 3) Try.underlying167 rfl cells3 (.pl rfl)) rfl ?_
  refine WL.q (Y.loadB (v := .int .i64 b2.n) Try.underlying3 rfl (.pl rfl) (i := 0) rfl (rfl)) rfl ?_
  obtain ⟨hk5, hF⟩ := ckh hF
  refine WL.q (Y.sub (.pl rfl) (.pl rfl) (ok64_lt (hk5))) rfl ?_
  refine WL.q (Y.assign (.pl rfl)) rfl ?_
  refine WL.next hQ2 (.cons (i := 4) rfl (.nil)) ?_
  obtain rfl := Option.some.inj hF
  refine W.retV (fn := Try.f75) (vs := [.int .i64 (a1.n - b2.n)]) Try.results75 ⟨.tmp rfl, trivial⟩ (fun _ _ h => h) (fun wz hw => ?_)
  exact hR _ _ ⟨rfl, (hw.pick [] rfl)⟩

def slices_insertionSortCmpFunc_rows_value_L13 (N : Nat) (a4 : Int) : ((List RowsValue) × Int) → Option (((List RowsValue) × Int) ⊕ (List RowsValue))
  | (v12, j14) =>
    bd (α := Bool) (bd ((cond ((decide (a4 < j14)) == true) (ix v12 j14) (some RowsValue.z))) fun (x16 : RowsValue) =>
      ck (!((decide (a4 < j14)) == true) || (ok64 (j14 - 1))) <|
      bd ((cond ((decide (a4 < j14)) == true) (ix v12 (j14 - 1)) (some RowsValue.z))) fun (x18 : RowsValue) =>
      cond ((decide (a4 < j14)) == true)
        (bd (rows_read_1 N x16 x18) fun (r19 : Unit) =>
        some ((decide (a4 < j14)) && (decide ((x16.n - x18.n) < 0))))
        (some ((decide (a4 < j14)) && false))) <|
    fun (v15 : Bool) => 
      cond v15
        (ck (ok64 (j14 - 1)) <|
        ck (ok64 (j14 - 1)) <|
        bd (ix v12 (j14 - 1)) fun (x22 : RowsValue) =>
        bd (ix v12 j14) fun (x23 : RowsValue) =>
        bd (ix (v12.set j14.toNat x22) (j14 - 1)) fun (x24 : RowsValue) =>
        ck (ok64 (j14 - 1)) <|
        some (.inl (((v12.set j14.toNat x22).set (j14 - 1).toNat x23), (j14 - 1))))
        (some (.inr v12))

def slices_insertionSortCmpFunc_rows_value_L11 (N : Nat) (b5 : Int) (a4 : Int) : ((List RowsValue) × Int) → Option (((List RowsValue) × Int) ⊕ (List RowsValue))
  | (v7, i9) =>
    cond (decide (i9 < b5))
      (bd (α := (List RowsValue)) (iter (slices_insertionSortCmpFunc_rows_value_L13 N a4) N (v7, i9)) <|
      fun (v10 : (List RowsValue)) => 
        ck (ok64 (i9 + 1)) <|
        some (.inl (v10, (i9 + 1))))
      (some (.inr v7))

def slices_insertionSortCmpFunc_rows_value (N : Nat) (data3 : (List RowsValue)) (a4 : Int) (b5 : Int) : Option (List RowsValue) :=
  ck (ok64 (a4 + 1)) <|
  bd (α := (List RowsValue)) (iter (slices_insertionSortCmpFunc_rows_value_L11 N b5 a4) N (data3, (a4 + 1))) <| fun p => some p

theorem slices_insertionSortCmpFunc_rows_value_ok {N : Nat} {data3 : (List RowsValue)} {a4 : Int} {b5 : Int} {A1 : Option Addr} {c2 : Nat} {res : (List RowsValue)} (hF : slices_insertionSortCmpFunc_rows_value N data3 a4 b5 = some res) {w0 w : World} {T : List Chunk} (hw : St w0.heap.size w0 ([cR encRowsValue 3 A1 c2 167 data3] ++ T) w) :
    Calls Try.prog 111 (List.toArray [.slice A1 (data3).length c2, .int .i64 a4, .int .i64 b5, .func (.func 75) #[] #[]]) w (fun e w' => ∃ g : Unit, ((res).length = (data3).length) ∧ e = .returned (.tuple #[]) ∧ St w0.heap.size w0 ([cR encRowsValue 3 A1 c2 167 res] ++ T) w') := by
  refine W.enter (n := 53) Try.func111 rfl rfl Sub.refl (by simp) hw fun R hR => ?_
  unfold slices_insertionSortCmpFunc_rows_value at hF
  refine W.seqR fun Q1 hQ1 => ?_
  refine WL.q (Y.move (.pl rfl)) rfl ?_
  obtain ⟨hk6, hF⟩ := ckh hF
  refine WL.q (Y.add (.pl rfl) (.pl rfl) (ok64_lt (hk6))) rfl ?_
  refine WL.q (Y.assign (.pl rfl)) rfl ?_
  refine WL.next hQ1 (.cons (i := 0) rfl (.cons (i := 1) rfl (.cons (i := 2) rfl (.cons (i := 3) rfl (.cons (i := 8) rfl (.nil)))))) ?_
  refine W.block ?_
  obtain ⟨o2, hL2, hF⟩ := bnd hF
  refine W.loop2 (Em := fun (v7 : (List RowsValue)) (i9 : Int) => [(0, .slice A1 (v7).length c2), (8, .int .i64 i9)]) (M := fun v7 i9 => ([cR encRowsValue 3 A1 c2 167 v7] ++ T)) (I := fun v7 i9 k2 => iter (slices_insertionSortCmpFunc_rows_value_L11 N b5 a4) k2 (v7, i9) = some o2 ∧ (v7).length = (data3).length) data3 (a4 + 1) N (⟨hL2, (by simp)⟩) (.cons rfl (.cons rfl (.nil))) (.cons (i := 1) rfl (.cons (i := 2) rfl (.cons (i := 3) rfl (.nil)))) (fun wz hw => hw.pickK 1 [0] rfl) (fun v7 i9 k2 hI K3 hK3 => ?_)
  obtain ⟨hI, hl8⟩ := hI
  obtain ⟨k2, t2, rfl, hF2, hN2⟩ := iter_step hI
  refine W.seq fun K4 hK4 => ?_
  refine W.seqR fun Q5 hQ5 => ?_
  refine WL.q (Y.move (.pl rfl)) rfl ?_
  refine WL.q (Y.move (.pl rfl)) rfl ?_
  refine WL.q (Y.lss (.pl rfl) (.pl rfl)) rfl ?_
  refine WL.next hQ5 (.cons (i := 0) rfl (.cons (i := 1) rfl (.cons (i := 2) rfl (.cons (i := 3) rfl (.cons (i := 8) rfl (.cons (i := 14) rfl (.nil))))))) ?_
  refine W.cond (.pl rfl) (fun hC6 => ?_) (fun hC6 => ?_)
  · replace hF2 := cpos hC6 hF2
    refine W.skip ?_
    refine W.go hK4 (.cons (i := 0) rfl (.cons (i := 1) rfl (.cons (i := 2) rfl (.cons (i := 3) rfl (.cons (i := 8) rfl (.nil)))))) ?_
    obtain ⟨o7, hF7, hF2⟩ := bnd hF2
    refine W.join1 (Em := fun (v10 : (List RowsValue)) => [(0, .slice A1 (v10).length c2)]) (M := fun v10 => ([cR encRowsValue 3 A1 c2 167 v10] ++ T)) (I := fun v10 => v10 = o7 ∧ (v10).length = (data3).length) (.cons (i := 1) rfl (.cons (i := 2) rfl (.cons (i := 3) rfl (.cons (i := 8) rfl (.nil))))) (fun K8 hK8 => ?_) ?_
    · -- up to
      refine W.block ?_
      refine W.seqR fun Q9 hQ9 => ?_
      refine WL.q (Y.move (.pl rfl)) rfl ?_
      refine WL.q (Y.assign (.pl rfl)) rfl ?_
      refine WL.next hQ9 (.cons (i := 0) rfl (.cons (i := 1) rfl (.cons (i := 2) rfl (.cons (i := 3) rfl (.cons (i := 8) rfl (.cons (i := 9) rfl (.nil))))))) ?_
      refine W.block ?_
      refine W.loop2 (Em := fun (v12 : (List RowsValue)) (j14 : Int) => [(0, .slice A1 (v12).length c2), (9, .int .i64 j14)]) (M := fun v12 j14 => ([cR encRowsValue 3 A1 c2 167 v12] ++ T)) (I := fun v12 j14 k10 => iter (slices_insertionSortCmpFunc_rows_value_L13 N a4) k10 (v12, j14) = some o7 ∧ (v12).length = (data3).length) v7 i9 N (⟨hF7, (by simp [hl8])⟩) (.cons rfl (.cons rfl (.nil))) (.cons (i := 1) rfl (.cons (i := 2) rfl (.cons (i := 3) rfl (.cons (i := 8) rfl (.nil))))) (fun wz hw => hw.pickK 1 [0] rfl) (fun v12 j14 k10 hI K11 hK11 => ?_)
      obtain ⟨hI, hl13⟩ := hI
      obtain ⟨k10, t10, rfl, hF10, hN10⟩ := iter_step hI
      refine W.seq fun K12 hK12 => ?_
      obtain ⟨o13, hF13, hF10⟩ := bnd hF10
      refine W.join1 (Em := fun (v15 : Bool) => [(34, .bool v15)]) (M := fun v15 => ([cR encRowsValue 3 A1 c2 167 v12] ++ T)) (I := fun v15 => v15 = o13) (.cons (i := 0) rfl (.cons (i := 1) rfl (.cons (i := 2) rfl (.cons (i := 3) rfl (.cons (i := 8) rfl (.cons (i := 9) rfl (.nil))))))) (fun K14 hK14 => ?_) ?_
      · -- up to
        refine W.regX 16 (by kernel_rfl) ?_
        refine WX.pure 0 #[true, false, false, false, false, false, false, false, false, false, false, false, false, false, false, false, false] rfl (by kernel_rfl) (fun _ _ => Y.move (.pl rfl)) rfl ?_
        refine WX.pure 1 #[true, true, false, false, false, false, false, false, false, false, false, false, false, false, false, false, false] rfl (by kernel_rfl) (fun _ _ => Y.move (.pl rfl)) rfl ?_
        refine WX.pure 2 #[true, true, true, false, false, false, false, false, false, false, false, false, false, false, false, false, false] rfl (by kernel_rfl) (fun _ _ => Y.gtr (.pl rfl) (.pl rfl)) rfl ?_
        refine WX.pure 3 #[true, true, true, true, false, false, false, false, false, false, false, false, false, false, false, false, false] rfl (by kernel_rfl) (fun _ _ => Y.move (.pl rfl)) rfl ?_
        refine WX.pureY 4 #[true, true, true, true, true, false, false, false, false, false, false, false, false, false, false, false, false] rfl (by kernel_rfl) (fun _ _ => Yg.g (.pl rfl rfl rfl) (fun hg => Y.move (.pl rfl))) rfl ?_
        refine WX.pureY 5 #[true, true, true, true, true, true, false, false, false, false, false, false, false, false, false, false, false] rfl (by kernel_rfl) (fun _ _ => Yg.g (.pl rfl rfl rfl) (fun hg => Y.move (.pl rfl))) rfl ?_
        refine WX.pureY 6 #[true, true, true, true, true, true, true, false, false, false, false, false, false, false, false, false, false] rfl (by kernel_rfl) (fun _ _ => Yg.g (.pl rfl rfl rfl) (fun hg => Y.move (.pl rfl))) rfl ?_
        obtain ⟨x16, hx16, hF13⟩ := bnd hF13
        refine WX.takeY 7 #[true, true, true, true, true, true, true, true, false, false, false, false, false, false, false, false, false] (fun wz hw => St.tail [] hw) rfl (by kernel_rfl) (Yg.g (.pl rfl rfl rfl) (fun hg => Y.rowEl Try.underlying161 cells167 (i := 0) rfl (.gd (hg) rfl) rfl (.gd (hg) rfl) (ix_lt (gpos hg hx16)))) rfl ?_
        refine WX.takeY 8 #[true, true, true, true, true, true, true, true, true, false, false, false, false, false, false, false, false] (fun wz hw => St.tail [] hw) rfl (by kernel_rfl) (Yg.g (.pl rfl rfl rfl) (fun hg => Y.loadRA (enc := encRowsValue) (ds := (encRowsValue x16)) (a := x16) (idx := j14) (j := 0) Try.underlying167 rfl cells167 lenRowsValue (i := 0) rfl (.gd (hg) rfl) (ix_get (gpos hg hx16)) rfl rfl subW)) rfl ?_
        refine WX.pureY 9 #[true, true, true, true, true, true, true, true, true, true, false, false, false, false, false, false, false] rfl (by kernel_rfl) (fun _ _ => Yg.g (.pl rfl rfl rfl) (fun hg => Y.move (.pl rfl))) rfl ?_
        refine WX.pureY 10 #[true, true, true, true, true, true, true, true, true, true, true, false, false, false, false, false, false] rfl (by kernel_rfl) (fun _ _ => Yg.g (.pl rfl rfl rfl) (fun hg => Y.move (.pl rfl))) rfl ?_
        obtain ⟨hk17, hF13⟩ := ckh hF13
        refine WX.pureY 11 #[true, true, true, true, true, true, true, true, true, true, true, true, false, false, false, false, false] rfl (by kernel_rfl) (fun _ _ => Yg.g (.pl rfl rfl rfl) (fun hg => Y.sub (.gd (hg) rfl) (.pl rfl) (ok64_lt (gor hg hk17)))) rfl ?_
        obtain ⟨x18, hx18, hF13⟩ := bnd hF13
        refine WX.takeY 12 #[true, true, true, true, true, true, true, true, true, true, true, true, true, false, false, false, false] (fun wz hw => St.tail [] hw) rfl (by kernel_rfl) (Yg.g (.pl rfl rfl rfl) (fun hg => Y.rowEl Try.underlying161 cells167 (i := 0) rfl (.gd (hg) rfl) rfl (.gd (hg) rfl) (ix_lt (gpos hg hx18)))) rfl ?_
        refine WX.takeY 13 #[true, true, true, true, true, true, true, true, true, true, true, true, true, true, false, false, false] (fun wz hw => St.tail [] hw) rfl (by kernel_rfl) (Yg.g (.pl rfl rfl rfl) (fun hg => Y.loadRA (enc := encRowsValue) (ds := (encRowsValue x18)) (a := x18) (idx := (j14 - 1)) (j := 0) Try.underlying167 rfl cells167 lenRowsValue (i := 0) rfl (.gd (hg) rfl) (ix_get (gpos hg hx18)) rfl rfl subW)) rfl ?_
        refine bsplit ((decide (a4 < j14)) == true) (fun hg16 => ?_) (fun hg16 => ?_)
        · replace hF13 := cpos hg16 hF13
          obtain ⟨r19, hr19, hF13⟩ := bnd hF13
          refine WX.one 14 #[true, true, true, true, true, true, true, true, true, true, true, true, true, true, true, false, false] (fun wz hw => St.tail [] hw) rfl (by kernel_rfl) (WO.gT (.pl rfl rfl rfl) (hg16) (WO.callG (γ := Unit) (first := []) (cap := []) (fun g => .int .i64 (x16.n - x18.n)) (fun g => ([cR encRowsValue 3 A1 c2 167 v12] ++ T)) (fun g => True) isGo75 (.gd (hg16) rfl) (.cons (.gd (hg16) rfl) (.cons (.gd (hg16) rfl) (.nil))) rfl (fun wz hw => (rows_read_1_ok (hr19) wz ).calls hw) ?_))
          rintro _ -
          refine WX.pureY 15 #[true, true, true, true, true, true, true, true, true, true, true, true, true, true, true, true, false] rfl (by kernel_rfl) (fun _ _ => Yg.yes (.pl rfl rfl rfl) (hg16) (Y.lss (.pl rfl) (.pl rfl))) rfl ?_
          refine WX.stop #[true, true, true, true, true, true, true, true, true, true, true, true, true, true, true, true, true] (fun wz hw => St.tail [] hw) rfl (by kernel_rfl) (WO.q (Y.and (.pl rfl) (fun _ => .pl rfl)) rfl ?_)
          refine WA.done (by kernel_rfl) ?_
          exact W.joinAt1 hK14 ((decide (a4 < j14)) && (decide ((x16.n - x18.n) < 0))) (Option.some.inj hF13) (.cons rfl (.nil)) (.cons (i := 0) rfl (.cons (i := 1) rfl (.cons (i := 2) rfl (.cons (i := 3) rfl (.cons (i := 8) rfl (.cons (i := 9) rfl (.nil))))))) (fun wz hw => hw.pickK 1 [0] rfl)
        · replace hF13 := cneg hg16 hF13
          refine WX.one 14 #[true, true, true, true, true, true, true, true, true, true, true, true, true, true, true, false, false] (fun wz hw => St.tail [] hw) rfl (by kernel_rfl) (WO.gN (.pl rfl rfl rfl) hg16 rfl ?_)
          refine WX.pureY 15 #[true, true, true, true, true, true, true, true, true, true, true, true, true, true, true, true, false] rfl (by kernel_rfl) (fun _ _ => Yg.no (.pl rfl rfl rfl) hg16) rfl ?_
          refine WX.stop #[true, true, true, true, true, true, true, true, true, true, true, true, true, true, true, true, true] (fun wz hw => St.tail [] hw) rfl (by kernel_rfl) (WO.q (Y.and (b := false) (.pl rfl) (fun h2 => (gabsA hg16 h2).elim)) rfl ?_)
          refine WA.done (by kernel_rfl) ?_
          exact W.joinAt1 hK14 ((decide (a4 < j14)) && false) (Option.some.inj hF13) (.cons rfl (.nil)) (.cons (i := 0) rfl (.cons (i := 1) rfl (.cons (i := 2) rfl (.cons (i := 3) rfl (.cons (i := 8) rfl (.cons (i := 9) rfl (.nil))))))) (fun wz hw => hw.pickK 1 [0] rfl)
      · -- behind
        rintro v15 rfl
        refine W.cond (.pl rfl) (fun hC17 => ?_) (fun hC17 => ?_)
        · replace hF10 := cpos hC17 hF10
          refine W.skip ?_
          refine W.go hK12 (.cons (i := 0) rfl (.cons (i := 1) rfl (.cons (i := 2) rfl (.cons (i := 3) rfl (.cons (i := 8) rfl (.cons (i := 9) rfl (.nil))))))) ?_
          refine W.seq fun K18 hK18 => ?_
          refine W.block ?_
          refine W.know (fun wz hw => (hw.row_lim (i := 0) rfl).2.2) (fun hok20 => ?_)
          refine W.regX 15 (by kernel_rfl) ?_
          refine WX.pure 0 #[true, false, false, false, false, false, false, false, false, false, false, false, false, false, false, false, false, false] rfl (by kernel_rfl) (fun _ _ => Y.move (.pl rfl)) rfl ?_
          refine WX.pure 1 #[true, true, false, false, false, false, false, false, false, false, false, false, false, false, false, false, false, false] rfl (by kernel_rfl) (fun _ _ => Y.move (.pl rfl)) rfl ?_
          refine WX.pure 2 #[true, true, true, false, false, false, false, false, false, false, false, false, false, false, false, false, false, false] rfl (by kernel_rfl) (fun _ _ => Y.move (.pl rfl)) rfl ?_
          refine WX.pure 3 #[true, true, true, true, false, false, false, false, false, false, false, false, false, false, false, false, false, false] rfl (by kernel_rfl) (fun _ _ => Y.move (.pl rfl)) rfl ?_
          obtain ⟨hk20, hF10⟩ := ckh hF10
          refine WX.pure 4 #[true, true, true, true, true, false, false, false, false, false, false, false, false, false, false, false, false, false] rfl (by kernel_rfl) (fun _ _ => Y.sub (.pl rfl) (.pl rfl) (ok64_lt (hk20))) rfl ?_
          refine WX.pure 5 #[true, true, true, true, true, true, false, false, false, false, false, false, false, false, false, false, false, false] rfl (by kernel_rfl) (fun _ _ => Y.move (.pl rfl)) rfl ?_
          refine WX.pure 6 #[true, true, true, true, true, true, true, false, false, false, false, false, false, false, false, false, false, false] rfl (by kernel_rfl) (fun _ _ => Y.move (.pl rfl)) rfl ?_
          obtain ⟨hk21, hF10⟩ := ckh hF10
          refine WX.pure 7 #[true, true, true, true, true, true, true, true, false, false, false, false, false, false, false, false, false, false] rfl (by kernel_rfl) (fun _ _ => Y.sub (.pl rfl) (.pl rfl) (ok64_lt (hk21))) rfl ?_
          obtain ⟨x22, hx22, hF10⟩ := bnd hF10
          refine WX.pure 8 #[true, true, true, true, true, true, true, true, true, false, false, false, false, false, false, false, false, false] rfl (by kernel_rfl) (fun _ _ => Y.okEl (xs := v12) Try.underlying161 cells167 hok20 (.pl rfl) rfl (.pl rfl) (ix_lt (hx22))) rfl ?_
          refine WX.take 9 #[true, true, true, true, true, true, true, true, true, true, false, false, false, false, false, false, false, false] (fun wz hw => St.tail [] hw) rfl (by kernel_rfl) (Y.loadRA (enc := encRowsValue) (ds := (encRowsValue x22)) (a := x22) (idx := (j14 - 1)) (j := 0) Try.underlying167 rfl cells167 lenRowsValue (i := 0) rfl (.pl rfl) (ix_get (hx22)) rfl rfl subW) rfl ?_
          refine WX.pure 10 #[true, true, true, true, true, true, true, true, true, true, true, false, false, false, false, false, false, false] rfl (by kernel_rfl) (fun _ _ => Y.move (.pl rfl)) rfl ?_
          refine WX.pure 11 #[true, true, true, true, true, true, true, true, true, true, true, true, false, false, false, false, false, false] rfl (by kernel_rfl) (fun _ _ => Y.move (.pl rfl)) rfl ?_
          obtain ⟨x23, hx23, hF10⟩ := bnd hF10
          refine WX.pure 12 #[true, true, true, true, true, true, true, true, true, true, true, true, true, false, false, false, false, false] rfl (by kernel_rfl) (fun _ _ => Y.okEl (xs := v12) Try.underlying161 cells167 hok20 (.pl rfl) rfl (.pl rfl) (ix_lt (hx23))) rfl ?_
          refine WX.take 13 #[true, true, true, true, true, true, true, true, true, true, true, true, true, true, false, false, false, false] (fun wz hw => St.tail [] hw) rfl (by kernel_rfl) (Y.loadRA (enc := encRowsValue) (ds := (encRowsValue x23)) (a := x23) (idx := j14) (j := 0) Try.underlying167 rfl cells167 lenRowsValue (i := 0) rfl (.pl rfl) (ix_get (hx23)) rfl rfl subW) rfl ?_
          refine WX.pure 14 #[true, true, true, true, true, true, true, true, true, true, true, true, true, true, true, false, false, false] rfl (by kernel_rfl) (fun _ _ => Y.okEl (xs := v12) Try.underlying161 cells167 hok20 (.pl rfl) rfl (.pl rfl) (ix_lt (hx23))) rfl ?_
          refine WX.stop #[true, true, true, true, true, true, true, true, true, true, true, true, true, true, true, true, false, false] (fun wz hw => St.tail [] hw) rfl (by kernel_rfl) (WO.storeSA (enc := encRowsValue) (a' := x22) (idx := j14) cells167 (.pl rfl) (.pl rfl) lenRowsValue rfl (oneRowsValue _) (i := 0) rfl (ix_lt (hx23)) rfl ?_)
          obtain ⟨x24, hx24, hF10⟩ := bnd hF10
          refine WA.take 16 #[true, true, true, true, true, true, true, true, true, true, true, true, true, true, true, true, true, false] rfl (by kernel_rfl) (fun _ _ => Y.okEl (xs := (v12.set j14.toNat x22)) Try.underlying161 cells167 (by simpa only [List.length_set, hl8, hl13] using hok20) (.pl rfl) (by simp [hl8, hl13]) (.pl rfl) (ix_lt (hx24))) rfl ?_
          refine WA.branch [17] (by kernel_rfl) ⟨?_, trivial⟩
          refine WI.step #[true, true, true, true, true, true, true, true, true, true, true, true, true, true, true, true, true, true] rfl rfl (WO.storeSA (enc := encRowsValue) (a' := x23) (idx := (j14 - 1)) cells167 (.pl rfl) (.pl rfl) lenRowsValue rfl (oneRowsValue _) (i := 0) rfl (ix_lt (hx24)) rfl ?_)
          refine WA.done (by kernel_rfl) ?_
          refine W.go hK18 (.cons (i := 0) rfl (.cons (i := 1) rfl (.cons (i := 2) rfl (.cons (i := 3) rfl (.cons (i := 8) rfl (.cons (i := 9) rfl (.nil))))))) ?_
          refine W.reg ?_
          refine WL.q (Y.move (.pl rfl)) rfl ?_
          obtain ⟨hk25, hF10⟩ := ckh hF10
          refine WL.q (Y.sub (.pl rfl) (.pl rfl) (ok64_lt (hk25))) rfl ?_
          refine WL.q (Y.assign (.pl rfl)) rfl ?_
          refine WL.nil ?_
          obtain rfl := Option.some.inj hF10
          exact W.again2 hK11 ((v12.set j14.toNat x22).set (j14 - 1).toNat x23) (j14 - 1) k10 ⟨hN10, (by simp [hl8, hl13])⟩ (Nat.lt_succ_self _) (.cons (eqSl (by simp [hl8, hl13])) (.cons rfl (.nil))) (.cons (i := 1) rfl (.cons (i := 2) rfl (.cons (i := 3) rfl (.cons (i := 8) rfl (.nil))))) (fun wz hw => hw.pickK 1 [0] rfl)
        · replace hF10 := cneg hC17 hF10
          refine W.exit ?_
          obtain rfl := Option.some.inj hF10
          exact W.joinAt1 hK8 v12 (⟨einr hN10, (by simp [hl8, hl13])⟩) (.cons rfl (.nil)) (.cons (i := 1) rfl (.cons (i := 2) rfl (.cons (i := 3) rfl (.cons (i := 8) rfl (.nil))))) (fun wz hw => hw.pickK 1 [0] rfl)
    · -- behind
      rintro v10 ⟨rfl, hl11⟩
      refine W.reg ?_
      refine WL.q (Y.move (.pl rfl)) rfl ?_
      obtain ⟨hk26, hF2⟩ := ckh hF2
      refine WL.q (Y.add (.pl rfl) (.pl rfl) (ok64_lt (hk26))) rfl ?_
      refine WL.q (Y.assign (.pl rfl)) rfl ?_
      refine WL.nil ?_
      obtain rfl := Option.some.inj hF2
      exact W.again2 hK3 v10 (i9 + 1) k2 ⟨hN2, (by simp [hl8, hl11])⟩ (Nat.lt_succ_self _) (.cons rfl (.cons rfl (.nil))) (.cons (i := 1) rfl (.cons (i := 2) rfl (.cons (i := 3) rfl (.nil)))) (fun wz hw => hw.pickK 1 [0] rfl)
  · replace hF2 := cneg hC6 hF2
    refine W.exit ?_
    obtain rfl := Option.some.inj hF2
    obtain rfl := einr hN2
    obtain rfl := Option.some.inj hF
    refine W.endV (fn := Try.f111) (vs := []) Try.results111 trivial (fun _ _ h => h) (fun wz hw => ?_)
    exact hR _ _ ⟨(), (by simp [hl8]), rfl, (hw.pickK 1 [0] rfl)⟩

def slices_pdqsortCmpFunc_rows_value_L1 (N : Nat) (b5 : Int) (a4 : Int) (data3 : (List RowsValue)) : Unit → Option (Unit ⊕ (List RowsValue))
  | _ =>
    ck (ok64 (b5 - a4)) <|
    cond (decide ((b5 - a4) ≤ 12))
      (bd (slices_insertionSortCmpFunc_rows_value N data3 a4 b5) fun (r8 : (List RowsValue)) =>
      some (.inr r8))
      (none)

def slices_pdqsortCmpFunc_rows_value (N : Nat) (data3 : (List RowsValue)) (a4 : Int) (b5 : Int) (limit6 : Int) : Option (List RowsValue) :=
  bd (α := (List RowsValue)) (iter (slices_pdqsortCmpFunc_rows_value_L1 N b5 a4 data3) N ()) <| fun p => some p

theorem slices_pdqsortCmpFunc_rows_value_ok {N : Nat} {data3 : (List RowsValue)} {a4 : Int} {b5 : Int} {limit6 : Int} {A1 : Option Addr} {c2 : Nat} {res : (List RowsValue)} (hF : slices_pdqsortCmpFunc_rows_value N data3 a4 b5 limit6 = some res) {w0 w : World} {T : List Chunk} (hw : St w0.heap.size w0 ([cR encRowsValue 3 A1 c2 167 data3] ++ T) w) :
    Calls Try.prog 101 (List.toArray [.slice A1 (data3).length c2, .int .i64 a4, .int .i64 b5, .int .i64 limit6, .func (.func 75) #[] #[]]) w (fun e w' => ∃ g : Unit, ((res).length = (data3).length) ∧ e = .returned (.tuple #[]) ∧ St w0.heap.size w0 ([cR encRowsValue 3 A1 c2 167 res] ++ T) w') := by
  refine W.enter (n := 148) Try.func101 rfl rfl Sub.refl (by simp) hw fun R hR => ?_
  unfold slices_pdqsortCmpFunc_rows_value at hF
  refine W.seqR fun Q1 hQ1 => ?_
  refine WL.q (Y.assign (.pl rfl)) rfl ?_
  refine WL.next hQ1 (.cons (i := 0) rfl (.cons (i := 1) rfl (.cons (i := 2) rfl (.cons (i := 3) rfl (.cons (i := 4) rfl (.cons (i := 10) rfl (.nil))))))) ?_
  refine W.seqR fun Q2 hQ2 => ?_
  refine WL.q (Y.assign (.pl rfl)) rfl ?_
  refine WL.next hQ2 (.cons (i := 0) rfl (.cons (i := 1) rfl (.cons (i := 2) rfl (.cons (i := 3) rfl (.cons (i := 4) rfl (.cons (i := 10) rfl (.cons (i := 11) rfl (.nil)))))))) ?_
  refine W.block ?_
  obtain ⟨o3, hL3, hF⟩ := bnd hF
  refine W.loop0 (Em := []) (M := ([cR encRowsValue 3 A1 c2 167 data3] ++ T)) (I := fun k3 => iter (slices_pdqsortCmpFunc_rows_value_L1 N b5 a4 data3) k3 () = some o3) N (hL3) (.nil) (.cons (i := 0) rfl (.cons (i := 1) rfl (.cons (i := 2) rfl (.cons (i := 3) rfl (.cons (i := 4) rfl (.cons (i := 10) rfl (.cons (i := 11) rfl (.nil)))))))) (fun wz hw => hw.pickK 1 [0] rfl) (fun k3 hI K4 hK4 => ?_)
  obtain ⟨k3, t3, rfl, hF3, hN3⟩ := iter_step hI
  refine W.block ?_
  refine W.seqR fun Q5 hQ5 => ?_
  refine WL.q (Y.move (.pl rfl)) rfl ?_
  refine WL.q (Y.move (.pl rfl)) rfl ?_
  obtain ⟨hk7, hF3⟩ := ckh hF3
  refine WL.q (Y.sub (.pl rfl) (.pl rfl) (ok64_lt (hk7))) rfl ?_
  refine WL.q (Y.assign (.pl rfl)) rfl ?_
  refine WL.next hQ5 (.cons (i := 0) rfl (.cons (i := 1) rfl (.cons (i := 2) rfl (.cons (i := 3) rfl (.cons (i := 4) rfl (.cons (i := 10) rfl (.cons (i := 11) rfl (.cons (i := 12) rfl (.nil))))))))) ?_
  refine W.seq fun K6 hK6 => ?_
  refine W.seqR fun Q7 hQ7 => ?_
  refine WL.q (Y.move (.pl rfl)) rfl ?_
  refine WL.q (Y.leq (.pl rfl) (.pl rfl)) rfl ?_
  refine WL.next hQ7 (.cons (i := 0) rfl (.cons (i := 1) rfl (.cons (i := 2) rfl (.cons (i := 3) rfl (.cons (i := 4) rfl (.cons (i := 10) rfl (.cons (i := 11) rfl (.cons (i := 12) rfl (.cons (i := 25) rfl (.nil)))))))))) ?_
  refine W.cond (.pl rfl) (fun hC8 => ?_) (fun hC8 => ?_)
  · replace hF3 := cpos hC8 hF3
    refine W.seqR fun Q9 hQ9 => ?_
    refine WL.q (Y.move (.pl rfl)) rfl ?_
    refine WL.q (Y.move (.pl rfl)) rfl ?_
    refine WL.q (Y.move (.pl rfl)) rfl ?_
    refine WL.q (Y.move (.pl rfl)) rfl ?_
    obtain ⟨r8, hr8, hF3⟩ := bnd hF3
    refine WL.step (WO.call (γ := Unit) (fun g => .tuple #[]) (fun g => ([cR encRowsValue 3 A1 c2 167 r8] ++ T)) (fun g => (r8).length = (data3).length) isGo111 (.cons (.pl rfl) (.cons (.pl rfl) (.cons (.pl rfl) (.cons (.pl rfl) (.nil))))) rfl (fun wz hw => slices_insertionSortCmpFunc_rows_value_ok (T := ([] ++ T)) (hr8) (hw.pickK 1 [0] rfl) ) ?_)
    rintro _ hl9
    refine WL.next hQ9 (.nil) ?_
    obtain rfl := Option.some.inj hF3
    obtain rfl := einr hN3
    obtain rfl := Option.some.inj hF
    refine W.retV (fn := Try.f101) (vs := []) Try.results101 trivial (fun _ _ h => h) (fun wz hw => ?_)
    exact hR _ _ ⟨(), (by simp [hl9]), rfl, (hw.pickK 1 [0] rfl)⟩
  · replace hF3 := cneg hC8 hF3
    refine W.skip ?_
    refine W.go hK6 (.cons (i := 0) rfl (.cons (i := 1) rfl (.cons (i := 2) rfl (.cons (i := 3) rfl (.cons (i := 4) rfl (.cons (i := 10) rfl (.cons (i := 11) rfl (.cons (i := 12) rfl (.nil))))))))) ?_
    refine W.seq fun K10 hK10 => ?_
    exact nomatch hF3

def slices_SortFunc_rows_value_rows_value (N : Nat) (x3 : (List RowsValue)) : Option (List RowsValue) :=
  bd (math_bits_Len N (IntKind.u64.wrap ((x3).length : Int))) fun (r4 : Int) =>
  bd (slices_pdqsortCmpFunc_rows_value N x3 0 ((x3).length : Int) r4) fun (r5 : (List RowsValue)) =>
  some r5

theorem slices_SortFunc_rows_value_rows_value_ok {N : Nat} {x3 : (List RowsValue)} {A1 : Option Addr} {c2 : Nat} {res : (List RowsValue)} (hF : slices_SortFunc_rows_value_rows_value N x3 = some res) {w0 w : World} {T : List Chunk} (hw : St w0.heap.size w0 ([cR encRowsValue 3 A1 c2 167 x3] ++ T) w) :
    Calls Try.prog 74 (List.toArray [.slice A1 (x3).length c2, .func (.func 75) #[] #[]]) w (fun e w' => ∃ g : Unit, ((res).length = (x3).length) ∧ e = .returned (.tuple #[]) ∧ St w0.heap.size w0 ([cR encRowsValue 3 A1 c2 167 res] ++ T) w') := by
  refine W.enter (n := 14) Try.func74 rfl rfl Sub.refl (by simp) hw fun R hR => ?_
  unfold slices_SortFunc_rows_value_rows_value at hF
  refine W.seqR fun Q1 hQ1 => ?_
  refine WL.q (Y.move (.pl rfl)) rfl ?_
  refine WL.q (Y.len Try.underlying161 (.pl rfl)) rfl ?_
  refine WL.q (Y.assign (.pl rfl)) rfl ?_
  refine WL.next hQ1 (.cons (i := 0) rfl (.cons (i := 1) rfl (.cons (i := 4) rfl (.nil)))) ?_
  refine W.reg ?_
  refine WL.q (Y.move (.pl rfl)) rfl ?_
  refine WL.q (Y.move (.pl rfl)) rfl ?_
  refine WL.q (Y.move (.pl rfl)) rfl ?_
  refine WL.q (Y.conv Try.underlying3 Try.underlying98 (.pl rfl)) rfl ?_
  obtain ⟨r4, hr4, hF⟩ := bnd hF
  refine WL.step (WO.callP isGo102 (.cons (.pl rfl) (.nil)) rfl (fun wz hw => math_bits_Len_ok (hr4) wz ) ?_)
  refine WL.q (Y.move (.pl rfl)) rfl ?_
  obtain ⟨r5, hr5, hF⟩ := bnd hF
  refine WL.step (WO.call (γ := Unit) (fun g => .tuple #[]) (fun g => ([cR encRowsValue 3 A1 c2 167 r5] ++ T)) (fun g => (r5).length = (x3).length) isGo101 (.cons (.pl rfl) (.cons (.pl rfl) (.cons (.pl rfl) (.cons (.pl rfl) (.cons (.pl rfl) (.nil)))))) rfl (fun wz hw => slices_pdqsortCmpFunc_rows_value_ok (T := ([] ++ T)) (hr5) (hw.pickK 1 [0] rfl) ) ?_)
  rintro _ hl6
  refine WL.nil ?_
  obtain rfl := Option.some.inj hF
  refine W.endV (fn := Try.f74) (vs := []) Try.results74 trivial (fun _ _ h => h) (fun wz hw => ?_)
  exact hR _ _ ⟨(), (by simp [hl6]), rfl, (hw.pickK 1 [0] rfl)⟩

def rows_read_L5 (N : Nat) (r7 : ((List Call) × Int × Int)) : ((List RowsValue) × Int) → Option (((List RowsValue) × Int) ⊕ ((List RowsValue) ⊕ (Bool × (List Call) × (List RowsValue) × Int)))
  | (values16, v17) =>
    cond (decide (v17 < ((r7.1).length : Int)))
      (bd (ix r7.1 v17) fun (x18 : Call) =>
      cond ((decide (x18.kind = 4)) && (decide (x18.to_ = (-1))))
        (some (.inr (.inr (false, [], [], 6))))
        (bd (α := Bool) (cond ((decide (x18.kind = 3)) == true)
            (bd (rows_log_find N r7.1 values16 x18.arg) fun (r21 : Int) =>
            some ((decide (x18.kind = 3)) && (!(decide (r21 < 0)))))
            (some ((decide (x18.kind = 3)) && false))) <|
        fun (v20 : Bool) => 
          cond v20
            (some (.inr (.inr (false, [], [], 6))))
            (cond (decide (x18.kind = 3))
              (ck (limB 24 ((values16).length + (([(RowsValue.mk x18.arg v17 (-1))] : List RowsValue)).length)) <|
              ck (ok64 (v17 + 1)) <|
              some (.inl ((values16 ++ ([(RowsValue.mk x18.arg v17 (-1))] : List RowsValue)), (v17 + 1))))
              (ck (ok64 (v17 + 1)) <|
              some (.inl (values16, (v17 + 1)))))))
      (some (.inr (.inl values16)))

def rows_read_L7 (N : Nat) (r7 : ((List Call) × Int × Int)) : ((List RowsValue) × Int) → Option (((List RowsValue) × Int) ⊕ (List RowsValue))
  | (values31, v32) =>
    cond (decide (v32 < ((r7.1).length : Int)))
      (bd (ix r7.1 v32) fun (x33 : Call) =>
      bd (rows_log_find N r7.1 values31 x33.res) fun (r35 : Int) =>
      bd ((cond (((decide (x33.kind = 4)) && (!(decide (r35 < 0)))) == true) (ix values31 r35) (some RowsValue.z))) fun (x36 : RowsValue) =>
      cond (((decide (x33.kind = 4)) && (!(decide (r35 < 0)))) && (decide (x36.deq < 0)))
        (bd (ix values31 r35) fun (x37 : RowsValue) =>
        ck (ok64 (v32 + 1)) <|
        some (.inl ((values31.set r35.toNat (RowsValue.mk x37.n x37.enq v32)), (v32 + 1))))
        (ck (ok64 (v32 + 1)) <|
        some (.inl (values31, (v32 + 1)))))
      (some (.inr values31))

def rows_read (N : Nat) (l1 : (List Event)) : Option (Bool × (List Call) × (List RowsValue) × Int) :=
  bd (history_Calls N ([2] : List Int) l1) fun (r7 : ((List Call) × Int × Int)) =>
  cond (!(decide (r7.2.2 = 0)))
    (some (false, [], [], r7.2.2))
    (bd (α := ((List RowsValue) ⊕ (Bool × (List Call) × (List RowsValue) × Int))) (iter (rows_read_L5 N r7) N ([], 0)) <|
    Sum.elim (fun (values13 : (List RowsValue)) => 
      bd (slices_SortFunc_rows_value_rows_value N values13) fun (r28 : (List RowsValue)) =>
      bd (α := (List RowsValue)) (iter (rows_read_L7 N r7) N (r28, 0)) <|
      fun (values30 : (List RowsValue)) => 
        some (true, r7.1, values30, 0)) (fun p => some p))

end Go.Proofs.Ytkmmagekepoapaa
