/- Check: what the code computes, and the walk. -/
import Derived.Test.YtkmmagekepoapaaG3
set_option linter.unusedVariables false
set_option linter.unusedSimpArgs false
set_option linter.unusedSectionVars false
set_option maxRecDepth 100000
namespace Go.Proofs.Ytkmmagekepoapaa
open Go.RowKit
structure Span where
  from_ : Int
  to_ : Int
deriving DecidableEq
def Span.z : Span := ⟨0, 0⟩
def encSpan (x : Span) : List Value := (Value.int .i64 x.from_ :: (Value.int .i64 x.to_ :: []))
theorem lenSpan (x : Span) : (encSpan x).length = 2 := rfl
theorem oneSpan : ∀ x, ∀ v ∈ encSpan x, v.oneCell' = true := fun x => (one_cons rfl (one_cons rfl one_nil))
theorem cells119 : Try.prog.cellsOf 119 = 0 + 1 := by kernel_rfl
theorem cells176 : Try.prog.cellsOf 176 = 1 + 1 := by kernel_rfl
theorem isGo53 : IsGo Try.prog 53 := ⟨_, Try.func53, by kernel_rfl, rfl⟩
theorem isGo54 : IsGo Try.prog 54 := ⟨_, Try.func54, by kernel_rfl, rfl⟩
theorem isGo55 : IsGo Try.prog 55 := ⟨_, Try.func55, by kernel_rfl, rfl⟩
theorem isGo56 : IsGo Try.prog 56 := ⟨_, Try.func56, by kernel_rfl, rfl⟩
theorem isGo57 : IsGo Try.prog 57 := ⟨_, Try.func57, by kernel_rfl, rfl⟩
theorem isGo58 : IsGo Try.prog 58 := ⟨_, Try.func58, by kernel_rfl, rfl⟩
theorem isGo76 : IsGo Try.prog 76 := ⟨_, Try.func76, by kernel_rfl, rfl⟩
theorem isGo77 : IsGo Try.prog 77 := ⟨_, Try.func77, by kernel_rfl, rfl⟩
theorem isGo78 : IsGo Try.prog 78 := ⟨_, Try.func78, by kernel_rfl, rfl⟩
theorem isGo79 : IsGo Try.prog 79 := ⟨_, Try.func79, by kernel_rfl, rfl⟩
theorem isGo80 : IsGo Try.prog 80 := ⟨_, Try.func80, by kernel_rfl, rfl⟩
theorem isGo81 : IsGo Try.prog 81 := ⟨_, Try.func81, by kernel_rfl, rfl⟩
theorem isGo82 : IsGo Try.prog 82 := ⟨_, Try.func82, by kernel_rfl, rfl⟩
theorem isGo83 : IsGo Try.prog 83 := ⟨_, Try.func83, by kernel_rfl, rfl⟩
theorem isGo103 : IsGo Try.prog 103 := ⟨_, Try.func103, by kernel_rfl, rfl⟩
theorem zero3 : ∃ i, Try.prog.info? 3 = some i ∧ i.zero = some (Value.int .i64 0) := ⟨_, rfl, by kernel_rfl⟩
theorem zero167 : ∃ i, Try.prog.info? 167 = some i ∧ i.zero = some (Value.agg #[(Value.int .i64 0), (Value.int .i64 0), (Value.int .i64 0)]) := ⟨_, rfl, by kernel_rfl⟩
theorem zero176 : ∃ i, Try.prog.info? 176 = some i ∧ i.zero = some (Value.agg #[(Value.int .i64 0), (Value.int .i64 0)]) := ⟨_, rfl, by kernel_rfl⟩
theorem bz119 : ∃ i, Try.prog.info? 119 = some i ∧ i.zero = some Value.nilFunc ∧ i.size = 1 := ⟨_, rfl, by kernel_rfl, by kernel_rfl⟩
theorem bz176 : ∃ i, Try.prog.info? 176 = some i ∧ i.zero = some (Value.agg #[(Value.int .i64 0), (Value.int .i64 0)]) ∧ i.size = 2 := ⟨_, rfl, by kernel_rfl, by kernel_rfl⟩
theorem ap176 : ∃ i z, Try.prog.info? 176 = some i ∧ i.zero = some z ∧ i.size = 2 ∧ i.bytes = 16 ∧ z.cells.size = 2 ∧ 0 < 2 := ⟨_, (Value.agg #[(Value.int .i64 0), (Value.int .i64 0)]), rfl, by kernel_rfl, by kernel_rfl, by kernel_rfl, by kernel_rfl, by decide⟩
theorem shape176 : Shape Try.prog 176 [(0, 1), (1, 1)] #[(Value.int .i64 0), (Value.int .i64 0)] := ⟨_, _, Value.agg #[(Value.int .i64 0), (Value.int .i64 0)], Try.underlying176, rfl, by kernel_rfl, rfl, by kernel_rfl, by decide⟩
def rows_log_stray_1 (N : Nat) (i1 : Int) (x2 : Call) (calls7 : (List Call)) (values10 : (List RowsValue)) : Option (Int × Int) :=
  bd (rows_log_find N calls7 values10 x2.res) fun (r13 : Int) =>
  cond (decide (r13 < 0))
    (some (1, i1))
    (some (0, 0))

theorem rows_log_stray_1_ok {N : Nat} {i1 : Int} {x2 : Call} {calls7 : (List Call)} {values10 : (List RowsValue)} {b3 : Nat} {b4 : Nat} {A5 : Option Addr} {c6 : Nat} {A8 : Option Addr} {c9 : Nat} {res : (Int × Int)} (hF : rows_log_stray_1 N i1 x2 calls7 values10 = some res) {w0 w : World} {T : List Chunk} (hw : St w0.heap.size w0 ([cBx b3 120 [.pointer (some ⟨b4, 0, none⟩)], cBx b4 163 (Value.slice A5 (calls7).length c6 :: (Value.slice A8 (values10).length c9 :: [])), cR encCall 7 A5 c6 129 calls7, cR encRowsValue 3 A8 c9 167 values10] ++ T) w) :
    Calls Try.prog 77 (List.toArray [.int .i64 i1, .agg (encCall x2).toArray, .pointer (some ⟨b3, 0, none⟩)]) w (fun e w' => ∃ g : Unit, (True) ∧ e = .returned (.agg (encBad (Bad.mk res.1 res.2 0)).toArray) ∧ St w0.heap.size w0 ([cBx b3 120 [.pointer (some ⟨b4, 0, none⟩)], cBx b4 163 (Value.slice A5 (calls7).length c6 :: (Value.slice A8 (values10).length c9 :: [])), cR encCall 7 A5 c6 129 calls7, cR encRowsValue 3 A8 c9 167 values10] ++ T) w') := by
  refine W.enter (n := 14) Try.func77 rfl rfl Sub.refl (by simp) hw fun R hR => ?_
  unfold rows_log_stray_1 at hF
  refine W.seqR fun Q1 hQ1 => ?_
  refine WL.step (WO.boxA (.pl rfl) rfl fun b11 => ?_)
  refine WL.step (WO.alloc (cs := (encBad (Bad.mk 0 0 0)).toArray) zero66 rfl rfl fun b12 => ?_)
  refine WL.next hQ1 (.cons (i := 0) rfl (.cons (i := 2) rfl (.cons (i := 4) rfl (.cons (i := 5) rfl (.nil))))) ?_
  refine W.seq fun K2 hK2 => ?_
  refine W.seqR fun Q3 hQ3 => ?_
  refine WL.q (Y.loadB (v := .pointer (some ⟨b4, 0, none⟩)) Try.underlying120 rfl (.pl rfl) (i := 2) rfl (rfl)) rfl ?_
  refine WL.q (Y.fieldAddr0 (off := 4) (ft := 3) Try.underlying129 rfl cells3 (.pl rfl)) rfl ?_
  refine WL.q (Y.loadB (v := .int .i64 x2.res) Try.underlying3 rfl (.pl rfl) (i := 1) rfl (rfl)) rfl ?_
  obtain ⟨r13, hr13, hF⟩ := bnd hF
  refine WL.step (WO.call (γ := Unit) (fun g => .pointer (oel A8 r13 3)) (fun g => ([cBx b4 163 (Value.slice A5 (calls7).length c6 :: (Value.slice A8 (values10).length c9 :: [])), cR encCall 7 A5 c6 129 calls7, cR encRowsValue 3 A8 c9 167 values10, cBx b12 66 (encBad (Bad.mk 0 0 0)), cBx b11 129 (encCall x2), cBx b3 120 [.pointer (some ⟨b4, 0, none⟩)]] ++ T)) (fun g => True) isGo73 (.cons (.pl rfl) (.cons (.pl rfl) (.nil))) rfl (fun wz hw => rows_log_find_ok (T := ([cBx b12 66 (encBad (Bad.mk 0 0 0)), cBx b11 129 (encCall x2), cBx b3 120 [.pointer (some ⟨b4, 0, none⟩)]] ++ T)) (hr13) (hw.pickK 6 [3, 4, 5, 0, 1, 2] rfl) ) ?_)
  rintro _ -
  refine WL.q (Y.eqlO Try.underlying164 (.pl rfl)) rfl ?_
  refine WL.next hQ3 (.cons (i := 0) rfl (.cons (i := 5) rfl (.cons (i := 10) rfl (.nil)))) ?_
  refine W.cond (.pl rfl) (fun hC4 => ?_) (fun hC4 => ?_)
  · replace hF := cpos hC4 hF
    refine W.seqR fun Q5 hQ5 => ?_
    refine WL.q (Y.move (.pl rfl)) rfl ?_
    refine WL.q (Y.build (cs := (encBad (Bad.mk 1 i1 0)).toArray) shape66 (.cons (.pl rfl) (.cons (.pl rfl) (.nil))) (one_parts ⟨rfl, ⟨rfl, trivial⟩⟩) rfl) rfl ?_
    refine WL.step (WO.storeBA (ds := (encBad (Bad.mk 1 i1 0))) (cs' := (encBad (Bad.mk 1 i1 0))) cells66 (.pl rfl) (.pl rfl) rfl (oneBad _) (i := 3) rfl (lel (o := 0) (l := 3) (m := 3) (by decide) rfl rfl) (putW rfl) ?_)
    refine WL.next hQ5 (.cons (i := 5) rfl (.nil)) ?_
    obtain rfl := Option.some.inj hF
    refine W.retV (fn := Try.f77) (vs := [.agg (encBad (Bad.mk 1 i1 0)).toArray]) Try.results77 ⟨.cellA Try.underlying66 rfl cells66 rfl (i := 3) rfl rfl, trivial⟩ (fun _ _ h => h) (fun wz hw => ?_)
    exact hR _ _ ⟨(), trivial, rfl, (hw.pickK 6 [5, 0, 1, 2] rfl)⟩
  · replace hF := cneg hC4 hF
    refine W.skip ?_
    refine W.go hK2 (.cons (i := 5) rfl (.nil)) ?_
    refine W.seqR fun Q6 hQ6 => ?_
    refine WL.q (Y.build (cs := (encBad (Bad.mk 0 0 0)).toArray) shape66 (.nil) (one_parts trivial) rfl) rfl ?_
    refine WL.step (WO.storeBA (ds := (encBad (Bad.mk 0 0 0))) (cs' := (encBad (Bad.mk 0 0 0))) cells66 (.pl rfl) (.pl rfl) rfl (oneBad _) (i := 3) rfl (lel (o := 0) (l := 3) (m := 3) (by decide) rfl rfl) (putW rfl) ?_)
    refine WL.next hQ6 (.cons (i := 5) rfl (.nil)) ?_
    obtain rfl := Option.some.inj hF
    refine W.retV (fn := Try.f77) (vs := [.agg (encBad (Bad.mk 0 0 0)).toArray]) Try.results77 ⟨.cellA Try.underlying66 rfl cells66 rfl (i := 3) rfl rfl, trivial⟩ (fun _ _ h => h) (fun wz hw => ?_)
    exact hR _ _ ⟨(), trivial, rfl, (hw.pickK 6 [5, 0, 1, 2] rfl)⟩

def rows_log_each_L3 (N : Nat) (calls4 : (List Call)) (values7 : (List RowsValue)) : Int → Option (Int ⊕ (Unit ⊕ (Int × Int)))
  | v10 =>
    cond (decide (v10 < ((calls4).length : Int)))
      (bd (ix calls4 v10) fun (x11 : Call) =>
      cond ((decide (x11.kind = 4)) && (!(decide (x11.res = (-1)))))
        (bd (rows_log_stray_1 N v10 x11 calls4 values7) fun (r13 : (Int × Int)) =>
        cond (!(decide (r13.1 = 0)))
          (some (.inr (.inr (r13.1, r13.2))))
          (ck (ok64 (v10 + 1)) <|
          some (.inl (v10 + 1))))
        (ck (ok64 (v10 + 1)) <|
        some (.inl (v10 + 1))))
      (some (.inr (.inl ())))

def rows_log_each (N : Nat) (calls4 : (List Call)) (values7 : (List RowsValue)) : Option (Int × Int) :=
  bd (α := (Unit ⊕ (Int × Int))) (iter (rows_log_each_L3 N calls4 values7) N 0) <|
  Sum.elim (fun _ => 
    some (0, 0)) (fun p => some p)

theorem rows_log_each_ok {N : Nat} {calls4 : (List Call)} {values7 : (List RowsValue)} {b1 : Nat} {A2 : Option Addr} {c3 : Nat} {A5 : Option Addr} {c6 : Nat} {b8 : Nat} {res : (Int × Int)} (hF : rows_log_each N calls4 values7 = some res) {w0 w : World} {T : List Chunk} (hw : St w0.heap.size w0 ([cBx b1 163 (Value.slice A2 (calls4).length c3 :: (Value.slice A5 (values7).length c6 :: [])), cR encCall 7 A2 c3 129 calls4, cR encRowsValue 3 A5 c6 167 values7, cBx b8 120 [.pointer (some ⟨b1, 0, none⟩)]] ++ T) w) :
    Calls Try.prog 76 (List.toArray [.pointer (some ⟨b1, 0, none⟩), .func (.func 77) #[] #[.pointer (some ⟨b8, 0, none⟩)]]) w (fun e w' => ∃ g : Unit, (True) ∧ e = .returned (.agg (encBad (Bad.mk res.1 res.2 0)).toArray) ∧ St w0.heap.size w0 ([cBx b1 163 (Value.slice A2 (calls4).length c3 :: (Value.slice A5 (values7).length c6 :: [])), cR encCall 7 A2 c3 129 calls4, cR encRowsValue 3 A5 c6 167 values7, cBx b8 120 [.pointer (some ⟨b1, 0, none⟩)]] ++ T) w') := by
  refine W.enter (n := 36) Try.func76 rfl rfl Sub.refl (by simp) hw fun R hR => ?_
  unfold rows_log_each at hF
  refine W.seqR fun Q1 hQ1 => ?_
  refine WL.step (WO.alloc (cs := (encBad (Bad.mk 0 0 0)).toArray) zero66 rfl rfl fun b9 => ?_)
  refine WL.next hQ1 (.cons (i := 0) rfl (.cons (i := 1) rfl (.cons (i := 4) rfl (.nil)))) ?_
  obtain ⟨o2, hF2, hF⟩ := bnd hF
  refine W.join0 (Em := []) (M := ([cBx b1 163 (Value.slice A2 (calls4).length c3 :: (Value.slice A5 (values7).length c6 :: [])), cR encCall 7 A2 c3 129 calls4, cR encRowsValue 3 A5 c6 167 values7, cBx b8 120 [.pointer (some ⟨b1, 0, none⟩)], cBx b9 66 (encBad (Bad.mk 0 0 0))] ++ T)) (I := (.inl ()) = o2) (.cons (i := 4) rfl (.nil)) (fun K3 hK3 => ?_) ?_
  · -- up to
    refine W.seqR fun Q4 hQ4 => ?_
    refine WL.q (Y.move (.pl rfl)) rfl ?_
    refine WL.q (Y.nilCheck (.pl rfl)) rfl ?_
    refine WL.q (Y.fieldAddr0 (off := 0) (ft := 35) Try.underlying163 rfl cells35 (.pl rfl)) rfl ?_
    refine WL.q (Y.loadB (v := .slice A2 (calls4).length c3) Try.underlying35 rfl (.pl rfl) (i := 1) rfl (rfl)) rfl ?_
    refine WL.q (Y.len Try.underlying35 (.pl rfl)) rfl ?_
    refine WL.q (Y.move (.pl rfl)) rfl ?_
    refine WL.next hQ4 (.cons (i := 1) rfl (.cons (i := 4) rfl (.cons (i := 11) rfl (.cons (i := 12) rfl (.cons (i := 13) rfl (.nil)))))) ?_
    refine W.block ?_
    refine W.loop1 (Em := fun (v10 : Int) => [(13, .int .i64 v10)]) (M := fun v10 => ([cBx b1 163 (Value.slice A2 (calls4).length c3 :: (Value.slice A5 (values7).length c6 :: [])), cR encCall 7 A2 c3 129 calls4, cR encRowsValue 3 A5 c6 167 values7, cBx b8 120 [.pointer (some ⟨b1, 0, none⟩)], cBx b9 66 (encBad (Bad.mk 0 0 0))] ++ T)) (I := fun v10 k5 => iter (rows_log_each_L3 N calls4 values7) k5 v10 = some o2) 0 N (hF2) (.cons rfl (.nil)) (.cons (i := 1) rfl (.cons (i := 4) rfl (.cons (i := 11) rfl (.cons (i := 12) rfl (.nil))))) (fun wz hw => hw.pickK 5 [1, 2, 3, 4, 0] rfl) (fun v10 k5 hI K6 hK6 => ?_)
    obtain ⟨k5, t5, rfl, hF5, hN5⟩ := iter_step hI
    refine W.seqR fun Q7 hQ7 => ?_
    refine WL.q (Y.lss (.pl rfl) (.pl rfl)) rfl ?_
    refine WL.next hQ7 (.cons (i := 1) rfl (.cons (i := 4) rfl (.cons (i := 11) rfl (.cons (i := 12) rfl (.cons (i := 13) rfl (.cons (i := 14) rfl (.nil))))))) ?_
    refine W.seq fun K8 hK8 => ?_
    refine W.cond (.pl rfl) (fun hC9 => ?_) (fun hC9 => ?_)
    · replace hF5 := cpos hC9 hF5
      refine W.skip ?_
      refine W.go hK8 (.cons (i := 1) rfl (.cons (i := 4) rfl (.cons (i := 11) rfl (.cons (i := 12) rfl (.cons (i := 13) rfl (.nil)))))) ?_
      refine W.seq fun K10 hK10 => ?_
      refine W.block ?_
      refine W.seqR fun Q11 hQ11 => ?_
      refine WL.q (Y.move (.pl rfl)) rfl ?_
      obtain ⟨x11, hx11, hF5⟩ := bnd hF5
      refine WL.q (Y.rowEl Try.underlying35 cells129 (i := 1) rfl (.pl rfl) rfl (.pl rfl) (ix_lt (hx11))) rfl ?_
      refine WL.q (Y.loadRA (enc := encCall) (ds := (encCall x11)) (a := x11) (idx := v10) (j := 0) Try.underlying129 rfl cells129 lenCall (i := 1) rfl (.pl rfl) (ix_get (hx11)) rfl rfl subW) rfl ?_
      refine WL.step (WO.alloc (cs := (encCall (Call.mk 0 0 0 0 0 0 0)).toArray) zero129 rfl rfl fun b12 => ?_)
      refine WL.q (Y.assign (.pl rfl)) rfl ?_
      refine WL.step (WO.storeBA (ds := (encCall x11)) (cs' := (encCall x11)) cells129 (.pl rfl) (.pl rfl) rfl (oneCall _) (i := 0) rfl (lel (o := 0) (l := 7) (m := 7) (by decide) rfl rfl) (putW rfl) ?_)
      refine WL.next hQ11 (.cons (i := 1) rfl (.cons (i := 4) rfl (.cons (i := 5) rfl (.cons (i := 6) rfl (.cons (i := 11) rfl (.cons (i := 12) rfl (.cons (i := 13) rfl (.nil)))))))) ?_
      refine W.seqR fun Q12 hQ12 => ?_
      refine WL.q (Y.fieldAddr0 (off := 2) (ft := 3) Try.underlying129 rfl cells3 (.pl rfl)) rfl ?_
      refine WL.q (Y.loadB (v := .int .i64 x11.kind) Try.underlying3 rfl (.pl rfl) (i := 0) rfl (rfl)) rfl ?_
      refine WL.q (Y.eql (.pl rfl) (.pl rfl)) rfl ?_
      refine WL.q (Y.move (.pl rfl)) rfl ?_
      refine WL.g (.pl rfl rfl rfl) (fun hg => Y.fieldAddr0 (off := 4) (ft := 3) Try.underlying129 rfl cells3 (.pl rfl)) rfl ?_
      refine WL.g (.pl rfl rfl rfl) (fun hg => Y.loadB (v := .int .i64 x11.res) Try.underlying3 rfl (.gd (hg) rfl) (i := 0) rfl (rfl)) rfl ?_
      refine WL.g (.pl rfl rfl rfl) (fun hg => Y.neq (.gd (hg) rfl) (.pl rfl)) rfl ?_
      refine WL.q (Y.and (.pl rfl) (fun h2 => .gd (eqt h2) rfl)) rfl ?_
      refine WL.next hQ12 (.cons (i := 1) rfl (.cons (i := 4) rfl (.cons (i := 5) rfl (.cons (i := 6) rfl (.cons (i := 11) rfl (.cons (i := 12) rfl (.cons (i := 13) rfl (.cons (i := 25) rfl (.nil))))))))) ?_
      refine W.cond (.pl rfl) (fun hC13 => ?_) (fun hC13 => ?_)
      · replace hF5 := cpos hC13 hF5
        refine W.seqR fun Q14 hQ14 => ?_
        refine WL.q (Y.move (.pl rfl)) rfl ?_
        refine WL.q (Y.move (.pl rfl)) rfl ?_
        refine WL.q (Y.loadBA (ds := (encCall x11)) Try.underlying129 rfl cells129 (.pl rfl) (i := 0) rfl rfl subW) rfl ?_
        obtain ⟨r13, hr13, hF5⟩ := bnd hF5
        refine WL.step (WO.callG (γ := Unit) (first := []) (cap := [.pointer (some ⟨b8, 0, none⟩)]) (fun g => .agg (encBad (Bad.mk r13.1 r13.2 0)).toArray) (fun g => ([cBx b8 120 [.pointer (some ⟨b1, 0, none⟩)], cBx b1 163 (Value.slice A2 (calls4).length c3 :: (Value.slice A5 (values7).length c6 :: [])), cR encCall 7 A2 c3 129 calls4, cR encRowsValue 3 A5 c6 167 values7, cBx b12 129 (encCall x11), cBx b9 66 (encBad (Bad.mk 0 0 0))] ++ T)) (fun g => True) isGo77 (.pl rfl) (.cons (.pl rfl) (.cons (.pl rfl) (.nil))) rfl (fun wz hw => (by have h := rows_log_stray_1_ok (T := ([cBx b12 129 (encCall x11), cBx b9 66 (encBad (Bad.mk 0 0 0))] ++ T)) (b3 := b8) (b4 := b1) (A5 := A2) (c6 := c3) (A8 := A5) (c9 := c6) (hr13) (hw.pickK 6 [4, 1, 2, 3, 0, 5] rfl) ; unfold Calls at h ⊢; intro cs; obtain ⟨e, w2, fr, h1, h2⟩ := h cs; exact ⟨e, w2, fr, h1, h2⟩)) ?_)
        rintro _ -
        refine WL.step (WO.alloc (cs := (encBad (Bad.mk 0 0 0)).toArray) zero66 rfl rfl fun b14 => ?_)
        refine WL.step (WO.storeBA (ds := (encBad (Bad.mk r13.1 r13.2 0))) (cs' := (encBad (Bad.mk r13.1 r13.2 0))) cells66 (.pl rfl) (.pl rfl) rfl (oneBad _) (i := 0) rfl (lel (o := 0) (l := 3) (m := 3) (by decide) rfl rfl) (putW rfl) ?_)
        refine WL.next hQ14 (.cons (i := 1) rfl (.cons (i := 4) rfl (.cons (i := 7) rfl (.cons (i := 11) rfl (.cons (i := 12) rfl (.cons (i := 13) rfl (.nil))))))) ?_
        refine W.seqR fun Q15 hQ15 => ?_
        refine WL.q (Y.fieldAddr0 (off := 0) (ft := 3) Try.underlying66 rfl cells3 (.pl rfl)) rfl ?_
        refine WL.q (Y.loadB (v := .int .i64 r13.1) Try.underlying3 rfl (.pl rfl) (i := 0) rfl (rfl)) rfl ?_
        refine WL.q (Y.neq (.pl rfl) (.pl rfl)) rfl ?_
        refine WL.next hQ15 (.cons (i := 1) rfl (.cons (i := 4) rfl (.cons (i := 7) rfl (.cons (i := 11) rfl (.cons (i := 12) rfl (.cons (i := 13) rfl (.cons (i := 32) rfl (.nil)))))))) ?_
        refine W.cond (.pl rfl) (fun hC16 => ?_) (fun hC16 => ?_)
        · replace hF5 := cpos hC16 hF5
          refine W.seqR fun Q17 hQ17 => ?_
          refine WL.q (Y.loadBA (ds := (encBad (Bad.mk r13.1 r13.2 0))) Try.underlying66 rfl cells66 (.pl rfl) (i := 0) rfl rfl subW) rfl ?_
          refine WL.step (WO.storeBA (ds := (encBad (Bad.mk r13.1 r13.2 0))) (cs' := (encBad (Bad.mk r13.1 r13.2 0))) cells66 (.pl rfl) (.pl rfl) rfl (oneBad _) (i := 6) rfl (lel (o := 0) (l := 3) (m := 3) (by decide) rfl rfl) (putW rfl) ?_)
          refine WL.next hQ17 (.cons (i := 4) rfl (.nil)) ?_
          obtain rfl := Option.some.inj hF5
          obtain rfl := einr hN5
          obtain rfl := Option.some.inj hF
          refine W.retV (fn := Try.f76) (vs := [.agg (encBad (Bad.mk r13.1 r13.2 0)).toArray]) Try.results76 ⟨.cellA Try.underlying66 rfl cells66 rfl (i := 6) rfl rfl, trivial⟩ (fun _ _ h => h) (fun wz hw => ?_)
          exact hR _ _ ⟨(), trivial, rfl, (hw.pickK 7 [2, 3, 4, 1] rfl)⟩
        · replace hF5 := cneg hC16 hF5
          refine W.skip ?_
          refine W.go hK10 (.cons (i := 1) rfl (.cons (i := 4) rfl (.cons (i := 11) rfl (.cons (i := 12) rfl (.cons (i := 13) rfl (.nil)))))) ?_
          refine W.reg ?_
          obtain ⟨hk15, hF5⟩ := ckh hF5
          refine WL.q (Y.add (.pl rfl) (.pl rfl) (ok64_lt (hk15))) rfl ?_
          refine WL.q (Y.move (.pl rfl)) rfl ?_
          refine WL.nil ?_
          obtain rfl := Option.some.inj hF5
          exact W.again1 hK6 (v10 + 1) k5 hN5 (Nat.lt_succ_self _) (.cons rfl (.nil)) (.cons (i := 1) rfl (.cons (i := 4) rfl (.cons (i := 11) rfl (.cons (i := 12) rfl (.nil))))) (fun wz hw => hw.pickK 7 [2, 3, 4, 1, 6] rfl)
      · replace hF5 := cneg hC13 hF5
        refine W.skip ?_
        refine W.go hK10 (.cons (i := 1) rfl (.cons (i := 4) rfl (.cons (i := 11) rfl (.cons (i := 12) rfl (.cons (i := 13) rfl (.nil)))))) ?_
        refine W.reg ?_
        obtain ⟨hk16, hF5⟩ := ckh hF5
        refine WL.q (Y.add (.pl rfl) (.pl rfl) (ok64_lt (hk16))) rfl ?_
        refine WL.q (Y.move (.pl rfl)) rfl ?_
        refine WL.nil ?_
        obtain rfl := Option.some.inj hF5
        exact W.again1 hK6 (v10 + 1) k5 hN5 (Nat.lt_succ_self _) (.cons rfl (.nil)) (.cons (i := 1) rfl (.cons (i := 4) rfl (.cons (i := 11) rfl (.cons (i := 12) rfl (.nil))))) (fun wz hw => hw.pickK 6 [1, 2, 3, 4, 5] rfl)
    · replace hF5 := cneg hC9 hF5
      refine W.exit ?_
      obtain rfl := Option.some.inj hF5
      exact W.joinAt0 hK3  (einr hN5) (.nil) (.cons (i := 4) rfl (.nil)) (fun wz hw => hw.pickK 5 [0, 1, 2, 3, 4] rfl)
  · -- behind
    rintro  rfl
    refine W.seqR fun Q20 hQ20 => ?_
    refine WL.q (Y.build (cs := (encBad (Bad.mk 0 0 0)).toArray) shape66 (.nil) (one_parts trivial) rfl) rfl ?_
    refine WL.step (WO.storeBA (ds := (encBad (Bad.mk 0 0 0))) (cs' := (encBad (Bad.mk 0 0 0))) cells66 (.pl rfl) (.pl rfl) rfl (oneBad _) (i := 4) rfl (lel (o := 0) (l := 3) (m := 3) (by decide) rfl rfl) (putW rfl) ?_)
    refine WL.next hQ20 (.cons (i := 4) rfl (.nil)) ?_
    obtain rfl := Option.some.inj hF
    refine W.retV (fn := Try.f76) (vs := [.agg (encBad (Bad.mk 0 0 0)).toArray]) Try.results76 ⟨.cellA Try.underlying66 rfl cells66 rfl (i := 4) rfl rfl, trivial⟩ (fun _ _ h => h) (fun wz hw => ?_)
    exact hR _ _ ⟨(), trivial, rfl, (hw.pickK 5 [0, 1, 2, 3] rfl)⟩

def rows_log_stray (N : Nat) (calls4 : (List Call)) (values7 : (List RowsValue)) : Option (Int × Int) :=
  bd (rows_log_each N calls4 values7) fun (r10 : (Int × Int)) =>
  some (r10.1, r10.2)

theorem rows_log_stray_ok {N : Nat} {calls4 : (List Call)} {values7 : (List RowsValue)} {b1 : Nat} {A2 : Option Addr} {c3 : Nat} {A5 : Option Addr} {c6 : Nat} {res : (Int × Int)} (hF : rows_log_stray N calls4 values7 = some res) {w0 w : World} {T : List Chunk} (hw : St w0.heap.size w0 ([cBx b1 163 (Value.slice A2 (calls4).length c3 :: (Value.slice A5 (values7).length c6 :: [])), cR encCall 7 A2 c3 129 calls4, cR encRowsValue 3 A5 c6 167 values7] ++ T) w) :
    Calls Try.prog 54 (List.toArray [.pointer (some ⟨b1, 0, none⟩)]) w (fun e w' => ∃ g : Unit, (True) ∧ e = .returned (.agg (encBad (Bad.mk res.1 res.2 0)).toArray) ∧ St w0.heap.size w0 ([cBx b1 163 (Value.slice A2 (calls4).length c3 :: (Value.slice A5 (values7).length c6 :: [])), cR encCall 7 A2 c3 129 calls4, cR encRowsValue 3 A5 c6 167 values7] ++ T) w') := by
  refine W.enter (n := 6) Try.func54 rfl rfl Sub.refl (by simp) hw fun R hR => ?_
  unfold rows_log_stray at hF
  refine W.seqR fun Q1 hQ1 => ?_
  refine WL.step (WO.box1 (.pl rfl) rfl rfl fun b8 => ?_)
  refine WL.step (WO.alloc (cs := (encBad (Bad.mk 0 0 0)).toArray) zero66 rfl rfl fun b9 => ?_)
  refine WL.next hQ1 (.cons (i := 1) rfl (.cons (i := 2) rfl (.nil))) ?_
  refine W.seqR fun Q2 hQ2 => ?_
  refine WL.q (Y.loadB (v := .pointer (some ⟨b1, 0, none⟩)) Try.underlying120 rfl (.pl rfl) (i := 1) rfl (rfl)) rfl ?_
  refine WL.q (Y.fnC (.cons (.pl rfl) (.nil))) rfl ?_
  obtain ⟨r10, hr10, hF⟩ := bnd hF
  refine WL.step (WO.call (γ := Unit) (fun g => .agg (encBad (Bad.mk r10.1 r10.2 0)).toArray) (fun g => ([cBx b1 163 (Value.slice A2 (calls4).length c3 :: (Value.slice A5 (values7).length c6 :: [])), cR encCall 7 A2 c3 129 calls4, cR encRowsValue 3 A5 c6 167 values7, cBx b8 120 [.pointer (some ⟨b1, 0, none⟩)], cBx b9 66 (encBad (Bad.mk 0 0 0))] ++ T)) (fun g => True) isGo76 (.cons (.pl rfl) (.cons (.pl rfl) (.nil))) rfl (fun wz hw => rows_log_each_ok (T := ([cBx b9 66 (encBad (Bad.mk 0 0 0))] ++ T)) (hr10) (hw.pickK 5 [2, 3, 4, 1, 0] rfl) ) ?_)
  rintro _ -
  refine WL.step (WO.storeBA (ds := (encBad (Bad.mk r10.1 r10.2 0))) (cs' := (encBad (Bad.mk r10.1 r10.2 0))) cells66 (.pl rfl) (.pl rfl) rfl (oneBad _) (i := 4) rfl (lel (o := 0) (l := 3) (m := 3) (by decide) rfl rfl) (putW rfl) ?_)
  refine WL.next hQ2 (.cons (i := 2) rfl (.nil)) ?_
  obtain rfl := Option.some.inj hF
  refine W.retV (fn := Try.f54) (vs := [.agg (encBad (Bad.mk r10.1 r10.2 0)).toArray]) Try.results54 ⟨.cellA Try.underlying66 rfl cells66 rfl (i := 4) rfl rfl, trivial⟩ (fun _ _ h => h) (fun wz hw => ?_)
  exact hR _ _ ⟨(), trivial, rfl, (hw.pickK 5 [0, 1, 2] rfl)⟩

def rows_log_twice_1 (N : Nat) (i1 : Int) (x2 : Call) (calls7 : (List Call)) (values10 : (List RowsValue)) : Option (Int × Int × Int) :=
  bd (rows_log_find N calls7 values10 x2.res) fun (r13 : Int) =>
  bd (ix values10 r13) fun (x14 : RowsValue) =>
  cond (!(decide (x14.deq = i1)))
    (bd (ix values10 r13) fun (x15 : RowsValue) =>
    some (2, i1, x15.deq))
    (some (0, 0, 0))

theorem rows_log_twice_1_ok {N : Nat} {i1 : Int} {x2 : Call} {calls7 : (List Call)} {values10 : (List RowsValue)} {b3 : Nat} {b4 : Nat} {A5 : Option Addr} {c6 : Nat} {A8 : Option Addr} {c9 : Nat} {res : (Int × Int × Int)} (hF : rows_log_twice_1 N i1 x2 calls7 values10 = some res) {w0 w : World} {T : List Chunk} (hw : St w0.heap.size w0 ([cBx b3 120 [.pointer (some ⟨b4, 0, none⟩)], cBx b4 163 (Value.slice A5 (calls7).length c6 :: (Value.slice A8 (values10).length c9 :: [])), cR encCall 7 A5 c6 129 calls7, cR encRowsValue 3 A8 c9 167 values10] ++ T) w) :
    Calls Try.prog 78 (List.toArray [.int .i64 i1, .agg (encCall x2).toArray, .pointer (some ⟨b3, 0, none⟩)]) w (fun e w' => ∃ g : Unit, (True) ∧ e = .returned (.agg (encBad (Bad.mk res.1 res.2.1 res.2.2)).toArray) ∧ St w0.heap.size w0 ([cBx b3 120 [.pointer (some ⟨b4, 0, none⟩)], cBx b4 163 (Value.slice A5 (calls7).length c6 :: (Value.slice A8 (values10).length c9 :: [])), cR encCall 7 A5 c6 129 calls7, cR encRowsValue 3 A8 c9 167 values10] ++ T) w') := by
  refine W.enter (n := 24) Try.func78 rfl rfl Sub.refl (by simp) hw fun R hR => ?_
  unfold rows_log_twice_1 at hF
  refine W.seqR fun Q1 hQ1 => ?_
  refine WL.step (WO.boxA (.pl rfl) rfl fun b11 => ?_)
  refine WL.step (WO.alloc (cs := (encBad (Bad.mk 0 0 0)).toArray) zero66 rfl rfl fun b12 => ?_)
  refine WL.next hQ1 (.cons (i := 0) rfl (.cons (i := 2) rfl (.cons (i := 4) rfl (.cons (i := 5) rfl (.nil))))) ?_
  refine W.seq fun K2 hK2 => ?_
  refine W.seqR fun Q3 hQ3 => ?_
  refine WL.q (Y.loadB (v := .pointer (some ⟨b4, 0, none⟩)) Try.underlying120 rfl (.pl rfl) (i := 2) rfl (rfl)) rfl ?_
  refine WL.q (Y.fieldAddr0 (off := 4) (ft := 3) Try.underlying129 rfl cells3 (.pl rfl)) rfl ?_
  refine WL.q (Y.loadB (v := .int .i64 x2.res) Try.underlying3 rfl (.pl rfl) (i := 1) rfl (rfl)) rfl ?_
  obtain ⟨r13, hr13, hF⟩ := bnd hF
  refine WL.step (WO.call (γ := Unit) (fun g => .pointer (oel A8 r13 3)) (fun g => ([cBx b4 163 (Value.slice A5 (calls7).length c6 :: (Value.slice A8 (values10).length c9 :: [])), cR encCall 7 A5 c6 129 calls7, cR encRowsValue 3 A8 c9 167 values10, cBx b12 66 (encBad (Bad.mk 0 0 0)), cBx b11 129 (encCall x2), cBx b3 120 [.pointer (some ⟨b4, 0, none⟩)]] ++ T)) (fun g => True) isGo73 (.cons (.pl rfl) (.cons (.pl rfl) (.nil))) rfl (fun wz hw => rows_log_find_ok (T := ([cBx b12 66 (encBad (Bad.mk 0 0 0)), cBx b11 129 (encCall x2), cBx b3 120 [.pointer (some ⟨b4, 0, none⟩)]] ++ T)) (hr13) (hw.pickK 6 [3, 4, 5, 0, 1, 2] rfl) ) ?_)
  rintro _ -
  refine WL.q (Y.assign (.pl rfl)) rfl ?_
  refine WL.next hQ3 (.cons (i := 0) rfl (.cons (i := 5) rfl (.cons (i := 6) rfl (.nil)))) ?_
  refine W.seqR fun Q4 hQ4 => ?_
  refine WL.q (Y.move (.pl rfl)) rfl ?_
  obtain ⟨x14, hx14, hF⟩ := bnd hF
  refine WL.q (Y.nilCheckO (ix_lt (hx14)).1 (.pl rfl)) rfl ?_
  refine WL.q (Y.rowField (off := 2) (ft := 3) Try.underlying167 rfl cells3 (i' := 2) rfl (ix_lt (hx14)) (.pl rfl)) rfl ?_
  refine WL.q (Y.loadR (enc := encRowsValue) (v := .int .i64 x14.deq) (a := x14) (idx := r13) (j := 2) Try.underlying3 rfl lenRowsValue (i := 2) rfl (.pl rfl) (ix_get (hx14)) rfl rfl) rfl ?_
  refine WL.q (Y.move (.pl rfl)) rfl ?_
  refine WL.q (Y.neq (.pl rfl) (.pl rfl)) rfl ?_
  refine WL.next hQ4 (.cons (i := 0) rfl (.cons (i := 5) rfl (.cons (i := 6) rfl (.cons (i := 16) rfl (.nil))))) ?_
  refine W.cond (.pl rfl) (fun hC5 => ?_) (fun hC5 => ?_)
  · replace hF := cpos hC5 hF
    refine W.seqR fun Q6 hQ6 => ?_
    refine WL.q (Y.move (.pl rfl)) rfl ?_
    refine WL.q (Y.move (.pl rfl)) rfl ?_
    obtain ⟨x15, hx15, hF⟩ := bnd hF
    refine WL.q (Y.nilCheckO (ix_lt (hx15)).1 (.pl rfl)) rfl ?_
    refine WL.q (Y.rowField (off := 2) (ft := 3) Try.underlying167 rfl cells3 (i' := 2) rfl (ix_lt (hx15)) (.pl rfl)) rfl ?_
    refine WL.q (Y.loadR (enc := encRowsValue) (v := .int .i64 x15.deq) (a := x15) (idx := r13) (j := 2) Try.underlying3 rfl lenRowsValue (i := 2) rfl (.pl rfl) (ix_get (hx15)) rfl rfl) rfl ?_
    refine WL.q (Y.build (cs := (encBad (Bad.mk 2 i1 x15.deq)).toArray) shape66 (.cons (.pl rfl) (.cons (.pl rfl) (.cons (.pl rfl) (.nil)))) (one_parts ⟨rfl, ⟨rfl, ⟨rfl, trivial⟩⟩⟩) rfl) rfl ?_
    refine WL.step (WO.storeBA (ds := (encBad (Bad.mk 2 i1 x15.deq))) (cs' := (encBad (Bad.mk 2 i1 x15.deq))) cells66 (.pl rfl) (.pl rfl) rfl (oneBad _) (i := 3) rfl (lel (o := 0) (l := 3) (m := 3) (by decide) rfl rfl) (putW rfl) ?_)
    refine WL.next hQ6 (.cons (i := 5) rfl (.nil)) ?_
    obtain rfl := Option.some.inj hF
    refine W.retV (fn := Try.f78) (vs := [.agg (encBad (Bad.mk 2 i1 x15.deq)).toArray]) Try.results78 ⟨.cellA Try.underlying66 rfl cells66 rfl (i := 3) rfl rfl, trivial⟩ (fun _ _ h => h) (fun wz hw => ?_)
    exact hR _ _ ⟨(), trivial, rfl, (hw.pickK 6 [5, 0, 1, 2] rfl)⟩
  · replace hF := cneg hC5 hF
    refine W.skip ?_
    refine W.go hK2 (.cons (i := 5) rfl (.nil)) ?_
    refine W.seqR fun Q7 hQ7 => ?_
    refine WL.q (Y.build (cs := (encBad (Bad.mk 0 0 0)).toArray) shape66 (.nil) (one_parts trivial) rfl) rfl ?_
    refine WL.step (WO.storeBA (ds := (encBad (Bad.mk 0 0 0))) (cs' := (encBad (Bad.mk 0 0 0))) cells66 (.pl rfl) (.pl rfl) rfl (oneBad _) (i := 3) rfl (lel (o := 0) (l := 3) (m := 3) (by decide) rfl rfl) (putW rfl) ?_)
    refine WL.next hQ7 (.cons (i := 5) rfl (.nil)) ?_
    obtain rfl := Option.some.inj hF
    refine W.retV (fn := Try.f78) (vs := [.agg (encBad (Bad.mk 0 0 0)).toArray]) Try.results78 ⟨.cellA Try.underlying66 rfl cells66 rfl (i := 3) rfl rfl, trivial⟩ (fun _ _ h => h) (fun wz hw => ?_)
    exact hR _ _ ⟨(), trivial, rfl, (hw.pickK 6 [5, 0, 1, 2] rfl)⟩

def rows_log_each_1_L3 (N : Nat) (calls4 : (List Call)) (values7 : (List RowsValue)) : Int → Option (Int ⊕ (Unit ⊕ (Int × Int × Int)))
  | v10 =>
    cond (decide (v10 < ((calls4).length : Int)))
      (bd (ix calls4 v10) fun (x11 : Call) =>
      cond ((decide (x11.kind = 4)) && (!(decide (x11.res = (-1)))))
        (bd (rows_log_twice_1 N v10 x11 calls4 values7) fun (r13 : (Int × Int × Int)) =>
        cond (!(decide (r13.1 = 0)))
          (some (.inr (.inr (r13.1, r13.2.1, r13.2.2))))
          (ck (ok64 (v10 + 1)) <|
          some (.inl (v10 + 1))))
        (ck (ok64 (v10 + 1)) <|
        some (.inl (v10 + 1))))
      (some (.inr (.inl ())))

def rows_log_each_1 (N : Nat) (calls4 : (List Call)) (values7 : (List RowsValue)) : Option (Int × Int × Int) :=
  bd (α := (Unit ⊕ (Int × Int × Int))) (iter (rows_log_each_1_L3 N calls4 values7) N 0) <|
  Sum.elim (fun _ => 
    some (0, 0, 0)) (fun p => some p)

theorem rows_log_each_1_ok {N : Nat} {calls4 : (List Call)} {values7 : (List RowsValue)} {b1 : Nat} {A2 : Option Addr} {c3 : Nat} {A5 : Option Addr} {c6 : Nat} {b8 : Nat} {res : (Int × Int × Int)} (hF : rows_log_each_1 N calls4 values7 = some res) {w0 w : World} {T : List Chunk} (hw : St w0.heap.size w0 ([cBx b1 163 (Value.slice A2 (calls4).length c3 :: (Value.slice A5 (values7).length c6 :: [])), cR encCall 7 A2 c3 129 calls4, cR encRowsValue 3 A5 c6 167 values7, cBx b8 120 [.pointer (some ⟨b1, 0, none⟩)]] ++ T) w) :
    Calls Try.prog 76 (List.toArray [.pointer (some ⟨b1, 0, none⟩), .func (.func 78) #[] #[.pointer (some ⟨b8, 0, none⟩)]]) w (fun e w' => ∃ g : Unit, (True) ∧ e = .returned (.agg (encBad (Bad.mk res.1 res.2.1 res.2.2)).toArray) ∧ St w0.heap.size w0 ([cBx b1 163 (Value.slice A2 (calls4).length c3 :: (Value.slice A5 (values7).length c6 :: [])), cR encCall 7 A2 c3 129 calls4, cR encRowsValue 3 A5 c6 167 values7, cBx b8 120 [.pointer (some ⟨b1, 0, none⟩)]] ++ T) w') := by
  refine W.enter (n := 36) Try.func76 rfl rfl Sub.refl (by simp) hw fun R hR => ?_
  unfold rows_log_each_1 at hF
  refine W.seqR fun Q1 hQ1 => ?_
  refine WL.step (WO.alloc (cs := (encBad (Bad.mk 0 0 0)).toArray) zero66 rfl rfl fun b9 => ?_)
  refine WL.next hQ1 (.cons (i := 0) rfl (.cons (i := 1) rfl (.cons (i := 4) rfl (.nil)))) ?_
  obtain ⟨o2, hF2, hF⟩ := bnd hF
  refine W.join0 (Em := []) (M := ([cBx b1 163 (Value.slice A2 (calls4).length c3 :: (Value.slice A5 (values7).length c6 :: [])), cR encCall 7 A2 c3 129 calls4, cR encRowsValue 3 A5 c6 167 values7, cBx b8 120 [.pointer (some ⟨b1, 0, none⟩)], cBx b9 66 (encBad (Bad.mk 0 0 0))] ++ T)) (I := (.inl ()) = o2) (.cons (i := 4) rfl (.nil)) (fun K3 hK3 => ?_) ?_
  · -- up to
    refine W.seqR fun Q4 hQ4 => ?_
    refine WL.q (Y.move (.pl rfl)) rfl ?_
    refine WL.q (Y.nilCheck (.pl rfl)) rfl ?_
    refine WL.q (Y.fieldAddr0 (off := 0) (ft := 35) Try.underlying163 rfl cells35 (.pl rfl)) rfl ?_
    refine WL.q (Y.loadB (v := .slice A2 (calls4).length c3) Try.underlying35 rfl (.pl rfl) (i := 1) rfl (rfl)) rfl ?_
    refine WL.q (Y.len Try.underlying35 (.pl rfl)) rfl ?_
    refine WL.q (Y.move (.pl rfl)) rfl ?_
    refine WL.next hQ4 (.cons (i := 1) rfl (.cons (i := 4) rfl (.cons (i := 11) rfl (.cons (i := 12) rfl (.cons (i := 13) rfl (.nil)))))) ?_
    refine W.block ?_
    refine W.loop1 (Em := fun (v10 : Int) => [(13, .int .i64 v10)]) (M := fun v10 => ([cBx b1 163 (Value.slice A2 (calls4).length c3 :: (Value.slice A5 (values7).length c6 :: [])), cR encCall 7 A2 c3 129 calls4, cR encRowsValue 3 A5 c6 167 values7, cBx b8 120 [.pointer (some ⟨b1, 0, none⟩)], cBx b9 66 (encBad (Bad.mk 0 0 0))] ++ T)) (I := fun v10 k5 => iter (rows_log_each_1_L3 N calls4 values7) k5 v10 = some o2) 0 N (hF2) (.cons rfl (.nil)) (.cons (i := 1) rfl (.cons (i := 4) rfl (.cons (i := 11) rfl (.cons (i := 12) rfl (.nil))))) (fun wz hw => hw.pickK 5 [1, 2, 3, 4, 0] rfl) (fun v10 k5 hI K6 hK6 => ?_)
    obtain ⟨k5, t5, rfl, hF5, hN5⟩ := iter_step hI
    refine W.seqR fun Q7 hQ7 => ?_
    refine WL.q (Y.lss (.pl rfl) (.pl rfl)) rfl ?_
    refine WL.next hQ7 (.cons (i := 1) rfl (.cons (i := 4) rfl (.cons (i := 11) rfl (.cons (i := 12) rfl (.cons (i := 13) rfl (.cons (i := 14) rfl (.nil))))))) ?_
    refine W.seq fun K8 hK8 => ?_
    refine W.cond (.pl rfl) (fun hC9 => ?_) (fun hC9 => ?_)
    · replace hF5 := cpos hC9 hF5
      refine W.skip ?_
      refine W.go hK8 (.cons (i := 1) rfl (.cons (i := 4) rfl (.cons (i := 11) rfl (.cons (i := 12) rfl (.cons (i := 13) rfl (.nil)))))) ?_
      refine W.seq fun K10 hK10 => ?_
      refine W.block ?_
      refine W.seqR fun Q11 hQ11 => ?_
      refine WL.q (Y.move (.pl rfl)) rfl ?_
      obtain ⟨x11, hx11, hF5⟩ := bnd hF5
      refine WL.q (Y.rowEl Try.underlying35 cells129 (i := 1) rfl (.pl rfl) rfl (.pl rfl) (ix_lt (hx11))) rfl ?_
      refine WL.q (Y.loadRA (enc := encCall) (ds := (encCall x11)) (a := x11) (idx := v10) (j := 0) Try.underlying129 rfl cells129 lenCall (i := 1) rfl (.pl rfl) (ix_get (hx11)) rfl rfl subW) rfl ?_
      refine WL.step (WO.alloc (cs := (encCall (Call.mk 0 0 0 0 0 0 0)).toArray) zero129 rfl rfl fun b12 => ?_)
      refine WL.q (Y.assign (.pl rfl)) rfl ?_
      refine WL.step (WO.storeBA (ds := (encCall x11)) (cs' := (encCall x11)) cells129 (.pl rfl) (.pl rfl) rfl (oneCall _) (i := 0) rfl (lel (o := 0) (l := 7) (m := 7) (by decide) rfl rfl) (putW rfl) ?_)
      refine WL.next hQ11 (.cons (i := 1) rfl (.cons (i := 4) rfl (.cons (i := 5) rfl (.cons (i := 6) rfl (.cons (i := 11) rfl (.cons (i := 12) rfl (.cons (i := 13) rfl (.nil)))))))) ?_
      refine W.seqR fun Q12 hQ12 => ?_
      refine WL.q (Y.fieldAddr0 (off := 2) (ft := 3) Try.underlying129 rfl cells3 (.pl rfl)) rfl ?_
      refine WL.q (Y.loadB (v := .int .i64 x11.kind) Try.underlying3 rfl (.pl rfl) (i := 0) rfl (rfl)) rfl ?_
      refine WL.q (Y.eql (.pl rfl) (.pl rfl)) rfl ?_
      refine WL.q (Y.move (.pl rfl)) rfl ?_
      refine WL.g (.pl rfl rfl rfl) (fun hg => Y.fieldAddr0 (off := 4) (ft := 3) Try.underlying129 rfl cells3 (.pl rfl)) rfl ?_
      refine WL.g (.pl rfl rfl rfl) (fun hg => Y.loadB (v := .int .i64 x11.res) Try.underlying3 rfl (.gd (hg) rfl) (i := 0) rfl (rfl)) rfl ?_
      refine WL.g (.pl rfl rfl rfl) (fun hg => Y.neq (.gd (hg) rfl) (.pl rfl)) rfl ?_
      refine WL.q (Y.and (.pl rfl) (fun h2 => .gd (eqt h2) rfl)) rfl ?_
      refine WL.next hQ12 (.cons (i := 1) rfl (.cons (i := 4) rfl (.cons (i := 5) rfl (.cons (i := 6) rfl (.cons (i := 11) rfl (.cons (i := 12) rfl (.cons (i := 13) rfl (.cons (i := 25) rfl (.nil))))))))) ?_
      refine W.cond (.pl rfl) (fun hC13 => ?_) (fun hC13 => ?_)
      · replace hF5 := cpos hC13 hF5
        refine W.seqR fun Q14 hQ14 => ?_
        refine WL.q (Y.move (.pl rfl)) rfl ?_
        refine WL.q (Y.move (.pl rfl)) rfl ?_
        refine WL.q (Y.loadBA (ds := (encCall x11)) Try.underlying129 rfl cells129 (.pl rfl) (i := 0) rfl rfl subW) rfl ?_
        obtain ⟨r13, hr13, hF5⟩ := bnd hF5
        refine WL.step (WO.callG (γ := Unit) (first := []) (cap := [.pointer (some ⟨b8, 0, none⟩)]) (fun g => .agg (encBad (Bad.mk r13.1 r13.2.1 r13.2.2)).toArray) (fun g => ([cBx b8 120 [.pointer (some ⟨b1, 0, none⟩)], cBx b1 163 (Value.slice A2 (calls4).length c3 :: (Value.slice A5 (values7).length c6 :: [])), cR encCall 7 A2 c3 129 calls4, cR encRowsValue 3 A5 c6 167 values7, cBx b12 129 (encCall x11), cBx b9 66 (encBad (Bad.mk 0 0 0))] ++ T)) (fun g => True) isGo78 (.pl rfl) (.cons (.pl rfl) (.cons (.pl rfl) (.nil))) rfl (fun wz hw => (by have h := rows_log_twice_1_ok (T := ([cBx b12 129 (encCall x11), cBx b9 66 (encBad (Bad.mk 0 0 0))] ++ T)) (b3 := b8) (b4 := b1) (A5 := A2) (c6 := c3) (A8 := A5) (c9 := c6) (hr13) (hw.pickK 6 [4, 1, 2, 3, 0, 5] rfl) ; unfold Calls at h ⊢; intro cs; obtain ⟨e, w2, fr, h1, h2⟩ := h cs; exact ⟨e, w2, fr, h1, h2⟩)) ?_)
        rintro _ -
        refine WL.step (WO.alloc (cs := (encBad (Bad.mk 0 0 0)).toArray) zero66 rfl rfl fun b14 => ?_)
        refine WL.step (WO.storeBA (ds := (encBad (Bad.mk r13.1 r13.2.1 r13.2.2))) (cs' := (encBad (Bad.mk r13.1 r13.2.1 r13.2.2))) cells66 (.pl rfl) (.pl rfl) rfl (oneBad _) (i := 0) rfl (lel (o := 0) (l := 3) (m := 3) (by decide) rfl rfl) (putW rfl) ?_)
        refine WL.next hQ14 (.cons (i := 1) rfl (.cons (i := 4) rfl (.cons (i := 7) rfl (.cons (i := 11) rfl (.cons (i := 12) rfl (.cons (i := 13) rfl (.nil))))))) ?_
        refine W.seqR fun Q15 hQ15 => ?_
        refine WL.q (Y.fieldAddr0 (off := 0) (ft := 3) Try.underlying66 rfl cells3 (.pl rfl)) rfl ?_
        refine WL.q (Y.loadB (v := .int .i64 r13.1) Try.underlying3 rfl (.pl rfl) (i := 0) rfl (rfl)) rfl ?_
        refine WL.q (Y.neq (.pl rfl) (.pl rfl)) rfl ?_
        refine WL.next hQ15 (.cons (i := 1) rfl (.cons (i := 4) rfl (.cons (i := 7) rfl (.cons (i := 11) rfl (.cons (i := 12) rfl (.cons (i := 13) rfl (.cons (i := 32) rfl (.nil)))))))) ?_
        refine W.cond (.pl rfl) (fun hC16 => ?_) (fun hC16 => ?_)
        · replace hF5 := cpos hC16 hF5
          refine W.seqR fun Q17 hQ17 => ?_
          refine WL.q (Y.loadBA (ds := (encBad (Bad.mk r13.1 r13.2.1 r13.2.2))) Try.underlying66 rfl cells66 (.pl rfl) (i := 0) rfl rfl subW) rfl ?_
          refine WL.step (WO.storeBA (ds := (encBad (Bad.mk r13.1 r13.2.1 r13.2.2))) (cs' := (encBad (Bad.mk r13.1 r13.2.1 r13.2.2))) cells66 (.pl rfl) (.pl rfl) rfl (oneBad _) (i := 6) rfl (lel (o := 0) (l := 3) (m := 3) (by decide) rfl rfl) (putW rfl) ?_)
          refine WL.next hQ17 (.cons (i := 4) rfl (.nil)) ?_
          obtain rfl := Option.some.inj hF5
          obtain rfl := einr hN5
          obtain rfl := Option.some.inj hF
          refine W.retV (fn := Try.f76) (vs := [.agg (encBad (Bad.mk r13.1 r13.2.1 r13.2.2)).toArray]) Try.results76 ⟨.cellA Try.underlying66 rfl cells66 rfl (i := 6) rfl rfl, trivial⟩ (fun _ _ h => h) (fun wz hw => ?_)
          exact hR _ _ ⟨(), trivial, rfl, (hw.pickK 7 [2, 3, 4, 1] rfl)⟩
        · replace hF5 := cneg hC16 hF5
          refine W.skip ?_
          refine W.go hK10 (.cons (i := 1) rfl (.cons (i := 4) rfl (.cons (i := 11) rfl (.cons (i := 12) rfl (.cons (i := 13) rfl (.nil)))))) ?_
          refine W.reg ?_
          obtain ⟨hk15, hF5⟩ := ckh hF5
          refine WL.q (Y.add (.pl rfl) (.pl rfl) (ok64_lt (hk15))) rfl ?_
          refine WL.q (Y.move (.pl rfl)) rfl ?_
          refine WL.nil ?_
          obtain rfl := Option.some.inj hF5
          exact W.again1 hK6 (v10 + 1) k5 hN5 (Nat.lt_succ_self _) (.cons rfl (.nil)) (.cons (i := 1) rfl (.cons (i := 4) rfl (.cons (i := 11) rfl (.cons (i := 12) rfl (.nil))))) (fun wz hw => hw.pickK 7 [2, 3, 4, 1, 6] rfl)
      · replace hF5 := cneg hC13 hF5
        refine W.skip ?_
        refine W.go hK10 (.cons (i := 1) rfl (.cons (i := 4) rfl (.cons (i := 11) rfl (.cons (i := 12) rfl (.cons (i := 13) rfl (.nil)))))) ?_
        refine W.reg ?_
        obtain ⟨hk16, hF5⟩ := ckh hF5
        refine WL.q (Y.add (.pl rfl) (.pl rfl) (ok64_lt (hk16))) rfl ?_
        refine WL.q (Y.move (.pl rfl)) rfl ?_
        refine WL.nil ?_
        obtain rfl := Option.some.inj hF5
        exact W.again1 hK6 (v10 + 1) k5 hN5 (Nat.lt_succ_self _) (.cons rfl (.nil)) (.cons (i := 1) rfl (.cons (i := 4) rfl (.cons (i := 11) rfl (.cons (i := 12) rfl (.nil))))) (fun wz hw => hw.pickK 6 [1, 2, 3, 4, 5] rfl)
    · replace hF5 := cneg hC9 hF5
      refine W.exit ?_
      obtain rfl := Option.some.inj hF5
      exact W.joinAt0 hK3  (einr hN5) (.nil) (.cons (i := 4) rfl (.nil)) (fun wz hw => hw.pickK 5 [0, 1, 2, 3, 4] rfl)
  · -- behind
    rintro  rfl
    refine W.seqR fun Q20 hQ20 => ?_
    refine WL.q (Y.build (cs := (encBad (Bad.mk 0 0 0)).toArray) shape66 (.nil) (one_parts trivial) rfl) rfl ?_
    refine WL.step (WO.storeBA (ds := (encBad (Bad.mk 0 0 0))) (cs' := (encBad (Bad.mk 0 0 0))) cells66 (.pl rfl) (.pl rfl) rfl (oneBad _) (i := 4) rfl (lel (o := 0) (l := 3) (m := 3) (by decide) rfl rfl) (putW rfl) ?_)
    refine WL.next hQ20 (.cons (i := 4) rfl (.nil)) ?_
    obtain rfl := Option.some.inj hF
    refine W.retV (fn := Try.f76) (vs := [.agg (encBad (Bad.mk 0 0 0)).toArray]) Try.results76 ⟨.cellA Try.underlying66 rfl cells66 rfl (i := 4) rfl rfl, trivial⟩ (fun _ _ h => h) (fun wz hw => ?_)
    exact hR _ _ ⟨(), trivial, rfl, (hw.pickK 5 [0, 1, 2, 3] rfl)⟩

def rows_log_twice (N : Nat) (calls4 : (List Call)) (values7 : (List RowsValue)) : Option (Int × Int × Int) :=
  bd (rows_log_each_1 N calls4 values7) fun (r10 : (Int × Int × Int)) =>
  some (r10.1, r10.2.1, r10.2.2)

theorem rows_log_twice_ok {N : Nat} {calls4 : (List Call)} {values7 : (List RowsValue)} {b1 : Nat} {A2 : Option Addr} {c3 : Nat} {A5 : Option Addr} {c6 : Nat} {res : (Int × Int × Int)} (hF : rows_log_twice N calls4 values7 = some res) {w0 w : World} {T : List Chunk} (hw : St w0.heap.size w0 ([cBx b1 163 (Value.slice A2 (calls4).length c3 :: (Value.slice A5 (values7).length c6 :: [])), cR encCall 7 A2 c3 129 calls4, cR encRowsValue 3 A5 c6 167 values7] ++ T) w) :
    Calls Try.prog 55 (List.toArray [.pointer (some ⟨b1, 0, none⟩)]) w (fun e w' => ∃ g : Unit, (True) ∧ e = .returned (.agg (encBad (Bad.mk res.1 res.2.1 res.2.2)).toArray) ∧ St w0.heap.size w0 ([cBx b1 163 (Value.slice A2 (calls4).length c3 :: (Value.slice A5 (values7).length c6 :: [])), cR encCall 7 A2 c3 129 calls4, cR encRowsValue 3 A5 c6 167 values7] ++ T) w') := by
  refine W.enter (n := 6) Try.func55 rfl rfl Sub.refl (by simp) hw fun R hR => ?_
  unfold rows_log_twice at hF
  refine W.seqR fun Q1 hQ1 => ?_
  refine WL.step (WO.box1 (.pl rfl) rfl rfl fun b8 => ?_)
  refine WL.step (WO.alloc (cs := (encBad (Bad.mk 0 0 0)).toArray) zero66 rfl rfl fun b9 => ?_)
  refine WL.next hQ1 (.cons (i := 1) rfl (.cons (i := 2) rfl (.nil))) ?_
  refine W.seqR fun Q2 hQ2 => ?_
  refine WL.q (Y.loadB (v := .pointer (some ⟨b1, 0, none⟩)) Try.underlying120 rfl (.pl rfl) (i := 1) rfl (rfl)) rfl ?_
  refine WL.q (Y.fnC (.cons (.pl rfl) (.nil))) rfl ?_
  obtain ⟨r10, hr10, hF⟩ := bnd hF
  refine WL.step (WO.call (γ := Unit) (fun g => .agg (encBad (Bad.mk r10.1 r10.2.1 r10.2.2)).toArray) (fun g => ([cBx b1 163 (Value.slice A2 (calls4).length c3 :: (Value.slice A5 (values7).length c6 :: [])), cR encCall 7 A2 c3 129 calls4, cR encRowsValue 3 A5 c6 167 values7, cBx b8 120 [.pointer (some ⟨b1, 0, none⟩)], cBx b9 66 (encBad (Bad.mk 0 0 0))] ++ T)) (fun g => True) isGo76 (.cons (.pl rfl) (.cons (.pl rfl) (.nil))) rfl (fun wz hw => rows_log_each_1_ok (T := ([cBx b9 66 (encBad (Bad.mk 0 0 0))] ++ T)) (hr10) (hw.pickK 5 [2, 3, 4, 1, 0] rfl) ) ?_)
  rintro _ -
  refine WL.step (WO.storeBA (ds := (encBad (Bad.mk r10.1 r10.2.1 r10.2.2))) (cs' := (encBad (Bad.mk r10.1 r10.2.1 r10.2.2))) cells66 (.pl rfl) (.pl rfl) rfl (oneBad _) (i := 4) rfl (lel (o := 0) (l := 3) (m := 3) (by decide) rfl rfl) (putW rfl) ?_)
  refine WL.next hQ2 (.cons (i := 2) rfl (.nil)) ?_
  obtain rfl := Option.some.inj hF
  refine W.retV (fn := Try.f55) (vs := [.agg (encBad (Bad.mk r10.1 r10.2.1 r10.2.2)).toArray]) Try.results55 ⟨.cellA Try.underlying66 rfl cells66 rfl (i := 4) rfl rfl, trivial⟩ (fun _ _ h => h) (fun wz hw => ?_)
  exact hR _ _ ⟨(), trivial, rfl, (hw.pickK 5 [0, 1, 2] rfl)⟩

def rows_log_early_1 (N : Nat) (i1 : Int) (x2 : Call) (calls7 : (List Call)) (values10 : (List RowsValue)) : Option (Int × Int × Int) :=
  bd (rows_log_find N calls7 values10 x2.res) fun (r13 : Int) =>
  bd (ix values10 r13) fun (x14 : RowsValue) =>
  bd (ix calls7 x14.enq) fun (x15 : Call) =>
  cond (decide (x2.to_ < x15.from_))
    (bd (ix values10 r13) fun (x16 : RowsValue) =>
    some (3, i1, x16.enq))
    (some (0, 0, 0))

theorem rows_log_early_1_ok {N : Nat} {i1 : Int} {x2 : Call} {calls7 : (List Call)} {values10 : (List RowsValue)} {b3 : Nat} {b4 : Nat} {A5 : Option Addr} {c6 : Nat} {A8 : Option Addr} {c9 : Nat} {res : (Int × Int × Int)} (hF : rows_log_early_1 N i1 x2 calls7 values10 = some res) {w0 w : World} {T : List Chunk} (hw : St w0.heap.size w0 ([cBx b3 120 [.pointer (some ⟨b4, 0, none⟩)], cBx b4 163 (Value.slice A5 (calls7).length c6 :: (Value.slice A8 (values10).length c9 :: [])), cR encCall 7 A5 c6 129 calls7, cR encRowsValue 3 A8 c9 167 values10] ++ T) w) :
    Calls Try.prog 79 (List.toArray [.int .i64 i1, .agg (encCall x2).toArray, .pointer (some ⟨b3, 0, none⟩)]) w (fun e w' => ∃ g : Unit, (True) ∧ e = .returned (.agg (encBad (Bad.mk res.1 res.2.1 res.2.2)).toArray) ∧ St w0.heap.size w0 ([cBx b3 120 [.pointer (some ⟨b4, 0, none⟩)], cBx b4 163 (Value.slice A5 (calls7).length c6 :: (Value.slice A8 (values10).length c9 :: [])), cR encCall 7 A5 c6 129 calls7, cR encRowsValue 3 A8 c9 167 values10] ++ T) w') := by
  refine W.enter (n := 32) Try.func79 rfl rfl Sub.refl (by simp) hw fun R hR => ?_
  unfold rows_log_early_1 at hF
  refine W.seqR fun Q1 hQ1 => ?_
  refine WL.step (WO.boxA (.pl rfl) rfl fun b11 => ?_)
  refine WL.step (WO.alloc (cs := (encBad (Bad.mk 0 0 0)).toArray) zero66 rfl rfl fun b12 => ?_)
  refine WL.next hQ1 (.cons (i := 0) rfl (.cons (i := 2) rfl (.cons (i := 4) rfl (.cons (i := 5) rfl (.nil))))) ?_
  refine W.seq fun K2 hK2 => ?_
  refine W.seqR fun Q3 hQ3 => ?_
  refine WL.q (Y.loadB (v := .pointer (some ⟨b4, 0, none⟩)) Try.underlying120 rfl (.pl rfl) (i := 2) rfl (rfl)) rfl ?_
  refine WL.q (Y.fieldAddr0 (off := 4) (ft := 3) Try.underlying129 rfl cells3 (.pl rfl)) rfl ?_
  refine WL.q (Y.loadB (v := .int .i64 x2.res) Try.underlying3 rfl (.pl rfl) (i := 1) rfl (rfl)) rfl ?_
  obtain ⟨r13, hr13, hF⟩ := bnd hF
  refine WL.step (WO.call (γ := Unit) (fun g => .pointer (oel A8 r13 3)) (fun g => ([cBx b4 163 (Value.slice A5 (calls7).length c6 :: (Value.slice A8 (values10).length c9 :: [])), cR encCall 7 A5 c6 129 calls7, cR encRowsValue 3 A8 c9 167 values10, cBx b12 66 (encBad (Bad.mk 0 0 0)), cBx b11 129 (encCall x2), cBx b3 120 [.pointer (some ⟨b4, 0, none⟩)]] ++ T)) (fun g => True) isGo73 (.cons (.pl rfl) (.cons (.pl rfl) (.nil))) rfl (fun wz hw => rows_log_find_ok (T := ([cBx b12 66 (encBad (Bad.mk 0 0 0)), cBx b11 129 (encCall x2), cBx b3 120 [.pointer (some ⟨b4, 0, none⟩)]] ++ T)) (hr13) (hw.pickK 6 [3, 4, 5, 0, 1, 2] rfl) ) ?_)
  rintro _ -
  refine WL.q (Y.assign (.pl rfl)) rfl ?_
  refine WL.next hQ3 (.cons (i := 0) rfl (.cons (i := 2) rfl (.cons (i := 4) rfl (.cons (i := 5) rfl (.cons (i := 6) rfl (.nil)))))) ?_
  refine W.seqD (by kernel_rfl) (by kernel_rfl) fun R4 hR4 => ?_
  refine WD.q (Y.fieldAddr0 (off := 6) (ft := 3) Try.underlying129 rfl cells3 (.pl rfl)) rfl ?_
  refine WD.q (Y.loadB (v := .int .i64 x2.to_) Try.underlying3 rfl (.pl rfl) (i := 4) rfl (rfl)) rfl ?_
  refine WD.q (Y.loadB (v := .pointer (some ⟨b4, 0, none⟩)) Try.underlying120 rfl (.pl rfl) (i := 5) rfl (rfl)) rfl ?_
  refine WD.q (Y.nilCheck (.pl rfl)) rfl ?_
  refine WD.q (Y.fieldAddr0 (off := 0) (ft := 35) Try.underlying163 rfl cells35 (.pl rfl)) rfl ?_
  refine WD.q (Y.loadB (v := .slice A5 (calls7).length c6) Try.underlying35 rfl (.pl rfl) (i := 0) rfl (rfl)) rfl ?_
  refine WD.q (Y.move (.pl rfl)) rfl ?_
  obtain ⟨x14, hx14, hF⟩ := bnd hF
  refine WD.q (Y.nilCheckO (ix_lt (hx14)).1 (.pl rfl)) rfl ?_
  refine WD.q (Y.rowField (off := 1) (ft := 3) Try.underlying167 rfl cells3 (i' := 2) rfl (ix_lt (hx14)) (.pl rfl)) rfl ?_
  refine WD.q (Y.loadR (enc := encRowsValue) (v := .int .i64 x14.enq) (a := x14) (idx := r13) (j := 1) Try.underlying3 rfl lenRowsValue (i := 2) rfl (.pl rfl) (ix_get (hx14)) rfl rfl) rfl ?_
  obtain ⟨x15, hx15, hF⟩ := bnd hF
  refine WD.q (Y.rowEl Try.underlying35 cells129 (i := 1) rfl (.pl rfl) rfl (.pl rfl) (ix_lt (hx15))) rfl ?_
  refine WD.q (Y.rowField (off := 5) (ft := 3) Try.underlying129 rfl cells3 (i' := 1) rfl (ix_lt (hx15)) (.pl rfl)) rfl ?_
  refine WD.q (Y.loadR (enc := encCall) (v := .int .i64 x15.from_) (a := x15) (idx := x14.enq) (j := 5) Try.underlying3 rfl lenCall (i := 1) rfl (.pl rfl) (ix_get (hx15)) rfl rfl) rfl ?_
  refine WD.q (Y.lss (.pl rfl) (.pl rfl)) rfl ?_
  refine WD.next hR4 (.cons (i := 0) rfl (.cons (i := 5) rfl (.cons (i := 6) rfl (.cons (i := 24) rfl (.nil))))) ?_
  refine W.cond (.pl rfl) (fun hC5 => ?_) (fun hC5 => ?_)
  · replace hF := cpos hC5 hF
    refine W.seqR fun Q6 hQ6 => ?_
    refine WL.q (Y.move (.pl rfl)) rfl ?_
    refine WL.q (Y.move (.pl rfl)) rfl ?_
    obtain ⟨x16, hx16, hF⟩ := bnd hF
    refine WL.q (Y.nilCheckO (ix_lt (hx16)).1 (.pl rfl)) rfl ?_
    refine WL.q (Y.rowField (off := 1) (ft := 3) Try.underlying167 rfl cells3 (i' := 2) rfl (ix_lt (hx16)) (.pl rfl)) rfl ?_
    refine WL.q (Y.loadR (enc := encRowsValue) (v := .int .i64 x16.enq) (a := x16) (idx := r13) (j := 1) Try.underlying3 rfl lenRowsValue (i := 2) rfl (.pl rfl) (ix_get (hx16)) rfl rfl) rfl ?_
    refine WL.q (Y.build (cs := (encBad (Bad.mk 3 i1 x16.enq)).toArray) shape66 (.cons (.pl rfl) (.cons (.pl rfl) (.cons (.pl rfl) (.nil)))) (one_parts ⟨rfl, ⟨rfl, ⟨rfl, trivial⟩⟩⟩) rfl) rfl ?_
    refine WL.step (WO.storeBA (ds := (encBad (Bad.mk 3 i1 x16.enq))) (cs' := (encBad (Bad.mk 3 i1 x16.enq))) cells66 (.pl rfl) (.pl rfl) rfl (oneBad _) (i := 3) rfl (lel (o := 0) (l := 3) (m := 3) (by decide) rfl rfl) (putW rfl) ?_)
    refine WL.next hQ6 (.cons (i := 5) rfl (.nil)) ?_
    obtain rfl := Option.some.inj hF
    refine W.retV (fn := Try.f79) (vs := [.agg (encBad (Bad.mk 3 i1 x16.enq)).toArray]) Try.results79 ⟨.cellA Try.underlying66 rfl cells66 rfl (i := 3) rfl rfl, trivial⟩ (fun _ _ h => h) (fun wz hw => ?_)
    exact hR _ _ ⟨(), trivial, rfl, (hw.pickK 6 [5, 0, 1, 2] rfl)⟩
  · replace hF := cneg hC5 hF
    refine W.skip ?_
    refine W.go hK2 (.cons (i := 5) rfl (.nil)) ?_
    refine W.seqR fun Q7 hQ7 => ?_
    refine WL.q (Y.build (cs := (encBad (Bad.mk 0 0 0)).toArray) shape66 (.nil) (one_parts trivial) rfl) rfl ?_
    refine WL.step (WO.storeBA (ds := (encBad (Bad.mk 0 0 0))) (cs' := (encBad (Bad.mk 0 0 0))) cells66 (.pl rfl) (.pl rfl) rfl (oneBad _) (i := 3) rfl (lel (o := 0) (l := 3) (m := 3) (by decide) rfl rfl) (putW rfl) ?_)
    refine WL.next hQ7 (.cons (i := 5) rfl (.nil)) ?_
    obtain rfl := Option.some.inj hF
    refine W.retV (fn := Try.f79) (vs := [.agg (encBad (Bad.mk 0 0 0)).toArray]) Try.results79 ⟨.cellA Try.underlying66 rfl cells66 rfl (i := 3) rfl rfl, trivial⟩ (fun _ _ h => h) (fun wz hw => ?_)
    exact hR _ _ ⟨(), trivial, rfl, (hw.pickK 6 [5, 0, 1, 2] rfl)⟩

def rows_log_each_2_L3 (N : Nat) (calls4 : (List Call)) (values7 : (List RowsValue)) : Int → Option (Int ⊕ (Unit ⊕ (Int × Int × Int)))
  | v10 =>
    cond (decide (v10 < ((calls4).length : Int)))
      (bd (ix calls4 v10) fun (x11 : Call) =>
      cond ((decide (x11.kind = 4)) && (!(decide (x11.res = (-1)))))
        (bd (rows_log_early_1 N v10 x11 calls4 values7) fun (r13 : (Int × Int × Int)) =>
        cond (!(decide (r13.1 = 0)))
          (some (.inr (.inr (r13.1, r13.2.1, r13.2.2))))
          (ck (ok64 (v10 + 1)) <|
          some (.inl (v10 + 1))))
        (ck (ok64 (v10 + 1)) <|
        some (.inl (v10 + 1))))
      (some (.inr (.inl ())))

def rows_log_each_2 (N : Nat) (calls4 : (List Call)) (values7 : (List RowsValue)) : Option (Int × Int × Int) :=
  bd (α := (Unit ⊕ (Int × Int × Int))) (iter (rows_log_each_2_L3 N calls4 values7) N 0) <|
  Sum.elim (fun _ => 
    some (0, 0, 0)) (fun p => some p)

theorem rows_log_each_2_ok {N : Nat} {calls4 : (List Call)} {values7 : (List RowsValue)} {b1 : Nat} {A2 : Option Addr} {c3 : Nat} {A5 : Option Addr} {c6 : Nat} {b8 : Nat} {res : (Int × Int × Int)} (hF : rows_log_each_2 N calls4 values7 = some res) {w0 w : World} {T : List Chunk} (hw : St w0.heap.size w0 ([cBx b1 163 (Value.slice A2 (calls4).length c3 :: (Value.slice A5 (values7).length c6 :: [])), cR encCall 7 A2 c3 129 calls4, cR encRowsValue 3 A5 c6 167 values7, cBx b8 120 [.pointer (some ⟨b1, 0, none⟩)]] ++ T) w) :
    Calls Try.prog 76 (List.toArray [.pointer (some ⟨b1, 0, none⟩), .func (.func 79) #[] #[.pointer (some ⟨b8, 0, none⟩)]]) w (fun e w' => ∃ g : Unit, (True) ∧ e = .returned (.agg (encBad (Bad.mk res.1 res.2.1 res.2.2)).toArray) ∧ St w0.heap.size w0 ([cBx b1 163 (Value.slice A2 (calls4).length c3 :: (Value.slice A5 (values7).length c6 :: [])), cR encCall 7 A2 c3 129 calls4, cR encRowsValue 3 A5 c6 167 values7, cBx b8 120 [.pointer (some ⟨b1, 0, none⟩)]] ++ T) w') := by
  refine W.enter (n := 36) Try.func76 rfl rfl Sub.refl (by simp) hw fun R hR => ?_
  unfold rows_log_each_2 at hF
  refine W.seqR fun Q1 hQ1 => ?_
  refine WL.step (WO.alloc (cs := (encBad (Bad.mk 0 0 0)).toArray) zero66 rfl rfl fun b9 => ?_)
  refine WL.next hQ1 (.cons (i := 0) rfl (.cons (i := 1) rfl (.cons (i := 4) rfl (.nil)))) ?_
  obtain ⟨o2, hF2, hF⟩ := bnd hF
  refine W.join0 (Em := []) (M := ([cBx b1 163 (Value.slice A2 (calls4).length c3 :: (Value.slice A5 (values7).length c6 :: [])), cR encCall 7 A2 c3 129 calls4, cR encRowsValue 3 A5 c6 167 values7, cBx b8 120 [.pointer (some ⟨b1, 0, none⟩)], cBx b9 66 (encBad (Bad.mk 0 0 0))] ++ T)) (I := (.inl ()) = o2) (.cons (i := 4) rfl (.nil)) (fun K3 hK3 => ?_) ?_
  · -- up to
    refine W.seqR fun Q4 hQ4 => ?_
    refine WL.q (Y.move (.pl rfl)) rfl ?_
    refine WL.q (Y.nilCheck (.pl rfl)) rfl ?_
    refine WL.q (Y.fieldAddr0 (off := 0) (ft := 35) Try.underlying163 rfl cells35 (.pl rfl)) rfl ?_
    refine WL.q (Y.loadB (v := .slice A2 (calls4).length c3) Try.underlying35 rfl (.pl rfl) (i := 1) rfl (rfl)) rfl ?_
    refine WL.q (Y.len Try.underlying35 (.pl rfl)) rfl ?_
    refine WL.q (Y.move (.pl rfl)) rfl ?_
    refine WL.next hQ4 (.cons (i := 1) rfl (.cons (i := 4) rfl (.cons (i := 11) rfl (.cons (i := 12) rfl (.cons (i := 13) rfl (.nil)))))) ?_
    refine W.block ?_
    refine W.loop1 (Em := fun (v10 : Int) => [(13, .int .i64 v10)]) (M := fun v10 => ([cBx b1 163 (Value.slice A2 (calls4).length c3 :: (Value.slice A5 (values7).length c6 :: [])), cR encCall 7 A2 c3 129 calls4, cR encRowsValue 3 A5 c6 167 values7, cBx b8 120 [.pointer (some ⟨b1, 0, none⟩)], cBx b9 66 (encBad (Bad.mk 0 0 0))] ++ T)) (I := fun v10 k5 => iter (rows_log_each_2_L3 N calls4 values7) k5 v10 = some o2) 0 N (hF2) (.cons rfl (.nil)) (.cons (i := 1) rfl (.cons (i := 4) rfl (.cons (i := 11) rfl (.cons (i := 12) rfl (.nil))))) (fun wz hw => hw.pickK 5 [1, 2, 3, 4, 0] rfl) (fun v10 k5 hI K6 hK6 => ?_)
    obtain ⟨k5, t5, rfl, hF5, hN5⟩ := iter_step hI
    refine W.seqR fun Q7 hQ7 => ?_
    refine WL.q (Y.lss (.pl rfl) (.pl rfl)) rfl ?_
    refine WL.next hQ7 (.cons (i := 1) rfl (.cons (i := 4) rfl (.cons (i := 11) rfl (.cons (i := 12) rfl (.cons (i := 13) rfl (.cons (i := 14) rfl (.nil))))))) ?_
    refine W.seq fun K8 hK8 => ?_
    refine W.cond (.pl rfl) (fun hC9 => ?_) (fun hC9 => ?_)
    · replace hF5 := cpos hC9 hF5
      refine W.skip ?_
      refine W.go hK8 (.cons (i := 1) rfl (.cons (i := 4) rfl (.cons (i := 11) rfl (.cons (i := 12) rfl (.cons (i := 13) rfl (.nil)))))) ?_
      refine W.seq fun K10 hK10 => ?_
      refine W.block ?_
      refine W.seqR fun Q11 hQ11 => ?_
      refine WL.q (Y.move (.pl rfl)) rfl ?_
      obtain ⟨x11, hx11, hF5⟩ := bnd hF5
      refine WL.q (Y.rowEl Try.underlying35 cells129 (i := 1) rfl (.pl rfl) rfl (.pl rfl) (ix_lt (hx11))) rfl ?_
      refine WL.q (Y.loadRA (enc := encCall) (ds := (encCall x11)) (a := x11) (idx := v10) (j := 0) Try.underlying129 rfl cells129 lenCall (i := 1) rfl (.pl rfl) (ix_get (hx11)) rfl rfl subW) rfl ?_
      refine WL.step (WO.alloc (cs := (encCall (Call.mk 0 0 0 0 0 0 0)).toArray) zero129 rfl rfl fun b12 => ?_)
      refine WL.q (Y.assign (.pl rfl)) rfl ?_
      refine WL.step (WO.storeBA (ds := (encCall x11)) (cs' := (encCall x11)) cells129 (.pl rfl) (.pl rfl) rfl (oneCall _) (i := 0) rfl (lel (o := 0) (l := 7) (m := 7) (by decide) rfl rfl) (putW rfl) ?_)
      refine WL.next hQ11 (.cons (i := 1) rfl (.cons (i := 4) rfl (.cons (i := 5) rfl (.cons (i := 6) rfl (.cons (i := 11) rfl (.cons (i := 12) rfl (.cons (i := 13) rfl (.nil)))))))) ?_
      refine W.seqR fun Q12 hQ12 => ?_
      refine WL.q (Y.fieldAddr0 (off := 2) (ft := 3) Try.underlying129 rfl cells3 (.pl rfl)) rfl ?_
      refine WL.q (Y.loadB (v := .int .i64 x11.kind) Try.underlying3 rfl (.pl rfl) (i := 0) rfl (rfl)) rfl ?_
      refine WL.q (Y.eql (.pl rfl) (.pl rfl)) rfl ?_
      refine WL.q (Y.move (.pl rfl)) rfl ?_
      refine WL.g (.pl rfl rfl rfl) (fun hg => Y.fieldAddr0 (off := 4) (ft := 3) Try.underlying129 rfl cells3 (.pl rfl)) rfl ?_
      refine WL.g (.pl rfl rfl rfl) (fun hg => Y.loadB (v := .int .i64 x11.res) Try.underlying3 rfl (.gd (hg) rfl) (i := 0) rfl (rfl)) rfl ?_
      refine WL.g (.pl rfl rfl rfl) (fun hg => Y.neq (.gd (hg) rfl) (.pl rfl)) rfl ?_
      refine WL.q (Y.and (.pl rfl) (fun h2 => .gd (eqt h2) rfl)) rfl ?_
      refine WL.next hQ12 (.cons (i := 1) rfl (.cons (i := 4) rfl (.cons (i := 5) rfl (.cons (i := 6) rfl (.cons (i := 11) rfl (.cons (i := 12) rfl (.cons (i := 13) rfl (.cons (i := 25) rfl (.nil))))))))) ?_
      refine W.cond (.pl rfl) (fun hC13 => ?_) (fun hC13 => ?_)
      · replace hF5 := cpos hC13 hF5
        refine W.seqR fun Q14 hQ14 => ?_
        refine WL.q (Y.move (.pl rfl)) rfl ?_
        refine WL.q (Y.move (.pl rfl)) rfl ?_
        refine WL.q (Y.loadBA (ds := (encCall x11)) Try.underlying129 rfl cells129 (.pl rfl) (i := 0) rfl rfl subW) rfl ?_
        obtain ⟨r13, hr13, hF5⟩ := bnd hF5
        refine WL.step (WO.callG (γ := Unit) (first := []) (cap := [.pointer (some ⟨b8, 0, none⟩)]) (fun g => .agg (encBad (Bad.mk r13.1 r13.2.1 r13.2.2)).toArray) (fun g => ([cBx b8 120 [.pointer (some ⟨b1, 0, none⟩)], cBx b1 163 (Value.slice A2 (calls4).length c3 :: (Value.slice A5 (values7).length c6 :: [])), cR encCall 7 A2 c3 129 calls4, cR encRowsValue 3 A5 c6 167 values7, cBx b12 129 (encCall x11), cBx b9 66 (encBad (Bad.mk 0 0 0))] ++ T)) (fun g => True) isGo79 (.pl rfl) (.cons (.pl rfl) (.cons (.pl rfl) (.nil))) rfl (fun wz hw => (by have h := rows_log_early_1_ok (T := ([cBx b12 129 (encCall x11), cBx b9 66 (encBad (Bad.mk 0 0 0))] ++ T)) (b3 := b8) (b4 := b1) (A5 := A2) (c6 := c3) (A8 := A5) (c9 := c6) (hr13) (hw.pickK 6 [4, 1, 2, 3, 0, 5] rfl) ; unfold Calls at h ⊢; intro cs; obtain ⟨e, w2, fr, h1, h2⟩ := h cs; exact ⟨e, w2, fr, h1, h2⟩)) ?_)
        rintro _ -
        refine WL.step (WO.alloc (cs := (encBad (Bad.mk 0 0 0)).toArray) zero66 rfl rfl fun b14 => ?_)
        refine WL.step (WO.storeBA (ds := (encBad (Bad.mk r13.1 r13.2.1 r13.2.2))) (cs' := (encBad (Bad.mk r13.1 r13.2.1 r13.2.2))) cells66 (.pl rfl) (.pl rfl) rfl (oneBad _) (i := 0) rfl (lel (o := 0) (l := 3) (m := 3) (by decide) rfl rfl) (putW rfl) ?_)
        refine WL.next hQ14 (.cons (i := 1) rfl (.cons (i := 4) rfl (.cons (i := 7) rfl (.cons (i := 11) rfl (.cons (i := 12) rfl (.cons (i := 13) rfl (.nil))))))) ?_
        refine W.seqR fun Q15 hQ15 => ?_
        refine WL.q (Y.fieldAddr0 (off := 0) (ft := 3) Try.underlying66 rfl cells3 (.pl rfl)) rfl ?_
        refine WL.q (Y.loadB (v := .int .i64 r13.1) Try.underlying3 rfl (.pl rfl) (i := 0) rfl (rfl)) rfl ?_
        refine WL.q (Y.neq (.pl rfl) (.pl rfl)) rfl ?_
        refine WL.next hQ15 (.cons (i := 1) rfl (.cons (i := 4) rfl (.cons (i := 7) rfl (.cons (i := 11) rfl (.cons (i := 12) rfl (.cons (i := 13) rfl (.cons (i := 32) rfl (.nil)))))))) ?_
        refine W.cond (.pl rfl) (fun hC16 => ?_) (fun hC16 => ?_)
        · replace hF5 := cpos hC16 hF5
          refine W.seqR fun Q17 hQ17 => ?_
          refine WL.q (Y.loadBA (ds := (encBad (Bad.mk r13.1 r13.2.1 r13.2.2))) Try.underlying66 rfl cells66 (.pl rfl) (i := 0) rfl rfl subW) rfl ?_
          refine WL.step (WO.storeBA (ds := (encBad (Bad.mk r13.1 r13.2.1 r13.2.2))) (cs' := (encBad (Bad.mk r13.1 r13.2.1 r13.2.2))) cells66 (.pl rfl) (.pl rfl) rfl (oneBad _) (i := 6) rfl (lel (o := 0) (l := 3) (m := 3) (by decide) rfl rfl) (putW rfl) ?_)
          refine WL.next hQ17 (.cons (i := 4) rfl (.nil)) ?_
          obtain rfl := Option.some.inj hF5
          obtain rfl := einr hN5
          obtain rfl := Option.some.inj hF
          refine W.retV (fn := Try.f76) (vs := [.agg (encBad (Bad.mk r13.1 r13.2.1 r13.2.2)).toArray]) Try.results76 ⟨.cellA Try.underlying66 rfl cells66 rfl (i := 6) rfl rfl, trivial⟩ (fun _ _ h => h) (fun wz hw => ?_)
          exact hR _ _ ⟨(), trivial, rfl, (hw.pickK 7 [2, 3, 4, 1] rfl)⟩
        · replace hF5 := cneg hC16 hF5
          refine W.skip ?_
          refine W.go hK10 (.cons (i := 1) rfl (.cons (i := 4) rfl (.cons (i := 11) rfl (.cons (i := 12) rfl (.cons (i := 13) rfl (.nil)))))) ?_
          refine W.reg ?_
          obtain ⟨hk15, hF5⟩ := ckh hF5
          refine WL.q (Y.add (.pl rfl) (.pl rfl) (ok64_lt (hk15))) rfl ?_
          refine WL.q (Y.move (.pl rfl)) rfl ?_
          refine WL.nil ?_
          obtain rfl := Option.some.inj hF5
          exact W.again1 hK6 (v10 + 1) k5 hN5 (Nat.lt_succ_self _) (.cons rfl (.nil)) (.cons (i := 1) rfl (.cons (i := 4) rfl (.cons (i := 11) rfl (.cons (i := 12) rfl (.nil))))) (fun wz hw => hw.pickK 7 [2, 3, 4, 1, 6] rfl)
      · replace hF5 := cneg hC13 hF5
        refine W.skip ?_
        refine W.go hK10 (.cons (i := 1) rfl (.cons (i := 4) rfl (.cons (i := 11) rfl (.cons (i := 12) rfl (.cons (i := 13) rfl (.nil)))))) ?_
        refine W.reg ?_
        obtain ⟨hk16, hF5⟩ := ckh hF5
        refine WL.q (Y.add (.pl rfl) (.pl rfl) (ok64_lt (hk16))) rfl ?_
        refine WL.q (Y.move (.pl rfl)) rfl ?_
        refine WL.nil ?_
        obtain rfl := Option.some.inj hF5
        exact W.again1 hK6 (v10 + 1) k5 hN5 (Nat.lt_succ_self _) (.cons rfl (.nil)) (.cons (i := 1) rfl (.cons (i := 4) rfl (.cons (i := 11) rfl (.cons (i := 12) rfl (.nil))))) (fun wz hw => hw.pickK 6 [1, 2, 3, 4, 5] rfl)
    · replace hF5 := cneg hC9 hF5
      refine W.exit ?_
      obtain rfl := Option.some.inj hF5
      exact W.joinAt0 hK3  (einr hN5) (.nil) (.cons (i := 4) rfl (.nil)) (fun wz hw => hw.pickK 5 [0, 1, 2, 3, 4] rfl)
  · -- behind
    rintro  rfl
    refine W.seqR fun Q20 hQ20 => ?_
    refine WL.q (Y.build (cs := (encBad (Bad.mk 0 0 0)).toArray) shape66 (.nil) (one_parts trivial) rfl) rfl ?_
    refine WL.step (WO.storeBA (ds := (encBad (Bad.mk 0 0 0))) (cs' := (encBad (Bad.mk 0 0 0))) cells66 (.pl rfl) (.pl rfl) rfl (oneBad _) (i := 4) rfl (lel (o := 0) (l := 3) (m := 3) (by decide) rfl rfl) (putW rfl) ?_)
    refine WL.next hQ20 (.cons (i := 4) rfl (.nil)) ?_
    obtain rfl := Option.some.inj hF
    refine W.retV (fn := Try.f76) (vs := [.agg (encBad (Bad.mk 0 0 0)).toArray]) Try.results76 ⟨.cellA Try.underlying66 rfl cells66 rfl (i := 4) rfl rfl, trivial⟩ (fun _ _ h => h) (fun wz hw => ?_)
    exact hR _ _ ⟨(), trivial, rfl, (hw.pickK 5 [0, 1, 2, 3] rfl)⟩

def rows_log_early (N : Nat) (calls4 : (List Call)) (values7 : (List RowsValue)) : Option (Int × Int × Int) :=
  bd (rows_log_each_2 N calls4 values7) fun (r10 : (Int × Int × Int)) =>
  some (r10.1, r10.2.1, r10.2.2)

theorem rows_log_early_ok {N : Nat} {calls4 : (List Call)} {values7 : (List RowsValue)} {b1 : Nat} {A2 : Option Addr} {c3 : Nat} {A5 : Option Addr} {c6 : Nat} {res : (Int × Int × Int)} (hF : rows_log_early N calls4 values7 = some res) {w0 w : World} {T : List Chunk} (hw : St w0.heap.size w0 ([cBx b1 163 (Value.slice A2 (calls4).length c3 :: (Value.slice A5 (values7).length c6 :: [])), cR encCall 7 A2 c3 129 calls4, cR encRowsValue 3 A5 c6 167 values7] ++ T) w) :
    Calls Try.prog 56 (List.toArray [.pointer (some ⟨b1, 0, none⟩)]) w (fun e w' => ∃ g : Unit, (True) ∧ e = .returned (.agg (encBad (Bad.mk res.1 res.2.1 res.2.2)).toArray) ∧ St w0.heap.size w0 ([cBx b1 163 (Value.slice A2 (calls4).length c3 :: (Value.slice A5 (values7).length c6 :: [])), cR encCall 7 A2 c3 129 calls4, cR encRowsValue 3 A5 c6 167 values7] ++ T) w') := by
  refine W.enter (n := 6) Try.func56 rfl rfl Sub.refl (by simp) hw fun R hR => ?_
  unfold rows_log_early at hF
  refine W.seqR fun Q1 hQ1 => ?_
  refine WL.step (WO.box1 (.pl rfl) rfl rfl fun b8 => ?_)
  refine WL.step (WO.alloc (cs := (encBad (Bad.mk 0 0 0)).toArray) zero66 rfl rfl fun b9 => ?_)
  refine WL.next hQ1 (.cons (i := 1) rfl (.cons (i := 2) rfl (.nil))) ?_
  refine W.seqR fun Q2 hQ2 => ?_
  refine WL.q (Y.loadB (v := .pointer (some ⟨b1, 0, none⟩)) Try.underlying120 rfl (.pl rfl) (i := 1) rfl (rfl)) rfl ?_
  refine WL.q (Y.fnC (.cons (.pl rfl) (.nil))) rfl ?_
  obtain ⟨r10, hr10, hF⟩ := bnd hF
  refine WL.step (WO.call (γ := Unit) (fun g => .agg (encBad (Bad.mk r10.1 r10.2.1 r10.2.2)).toArray) (fun g => ([cBx b1 163 (Value.slice A2 (calls4).length c3 :: (Value.slice A5 (values7).length c6 :: [])), cR encCall 7 A2 c3 129 calls4, cR encRowsValue 3 A5 c6 167 values7, cBx b8 120 [.pointer (some ⟨b1, 0, none⟩)], cBx b9 66 (encBad (Bad.mk 0 0 0))] ++ T)) (fun g => True) isGo76 (.cons (.pl rfl) (.cons (.pl rfl) (.nil))) rfl (fun wz hw => rows_log_each_2_ok (T := ([cBx b9 66 (encBad (Bad.mk 0 0 0))] ++ T)) (hr10) (hw.pickK 5 [2, 3, 4, 1, 0] rfl) ) ?_)
  rintro _ -
  refine WL.step (WO.storeBA (ds := (encBad (Bad.mk r10.1 r10.2.1 r10.2.2))) (cs' := (encBad (Bad.mk r10.1 r10.2.1 r10.2.2))) cells66 (.pl rfl) (.pl rfl) rfl (oneBad _) (i := 4) rfl (lel (o := 0) (l := 3) (m := 3) (by decide) rfl rfl) (putW rfl) ?_)
  refine WL.next hQ2 (.cons (i := 2) rfl (.nil)) ?_
  obtain rfl := Option.some.inj hF
  refine W.retV (fn := Try.f56) (vs := [.agg (encBad (Bad.mk r10.1 r10.2.1 r10.2.2)).toArray]) Try.results56 ⟨.cellA Try.underlying66 rfl cells66 rfl (i := 4) rfl rfl, trivial⟩ (fun _ _ h => h) (fun wz hw => ?_)
  exact hR _ _ ⟨(), trivial, rfl, (hw.pickK 5 [0, 1, 2] rfl)⟩

def rows_log_order_1 (N : Nat) (a1 : Int) (b2 : Int) (calls7 : (List Call)) (values10 : (List RowsValue)) : Option Bool :=
  bd (ix calls7 a1) fun (x11 : Call) =>
  bd ((cond ((!(decide (x11.to_ = (-1)))) == true) (ix calls7 a1) (some Call.z))) fun (x12 : Call) =>
  bd ((cond ((!(decide (x11.to_ = (-1)))) == true) (ix calls7 b2) (some Call.z))) fun (x13 : Call) =>
  some ((!(decide (x11.to_ = (-1)))) && (decide (x12.to_ < x13.from_)))

theorem rows_log_order_1_ok {N : Nat} {a1 : Int} {b2 : Int} {calls7 : (List Call)} {values10 : (List RowsValue)} {b3 : Nat} {b4 : Nat} {A5 : Option Addr} {c6 : Nat} {A8 : Option Addr} {c9 : Nat} {res : Bool} (hF : rows_log_order_1 N a1 b2 calls7 values10 = some res) {w0 w : World} {T : List Chunk} (hw : St w0.heap.size w0 ([cBx b3 120 [.pointer (some ⟨b4, 0, none⟩)], cBx b4 163 (Value.slice A5 (calls7).length c6 :: (Value.slice A8 (values10).length c9 :: [])), cR encCall 7 A5 c6 129 calls7, cR encRowsValue 3 A8 c9 167 values10] ++ T) w) :
    Calls Try.prog 80 (List.toArray [.int .i64 a1, .int .i64 b2, .pointer (some ⟨b3, 0, none⟩)]) w (fun e w' => ∃ g : Unit, (True) ∧ e = .returned (.bool res) ∧ St w0.heap.size w0 ([cBx b3 120 [.pointer (some ⟨b4, 0, none⟩)], cBx b4 163 (Value.slice A5 (calls7).length c6 :: (Value.slice A8 (values10).length c9 :: [])), cR encCall 7 A5 c6 129 calls7, cR encRowsValue 3 A8 c9 167 values10] ++ T) w') := by
  refine W.enter (n := 34) Try.func80 rfl rfl Sub.refl (by simp) hw fun R hR => ?_
  unfold rows_log_order_1 at hF
  refine W.seqR fun Q1 hQ1 => ?_
  refine WL.q (Y.assign (.pl rfl)) rfl ?_
  refine WL.next hQ1 (.cons (i := 0) rfl (.cons (i := 1) rfl (.cons (i := 2) rfl (.nil)))) ?_
  refine W.seqD (by kernel_rfl) (by kernel_rfl) fun R2 hR2 => ?_
  refine WD.q (Y.loadB (v := .pointer (some ⟨b4, 0, none⟩)) Try.underlying120 rfl (.pl rfl) (i := 0) rfl (rfl)) rfl ?_
  refine WD.q (Y.nilCheck (.pl rfl)) rfl ?_
  refine WD.q (Y.fieldAddr0 (off := 0) (ft := 35) Try.underlying163 rfl cells35 (.pl rfl)) rfl ?_
  refine WD.q (Y.loadB (v := .slice A5 (calls7).length c6) Try.underlying35 rfl (.pl rfl) (i := 1) rfl (rfl)) rfl ?_
  refine WD.q (Y.move (.pl rfl)) rfl ?_
  obtain ⟨x11, hx11, hF⟩ := bnd hF
  refine WD.q (Y.rowEl Try.underlying35 cells129 (i := 2) rfl (.pl rfl) rfl (.pl rfl) (ix_lt (hx11))) rfl ?_
  refine WD.q (Y.rowField (off := 6) (ft := 3) Try.underlying129 rfl cells3 (i' := 2) rfl (ix_lt (hx11)) (.pl rfl)) rfl ?_
  refine WD.q (Y.loadR (enc := encCall) (v := .int .i64 x11.to_) (a := x11) (idx := a1) (j := 6) Try.underlying3 rfl lenCall (i := 2) rfl (.pl rfl) (ix_get (hx11)) rfl rfl) rfl ?_
  refine WD.q (Y.neq (.pl rfl) (.pl rfl)) rfl ?_
  refine WD.q (Y.move (.pl rfl)) rfl ?_
  refine WD.g (.pl rfl rfl rfl) (fun hg => Y.loadB (v := .pointer (some ⟨b4, 0, none⟩)) Try.underlying120 rfl (.pl rfl) (i := 0) rfl (rfl)) rfl ?_
  refine WD.g (.pl rfl rfl rfl) (fun hg => Y.nilCheck (.gd (hg) rfl)) rfl ?_
  refine WD.g (.pl rfl rfl rfl) (fun hg => Y.fieldAddr0 (off := 0) (ft := 35) Try.underlying163 rfl cells35 (.gd (hg) rfl)) rfl ?_
  refine WD.g (.pl rfl rfl rfl) (fun hg => Y.loadB (v := .slice A5 (calls7).length c6) Try.underlying35 rfl (.gd (hg) rfl) (i := 1) rfl (rfl)) rfl ?_
  refine WD.g (.pl rfl rfl rfl) (fun hg => Y.move (.pl rfl)) rfl ?_
  obtain ⟨x12, hx12, hF⟩ := bnd hF
  refine WD.g (.pl rfl rfl rfl) (fun hg => Y.rowEl Try.underlying35 cells129 (i := 2) rfl (.gd (hg) rfl) rfl (.gd (hg) rfl) (ix_lt (gpos hg hx12))) rfl ?_
  refine WD.g (.pl rfl rfl rfl) (fun hg => Y.rowField (off := 6) (ft := 3) Try.underlying129 rfl cells3 (i' := 2) rfl (ix_lt (gpos hg hx12)) (.gd (hg) rfl)) rfl ?_
  refine WD.g (.pl rfl rfl rfl) (fun hg => Y.loadR (enc := encCall) (v := .int .i64 x12.to_) (a := x12) (idx := a1) (j := 6) Try.underlying3 rfl lenCall (i := 2) rfl (.gd (hg) rfl) (ix_get (gpos hg hx12)) rfl rfl) rfl ?_
  refine WD.g (.pl rfl rfl rfl) (fun hg => Y.loadB (v := .pointer (some ⟨b4, 0, none⟩)) Try.underlying120 rfl (.pl rfl) (i := 0) rfl (rfl)) rfl ?_
  refine WD.g (.pl rfl rfl rfl) (fun hg => Y.nilCheck (.gd (hg) rfl)) rfl ?_
  refine WD.g (.pl rfl rfl rfl) (fun hg => Y.fieldAddr0 (off := 0) (ft := 35) Try.underlying163 rfl cells35 (.gd (hg) rfl)) rfl ?_
  refine WD.g (.pl rfl rfl rfl) (fun hg => Y.loadB (v := .slice A5 (calls7).length c6) Try.underlying35 rfl (.gd (hg) rfl) (i := 1) rfl (rfl)) rfl ?_
  refine WD.g (.pl rfl rfl rfl) (fun hg => Y.move (.pl rfl)) rfl ?_
  obtain ⟨x13, hx13, hF⟩ := bnd hF
  refine WD.g (.pl rfl rfl rfl) (fun hg => Y.rowEl Try.underlying35 cells129 (i := 2) rfl (.gd (hg) rfl) rfl (.gd (hg) rfl) (ix_lt (gpos hg hx13))) rfl ?_
  refine WD.g (.pl rfl rfl rfl) (fun hg => Y.rowField (off := 5) (ft := 3) Try.underlying129 rfl cells3 (i' := 2) rfl (ix_lt (gpos hg hx13)) (.gd (hg) rfl)) rfl ?_
  refine WD.g (.pl rfl rfl rfl) (fun hg => Y.loadR (enc := encCall) (v := .int .i64 x13.from_) (a := x13) (idx := b2) (j := 5) Try.underlying3 rfl lenCall (i := 2) rfl (.gd (hg) rfl) (ix_get (gpos hg hx13)) rfl rfl) rfl ?_
  refine WD.g (.pl rfl rfl rfl) (fun hg => Y.lss (.gd (hg) rfl) (.gd (hg) rfl)) rfl ?_
  refine WD.q (Y.and (.pl rfl) (fun h2 => .gd (eqt h2) rfl)) rfl ?_
  refine WD.q (Y.assign (.pl rfl)) rfl ?_
  refine WD.next hR2 (.cons (i := 5) rfl (.nil)) ?_
  obtain rfl := Option.some.inj hF
  refine W.retV (fn := Try.f80) (vs := [.bool ((!(decide (x11.to_ = (-1)))) && (decide (x12.to_ < x13.from_)))]) Try.results80 ⟨.tmp rfl, trivial⟩ (fun _ _ h => h) (fun wz hw => ?_)
  exact hR _ _ ⟨(), trivial, rfl, (hw.pickK 4 [0, 1, 2, 3] rfl)⟩

def rows_log_order_L27 (N : Nat) (values7 : (List RowsValue)) (x11 : RowsValue) (calls4 : (List Call)) : Int → Option (Int ⊕ (Unit ⊕ (Int × Int × Int)))
  | v13 =>
    cond (decide (v13 < ((values7).length : Int)))
      (bd (ix values7 v13) fun (x14 : RowsValue) =>
      bd (α := Bool) (bd (rows_log_order_1 N x11.enq x14.enq calls4 values7) fun (r17 : Bool) =>
        cond (((r17 && (decide (0 ≤ x14.deq))) == true) && ((decide (x11.deq < 0)) == false))
          (bd (rows_log_order_1 N x14.deq x11.deq calls4 values7) fun (r18 : Bool) =>
          some ((r17 && (decide (0 ≤ x14.deq))) && ((decide (x11.deq < 0)) || r18)))
          (some ((r17 && (decide (0 ≤ x14.deq))) && ((decide (x11.deq < 0)) || false)))) <|
      fun (v16 : Bool) => 
        cond v16
          (some (.inr (.inr (6, x11.n, x14.n))))
          (ck (ok64 (v13 + 1)) <|
          some (.inl (v13 + 1))))
      (some (.inr (.inl ())))

def rows_log_order_L25 (N : Nat) (values7 : (List RowsValue)) (calls4 : (List Call)) : Int → Option (Int ⊕ (Unit ⊕ (Int × Int × Int)))
  | v10 =>
    cond (decide (v10 < ((values7).length : Int)))
      (bd (α := (Unit ⊕ (Int × Int × Int))) (bd (ix values7 v10) fun (x11 : RowsValue) =>
        iter (rows_log_order_L27 N values7 x11 calls4) N 0) <|
      Sum.elim (fun _ => 
        ck (ok64 (v10 + 1)) <|
        some (.inl (v10 + 1))) (fun p => some (.inr (.inr p))))
      (some (.inr (.inl ())))

def rows_log_order (N : Nat) (calls4 : (List Call)) (values7 : (List RowsValue)) : Option (Int × Int × Int) :=
  bd (α := (Unit ⊕ (Int × Int × Int))) (iter (rows_log_order_L25 N values7 calls4) N 0) <|
  Sum.elim (fun _ => 
    some (0, 0, 0)) (fun p => some p)

theorem rows_log_order_ok {N : Nat} {calls4 : (List Call)} {values7 : (List RowsValue)} {b1 : Nat} {A2 : Option Addr} {c3 : Nat} {A5 : Option Addr} {c6 : Nat} {res : (Int × Int × Int)} (hF : rows_log_order N calls4 values7 = some res) {w0 w : World} {T : List Chunk} (hw : St w0.heap.size w0 ([cBx b1 163 (Value.slice A2 (calls4).length c3 :: (Value.slice A5 (values7).length c6 :: [])), cR encCall 7 A2 c3 129 calls4, cR encRowsValue 3 A5 c6 167 values7] ++ T) w) :
    Calls Try.prog 57 (List.toArray [.pointer (some ⟨b1, 0, none⟩)]) w (fun e w' => ∃ g : Unit, (True) ∧ e = .returned (.agg (encBad (Bad.mk res.1 res.2.1 res.2.2)).toArray) ∧ St w0.heap.size w0 ([cBx b1 163 (Value.slice A2 (calls4).length c3 :: (Value.slice A5 (values7).length c6 :: [])), cR encCall 7 A2 c3 129 calls4, cR encRowsValue 3 A5 c6 167 values7] ++ T) w') := by
  refine W.enter (n := 59) Try.func57 rfl rfl Sub.refl (by simp) hw fun R hR => ?_
  unfold rows_log_order at hF
  refine W.seqR fun Q1 hQ1 => ?_
  refine WL.step (WO.box1 (.pl rfl) rfl rfl fun b8 => ?_)
  refine WL.step (WO.alloc (cs := (encBad (Bad.mk 0 0 0)).toArray) zero66 rfl rfl fun b9 => ?_)
  refine WL.next hQ1 (.cons (i := 1) rfl (.cons (i := 2) rfl (.nil))) ?_
  refine W.seqR fun Q2 hQ2 => ?_
  refine WL.q (Y.fnC (.cons (.pl rfl) (.nil))) rfl ?_
  refine WL.q (Y.assign (.pl rfl)) rfl ?_
  refine WL.next hQ2 (.cons (i := 1) rfl (.cons (i := 2) rfl (.cons (i := 3) rfl (.nil)))) ?_
  obtain ⟨o3, hF3, hF⟩ := bnd hF
  refine W.join0 (Em := []) (M := ([cBx b1 163 (Value.slice A2 (calls4).length c3 :: (Value.slice A5 (values7).length c6 :: [])), cR encCall 7 A2 c3 129 calls4, cR encRowsValue 3 A5 c6 167 values7, cBx b9 66 (encBad (Bad.mk 0 0 0))] ++ T)) (I := (.inl ()) = o3) (.cons (i := 2) rfl (.nil)) (fun K4 hK4 => ?_) ?_
  · -- up to
    refine W.seqR fun Q5 hQ5 => ?_
    refine WL.q (Y.loadB (v := .pointer (some ⟨b1, 0, none⟩)) Try.underlying120 rfl (.pl rfl) (i := 1) rfl (rfl)) rfl ?_
    refine WL.q (Y.nilCheck (.pl rfl)) rfl ?_
    refine WL.q (Y.fieldAddr0 (off := 1) (ft := 161) Try.underlying163 rfl cells161 (.pl rfl)) rfl ?_
    refine WL.q (Y.loadB (v := .slice A5 (values7).length c6) Try.underlying161 rfl (.pl rfl) (i := 2) rfl (rfl)) rfl ?_
    refine WL.q (Y.len Try.underlying161 (.pl rfl)) rfl ?_
    refine WL.q (Y.move (.pl rfl)) rfl ?_
    refine WL.next hQ5 (.cons (i := 1) rfl (.cons (i := 2) rfl (.cons (i := 3) rfl (.cons (i := 12) rfl (.cons (i := 13) rfl (.cons (i := 14) rfl (.nil))))))) ?_
    refine W.block ?_
    refine W.loop1 (Em := fun (v10 : Int) => [(14, .int .i64 v10)]) (M := fun v10 => ([cBx b1 163 (Value.slice A2 (calls4).length c3 :: (Value.slice A5 (values7).length c6 :: [])), cR encCall 7 A2 c3 129 calls4, cR encRowsValue 3 A5 c6 167 values7, cBx b8 120 [.pointer (some ⟨b1, 0, none⟩)], cBx b9 66 (encBad (Bad.mk 0 0 0))] ++ T)) (I := fun v10 k6 => iter (rows_log_order_L25 N values7 calls4) k6 v10 = some o3) 0 N (hF3) (.cons rfl (.nil)) (.cons (i := 1) rfl (.cons (i := 2) rfl (.cons (i := 3) rfl (.cons (i := 12) rfl (.cons (i := 13) rfl (.nil)))))) (fun wz hw => hw.pickK 5 [2, 3, 4, 1, 0] rfl) (fun v10 k6 hI K7 hK7 => ?_)
    obtain ⟨k6, t6, rfl, hF6, hN6⟩ := iter_step hI
    refine W.seqR fun Q8 hQ8 => ?_
    refine WL.q (Y.lss (.pl rfl) (.pl rfl)) rfl ?_
    refine WL.next hQ8 (.cons (i := 1) rfl (.cons (i := 2) rfl (.cons (i := 3) rfl (.cons (i := 12) rfl (.cons (i := 13) rfl (.cons (i := 14) rfl (.cons (i := 15) rfl (.nil)))))))) ?_
    refine W.seq fun K9 hK9 => ?_
    refine W.cond (.pl rfl) (fun hC10 => ?_) (fun hC10 => ?_)
    · replace hF6 := cpos hC10 hF6
      refine W.skip ?_
      refine W.go hK9 (.cons (i := 1) rfl (.cons (i := 2) rfl (.cons (i := 3) rfl (.cons (i := 12) rfl (.cons (i := 13) rfl (.cons (i := 14) rfl (.nil))))))) ?_
      obtain ⟨o11, hF11, hF6⟩ := bnd hF6
      refine W.join0 (Em := []) (M := ([cBx b1 163 (Value.slice A2 (calls4).length c3 :: (Value.slice A5 (values7).length c6 :: [])), cR encCall 7 A2 c3 129 calls4, cR encRowsValue 3 A5 c6 167 values7, cBx b8 120 [.pointer (some ⟨b1, 0, none⟩)], cBx b9 66 (encBad (Bad.mk 0 0 0))] ++ T)) (I := (.inl ()) = o11) (.cons (i := 1) rfl (.cons (i := 2) rfl (.cons (i := 3) rfl (.cons (i := 12) rfl (.cons (i := 13) rfl (.cons (i := 14) rfl (.nil))))))) (fun K12 hK12 => ?_) ?_
      · -- up to
        refine W.block ?_
        refine W.seqR fun Q13 hQ13 => ?_
        obtain ⟨x11, hx11, hF11⟩ := bnd hF11
        refine WL.q (Y.rowEl Try.underlying161 cells167 (i := 2) rfl (.pl rfl) rfl (.pl rfl) (ix_lt (hx11))) rfl ?_
        refine WL.q (Y.loadRA (enc := encRowsValue) (ds := (encRowsValue x11)) (a := x11) (idx := v10) (j := 0) Try.underlying167 rfl cells167 lenRowsValue (i := 2) rfl (.pl rfl) (ix_get (hx11)) rfl rfl subW) rfl ?_
        refine WL.step (WO.alloc (cs := (encRowsValue (RowsValue.mk 0 0 0)).toArray) zero167 rfl rfl fun b12 => ?_)
        refine WL.step (WO.storeBA (ds := (encRowsValue x11)) (cs' := (encRowsValue x11)) cells167 (.pl rfl) (.pl rfl) rfl (oneRowsValue _) (i := 0) rfl (lel (o := 0) (l := 3) (m := 3) (by decide) rfl rfl) (putW rfl) ?_)
        refine WL.next hQ13 (.cons (i := 1) rfl (.cons (i := 2) rfl (.cons (i := 3) rfl (.cons (i := 5) rfl (.cons (i := 12) rfl (.cons (i := 13) rfl (.cons (i := 14) rfl (.nil)))))))) ?_
        refine W.seqR fun Q14 hQ14 => ?_
        refine WL.q (Y.loadB (v := .pointer (some ⟨b1, 0, none⟩)) Try.underlying120 rfl (.pl rfl) (i := 4) rfl (rfl)) rfl ?_
        refine WL.q (Y.nilCheck (.pl rfl)) rfl ?_
        refine WL.q (Y.fieldAddr0 (off := 1) (ft := 161) Try.underlying163 rfl cells161 (.pl rfl)) rfl ?_
        refine WL.q (Y.loadB (v := .slice A5 (values7).length c6) Try.underlying161 rfl (.pl rfl) (i := 1) rfl (rfl)) rfl ?_
        refine WL.q (Y.len Try.underlying161 (.pl rfl)) rfl ?_
        refine WL.q (Y.move (.pl rfl)) rfl ?_
        refine WL.next hQ14 (.cons (i := 1) rfl (.cons (i := 2) rfl (.cons (i := 3) rfl (.cons (i := 5) rfl (.cons (i := 12) rfl (.cons (i := 13) rfl (.cons (i := 14) rfl (.cons (i := 21) rfl (.cons (i := 22) rfl (.cons (i := 23) rfl (.nil))))))))))) ?_
        refine W.block ?_
        refine W.loop1 (Em := fun (v13 : Int) => [(23, .int .i64 v13)]) (M := fun v13 => ([cBx b1 163 (Value.slice A2 (calls4).length c3 :: (Value.slice A5 (values7).length c6 :: [])), cR encCall 7 A2 c3 129 calls4, cR encRowsValue 3 A5 c6 167 values7, cBx b8 120 [.pointer (some ⟨b1, 0, none⟩)], cBx b9 66 (encBad (Bad.mk 0 0 0)), cBx b12 167 (encRowsValue x11)] ++ T)) (I := fun v13 k15 => iter (rows_log_order_L27 N values7 x11 calls4) k15 v13 = some o11) 0 N (hF11) (.cons rfl (.nil)) (.cons (i := 1) rfl (.cons (i := 2) rfl (.cons (i := 3) rfl (.cons (i := 5) rfl (.cons (i := 12) rfl (.cons (i := 13) rfl (.cons (i := 14) rfl (.cons (i := 21) rfl (.cons (i := 22) rfl (.nil)))))))))) (fun wz hw => hw.pickK 6 [1, 2, 3, 4, 5, 0] rfl) (fun v13 k15 hI K16 hK16 => ?_)
        obtain ⟨k15, t15, rfl, hF15, hN15⟩ := iter_step hI
        refine W.seqR fun Q17 hQ17 => ?_
        refine WL.q (Y.lss (.pl rfl) (.pl rfl)) rfl ?_
        refine WL.next hQ17 (.cons (i := 1) rfl (.cons (i := 2) rfl (.cons (i := 3) rfl (.cons (i := 5) rfl (.cons (i := 12) rfl (.cons (i := 13) rfl (.cons (i := 14) rfl (.cons (i := 21) rfl (.cons (i := 22) rfl (.cons (i := 23) rfl (.cons (i := 24) rfl (.nil)))))))))))) ?_
        refine W.seq fun K18 hK18 => ?_
        refine W.cond (.pl rfl) (fun hC19 => ?_) (fun hC19 => ?_)
        · replace hF15 := cpos hC19 hF15
          refine W.skip ?_
          refine W.go hK18 (.cons (i := 1) rfl (.cons (i := 2) rfl (.cons (i := 3) rfl (.cons (i := 5) rfl (.cons (i := 12) rfl (.cons (i := 13) rfl (.cons (i := 14) rfl (.cons (i := 21) rfl (.cons (i := 22) rfl (.cons (i := 23) rfl (.nil))))))))))) ?_
          refine W.seq fun K20 hK20 => ?_
          refine W.block ?_
          refine W.seqR fun Q21 hQ21 => ?_
          obtain ⟨x14, hx14, hF15⟩ := bnd hF15
          refine WL.q (Y.rowEl Try.underlying161 cells167 (i := 2) rfl (.pl rfl) rfl (.pl rfl) (ix_lt (hx14))) rfl ?_
          refine WL.q (Y.loadRA (enc := encRowsValue) (ds := (encRowsValue x14)) (a := x14) (idx := v13) (j := 0) Try.underlying167 rfl cells167 lenRowsValue (i := 2) rfl (.pl rfl) (ix_get (hx14)) rfl rfl subW) rfl ?_
          refine WL.step (WO.alloc (cs := (encRowsValue (RowsValue.mk 0 0 0)).toArray) zero167 rfl rfl fun b15 => ?_)
          refine WL.step (WO.storeBA (ds := (encRowsValue x14)) (cs' := (encRowsValue x14)) cells167 (.pl rfl) (.pl rfl) rfl (oneRowsValue _) (i := 0) rfl (lel (o := 0) (l := 3) (m := 3) (by decide) rfl rfl) (putW rfl) ?_)
          refine WL.next hQ21 (.cons (i := 1) rfl (.cons (i := 2) rfl (.cons (i := 3) rfl (.cons (i := 5) rfl (.cons (i := 7) rfl (.cons (i := 12) rfl (.cons (i := 13) rfl (.cons (i := 14) rfl (.cons (i := 21) rfl (.cons (i := 22) rfl (.cons (i := 23) rfl (.nil)))))))))))) ?_
          obtain ⟨o22, hF22, hF15⟩ := bnd hF15
          refine W.join1 (Em := fun (v16 : Bool) => [(50, .bool v16)]) (M := fun v16 => ([cBx b1 163 (Value.slice A2 (calls4).length c3 :: (Value.slice A5 (values7).length c6 :: [])), cR encCall 7 A2 c3 129 calls4, cR encRowsValue 3 A5 c6 167 values7, cBx b8 120 [.pointer (some ⟨b1, 0, none⟩)], cBx b9 66 (encBad (Bad.mk 0 0 0)), cBx b12 167 (encRowsValue x11), cBx b15 167 (encRowsValue x14)] ++ T)) (I := fun v16 => v16 = o22) (.cons (i := 1) rfl (.cons (i := 2) rfl (.cons (i := 3) rfl (.cons (i := 5) rfl (.cons (i := 7) rfl (.cons (i := 12) rfl (.cons (i := 13) rfl (.cons (i := 14) rfl (.cons (i := 21) rfl (.cons (i := 22) rfl (.cons (i := 23) rfl (.nil)))))))))))) (fun K23 hK23 => ?_) ?_
          · -- up to
            refine W.reg ?_
            refine WL.q (Y.move (.pl rfl)) rfl ?_
            refine WL.q (Y.fieldAddr0 (off := 1) (ft := 3) Try.underlying167 rfl cells3 (.pl rfl)) rfl ?_
            refine WL.q (Y.loadB (v := .int .i64 x11.enq) Try.underlying3 rfl (.pl rfl) (i := 6) rfl (rfl)) rfl ?_
            refine WL.q (Y.fieldAddr0 (off := 1) (ft := 3) Try.underlying167 rfl cells3 (.pl rfl)) rfl ?_
            refine WL.q (Y.loadB (v := .int .i64 x14.enq) Try.underlying3 rfl (.pl rfl) (i := 0) rfl (rfl)) rfl ?_
            obtain ⟨r17, hr17, hF22⟩ := bnd hF22
            refine WL.step (WO.callG (γ := Unit) (first := []) (cap := [.pointer (some ⟨b8, 0, none⟩)]) (fun g => .bool r17) (fun g => ([cBx b8 120 [.pointer (some ⟨b1, 0, none⟩)], cBx b1 163 (Value.slice A2 (calls4).length c3 :: (Value.slice A5 (values7).length c6 :: [])), cR encCall 7 A2 c3 129 calls4, cR encRowsValue 3 A5 c6 167 values7, cBx b15 167 (encRowsValue x14), cBx b9 66 (encBad (Bad.mk 0 0 0)), cBx b12 167 (encRowsValue x11)] ++ T)) (fun g => True) isGo80 (.pl rfl) (.cons (.pl rfl) (.cons (.pl rfl) (.nil))) rfl (fun wz hw => (by have h := rows_log_order_1_ok (T := ([cBx b15 167 (encRowsValue x14), cBx b9 66 (encBad (Bad.mk 0 0 0)), cBx b12 167 (encRowsValue x11)] ++ T)) (b3 := b8) (b4 := b1) (A5 := A2) (c6 := c3) (A8 := A5) (c9 := c6) (hr17) (hw.pickK 7 [4, 1, 2, 3, 0, 5, 6] rfl) ; unfold Calls at h ⊢; intro cs; obtain ⟨e, w2, fr, h1, h2⟩ := h cs; exact ⟨e, w2, fr, h1, h2⟩)) ?_)
            rintro _ -
            refine WL.q (Y.move (.pl rfl)) rfl ?_
            refine WL.g (.pl rfl rfl rfl) (fun hg => Y.fieldAddr0 (off := 2) (ft := 3) Try.underlying167 rfl cells3 (.pl rfl)) rfl ?_
            refine WL.g (.pl rfl rfl rfl) (fun hg => Y.loadB (v := .int .i64 x14.deq) Try.underlying3 rfl (.gd (hg) rfl) (i := 4) rfl (rfl)) rfl ?_
            refine WL.g (.pl rfl rfl rfl) (fun hg => Y.geq (.gd (hg) rfl) (.pl rfl)) rfl ?_
            refine WL.q (Y.and (.pl rfl) (fun h2 => .gd (eqt h2) rfl)) rfl ?_
            refine WL.q (Y.move (.pl rfl)) rfl ?_
            refine WL.g (.pl rfl rfl rfl) (fun hg => Y.fieldAddr0 (off := 2) (ft := 3) Try.underlying167 rfl cells3 (.pl rfl)) rfl ?_
            refine WL.g (.pl rfl rfl rfl) (fun hg => Y.loadB (v := .int .i64 x11.deq) Try.underlying3 rfl (.gd (hg) rfl) (i := 6) rfl (rfl)) rfl ?_
            refine WL.g (.pl rfl rfl rfl) (fun hg => Y.lss (.gd (hg) rfl) (.pl rfl)) rfl ?_
            refine WL.g (.pl rfl rfl rfl) (fun hg => Y.move (.gd (hg) rfl)) rfl ?_
            refine WL.g (.gd rfl rfl rfl) (fun hg => Y.move (.pl rfl)) rfl ?_
            refine WL.g (.gd rfl rfl rfl) (fun hg => Y.fieldAddr0 (off := 2) (ft := 3) Try.underlying167 rfl cells3 (.pl rfl)) rfl ?_
            refine WL.g (.gd rfl rfl rfl) (fun hg => Y.loadB (v := .int .i64 x14.deq) Try.underlying3 rfl (.gd (hg) rfl) (i := 4) rfl (rfl)) rfl ?_
            refine WL.g (.gd rfl rfl rfl) (fun hg => Y.fieldAddr0 (off := 2) (ft := 3) Try.underlying167 rfl cells3 (.pl rfl)) rfl ?_
            refine WL.g (.gd rfl rfl rfl) (fun hg => Y.loadB (v := .int .i64 x11.deq) Try.underlying3 rfl (.gd (hg) rfl) (i := 6) rfl (rfl)) rfl ?_
            refine bsplit (((r17 && (decide (0 ≤ x14.deq))) == true) && ((decide (x11.deq < 0)) == false)) (fun hg24 => ?_) (fun hg24 => ?_)
            · replace hF22 := cpos hg24 hF22
              refine WL.gd (.gd rfl rfl rfl) (hg24) ?_
              obtain ⟨r18, hr18, hF22⟩ := bnd hF22
              refine WL.step (WO.callG (γ := Unit) (first := []) (cap := [.pointer (some ⟨b8, 0, none⟩)]) (fun g => .bool r18) (fun g => ([cBx b8 120 [.pointer (some ⟨b1, 0, none⟩)], cBx b1 163 (Value.slice A2 (calls4).length c3 :: (Value.slice A5 (values7).length c6 :: [])), cR encCall 7 A2 c3 129 calls4, cR encRowsValue 3 A5 c6 167 values7, cBx b15 167 (encRowsValue x14), cBx b9 66 (encBad (Bad.mk 0 0 0)), cBx b12 167 (encRowsValue x11)] ++ T)) (fun g => True) isGo80 (.gd (hg24) rfl) (.cons (.gd (hg24) rfl) (.cons (.gd (hg24) rfl) (.nil))) rfl (fun wz hw => (by have h := rows_log_order_1_ok (T := ([cBx b15 167 (encRowsValue x14), cBx b9 66 (encBad (Bad.mk 0 0 0)), cBx b12 167 (encRowsValue x11)] ++ T)) (b3 := b8) (b4 := b1) (A5 := A2) (c6 := c3) (A8 := A5) (c9 := c6) (hr18) (hw.pickK 7 [0, 1, 2, 3, 4, 5, 6] rfl) ; unfold Calls at h ⊢; intro cs; obtain ⟨e, w2, fr, h1, h2⟩ := h cs; exact ⟨e, w2, fr, h1, h2⟩)) ?_)
              rintro _ -
              refine WL.g (.pl rfl rfl rfl) (fun hg => Y.or (.gd (hg) rfl) (fun _ => .pl rfl)) rfl ?_
              refine WL.q (Y.and (.pl rfl) (fun h2 => .gd (eqt h2) rfl)) rfl ?_
              refine WL.nil ?_
              exact W.joinAt1 hK23 ((r17 && (decide (0 ≤ x14.deq))) && ((decide (x11.deq < 0)) || r18)) (Option.some.inj hF22) (.cons rfl (.nil)) (.cons (i := 1) rfl (.cons (i := 2) rfl (.cons (i := 3) rfl (.cons (i := 5) rfl (.cons (i := 7) rfl (.cons (i := 12) rfl (.cons (i := 13) rfl (.cons (i := 14) rfl (.cons (i := 21) rfl (.cons (i := 22) rfl (.cons (i := 23) rfl (.nil)))))))))))) (fun wz hw => hw.pickK 7 [1, 2, 3, 0, 5, 6, 4] rfl)
            · replace hF22 := cneg hg24 hF22
              refine WL.gn (.gd rfl rfl rfl) hg24 rfl ?_
              refine WL.g (.pl rfl rfl rfl) (fun hg => Y.or (b := false) (.gd (hg) rfl) (fun h2 => (gabsO (by have h3 := hg24; rw [hg, Bool.true_and] at h3; exact h3) h2).elim)) rfl ?_
              refine WL.q (Y.and (.pl rfl) (fun h2 => .gd (eqt h2) rfl)) rfl ?_
              refine WL.nil ?_
              exact W.joinAt1 hK23 ((r17 && (decide (0 ≤ x14.deq))) && ((decide (x11.deq < 0)) || false)) (Option.some.inj hF22) (.cons rfl (.nil)) (.cons (i := 1) rfl (.cons (i := 2) rfl (.cons (i := 3) rfl (.cons (i := 5) rfl (.cons (i := 7) rfl (.cons (i := 12) rfl (.cons (i := 13) rfl (.cons (i := 14) rfl (.cons (i := 21) rfl (.cons (i := 22) rfl (.cons (i := 23) rfl (.nil)))))))))))) (fun wz hw => hw.pickK 7 [1, 2, 3, 0, 5, 6, 4] rfl)
          · -- behind
            rintro v16 rfl
            refine W.cond (.pl rfl) (fun hC25 => ?_) (fun hC25 => ?_)
            · replace hF15 := cpos hC25 hF15
              refine W.seqR fun Q26 hQ26 => ?_
              refine WL.q (Y.fieldAddr0 (off := 0) (ft := 3) Try.underlying167 rfl cells3 (.pl rfl)) rfl ?_
              refine WL.q (Y.loadB (v := .int .i64 x11.n) Try.underlying3 rfl (.pl rfl) (i := 5) rfl (rfl)) rfl ?_
              refine WL.q (Y.fieldAddr0 (off := 0) (ft := 3) Try.underlying167 rfl cells3 (.pl rfl)) rfl ?_
              refine WL.q (Y.loadB (v := .int .i64 x14.n) Try.underlying3 rfl (.pl rfl) (i := 6) rfl (rfl)) rfl ?_
              refine WL.q (Y.build (cs := (encBad (Bad.mk 6 x11.n x14.n)).toArray) shape66 (.cons (.pl rfl) (.cons (.pl rfl) (.cons (.pl rfl) (.nil)))) (one_parts ⟨rfl, ⟨rfl, ⟨rfl, trivial⟩⟩⟩) rfl) rfl ?_
              refine WL.step (WO.storeBA (ds := (encBad (Bad.mk 6 x11.n x14.n))) (cs' := (encBad (Bad.mk 6 x11.n x14.n))) cells66 (.pl rfl) (.pl rfl) rfl (oneBad _) (i := 4) rfl (lel (o := 0) (l := 3) (m := 3) (by decide) rfl rfl) (putW rfl) ?_)
              refine WL.next hQ26 (.cons (i := 2) rfl (.nil)) ?_
              obtain rfl := Option.some.inj hF15
              obtain rfl := einr hN15
              obtain rfl := Option.some.inj hF6
              obtain rfl := einr hN6
              obtain rfl := Option.some.inj hF
              refine W.retV (fn := Try.f57) (vs := [.agg (encBad (Bad.mk 6 x11.n x14.n)).toArray]) Try.results57 ⟨.cellA Try.underlying66 rfl cells66 rfl (i := 4) rfl rfl, trivial⟩ (fun _ _ h => h) (fun wz hw => ?_)
              exact hR _ _ ⟨(), trivial, rfl, (hw.pickK 7 [0, 1, 2] rfl)⟩
            · replace hF15 := cneg hC25 hF15
              refine W.skip ?_
              refine W.go hK20 (.cons (i := 1) rfl (.cons (i := 2) rfl (.cons (i := 3) rfl (.cons (i := 5) rfl (.cons (i := 12) rfl (.cons (i := 13) rfl (.cons (i := 14) rfl (.cons (i := 21) rfl (.cons (i := 22) rfl (.cons (i := 23) rfl (.nil))))))))))) ?_
              refine W.reg ?_
              obtain ⟨hk19, hF15⟩ := ckh hF15
              refine WL.q (Y.add (.pl rfl) (.pl rfl) (ok64_lt (hk19))) rfl ?_
              refine WL.q (Y.move (.pl rfl)) rfl ?_
              refine WL.nil ?_
              obtain rfl := Option.some.inj hF15
              exact W.again1 hK16 (v13 + 1) k15 hN15 (Nat.lt_succ_self _) (.cons rfl (.nil)) (.cons (i := 1) rfl (.cons (i := 2) rfl (.cons (i := 3) rfl (.cons (i := 5) rfl (.cons (i := 12) rfl (.cons (i := 13) rfl (.cons (i := 14) rfl (.cons (i := 21) rfl (.cons (i := 22) rfl (.nil)))))))))) (fun wz hw => hw.pickK 7 [0, 1, 2, 3, 4, 5] rfl)
        · replace hF15 := cneg hC19 hF15
          refine W.exit ?_
          obtain rfl := Option.some.inj hF15
          exact W.joinAt0 hK12  (einr hN15) (.nil) (.cons (i := 1) rfl (.cons (i := 2) rfl (.cons (i := 3) rfl (.cons (i := 12) rfl (.cons (i := 13) rfl (.cons (i := 14) rfl (.nil))))))) (fun wz hw => hw.pickK 6 [0, 1, 2, 3, 4] rfl)
      · -- behind
        rintro  rfl
        refine W.reg ?_
        obtain ⟨hk20, hF6⟩ := ckh hF6
        refine WL.q (Y.add (.pl rfl) (.pl rfl) (ok64_lt (hk20))) rfl ?_
        refine WL.q (Y.move (.pl rfl)) rfl ?_
        refine WL.nil ?_
        obtain rfl := Option.some.inj hF6
        exact W.again1 hK7 (v10 + 1) k6 hN6 (Nat.lt_succ_self _) (.cons rfl (.nil)) (.cons (i := 1) rfl (.cons (i := 2) rfl (.cons (i := 3) rfl (.cons (i := 12) rfl (.cons (i := 13) rfl (.nil)))))) (fun wz hw => hw.pickK 5 [0, 1, 2, 3, 4] rfl)
    · replace hF6 := cneg hC10 hF6
      refine W.exit ?_
      obtain rfl := Option.some.inj hF6
      exact W.joinAt0 hK4  (einr hN6) (.nil) (.cons (i := 2) rfl (.nil)) (fun wz hw => hw.pickK 5 [0, 1, 2, 4] rfl)
  · -- behind
    rintro  rfl
    refine W.seqR fun Q29 hQ29 => ?_
    refine WL.q (Y.build (cs := (encBad (Bad.mk 0 0 0)).toArray) shape66 (.nil) (one_parts trivial) rfl) rfl ?_
    refine WL.step (WO.storeBA (ds := (encBad (Bad.mk 0 0 0))) (cs' := (encBad (Bad.mk 0 0 0))) cells66 (.pl rfl) (.pl rfl) rfl (oneBad _) (i := 3) rfl (lel (o := 0) (l := 3) (m := 3) (by decide) rfl rfl) (putW rfl) ?_)
    refine WL.next hQ29 (.cons (i := 2) rfl (.nil)) ?_
    obtain rfl := Option.some.inj hF
    refine W.retV (fn := Try.f57) (vs := [.agg (encBad (Bad.mk 0 0 0)).toArray]) Try.results57 ⟨.cellA Try.underlying66 rfl cells66 rfl (i := 3) rfl rfl, trivial⟩ (fun _ _ h => h) (fun wz hw => ?_)
    exact hR _ _ ⟨(), trivial, rfl, (hw.pickK 4 [0, 1, 2] rfl)⟩

def rows_log_stays_L3 (N : Nat) (values7 : (List RowsValue)) (calls4 : (List Call)) : ((List Span) × Int) → Option (((List Span) × Int) ⊕ (List Span))
  | (out13, v14) =>
    cond (decide (v14 < ((values7).length : Int)))
      (bd (ix values7 v14) fun (x15 : RowsValue) =>
      bd (ix calls4 x15.enq) fun (x17 : Call) =>
      bd (α := Int) (cond (decide (0 ≤ x15.deq))
          (bd (ix calls4 x15.deq) fun (x20 : Call) =>
          ck (ok64 (x20.from_ - 1)) <|
          some (x20.from_ - 1))
          (some 199)) <|
      fun (To19 : Int) => 
        cond ((!(decide (x17.to_ = (-1)))) && (decide (x17.to_ ≤ To19)))
          (ck (limB 16 ((out13).length + (([(Span.mk x17.to_ To19)] : List Span)).length)) <|
          ck (ok64 (v14 + 1)) <|
          some (.inl ((out13 ++ ([(Span.mk x17.to_ To19)] : List Span)), (v14 + 1))))
          (ck (ok64 (v14 + 1)) <|
          some (.inl (out13, (v14 + 1)))))
      (some (.inr out13))

def rows_log_stays (N : Nat) (calls4 : (List Call)) (values7 : (List RowsValue)) : Option (List Span) :=
  bd (α := (List Span)) (iter (rows_log_stays_L3 N values7 calls4) N ([], 0)) <|
  fun (out10 : (List Span)) => 
    some out10

theorem rows_log_stays_ok {N : Nat} {calls4 : (List Call)} {values7 : (List RowsValue)} {b1 : Nat} {A2 : Option Addr} {c3 : Nat} {A5 : Option Addr} {c6 : Nat} {res : (List Span)} (hF : rows_log_stays N calls4 values7 = some res) {w0 w : World} {T : List Chunk} (hw : St w0.heap.size w0 ([cBx b1 163 (Value.slice A2 (calls4).length c3 :: (Value.slice A5 (values7).length c6 :: [])), cR encCall 7 A2 c3 129 calls4, cR encRowsValue 3 A5 c6 167 values7] ++ T) w) :
    Calls Try.prog 81 (List.toArray [.pointer (some ⟨b1, 0, none⟩)]) w (fun e w' => ∃ g : (Option Addr × Nat), (True) ∧ e = .returned (.slice g.1 (res).length g.2) ∧ St w0.heap.size w0 ([cBx b1 163 (Value.slice A2 (calls4).length c3 :: (Value.slice A5 (values7).length c6 :: [])), cR encCall 7 A2 c3 129 calls4, cR encRowsValue 3 A5 c6 167 values7, cR encSpan 2 g.1 g.2 176 res] ++ T) w') := by
  refine W.enter (n := 56) Try.func81 rfl rfl Sub.refl (by simp) hw fun R hR => ?_
  unfold rows_log_stays at hF
  refine W.seqR fun Q1 hQ1 => ?_
  refine WL.q (Y.assign (.pl rfl)) rfl ?_
  refine WL.next hQ1 (.cons (i := 0) rfl (.nil)) ?_
  refine W.seqR fun Q2 hQ2 => ?_
  refine WL.q (Y.assign (.pl rfl)) rfl ?_
  refine WL.next hQ2 (.cons (i := 0) rfl (.cons (i := 3) rfl (.nil))) ?_
  obtain ⟨o3, hF3, hF⟩ := bnd hF
  refine W.join3 (Em := fun (out10 : (List Span)) (A8 : Option Addr) (c9 : Nat) => [(3, .slice A8 (out10).length c9)]) (M := fun out10 A8 c9 => ([cBx b1 163 (Value.slice A2 (calls4).length c3 :: (Value.slice A5 (values7).length c6 :: [])), cR encCall 7 A2 c3 129 calls4, cR encRowsValue 3 A5 c6 167 values7, cR encSpan 2 A8 c9 176 out10] ++ T)) (I := fun out10 A8 c9 => out10 = o3) (.nil) (fun K4 hK4 => ?_) ?_
  · -- up to
    refine W.seqR fun Q5 hQ5 => ?_
    refine WL.q (Y.move (.pl rfl)) rfl ?_
    refine WL.q (Y.nilCheck (.pl rfl)) rfl ?_
    refine WL.q (Y.fieldAddr0 (off := 1) (ft := 161) Try.underlying163 rfl cells161 (.pl rfl)) rfl ?_
    refine WL.q (Y.loadB (v := .slice A5 (values7).length c6) Try.underlying161 rfl (.pl rfl) (i := 0) rfl (rfl)) rfl ?_
    refine WL.q (Y.len Try.underlying161 (.pl rfl)) rfl ?_
    refine WL.q (Y.move (.pl rfl)) rfl ?_
    refine WL.next hQ5 (.cons (i := 0) rfl (.cons (i := 3) rfl (.cons (i := 10) rfl (.cons (i := 11) rfl (.cons (i := 12) rfl (.nil)))))) ?_
    refine W.block ?_
    refine W.loop4 (Em := fun (out13 : (List Span)) (v14 : Int) (A11 : Option Addr) (c12 : Nat) => [(3, .slice A11 (out13).length c12), (12, .int .i64 v14)]) (M := fun out13 v14 A11 c12 => ([cBx b1 163 (Value.slice A2 (calls4).length c3 :: (Value.slice A5 (values7).length c6 :: [])), cR encCall 7 A2 c3 129 calls4, cR encRowsValue 3 A5 c6 167 values7, cR encSpan 2 A11 c12 176 out13] ++ T)) (I := fun out13 v14 A11 c12 k6 => iter (rows_log_stays_L3 N values7 calls4) k6 (out13, v14) = some o3) [] 0 none 0 N (hF3) (.cons rfl (.cons rfl (.nil))) (.cons (i := 0) rfl (.cons (i := 10) rfl (.cons (i := 11) rfl (.nil)))) (fun wz hw => (St.nilR (hw.pickK 3 [0, 1, 2] rfl) encSpan 2 176).pickK 4 [1, 2, 3, 0] rfl) (fun out13 v14 A11 c12 k6 hI K7 hK7 => ?_)
    obtain ⟨k6, t6, rfl, hF6, hN6⟩ := iter_step hI
    refine W.seqR fun Q8 hQ8 => ?_
    refine WL.q (Y.lss (.pl rfl) (.pl rfl)) rfl ?_
    refine WL.next hQ8 (.cons (i := 0) rfl (.cons (i := 3) rfl (.cons (i := 10) rfl (.cons (i := 11) rfl (.cons (i := 12) rfl (.cons (i := 13) rfl (.nil))))))) ?_
    refine W.seq fun K9 hK9 => ?_
    refine W.cond (.pl rfl) (fun hC10 => ?_) (fun hC10 => ?_)
    · replace hF6 := cpos hC10 hF6
      refine W.skip ?_
      refine W.go hK9 (.cons (i := 0) rfl (.cons (i := 3) rfl (.cons (i := 10) rfl (.cons (i := 11) rfl (.cons (i := 12) rfl (.nil)))))) ?_
      refine W.seq fun K11 hK11 => ?_
      refine W.block ?_
      refine W.seqR fun Q12 hQ12 => ?_
      obtain ⟨x15, hx15, hF6⟩ := bnd hF6
      refine WL.q (Y.rowEl Try.underlying161 cells167 (i := 2) rfl (.pl rfl) rfl (.pl rfl) (ix_lt (hx15))) rfl ?_
      refine WL.q (Y.loadRA (enc := encRowsValue) (ds := (encRowsValue x15)) (a := x15) (idx := v14) (j := 0) Try.underlying167 rfl cells167 lenRowsValue (i := 2) rfl (.pl rfl) (ix_get (hx15)) rfl rfl subW) rfl ?_
      refine WL.step (WO.alloc (cs := (encRowsValue (RowsValue.mk 0 0 0)).toArray) zero167 rfl rfl fun b16 => ?_)
      refine WL.step (WO.storeBA (ds := (encRowsValue x15)) (cs' := (encRowsValue x15)) cells167 (.pl rfl) (.pl rfl) rfl (oneRowsValue _) (i := 0) rfl (lel (o := 0) (l := 3) (m := 3) (by decide) rfl rfl) (putW rfl) ?_)
      refine WL.next hQ12 (.cons (i := 0) rfl (.cons (i := 3) rfl (.cons (i := 5) rfl (.cons (i := 10) rfl (.cons (i := 11) rfl (.cons (i := 12) rfl (.nil))))))) ?_
      refine W.seqX 11 (by kernel_rfl) fun K13 hK13 => ?_
      refine WX.pure 0 #[true, false, false, false, false, false, false, false, false, false, false, false] rfl (by kernel_rfl) (fun _ _ => Y.move (.pl rfl)) rfl ?_
      refine WX.pure 1 #[true, true, false, false, false, false, false, false, false, false, false, false] rfl (by kernel_rfl) (fun _ _ => Y.nilCheck (.pl rfl)) rfl ?_
      refine WX.pure 2 #[true, true, true, false, false, false, false, false, false, false, false, false] rfl (by kernel_rfl) (fun _ _ => Y.fieldAddr0 (off := 0) (ft := 35) Try.underlying163 rfl cells35 (.pl rfl)) rfl ?_
      refine WX.take 3 #[true, true, true, true, false, false, false, false, false, false, false, false] (fun wz hw => St.tail [] hw) rfl (by kernel_rfl) (Y.loadB (v := .slice A2 (calls4).length c3) Try.underlying35 rfl (.pl rfl) (i := 1) rfl (rfl)) rfl ?_
      refine WX.pure 4 #[true, true, true, true, true, false, false, false, false, false, false, false] rfl (by kernel_rfl) (fun _ _ => Y.fieldAddr0 (off := 1) (ft := 3) Try.underlying167 rfl cells3 (.pl rfl)) rfl ?_
      refine WX.take 5 #[true, true, true, true, true, true, false, false, false, false, false, false] (fun wz hw => St.tail [] hw) rfl (by kernel_rfl) (Y.loadB (v := .int .i64 x15.enq) Try.underlying3 rfl (.pl rfl) (i := 0) rfl (rfl)) rfl ?_
      obtain ⟨x17, hx17, hF6⟩ := bnd hF6
      refine WX.take 6 #[true, true, true, true, true, true, true, false, false, false, false, false] (fun wz hw => St.tail [] hw) rfl (by kernel_rfl) (Y.rowEl Try.underlying35 cells129 (i := 2) rfl (.pl rfl) rfl (.pl rfl) (ix_lt (hx17))) rfl ?_
      refine WX.take 7 #[true, true, true, true, true, true, true, true, false, false, false, false] (fun wz hw => St.tail [] hw) rfl (by kernel_rfl) (Y.rowField (off := 6) (ft := 3) Try.underlying129 rfl cells3 (i' := 2) rfl (ix_lt (hx17)) (.pl rfl)) rfl ?_
      refine WX.take 8 #[true, true, true, true, true, true, true, true, true, false, false, false] (fun wz hw => St.tail [] hw) rfl (by kernel_rfl) (Y.loadR (enc := encCall) (v := .int .i64 x17.to_) (a := x17) (idx := x15.enq) (j := 6) Try.underlying3 rfl lenCall (i := 2) rfl (.pl rfl) (ix_get (hx17)) rfl rfl) rfl ?_
      refine WX.pure 9 #[true, true, true, true, true, true, true, true, true, true, false, false] rfl (by kernel_rfl) (fun _ _ => Y.build (cs := (encSpan (Span.mk x17.to_ 199)).toArray) shape176 (.cons (.pl rfl) (.cons (.pl rfl) (.nil))) (one_parts ⟨rfl, ⟨rfl, trivial⟩⟩) rfl) rfl ?_
      refine WX.one 10 #[true, true, true, true, true, true, true, true, true, true, true, false] (fun wz hw => St.tail [] hw) rfl (by kernel_rfl) (WO.alloc (cs := (encSpan (Span.mk 0 0)).toArray) zero176 rfl rfl fun b18 => ?_)
      refine WX.stop #[true, true, true, true, true, true, true, true, true, true, true, true] (fun wz hw => St.tail [_] hw) rfl (by kernel_rfl) (WO.storeBA (ds := (encSpan (Span.mk x17.to_ 199))) (cs' := (encSpan (Span.mk x17.to_ 199))) cells176 (.pl rfl) (.pl rfl) rfl (oneSpan _) (i := 0) rfl (lel (o := 0) (l := 2) (m := 2) (by decide) rfl rfl) (putW rfl) ?_)
      refine WA.done (by kernel_rfl) ?_
      refine KK.next hK13 (.cons (i := 0) rfl (.cons (i := 3) rfl (.cons (i := 5) rfl (.cons (i := 6) rfl (.cons (i := 10) rfl (.cons (i := 11) rfl (.cons (i := 12) rfl (.nil)))))))) ?_
      obtain ⟨o14, hF14, hF6⟩ := bnd hF6
      refine W.join1 (Em := fun (To19 : Int) => []) (M := fun To19 => ([cBx b1 163 (Value.slice A2 (calls4).length c3 :: (Value.slice A5 (values7).length c6 :: [])), cR encCall 7 A2 c3 129 calls4, cR encRowsValue 3 A5 c6 167 values7, cR encSpan 2 A11 c12 176 out13, cBx b18 176 (encSpan (Span.mk x17.to_ To19))] ++ T)) (I := fun To19 => To19 = o14) (.cons (i := 0) rfl (.cons (i := 3) rfl (.cons (i := 6) rfl (.cons (i := 10) rfl (.cons (i := 11) rfl (.cons (i := 12) rfl (.nil))))))) (fun K15 hK15 => ?_) ?_
      · -- up to
        refine W.seqR fun Q16 hQ16 => ?_
        refine WL.q (Y.fieldAddr0 (off := 2) (ft := 3) Try.underlying167 rfl cells3 (.pl rfl)) rfl ?_
        refine WL.q (Y.loadB (v := .int .i64 x15.deq) Try.underlying3 rfl (.pl rfl) (i := 1) rfl (rfl)) rfl ?_
        refine WL.q (Y.geq (.pl rfl) (.pl rfl)) rfl ?_
        refine WL.next hQ16 (.cons (i := 0) rfl (.cons (i := 3) rfl (.cons (i := 5) rfl (.cons (i := 6) rfl (.cons (i := 10) rfl (.cons (i := 11) rfl (.cons (i := 12) rfl (.cons (i := 28) rfl (.nil))))))))) ?_
        refine W.cond (.pl rfl) (fun hC17 => ?_) (fun hC17 => ?_)
        · replace hF14 := cpos hC17 hF14
          refine W.regT 11 (by kernel_rfl) (by kernel_rfl) ?_
          refine WS.q (Y.move (.pl rfl)) rfl ?_
          refine WS.q (Y.nilCheck (.pl rfl)) rfl ?_
          refine WS.q (Y.fieldAddr0 (off := 0) (ft := 35) Try.underlying163 rfl cells35 (.pl rfl)) rfl ?_
          refine WS.q (Y.loadB (v := .slice A2 (calls4).length c3) Try.underlying35 rfl (.pl rfl) (i := 2) rfl (rfl)) rfl ?_
          refine WS.q (Y.fieldAddr0 (off := 2) (ft := 3) Try.underlying167 rfl cells3 (.pl rfl)) rfl ?_
          refine WS.q (Y.loadB (v := .int .i64 x15.deq) Try.underlying3 rfl (.pl rfl) (i := 1) rfl (rfl)) rfl ?_
          obtain ⟨x20, hx20, hF14⟩ := bnd hF14
          refine WS.q (Y.rowEl Try.underlying35 cells129 (i := 3) rfl (.pl rfl) rfl (.pl rfl) (ix_lt (hx20))) rfl ?_
          refine WS.q (Y.rowField (off := 5) (ft := 3) Try.underlying129 rfl cells3 (i' := 3) rfl (ix_lt (hx20)) (.pl rfl)) rfl ?_
          refine WS.q (Y.loadR (enc := encCall) (v := .int .i64 x20.from_) (a := x20) (idx := x15.deq) (j := 5) Try.underlying3 rfl lenCall (i := 3) rfl (.pl rfl) (ix_get (hx20)) rfl rfl) rfl ?_
          obtain ⟨hk21, hF14⟩ := ckh hF14
          refine WS.q (Y.sub (.pl rfl) (.pl rfl) (ok64_lt (hk21))) rfl ?_
          refine WS.q (Y.fieldAddr0 (off := 1) (ft := 3) Try.underlying176 rfl cells3 (.pl rfl)) rfl ?_
          refine WS.tail ?_
          refine WL.step (WO.storeB (cs' := (encSpan (Span.mk x17.to_ (x20.from_ - 1)))) cells3 (.pl rfl) (.pl rfl) rfl (i := 0) rfl (ltl (m := 2) (by decide) rfl) (rfl) ?_)
          refine WL.nil ?_
          exact W.joinAt1 hK15 (x20.from_ - 1) (Option.some.inj hF14) (.nil) (.cons (i := 0) rfl (.cons (i := 3) rfl (.cons (i := 6) rfl (.cons (i := 10) rfl (.cons (i := 11) rfl (.cons (i := 12) rfl (.nil))))))) (fun wz hw => hw.pickK 6 [2, 3, 4, 5, 0] rfl)
        · replace hF14 := cneg hC17 hF14
          refine W.skip ?_
          exact W.joinAt1 hK15 199 (Option.some.inj hF14) (.nil) (.cons (i := 0) rfl (.cons (i := 3) rfl (.cons (i := 6) rfl (.cons (i := 10) rfl (.cons (i := 11) rfl (.cons (i := 12) rfl (.nil))))))) (fun wz hw => hw.pickK 6 [2, 3, 4, 5, 0] rfl)
      · -- behind
        rintro To19 rfl
        refine W.seqR fun Q19 hQ19 => ?_
        refine WL.q (Y.fieldAddr0 (off := 0) (ft := 3) Try.underlying176 rfl cells3 (.pl rfl)) rfl ?_
        refine WL.q (Y.loadB (v := .int .i64 x17.to_) Try.underlying3 rfl (.pl rfl) (i := 4) rfl (rfl)) rfl ?_
        refine WL.q (Y.neq (.pl rfl) (.pl rfl)) rfl ?_
        refine WL.q (Y.move (.pl rfl)) rfl ?_
        refine WL.g (.pl rfl rfl rfl) (fun hg => Y.fieldAddr0 (off := 0) (ft := 3) Try.underlying176 rfl cells3 (.pl rfl)) rfl ?_
        refine WL.g (.pl rfl rfl rfl) (fun hg => Y.loadB (v := .int .i64 x17.to_) Try.underlying3 rfl (.gd (hg) rfl) (i := 4) rfl (rfl)) rfl ?_
        refine WL.g (.pl rfl rfl rfl) (fun hg => Y.fieldAddr0 (off := 1) (ft := 3) Try.underlying176 rfl cells3 (.pl rfl)) rfl ?_
        refine WL.g (.pl rfl rfl rfl) (fun hg => Y.loadB (v := .int .i64 To19) Try.underlying3 rfl (.gd (hg) rfl) (i := 4) rfl (rfl)) rfl ?_
        refine WL.g (.pl rfl rfl rfl) (fun hg => Y.leq (.gd (hg) rfl) (.gd (hg) rfl)) rfl ?_
        refine WL.q (Y.and (.pl rfl) (fun h2 => .gd (eqt h2) rfl)) rfl ?_
        refine WL.next hQ19 (.cons (i := 0) rfl (.cons (i := 3) rfl (.cons (i := 6) rfl (.cons (i := 10) rfl (.cons (i := 11) rfl (.cons (i := 12) rfl (.cons (i := 49) rfl (.nil)))))))) ?_
        refine W.cond (.pl rfl) (fun hC20 => ?_) (fun hC20 => ?_)
        · replace hF6 := cpos hC20 hF6
          refine W.reg ?_
          refine WL.q (Y.move (.pl rfl)) rfl ?_
          refine WL.q (Y.loadBA (ds := (encSpan (Span.mk x17.to_ To19))) Try.underlying176 rfl cells176 (.pl rfl) (i := 4) rfl rfl subW) rfl ?_
          refine WL.step (WO.bsliceC (enc := encSpan) (ys := ([(Span.mk x17.to_ To19)] : List Span)) Try.underlying172 bz176 (.cons (.pl rfl) (.nil)) rfl lenSpan rfl rfl (by decide) (by decide) rfl fun b22 => ?_)
          obtain ⟨hk25, hF6⟩ := ckh hF6
          refine WL.step (WO.appendC (enc := encSpan) Try.underlying172 ap176 lenSpan oneSpan (.pl rfl) rfl (.pl rfl) (i := 4) rfl (m2 := 0) rfl (hk25) rfl fun A23 c24 => ?_)
          refine WL.q (Y.assign (.pl rfl)) rfl ?_
          refine WL.nil ?_
          refine W.go hK11 (.cons (i := 0) rfl (.cons (i := 3) rfl (.cons (i := 10) rfl (.cons (i := 11) rfl (.cons (i := 12) rfl (.nil)))))) ?_
          refine W.reg ?_
          obtain ⟨hk26, hF6⟩ := ckh hF6
          refine WL.q (Y.add (.pl rfl) (.pl rfl) (ok64_lt (hk26))) rfl ?_
          refine WL.q (Y.move (.pl rfl)) rfl ?_
          refine WL.nil ?_
          obtain rfl := Option.some.inj hF6
          exact W.again4 hK7 (out13 ++ ([(Span.mk x17.to_ To19)] : List Span)) (v14 + 1) A23 c24 k6 hN6 (Nat.lt_succ_self _) (.cons rfl (.cons rfl (.nil))) (.cons (i := 0) rfl (.cons (i := 10) rfl (.cons (i := 11) rfl (.nil)))) (fun wz hw => hw.pickK 6 [1, 2, 3, 4] rfl)
        · replace hF6 := cneg hC20 hF6
          refine W.skip ?_
          refine W.go hK11 (.cons (i := 0) rfl (.cons (i := 3) rfl (.cons (i := 10) rfl (.cons (i := 11) rfl (.cons (i := 12) rfl (.nil)))))) ?_
          refine W.reg ?_
          obtain ⟨hk27, hF6⟩ := ckh hF6
          refine WL.q (Y.add (.pl rfl) (.pl rfl) (ok64_lt (hk27))) rfl ?_
          refine WL.q (Y.move (.pl rfl)) rfl ?_
          refine WL.nil ?_
          obtain rfl := Option.some.inj hF6
          exact W.again4 hK7 out13 (v14 + 1) A11 c12 k6 hN6 (Nat.lt_succ_self _) (.cons rfl (.cons rfl (.nil))) (.cons (i := 0) rfl (.cons (i := 10) rfl (.cons (i := 11) rfl (.nil)))) (fun wz hw => hw.pickK 5 [0, 1, 2, 3] rfl)
    · replace hF6 := cneg hC10 hF6
      refine W.exit ?_
      obtain rfl := Option.some.inj hF6
      exact W.joinAt3 hK4 out13 A11 c12 (einr hN6) (.cons rfl (.nil)) (.nil) (fun wz hw => hw.pickK 4 [0, 1, 2, 3] rfl)
  · -- behind
    rintro out10 A8 c9 rfl
    refine W.seqR fun Q24 hQ24 => ?_
    refine WL.q (Y.move (.pl rfl)) rfl ?_
    refine WL.q (Y.assign (.pl rfl)) rfl ?_
    refine WL.next hQ24 (.cons (i := 2) rfl (.nil)) ?_
    obtain rfl := Option.some.inj hF
    refine W.retV (fn := Try.f81) (vs := [.slice A8 (out10).length c9]) Try.results81 ⟨.tmp rfl, trivial⟩ (fun _ _ h => h) (fun wz hw => ?_)
    exact hR _ _ ⟨(A8, c9), trivial, rfl, (hw.pickK 4 [0, 1, 2, 3] rfl)⟩

def rows_log_empty_1 (N : Nat) (s1 : Span) (a3 : Int) : Option Unit :=
  some ()

theorem rows_log_empty_1_ok {N : Nat} {s1 : Span} {a3 : Int} {b2 : Nat} {res : Unit} (hF : rows_log_empty_1 N s1 a3 = some res) {w0 w : World} {T : List Chunk} (hw : St w0.heap.size w0 ([cBx b2 3 [.int .i64 a3]] ++ T) w) :
    Calls Try.prog 83 (List.toArray [.agg (encSpan s1).toArray, .pointer (some ⟨b2, 0, none⟩)]) w (fun e w' => ∃ g : Unit, (True) ∧ e = .returned (.bool ((decide (s1.from_ ≤ a3)) && (decide (a3 ≤ s1.to_)))) ∧ St w0.heap.size w0 ([cBx b2 3 [.int .i64 a3]] ++ T) w') := by
  refine W.enter (n := 14) Try.func83 rfl rfl Sub.refl (by simp) hw fun R hR => ?_
  unfold rows_log_empty_1 at hF
  refine W.seqR fun Q1 hQ1 => ?_
  refine WL.step (WO.boxA (.pl rfl) rfl fun b4 => ?_)
  refine WL.q (Y.assign (.pl rfl)) rfl ?_
  refine WL.next hQ1 (.cons (i := 1) rfl (.cons (i := 2) rfl (.nil))) ?_
  refine W.seqR fun Q2 hQ2 => ?_
  refine WL.q (Y.fieldAddr0 (off := 0) (ft := 3) Try.underlying176 rfl cells3 (.pl rfl)) rfl ?_
  refine WL.q (Y.loadB (v := .int .i64 s1.from_) Try.underlying3 rfl (.pl rfl) (i := 0) rfl (rfl)) rfl ?_
  refine WL.q (Y.loadB (v := .int .i64 a3) Try.underlying3 rfl (.pl rfl) (i := 1) rfl (rfl)) rfl ?_
  refine WL.q (Y.leq (.pl rfl) (.pl rfl)) rfl ?_
  refine WL.q (Y.move (.pl rfl)) rfl ?_
  refine WL.g (.pl rfl rfl rfl) (fun hg => Y.loadB (v := .int .i64 a3) Try.underlying3 rfl (.pl rfl) (i := 1) rfl (rfl)) rfl ?_
  refine WL.g (.pl rfl rfl rfl) (fun hg => Y.fieldAddr0 (off := 1) (ft := 3) Try.underlying176 rfl cells3 (.pl rfl)) rfl ?_
  refine WL.g (.pl rfl rfl rfl) (fun hg => Y.loadB (v := .int .i64 s1.to_) Try.underlying3 rfl (.gd (hg) rfl) (i := 0) rfl (rfl)) rfl ?_
  refine WL.g (.pl rfl rfl rfl) (fun hg => Y.leq (.gd (hg) rfl) (.gd (hg) rfl)) rfl ?_
  refine WL.q (Y.and (.pl rfl) (fun h2 => .gd (eqt h2) rfl)) rfl ?_
  refine WL.q (Y.assign (.pl rfl)) rfl ?_
  refine WL.next hQ2 (.cons (i := 3) rfl (.nil)) ?_
  obtain rfl := Option.some.inj hF
  refine W.retV (fn := Try.f83) (vs := [.bool ((decide (s1.from_ ≤ a3)) && (decide (a3 ≤ s1.to_)))]) Try.results83 ⟨.tmp rfl, trivial⟩ (fun _ _ h => h) (fun wz hw => ?_)
  exact hR _ _ ⟨(), trivial, rfl, (hw.pickK 2 [1] rfl)⟩

def slices_IndexFunc_api_Span_api_Span_L3 (N : Nat) (s3 : (List Span)) (c5 : Int) : Int → Option (Int ⊕ (Unit ⊕ Int))
  | v6 =>
    cond (decide (v6 < ((s3).length : Int)))
      (bd (ix s3 v6) fun (x7 : Span) =>
      bd (rows_log_empty_1 N x7 c5) fun (r8 : Unit) =>
      cond ((decide (x7.from_ ≤ c5)) && (decide (c5 ≤ x7.to_)))
        (some (.inr (.inr v6)))
        (ck (ok64 (v6 + 1)) <|
        some (.inl (v6 + 1))))
      (some (.inr (.inl ())))

def slices_IndexFunc_api_Span_api_Span (N : Nat) (s3 : (List Span)) (c5 : Int) : Option Int :=
  bd (α := (Unit ⊕ Int)) (iter (slices_IndexFunc_api_Span_api_Span_L3 N s3 c5) N 0) <|
  Sum.elim (fun _ => 
    some (-1)) (fun p => some p)

theorem slices_IndexFunc_api_Span_api_Span_ok {N : Nat} {s3 : (List Span)} {c5 : Int} {A1 : Option Addr} {c2 : Nat} {b4 : Nat} {res : Int} (hF : slices_IndexFunc_api_Span_api_Span N s3 c5 = some res) {w0 w : World} {T : List Chunk} (hw : St w0.heap.size w0 ([cR encSpan 2 A1 c2 176 s3, cBx b4 3 [.int .i64 c5]] ++ T) w) :
    Calls Try.prog 103 (List.toArray [.slice A1 (s3).length c2, .func (.func 83) #[] #[.pointer (some ⟨b4, 0, none⟩)]]) w (fun e w' => ∃ g : Unit, (True) ∧ e = .returned (.int .i64 res) ∧ St w0.heap.size w0 ([cR encSpan 2 A1 c2 176 s3, cBx b4 3 [.int .i64 c5]] ++ T) w') := by
  refine W.enter (n := 19) Try.func103 rfl rfl Sub.refl (by simp) hw fun R hR => ?_
  unfold slices_IndexFunc_api_Span_api_Span at hF
  refine W.seqR fun Q1 hQ1 => ?_
  refine WL.q (Y.assign (.pl rfl)) rfl ?_
  refine WL.next hQ1 (.cons (i := 0) rfl (.cons (i := 1) rfl (.nil))) ?_
  obtain ⟨o2, hF2, hF⟩ := bnd hF
  refine W.join0 (Em := []) (M := ([cR encSpan 2 A1 c2 176 s3, cBx b4 3 [.int .i64 c5]] ++ T)) (I := (.inl ()) = o2) (.nil) (fun K3 hK3 => ?_) ?_
  · -- up to
    refine W.seqR fun Q4 hQ4 => ?_
    refine WL.q (Y.move (.pl rfl)) rfl ?_
    refine WL.q (Y.len Try.underlying172 (.pl rfl)) rfl ?_
    refine WL.q (Y.move (.pl rfl)) rfl ?_
    refine WL.next hQ4 (.cons (i := 0) rfl (.cons (i := 1) rfl (.cons (i := 7) rfl (.cons (i := 8) rfl (.nil))))) ?_
    refine W.block ?_
    refine W.loop1 (Em := fun (v6 : Int) => [(8, .int .i64 v6)]) (M := fun v6 => ([cR encSpan 2 A1 c2 176 s3, cBx b4 3 [.int .i64 c5]] ++ T)) (I := fun v6 k5 => iter (slices_IndexFunc_api_Span_api_Span_L3 N s3 c5) k5 v6 = some o2) 0 N (hF2) (.cons rfl (.nil)) (.cons (i := 0) rfl (.cons (i := 1) rfl (.cons (i := 7) rfl (.nil)))) (fun wz hw => hw.pickK 2 [0, 1] rfl) (fun v6 k5 hI K6 hK6 => ?_)
    obtain ⟨k5, t5, rfl, hF5, hN5⟩ := iter_step hI
    refine W.seqR fun Q7 hQ7 => ?_
    refine WL.q (Y.lss (.pl rfl) (.pl rfl)) rfl ?_
    refine WL.next hQ7 (.cons (i := 0) rfl (.cons (i := 1) rfl (.cons (i := 7) rfl (.cons (i := 8) rfl (.cons (i := 9) rfl (.nil)))))) ?_
    refine W.seq fun K8 hK8 => ?_
    refine W.cond (.pl rfl) (fun hC9 => ?_) (fun hC9 => ?_)
    · replace hF5 := cpos hC9 hF5
      refine W.skip ?_
      refine W.go hK8 (.cons (i := 0) rfl (.cons (i := 1) rfl (.cons (i := 7) rfl (.cons (i := 8) rfl (.nil))))) ?_
      refine W.seq fun K10 hK10 => ?_
      refine W.block ?_
      refine W.seqR fun Q11 hQ11 => ?_
      refine WL.q (Y.move (.pl rfl)) rfl ?_
      refine WL.q (Y.assign (.pl rfl)) rfl ?_
      refine WL.next hQ11 (.cons (i := 0) rfl (.cons (i := 1) rfl (.cons (i := 5) rfl (.cons (i := 7) rfl (.cons (i := 8) rfl (.nil)))))) ?_
      refine W.seqR fun Q12 hQ12 => ?_
      refine WL.q (Y.move (.pl rfl)) rfl ?_
      refine WL.q (Y.move (.pl rfl)) rfl ?_
      refine WL.q (Y.move (.pl rfl)) rfl ?_
      obtain ⟨x7, hx7, hF5⟩ := bnd hF5
      refine WL.q (Y.rowEl Try.underlying172 cells176 (i := 0) rfl (.pl rfl) rfl (.pl rfl) (ix_lt (hx7))) rfl ?_
      refine WL.q (Y.loadRA (enc := encSpan) (ds := (encSpan x7)) (a := x7) (idx := v6) (j := 0) Try.underlying176 rfl cells176 lenSpan (i := 0) rfl (.pl rfl) (ix_get (hx7)) rfl rfl subW) rfl ?_
      obtain ⟨r8, hr8, hF5⟩ := bnd hF5
      refine WL.step (WO.callG (γ := Unit) (first := []) (cap := [.pointer (some ⟨b4, 0, none⟩)]) (fun g => .bool ((decide (x7.from_ ≤ c5)) && (decide (c5 ≤ x7.to_)))) (fun g => ([cBx b4 3 [.int .i64 c5], cR encSpan 2 A1 c2 176 s3] ++ T)) (fun g => True) isGo83 (.pl rfl) (.cons (.pl rfl) (.nil)) rfl (fun wz hw => (by have h := rows_log_empty_1_ok (T := ([cR encSpan 2 A1 c2 176 s3] ++ T)) (b2 := b4) (hr8) (hw.pickK 2 [1, 0] rfl) ; unfold Calls at h ⊢; intro cs; obtain ⟨e, w2, fr, h1, h2⟩ := h cs; exact ⟨e, w2, fr, h1, h2⟩)) ?_)
      rintro _ -
      refine WL.next hQ12 (.cons (i := 0) rfl (.cons (i := 1) rfl (.cons (i := 5) rfl (.cons (i := 7) rfl (.cons (i := 8) rfl (.cons (i := 16) rfl (.nil))))))) ?_
      refine W.cond (.pl rfl) (fun hC13 => ?_) (fun hC13 => ?_)
      · replace hF5 := cpos hC13 hF5
        refine W.seqR fun Q14 hQ14 => ?_
        refine WL.q (Y.move (.pl rfl)) rfl ?_
        refine WL.q (Y.assign (.pl rfl)) rfl ?_
        refine WL.next hQ14 (.cons (i := 4) rfl (.nil)) ?_
        obtain rfl := Option.some.inj hF5
        obtain rfl := einr hN5
        obtain rfl := Option.some.inj hF
        refine W.retV (fn := Try.f103) (vs := [.int .i64 v6]) Try.results103 ⟨.tmp rfl, trivial⟩ (fun _ _ h => h) (fun wz hw => ?_)
        exact hR _ _ ⟨(), trivial, rfl, (hw.pickK 2 [1, 0] rfl)⟩
      · replace hF5 := cneg hC13 hF5
        refine W.skip ?_
        refine W.go hK10 (.cons (i := 0) rfl (.cons (i := 1) rfl (.cons (i := 7) rfl (.cons (i := 8) rfl (.nil))))) ?_
        refine W.reg ?_
        obtain ⟨hk9, hF5⟩ := ckh hF5
        refine WL.q (Y.add (.pl rfl) (.pl rfl) (ok64_lt (hk9))) rfl ?_
        refine WL.q (Y.move (.pl rfl)) rfl ?_
        refine WL.nil ?_
        obtain rfl := Option.some.inj hF5
        exact W.again1 hK6 (v6 + 1) k5 hN5 (Nat.lt_succ_self _) (.cons rfl (.nil)) (.cons (i := 0) rfl (.cons (i := 1) rfl (.cons (i := 7) rfl (.nil)))) (fun wz hw => hw.pickK 2 [1, 0] rfl)
    · replace hF5 := cneg hC9 hF5
      refine W.exit ?_
      obtain rfl := Option.some.inj hF5
      exact W.joinAt0 hK3  (einr hN5) (.nil) (.nil) (fun wz hw => hw.pickK 2 [0, 1] rfl)
  · -- behind
    rintro  rfl
    refine W.seqR fun Q16 hQ16 => ?_
    refine WL.q (Y.assign (.pl rfl)) rfl ?_
    refine WL.next hQ16 (.cons (i := 4) rfl (.nil)) ?_
    obtain rfl := Option.some.inj hF
    refine W.retV (fn := Try.f103) (vs := [.int .i64 (-1)]) Try.results103 ⟨.tmp rfl, trivial⟩ (fun _ _ h => h) (fun wz hw => ?_)
    exact hR _ _ ⟨(), trivial, rfl, (hw.pickK 2 [0, 1] rfl)⟩

def slices_ContainsFunc_api_Span_api_Span (N : Nat) (s3 : (List Span)) (c5 : Int) : Option Bool :=
  bd (slices_IndexFunc_api_Span_api_Span N s3 c5) fun (r6 : Int) =>
  some (decide (0 ≤ r6))

theorem slices_ContainsFunc_api_Span_api_Span_ok {N : Nat} {s3 : (List Span)} {c5 : Int} {A1 : Option Addr} {c2 : Nat} {b4 : Nat} {res : Bool} (hF : slices_ContainsFunc_api_Span_api_Span N s3 c5 = some res) {w0 w : World} {T : List Chunk} (hw : St w0.heap.size w0 ([cR encSpan 2 A1 c2 176 s3, cBx b4 3 [.int .i64 c5]] ++ T) w) :
    Calls Try.prog 82 (List.toArray [.slice A1 (s3).length c2, .func (.func 83) #[] #[.pointer (some ⟨b4, 0, none⟩)]]) w (fun e w' => ∃ g : Unit, (True) ∧ e = .returned (.bool res) ∧ St w0.heap.size w0 ([cR encSpan 2 A1 c2 176 s3, cBx b4 3 [.int .i64 c5]] ++ T) w') := by
  refine W.enter (n := 9) Try.func82 rfl rfl Sub.refl (by simp) hw fun R hR => ?_
  unfold slices_ContainsFunc_api_Span_api_Span at hF
  refine W.seqR fun Q1 hQ1 => ?_
  refine WL.q (Y.assign (.pl rfl)) rfl ?_
  refine WL.next hQ1 (.cons (i := 0) rfl (.cons (i := 1) rfl (.nil))) ?_
  refine W.seqR fun Q2 hQ2 => ?_
  refine WL.q (Y.move (.pl rfl)) rfl ?_
  refine WL.q (Y.move (.pl rfl)) rfl ?_
  obtain ⟨r6, hr6, hF⟩ := bnd hF
  refine WL.step (WO.call (γ := Unit) (fun g => .int .i64 r6) (fun g => ([cR encSpan 2 A1 c2 176 s3, cBx b4 3 [.int .i64 c5]] ++ T)) (fun g => True) isGo103 (.cons (.pl rfl) (.cons (.pl rfl) (.nil))) rfl (fun wz hw => slices_IndexFunc_api_Span_api_Span_ok (T := ([] ++ T)) (hr6) (hw.pickK 2 [0, 1] rfl) ) ?_)
  rintro _ -
  refine WL.q (Y.geq (.pl rfl) (.pl rfl)) rfl ?_
  refine WL.q (Y.assign (.pl rfl)) rfl ?_
  refine WL.next hQ2 (.cons (i := 4) rfl (.nil)) ?_
  obtain rfl := Option.some.inj hF
  refine W.retV (fn := Try.f82) (vs := [.bool (decide (0 ≤ r6))]) Try.results82 ⟨.tmp rfl, trivial⟩ (fun _ _ h => h) (fun wz hw => ?_)
  exact hR _ _ ⟨(), trivial, rfl, (hw.pickK 2 [0, 1] rfl)⟩

def rows_log_empty_L51 (N : Nat) (x13 : Call) (r9 : (List Span)) : (Bool × Int) → Option ((Bool × Int) ⊕ Bool)
  | (always17, t19) =>
    cond (decide (t19 < x13.to_))
      (cond (always17 == true)
        (bd (slices_ContainsFunc_api_Span_api_Span N r9 t19) fun (r20 : Bool) =>
        ck (ok64 (t19 + 1)) <|
        some (.inl ((always17 && r20), (t19 + 1))))
        (ck (ok64 (t19 + 1)) <|
        some (.inl ((always17 && false), (t19 + 1)))))
      (some (.inr always17))

def rows_log_empty_L47 (N : Nat) (calls4 : (List Call)) (r9 : (List Span)) : Int → Option (Int ⊕ (Unit ⊕ (Int × Int)))
  | v12 =>
    cond (decide (v12 < ((calls4).length : Int)))
      (bd (α := (Unit ⊕ (Int × Int))) (bd (ix calls4 v12) fun (x13 : Call) =>
        cond ((!(decide (x13.kind = 4))) || (!(decide (x13.res = (-1)))))
          (some (.inl ()))
          (bd (α := Bool) (iter (rows_log_empty_L51 N x13 r9) N (true, x13.from_)) <|
          fun (always15 : Bool) => 
            cond always15
              (some (.inr (7, v12)))
              (some (.inl ())))) <|
      Sum.elim (fun _ => 
        ck (ok64 (v12 + 1)) <|
        some (.inl (v12 + 1))) (fun p => some (.inr (.inr p))))
      (some (.inr (.inl ())))

def rows_log_empty (N : Nat) (calls4 : (List Call)) (values7 : (List RowsValue)) : Option (Int × Int) :=
  bd (rows_log_stays N calls4 values7) fun (r9 : (List Span)) =>
  bd (α := (Unit ⊕ (Int × Int))) (iter (rows_log_empty_L47 N calls4 r9) N 0) <|
  Sum.elim (fun _ => 
    some (0, 0)) (fun p => some p)

theorem rows_log_empty_ok {N : Nat} {calls4 : (List Call)} {values7 : (List RowsValue)} {b1 : Nat} {A2 : Option Addr} {c3 : Nat} {A5 : Option Addr} {c6 : Nat} {res : (Int × Int)} (hF : rows_log_empty N calls4 values7 = some res) {w0 w : World} {T : List Chunk} (hw : St w0.heap.size w0 ([cBx b1 163 (Value.slice A2 (calls4).length c3 :: (Value.slice A5 (values7).length c6 :: [])), cR encCall 7 A2 c3 129 calls4, cR encRowsValue 3 A5 c6 167 values7] ++ T) w) :
    Calls Try.prog 58 (List.toArray [.pointer (some ⟨b1, 0, none⟩)]) w (fun e w' => ∃ g : Unit, (True) ∧ e = .returned (.agg (encBad (Bad.mk res.1 res.2 0)).toArray) ∧ St w0.heap.size w0 ([cBx b1 163 (Value.slice A2 (calls4).length c3 :: (Value.slice A5 (values7).length c6 :: [])), cR encCall 7 A2 c3 129 calls4, cR encRowsValue 3 A5 c6 167 values7] ++ T) w') := by
  refine W.enter (n := 48) Try.func58 rfl rfl Sub.refl (by simp) hw fun R hR => ?_
  unfold rows_log_empty at hF
  refine W.seqR fun Q1 hQ1 => ?_
  refine WL.step (WO.alloc (cs := (encBad (Bad.mk 0 0 0)).toArray) zero66 rfl rfl fun b8 => ?_)
  refine WL.next hQ1 (.cons (i := 0) rfl (.cons (i := 2) rfl (.nil))) ?_
  refine W.seqR fun Q2 hQ2 => ?_
  refine WL.q (Y.move (.pl rfl)) rfl ?_
  obtain ⟨r9, hr9, hF⟩ := bnd hF
  refine WL.step (WO.call (γ := (Option Addr × Nat)) (fun g => .slice g.1 (r9).length g.2) (fun g => ([cBx b1 163 (Value.slice A2 (calls4).length c3 :: (Value.slice A5 (values7).length c6 :: [])), cR encCall 7 A2 c3 129 calls4, cR encRowsValue 3 A5 c6 167 values7, cR encSpan 2 g.1 g.2 176 r9, cBx b8 66 (encBad (Bad.mk 0 0 0))] ++ T)) (fun g => True) isGo81 (.cons (.pl rfl) (.nil)) rfl (fun wz hw => rows_log_stays_ok (T := ([cBx b8 66 (encBad (Bad.mk 0 0 0))] ++ T)) (hr9) (hw.pickK 4 [1, 2, 3, 0] rfl) ) ?_)
  rintro ⟨A10, c11⟩ -
  refine WL.q (Y.assign (.pl rfl)) rfl ?_
  refine WL.next hQ2 (.cons (i := 0) rfl (.cons (i := 2) rfl (.cons (i := 3) rfl (.nil)))) ?_
  obtain ⟨o3, hF3, hF⟩ := bnd hF
  refine W.join0 (Em := []) (M := ([cBx b1 163 (Value.slice A2 (calls4).length c3 :: (Value.slice A5 (values7).length c6 :: [])), cR encCall 7 A2 c3 129 calls4, cR encRowsValue 3 A5 c6 167 values7, cBx b8 66 (encBad (Bad.mk 0 0 0))] ++ T)) (I := (.inl ()) = o3) (.cons (i := 2) rfl (.nil)) (fun K4 hK4 => ?_) ?_
  · -- up to
    refine W.seqR fun Q5 hQ5 => ?_
    refine WL.q (Y.move (.pl rfl)) rfl ?_
    refine WL.q (Y.nilCheck (.pl rfl)) rfl ?_
    refine WL.q (Y.fieldAddr0 (off := 0) (ft := 35) Try.underlying163 rfl cells35 (.pl rfl)) rfl ?_
    refine WL.q (Y.loadB (v := .slice A2 (calls4).length c3) Try.underlying35 rfl (.pl rfl) (i := 0) rfl (rfl)) rfl ?_
    refine WL.q (Y.len Try.underlying35 (.pl rfl)) rfl ?_
    refine WL.q (Y.move (.pl rfl)) rfl ?_
    refine WL.next hQ5 (.cons (i := 2) rfl (.cons (i := 3) rfl (.cons (i := 13) rfl (.cons (i := 14) rfl (.cons (i := 15) rfl (.nil)))))) ?_
    refine W.block ?_
    refine W.loop1 (Em := fun (v12 : Int) => [(15, .int .i64 v12)]) (M := fun v12 => ([cBx b1 163 (Value.slice A2 (calls4).length c3 :: (Value.slice A5 (values7).length c6 :: [])), cR encCall 7 A2 c3 129 calls4, cR encRowsValue 3 A5 c6 167 values7, cBx b8 66 (encBad (Bad.mk 0 0 0)), cR encSpan 2 A10 c11 176 r9] ++ T)) (I := fun v12 k6 => iter (rows_log_empty_L47 N calls4 r9) k6 v12 = some o3) 0 N (hF3) (.cons rfl (.nil)) (.cons (i := 2) rfl (.cons (i := 3) rfl (.cons (i := 13) rfl (.cons (i := 14) rfl (.nil))))) (fun wz hw => hw.pickK 5 [0, 1, 2, 4, 3] rfl) (fun v12 k6 hI K7 hK7 => ?_)
    obtain ⟨k6, t6, rfl, hF6, hN6⟩ := iter_step hI
    refine W.seqR fun Q8 hQ8 => ?_
    refine WL.q (Y.lss (.pl rfl) (.pl rfl)) rfl ?_
    refine WL.next hQ8 (.cons (i := 2) rfl (.cons (i := 3) rfl (.cons (i := 13) rfl (.cons (i := 14) rfl (.cons (i := 15) rfl (.cons (i := 16) rfl (.nil))))))) ?_
    refine W.seq fun K9 hK9 => ?_
    refine W.cond (.pl rfl) (fun hC10 => ?_) (fun hC10 => ?_)
    · replace hF6 := cpos hC10 hF6
      refine W.skip ?_
      refine W.go hK9 (.cons (i := 2) rfl (.cons (i := 3) rfl (.cons (i := 13) rfl (.cons (i := 14) rfl (.cons (i := 15) rfl (.nil)))))) ?_
      obtain ⟨o11, hF11, hF6⟩ := bnd hF6
      refine W.join0 (Em := []) (M := ([cBx b1 163 (Value.slice A2 (calls4).length c3 :: (Value.slice A5 (values7).length c6 :: [])), cR encCall 7 A2 c3 129 calls4, cR encRowsValue 3 A5 c6 167 values7, cBx b8 66 (encBad (Bad.mk 0 0 0)), cR encSpan 2 A10 c11 176 r9] ++ T)) (I := (.inl ()) = o11) (.cons (i := 2) rfl (.cons (i := 3) rfl (.cons (i := 13) rfl (.cons (i := 14) rfl (.cons (i := 15) rfl (.nil)))))) (fun K12 hK12 => ?_) ?_
      · -- up to
        refine W.block ?_
        refine W.seqR fun Q13 hQ13 => ?_
        refine WL.q (Y.move (.pl rfl)) rfl ?_
        obtain ⟨x13, hx13, hF11⟩ := bnd hF11
        refine WL.q (Y.rowEl Try.underlying35 cells129 (i := 1) rfl (.pl rfl) rfl (.pl rfl) (ix_lt (hx13))) rfl ?_
        refine WL.q (Y.loadRA (enc := encCall) (ds := (encCall x13)) (a := x13) (idx := v12) (j := 0) Try.underlying129 rfl cells129 lenCall (i := 1) rfl (.pl rfl) (ix_get (hx13)) rfl rfl subW) rfl ?_
        refine WL.step (WO.alloc (cs := (encCall (Call.mk 0 0 0 0 0 0 0)).toArray) zero129 rfl rfl fun b14 => ?_)
        refine WL.q (Y.assign (.pl rfl)) rfl ?_
        refine WL.step (WO.storeBA (ds := (encCall x13)) (cs' := (encCall x13)) cells129 (.pl rfl) (.pl rfl) rfl (oneCall _) (i := 0) rfl (lel (o := 0) (l := 7) (m := 7) (by decide) rfl rfl) (putW rfl) ?_)
        refine WL.next hQ13 (.cons (i := 2) rfl (.cons (i := 3) rfl (.cons (i := 4) rfl (.cons (i := 5) rfl (.cons (i := 13) rfl (.cons (i := 14) rfl (.cons (i := 15) rfl (.nil)))))))) ?_
        refine W.seq fun K14 hK14 => ?_
        refine W.seqR fun Q15 hQ15 => ?_
        refine WL.q (Y.fieldAddr0 (off := 2) (ft := 3) Try.underlying129 rfl cells3 (.pl rfl)) rfl ?_
        refine WL.q (Y.loadB (v := .int .i64 x13.kind) Try.underlying3 rfl (.pl rfl) (i := 0) rfl (rfl)) rfl ?_
        refine WL.q (Y.neq (.pl rfl) (.pl rfl)) rfl ?_
        refine WL.q (Y.move (.pl rfl)) rfl ?_
        refine WL.g (.pl rfl rfl rfl) (fun hg => Y.fieldAddr0 (off := 4) (ft := 3) Try.underlying129 rfl cells3 (.pl rfl)) rfl ?_
        refine WL.g (.pl rfl rfl rfl) (fun hg => Y.loadB (v := .int .i64 x13.res) Try.underlying3 rfl (.gd (hg) rfl) (i := 0) rfl (rfl)) rfl ?_
        refine WL.g (.pl rfl rfl rfl) (fun hg => Y.neq (.gd (hg) rfl) (.pl rfl)) rfl ?_
        refine WL.q (Y.or (.pl rfl) (fun h2 => .gd (eqf h2) rfl)) rfl ?_
        refine WL.next hQ15 (.cons (i := 2) rfl (.cons (i := 3) rfl (.cons (i := 4) rfl (.cons (i := 5) rfl (.cons (i := 13) rfl (.cons (i := 14) rfl (.cons (i := 15) rfl (.cons (i := 27) rfl (.nil))))))))) ?_
        refine W.cond (.pl rfl) (fun hC16 => ?_) (fun hC16 => ?_)
        · replace hF11 := cpos hC16 hF11
          refine W.exit ?_
          exact W.joinAt0 hK12  (Option.some.inj hF11) (.nil) (.cons (i := 2) rfl (.cons (i := 3) rfl (.cons (i := 13) rfl (.cons (i := 14) rfl (.cons (i := 15) rfl (.nil)))))) (fun wz hw => hw.pickK 6 [1, 2, 3, 4, 5] rfl)
        · replace hF11 := cneg hC16 hF11
          refine W.skip ?_
          refine W.go hK14 (.cons (i := 2) rfl (.cons (i := 3) rfl (.cons (i := 4) rfl (.cons (i := 5) rfl (.cons (i := 13) rfl (.cons (i := 14) rfl (.cons (i := 15) rfl (.nil)))))))) ?_
          refine W.seqR fun Q17 hQ17 => ?_
          refine WL.q (Y.assign (.pl rfl)) rfl ?_
          refine WL.next hQ17 (.cons (i := 2) rfl (.cons (i := 3) rfl (.cons (i := 4) rfl (.cons (i := 5) rfl (.cons (i := 6) rfl (.cons (i := 13) rfl (.cons (i := 14) rfl (.cons (i := 15) rfl (.nil))))))))) ?_
          obtain ⟨o18, hF18, hF11⟩ := bnd hF11
          refine W.join1 (Em := fun (always15 : Bool) => [(6, .bool always15)]) (M := fun always15 => ([cBx b1 163 (Value.slice A2 (calls4).length c3 :: (Value.slice A5 (values7).length c6 :: [])), cR encCall 7 A2 c3 129 calls4, cR encRowsValue 3 A5 c6 167 values7, cBx b8 66 (encBad (Bad.mk 0 0 0)), cR encSpan 2 A10 c11 176 r9] ++ T)) (I := fun always15 => always15 = o18) (.cons (i := 2) rfl (.cons (i := 3) rfl (.cons (i := 4) rfl (.cons (i := 13) rfl (.cons (i := 14) rfl (.cons (i := 15) rfl (.nil))))))) (fun K19 hK19 => ?_) ?_
          · -- up to
            refine W.seqR fun Q20 hQ20 => ?_
            refine WL.q (Y.fieldAddr0 (off := 5) (ft := 3) Try.underlying129 rfl cells3 (.pl rfl)) rfl ?_
            refine WL.q (Y.loadB (v := .int .i64 x13.from_) Try.underlying3 rfl (.pl rfl) (i := 0) rfl (rfl)) rfl ?_
            refine WL.step (WO.alloc (cs := [.int .i64 0].toArray) zero3 rfl rfl fun b16 => ?_)
            refine WL.step (WO.storeB (cs' := [.int .i64 x13.from_]) cells3 (.pl rfl) (.pl rfl) rfl (i := 0) rfl (ltl (m := 1) (by decide) rfl) (rfl) ?_)
            refine WL.next hQ20 (.cons (i := 2) rfl (.cons (i := 3) rfl (.cons (i := 4) rfl (.cons (i := 5) rfl (.cons (i := 6) rfl (.cons (i := 7) rfl (.cons (i := 13) rfl (.cons (i := 14) rfl (.cons (i := 15) rfl (.nil)))))))))) ?_
            refine W.block ?_
            refine W.loop3 (Em := fun (always17 : Bool) (t19 : Int) (b18 : Nat) => [(6, .bool always17), (7, .pointer (some ⟨b18, 0, none⟩))]) (M := fun always17 t19 b18 => ([cBx b1 163 (Value.slice A2 (calls4).length c3 :: (Value.slice A5 (values7).length c6 :: [])), cR encCall 7 A2 c3 129 calls4, cR encRowsValue 3 A5 c6 167 values7, cBx b8 66 (encBad (Bad.mk 0 0 0)), cR encSpan 2 A10 c11 176 r9, cBx b14 129 (encCall x13), cBx b18 3 [.int .i64 t19]] ++ T)) (I := fun always17 t19 b18 k21 => iter (rows_log_empty_L51 N x13 r9) k21 (always17, t19) = some o18) true x13.from_ b16 N (hF18) (.cons rfl (.cons rfl (.nil))) (.cons (i := 2) rfl (.cons (i := 3) rfl (.cons (i := 4) rfl (.cons (i := 5) rfl (.cons (i := 13) rfl (.cons (i := 14) rfl (.cons (i := 15) rfl (.nil)))))))) (fun wz hw => hw.pickK 7 [2, 3, 4, 5, 6, 1, 0] rfl) (fun always17 t19 b18 k21 hI K22 hK22 => ?_)
            obtain ⟨k21, t21, rfl, hF21, hN21⟩ := iter_step hI
            refine W.seq fun K23 hK23 => ?_
            refine W.seqR fun Q24 hQ24 => ?_
            refine WL.q (Y.loadB (v := .int .i64 t19) Try.underlying3 rfl (.pl rfl) (i := 6) rfl (rfl)) rfl ?_
            refine WL.q (Y.fieldAddr0 (off := 6) (ft := 3) Try.underlying129 rfl cells3 (.pl rfl)) rfl ?_
            refine WL.q (Y.loadB (v := .int .i64 x13.to_) Try.underlying3 rfl (.pl rfl) (i := 5) rfl (rfl)) rfl ?_
            refine WL.q (Y.lss (.pl rfl) (.pl rfl)) rfl ?_
            refine WL.next hQ24 (.cons (i := 2) rfl (.cons (i := 3) rfl (.cons (i := 4) rfl (.cons (i := 5) rfl (.cons (i := 6) rfl (.cons (i := 7) rfl (.cons (i := 13) rfl (.cons (i := 14) rfl (.cons (i := 15) rfl (.cons (i := 33) rfl (.nil))))))))))) ?_
            refine W.cond (.pl rfl) (fun hC25 => ?_) (fun hC25 => ?_)
            · replace hF21 := cpos hC25 hF21
              refine W.skip ?_
              refine W.go hK23 (.cons (i := 2) rfl (.cons (i := 3) rfl (.cons (i := 4) rfl (.cons (i := 5) rfl (.cons (i := 6) rfl (.cons (i := 7) rfl (.cons (i := 13) rfl (.cons (i := 14) rfl (.cons (i := 15) rfl (.nil)))))))))) ?_
              refine W.seq fun K26 hK26 => ?_
              refine W.block ?_
              refine W.reg ?_
              refine WL.q (Y.move (.pl rfl)) rfl ?_
              refine WL.q (Y.move (.pl rfl)) rfl ?_
              refine WL.g (.pl rfl rfl rfl) (fun hg => Y.move (.pl rfl)) rfl ?_
              refine WL.g (.pl rfl rfl rfl) (fun hg => Y.fnC (.cons (.pl rfl) (.nil))) rfl ?_
              refine bsplit (always17 == true) (fun hg27 => ?_) (fun hg27 => ?_)
              · replace hF21 := cpos hg27 hF21
                refine WL.gd (.pl rfl rfl rfl) (hg27) ?_
                obtain ⟨r20, hr20, hF21⟩ := bnd hF21
                refine WL.step (WO.call (γ := Unit) (fun g => .bool r20) (fun g => ([cR encSpan 2 A10 c11 176 r9, cBx b18 3 [.int .i64 t19], cBx b1 163 (Value.slice A2 (calls4).length c3 :: (Value.slice A5 (values7).length c6 :: [])), cR encCall 7 A2 c3 129 calls4, cR encRowsValue 3 A5 c6 167 values7, cBx b8 66 (encBad (Bad.mk 0 0 0)), cBx b14 129 (encCall x13)] ++ T)) (fun g => True) isGo82 (.cons (.gd (hg27) rfl) (.cons (.gd (hg27) rfl) (.nil))) rfl (fun wz hw => slices_ContainsFunc_api_Span_api_Span_ok (T := ([cBx b1 163 (Value.slice A2 (calls4).length c3 :: (Value.slice A5 (values7).length c6 :: [])), cR encCall 7 A2 c3 129 calls4, cR encRowsValue 3 A5 c6 167 values7, cBx b8 66 (encBad (Bad.mk 0 0 0)), cBx b14 129 (encCall x13)] ++ T)) (hr20) (hw.pickK 7 [4, 6, 0, 1, 2, 3, 5] rfl) ) ?_)
                rintro _ -
                refine WL.q (Y.and (.pl rfl) (fun _ => .pl rfl)) rfl ?_
                refine WL.q (Y.assign (.pl rfl)) rfl ?_
                refine WL.nil ?_
                refine W.go hK26 (.cons (i := 2) rfl (.cons (i := 3) rfl (.cons (i := 4) rfl (.cons (i := 5) rfl (.cons (i := 6) rfl (.cons (i := 7) rfl (.cons (i := 13) rfl (.cons (i := 14) rfl (.cons (i := 15) rfl (.nil)))))))))) ?_
                refine W.seq fun K28 hK28 => ?_
                refine W.seqR fun Q29 hQ29 => ?_
                refine WL.q (Y.loadB (v := .int .i64 t19) Try.underlying3 rfl (.pl rfl) (i := 1) rfl (rfl)) rfl ?_
                refine WL.next hQ29 (.cons (i := 2) rfl (.cons (i := 3) rfl (.cons (i := 4) rfl (.cons (i := 5) rfl (.cons (i := 6) rfl (.cons (i := 13) rfl (.cons (i := 14) rfl (.cons (i := 15) rfl (.cons (i := 42) rfl (.nil)))))))))) ?_
                refine W.reg ?_
                refine WL.step (WO.alloc (cs := [.int .i64 0].toArray) zero3 rfl rfl fun b21 => ?_)
                refine WL.step (WO.storeB (cs' := [.int .i64 t19]) cells3 (.pl rfl) (.pl rfl) rfl (i := 0) rfl (ltl (m := 1) (by decide) rfl) (rfl) ?_)
                refine WL.nil ?_
                refine W.go hK28 (.cons (i := 2) rfl (.cons (i := 3) rfl (.cons (i := 4) rfl (.cons (i := 5) rfl (.cons (i := 6) rfl (.cons (i := 7) rfl (.cons (i := 13) rfl (.cons (i := 14) rfl (.cons (i := 15) rfl (.nil)))))))))) ?_
                refine W.reg ?_
                refine WL.q (Y.loadB (v := .int .i64 t19) Try.underlying3 rfl (.pl rfl) (i := 0) rfl (rfl)) rfl ?_
                obtain ⟨hk22, hF21⟩ := ckh hF21
                refine WL.q (Y.add (.pl rfl) (.pl rfl) (ok64_lt (hk22))) rfl ?_
                refine WL.step (WO.storeB (cs' := [.int .i64 (t19 + 1)]) cells3 (.pl rfl) (.pl rfl) rfl (i := 0) rfl (ltl (m := 1) (by decide) rfl) (rfl) ?_)
                refine WL.nil ?_
                obtain rfl := Option.some.inj hF21
                exact W.again3 hK22 (always17 && r20) (t19 + 1) b21 k21 hN21 (Nat.lt_succ_self _) (.cons rfl (.cons rfl (.nil))) (.cons (i := 2) rfl (.cons (i := 3) rfl (.cons (i := 4) rfl (.cons (i := 5) rfl (.cons (i := 13) rfl (.cons (i := 14) rfl (.cons (i := 15) rfl (.nil)))))))) (fun wz hw => hw.pickK 8 [3, 4, 5, 6, 1, 7, 0] rfl)
              · replace hF21 := cneg hg27 hF21
                refine WL.gn (.pl rfl rfl rfl) hg27 rfl ?_
                refine WL.q (Y.and (b := false) (.pl rfl) (fun h2 => (gabsA hg27 h2).elim)) rfl ?_
                refine WL.q (Y.assign (.pl rfl)) rfl ?_
                refine WL.nil ?_
                refine W.go hK26 (.cons (i := 2) rfl (.cons (i := 3) rfl (.cons (i := 4) rfl (.cons (i := 5) rfl (.cons (i := 6) rfl (.cons (i := 7) rfl (.cons (i := 13) rfl (.cons (i := 14) rfl (.cons (i := 15) rfl (.nil)))))))))) ?_
                refine W.seq fun K32 hK32 => ?_
                refine W.seqR fun Q33 hQ33 => ?_
                refine WL.q (Y.loadB (v := .int .i64 t19) Try.underlying3 rfl (.pl rfl) (i := 6) rfl (rfl)) rfl ?_
                refine WL.next hQ33 (.cons (i := 2) rfl (.cons (i := 3) rfl (.cons (i := 4) rfl (.cons (i := 5) rfl (.cons (i := 6) rfl (.cons (i := 13) rfl (.cons (i := 14) rfl (.cons (i := 15) rfl (.cons (i := 42) rfl (.nil)))))))))) ?_
                refine W.reg ?_
                refine WL.step (WO.alloc (cs := [.int .i64 0].toArray) zero3 rfl rfl fun b23 => ?_)
                refine WL.step (WO.storeB (cs' := [.int .i64 t19]) cells3 (.pl rfl) (.pl rfl) rfl (i := 0) rfl (ltl (m := 1) (by decide) rfl) (rfl) ?_)
                refine WL.nil ?_
                refine W.go hK32 (.cons (i := 2) rfl (.cons (i := 3) rfl (.cons (i := 4) rfl (.cons (i := 5) rfl (.cons (i := 6) rfl (.cons (i := 7) rfl (.cons (i := 13) rfl (.cons (i := 14) rfl (.cons (i := 15) rfl (.nil)))))))))) ?_
                refine W.reg ?_
                refine WL.q (Y.loadB (v := .int .i64 t19) Try.underlying3 rfl (.pl rfl) (i := 0) rfl (rfl)) rfl ?_
                obtain ⟨hk24, hF21⟩ := ckh hF21
                refine WL.q (Y.add (.pl rfl) (.pl rfl) (ok64_lt (hk24))) rfl ?_
                refine WL.step (WO.storeB (cs' := [.int .i64 (t19 + 1)]) cells3 (.pl rfl) (.pl rfl) rfl (i := 0) rfl (ltl (m := 1) (by decide) rfl) (rfl) ?_)
                refine WL.nil ?_
                obtain rfl := Option.some.inj hF21
                exact W.again3 hK22 (always17 && false) (t19 + 1) b23 k21 hN21 (Nat.lt_succ_self _) (.cons rfl (.cons rfl (.nil))) (.cons (i := 2) rfl (.cons (i := 3) rfl (.cons (i := 4) rfl (.cons (i := 5) rfl (.cons (i := 13) rfl (.cons (i := 14) rfl (.cons (i := 15) rfl (.nil)))))))) (fun wz hw => hw.pickK 8 [1, 2, 3, 4, 5, 6, 0] rfl)
            · replace hF21 := cneg hC25 hF21
              refine W.exit ?_
              obtain rfl := Option.some.inj hF21
              exact W.joinAt1 hK19 always17 (einr hN21) (.cons rfl (.nil)) (.cons (i := 2) rfl (.cons (i := 3) rfl (.cons (i := 4) rfl (.cons (i := 13) rfl (.cons (i := 14) rfl (.cons (i := 15) rfl (.nil))))))) (fun wz hw => hw.pickK 7 [0, 1, 2, 3, 4] rfl)
          · -- behind
            rintro always15 rfl
            refine W.seqR fun Q36 hQ36 => ?_
            refine WL.q (Y.move (.pl rfl)) rfl ?_
            refine WL.next hQ36 (.cons (i := 2) rfl (.cons (i := 3) rfl (.cons (i := 4) rfl (.cons (i := 13) rfl (.cons (i := 14) rfl (.cons (i := 15) rfl (.cons (i := 43) rfl (.nil)))))))) ?_
            refine W.cond (.pl rfl) (fun hC37 => ?_) (fun hC37 => ?_)
            · replace hF11 := cpos hC37 hF11
              refine W.seqR fun Q38 hQ38 => ?_
              refine WL.q (Y.move (.pl rfl)) rfl ?_
              refine WL.q (Y.build (cs := (encBad (Bad.mk 7 v12 0)).toArray) shape66 (.cons (.pl rfl) (.cons (.pl rfl) (.nil))) (one_parts ⟨rfl, ⟨rfl, trivial⟩⟩) rfl) rfl ?_
              refine WL.step (WO.storeBA (ds := (encBad (Bad.mk 7 v12 0))) (cs' := (encBad (Bad.mk 7 v12 0))) cells66 (.pl rfl) (.pl rfl) rfl (oneBad _) (i := 3) rfl (lel (o := 0) (l := 3) (m := 3) (by decide) rfl rfl) (putW rfl) ?_)
              refine WL.next hQ38 (.cons (i := 2) rfl (.nil)) ?_
              obtain rfl := Option.some.inj hF11
              obtain rfl := Option.some.inj hF6
              obtain rfl := einr hN6
              obtain rfl := Option.some.inj hF
              refine W.retV (fn := Try.f58) (vs := [.agg (encBad (Bad.mk 7 v12 0)).toArray]) Try.results58 ⟨.cellA Try.underlying66 rfl cells66 rfl (i := 3) rfl rfl, trivial⟩ (fun _ _ h => h) (fun wz hw => ?_)
              exact hR _ _ ⟨(), trivial, rfl, (hw.pickK 5 [0, 1, 2] rfl)⟩
            · replace hF11 := cneg hC37 hF11
              refine W.skip ?_
              exact W.joinAt0 hK12  (Option.some.inj hF11) (.nil) (.cons (i := 2) rfl (.cons (i := 3) rfl (.cons (i := 13) rfl (.cons (i := 14) rfl (.cons (i := 15) rfl (.nil)))))) (fun wz hw => hw.pickK 5 [0, 1, 2, 3, 4] rfl)
      · -- behind
        rintro  rfl
        refine W.reg ?_
        obtain ⟨hk25, hF6⟩ := ckh hF6
        refine WL.q (Y.add (.pl rfl) (.pl rfl) (ok64_lt (hk25))) rfl ?_
        refine WL.q (Y.move (.pl rfl)) rfl ?_
        refine WL.nil ?_
        obtain rfl := Option.some.inj hF6
        exact W.again1 hK7 (v12 + 1) k6 hN6 (Nat.lt_succ_self _) (.cons rfl (.nil)) (.cons (i := 2) rfl (.cons (i := 3) rfl (.cons (i := 13) rfl (.cons (i := 14) rfl (.nil))))) (fun wz hw => hw.pickK 5 [0, 1, 2, 3, 4] rfl)
    · replace hF6 := cneg hC10 hF6
      refine W.exit ?_
      obtain rfl := Option.some.inj hF6
      exact W.joinAt0 hK4  (einr hN6) (.nil) (.cons (i := 2) rfl (.nil)) (fun wz hw => hw.pickK 5 [0, 1, 2, 3] rfl)
  · -- behind
    rintro  rfl
    refine W.seqR fun Q40 hQ40 => ?_
    refine WL.q (Y.build (cs := (encBad (Bad.mk 0 0 0)).toArray) shape66 (.nil) (one_parts trivial) rfl) rfl ?_
    refine WL.step (WO.storeBA (ds := (encBad (Bad.mk 0 0 0))) (cs' := (encBad (Bad.mk 0 0 0))) cells66 (.pl rfl) (.pl rfl) rfl (oneBad _) (i := 3) rfl (lel (o := 0) (l := 3) (m := 3) (by decide) rfl rfl) (putW rfl) ?_)
    refine WL.next hQ40 (.cons (i := 2) rfl (.nil)) ?_
    obtain rfl := Option.some.inj hF
    refine W.retV (fn := Try.f58) (vs := [.agg (encBad (Bad.mk 0 0 0)).toArray]) Try.results58 ⟨.cellA Try.underlying66 rfl cells66 rfl (i := 3) rfl rfl, trivial⟩ (fun _ _ h => h) (fun wz hw => ?_)
    exact hR _ _ ⟨(), trivial, rfl, (hw.pickK 4 [0, 1, 2] rfl)⟩

def rows_Check_L3 (N : Nat) (r7 : (Bool × (List Call) × (List RowsValue) × Int)) : Int → Option (Int ⊕ (Unit ⊕ (Bool × Int × Int × Int × Int)))
  | v17 =>
    cond (decide (v17 < ((5 : Nat) : Int)))
      (ck (inb 5 v17) <|
      bd (α := (Int × Int × Int)) (cond (decide (v17 = 0))
          (bd (rows_log_stray N r7.2.1 r7.2.2.1) fun (r23 : (Int × Int)) =>
          some (r23.1, r23.2, 0))
          (cond (decide (v17 = 1))
            (bd (rows_log_twice N r7.2.1 r7.2.2.1) fun (r25 : (Int × Int × Int)) =>
            some (r25.1, r25.2.1, r25.2.2))
            (cond (decide (v17 = 2))
              (bd (rows_log_early N r7.2.1 r7.2.2.1) fun (r27 : (Int × Int × Int)) =>
              some (r27.1, r27.2.1, r27.2.2))
              (cond (decide (v17 = 3))
                (bd (rows_log_order N r7.2.1 r7.2.2.1) fun (r29 : (Int × Int × Int)) =>
                some (r29.1, r29.2.1, r29.2.2))
                (cond (decide (v17 = 4))
                  (bd (rows_log_empty N r7.2.1 r7.2.2.1) fun (r31 : (Int × Int)) =>
                  some (r31.1, r31.2, 0))
                  (none)))))) <|
      fun (Kind20, A21, B22) => 
        cond (!(decide (Kind20 = 0)))
          (some (.inr (.inr (false, Kind20, A21, B22, 0))))
          (ck (ok64 (v17 + 1)) <|
          some (.inl (v17 + 1))))
      (some (.inr (.inl ())))

def rows_Check (N : Nat) (l1 : (List Event)) : Option (Bool × Int × Int × Int × Int) :=
  bd (rows_read_2 N l1) fun (r7 : (Bool × (List Call) × (List RowsValue) × Int)) =>
  cond (!(decide (r7.2.2.2 = 0)))
    (some (false, 0, 0, 0, r7.2.2.2))
    (bd (α := (Unit ⊕ (Bool × Int × Int × Int × Int))) (ck (r7.1) <|
      iter (rows_Check_L3 N r7) N 0) <|
    Sum.elim (fun _ => 
      some (true, 0, 0, 0, 0)) (fun p => some p))

theorem rows_Check_ok {N : Nat} {l1 : (List Event)} {res : (Bool × Int × Int × Int × Int)} (hF : rows_Check N l1 = some res) (w : World) {v5 : Value} (hs4 : SlIn encEvent 4 w v5 l1) :
    Pure Try.prog 29 [v5] w (.tuple #[.bool res.1, .agg (encBad (Bad.mk res.2.1 res.2.2.1 res.2.2.2.1)).toArray, .int .i64 res.2.2.2.2]) := by
  obtain ⟨A2, c3, rfl, hcc3, hs4⟩ := hs4.form
  refine W.enter (n := 43) Try.func29 rfl rfl Sub.refl (by simp) (St.start w) fun R hR => ?_
  unfold rows_Check at hF
  refine W.seqR fun Q1 hQ1 => ?_
  refine WL.q (Y.assign (.pl rfl)) rfl ?_
  refine WL.step (WO.alloc (cs := (encBad (Bad.mk 0 0 0)).toArray) zero66 rfl rfl fun b6 => ?_)
  refine WL.q (Y.assign (.pl rfl)) rfl ?_
  refine WL.next hQ1 (.cons (i := 0) rfl (.cons (i := 3) rfl (.nil))) ?_
  refine W.seqR fun Q2 hQ2 => ?_
  refine WL.q (Y.move (.pl rfl)) rfl ?_
  obtain ⟨r7, hr7, hF⟩ := bnd hF
  refine WL.step (WO.callM isGo53 (.cons (.pl rfl) (.nil)) rfl (fun wz hw => rows_read_2_ok (hr7) wz (hs4.mono hw)) ?_)
  rintro ⟨b8, A9, c10, A11, c12⟩ hl13
  refine WL.q (Y.move (.pl rfl)) rfl ?_
  refine WL.q (Y.extract (.pl rfl) rfl) rfl ?_
  refine WL.q (Y.extract (.pl rfl) rfl) rfl ?_
  refine WL.q (Y.assign (.pl rfl)) rfl ?_
  refine WL.q (Y.assign (.pl rfl)) rfl ?_
  refine WL.next hQ2 (.cons (i := 3) rfl (.cons (i := 5) rfl (.cons (i := 6) rfl (.nil)))) ?_
  refine W.seq fun K3 hK3 => ?_
  refine W.seqR fun Q4 hQ4 => ?_
  refine WL.q (Y.move (.pl rfl)) rfl ?_
  refine WL.q (Y.neq (.pl rfl) (.pl rfl)) rfl ?_
  refine WL.next hQ4 (.cons (i := 3) rfl (.cons (i := 5) rfl (.cons (i := 6) rfl (.cons (i := 16) rfl (.nil))))) ?_
  refine W.cond (.pl rfl) (fun hC5 => ?_) (fun hC5 => ?_)
  · replace hF := cpos hC5 hF
    refine W.seqR fun Q6 hQ6 => ?_
    refine WL.q (Y.build (cs := (encBad (Bad.mk 0 0 0)).toArray) shape66 (.nil) (one_parts trivial) rfl) rfl ?_
    refine WL.q (Y.move (.pl rfl)) rfl ?_
    refine WL.q (Y.assign (.pl rfl)) rfl ?_
    refine WL.step (WO.storeBA (ds := (encBad (Bad.mk 0 0 0))) (cs' := (encBad (Bad.mk 0 0 0))) cells66 (.pl rfl) (.pl rfl) rfl (oneBad _) (i := 3) rfl (lel (o := 0) (l := 3) (m := 3) (by decide) rfl rfl) (putW rfl) ?_)
    refine WL.q (Y.assign (.pl rfl)) rfl ?_
    refine WL.next hQ6 (.cons (i := 2) rfl (.cons (i := 3) rfl (.cons (i := 4) rfl (.nil)))) ?_
    obtain rfl := Option.some.inj hF
    refine W.retV (fn := Try.f29) (vs := [.bool false, .agg (encBad (Bad.mk 0 0 0)).toArray, .int .i64 r7.2.2.2]) Try.results29 ⟨.tmp rfl, ⟨.cellA Try.underlying66 rfl cells66 rfl (i := 3) rfl rfl, ⟨.tmp rfl, trivial⟩⟩⟩ (fun _ _ h => h) (fun wz hw => ?_)
    exact hR _ _ ⟨rfl, (hw.pick [] rfl)⟩
  · replace hF := cneg hC5 hF
    refine W.skip ?_
    refine W.go hK3 (.cons (i := 3) rfl (.cons (i := 5) rfl (.nil))) ?_
    obtain ⟨o7, hF7, hF⟩ := bnd hF
    refine W.join0 (Em := []) (M := [cBx b6 66 (encBad (Bad.mk 0 0 0))]) (I := (.inl ()) = o7) (.cons (i := 3) rfl (.nil)) (fun K8 hK8 => ?_) ?_
    · -- up to
      obtain ⟨hk14, hF7⟩ := ckh hF7
      obtain ⟨b15, rfl⟩ := Option.isSome_iff_exists.1 (hl13.symm.trans hk14)
      refine W.seqR fun Q9 hQ9 => ?_
      refine WL.q (Y.move (.pl rfl)) rfl ?_
      refine WL.q (Y.fn (.cons (.pl rfl) (.nil))) rfl ?_
      refine WL.q (Y.move (.pl rfl)) rfl ?_
      refine WL.q (Y.fn (.cons (.pl rfl) (.nil))) rfl ?_
      refine WL.q (Y.move (.pl rfl)) rfl ?_
      refine WL.q (Y.fn (.cons (.pl rfl) (.nil))) rfl ?_
      refine WL.q (Y.move (.pl rfl)) rfl ?_
      refine WL.q (Y.fn (.cons (.pl rfl) (.nil))) rfl ?_
      refine WL.q (Y.move (.pl rfl)) rfl ?_
      refine WL.q (Y.fn (.cons (.pl rfl) (.nil))) rfl ?_
      refine WL.step (WO.bsliceC (enc := fun q => [q]) (ys := ([Value.func (.func 54) #[.pointer (some ⟨b15, 0, none⟩)] #[], Value.func (.func 55) #[.pointer (some ⟨b15, 0, none⟩)] #[], Value.func (.func 56) #[.pointer (some ⟨b15, 0, none⟩)] #[], Value.func (.func 57) #[.pointer (some ⟨b15, 0, none⟩)] #[], Value.func (.func 58) #[.pointer (some ⟨b15, 0, none⟩)] #[]] : List Value)) Try.underlying123 bz119 (.cons (.pl rfl) (.cons (.pl rfl) (.cons (.pl rfl) (.cons (.pl rfl) (.cons (.pl rfl) (.nil)))))) rfl (fun _ => rfl) rfl rfl (by decide) (by decide) rfl fun b16 => ?_)
      refine WL.q (Y.len Try.underlying123 (.pl rfl)) rfl ?_
      refine WL.q (Y.move (.pl rfl)) rfl ?_
      refine WL.next hQ9 (.cons (i := 3) rfl (.cons (i := 29) rfl (.cons (i := 30) rfl (.cons (i := 31) rfl (.nil))))) ?_
      refine W.block ?_
      refine W.loop1 (Em := fun (v17 : Int) => [(31, .int .i64 v17)]) (M := fun v17 => [cBx b6 66 (encBad (Bad.mk 0 0 0)), cR (fun q => [q]) 1 (some ⟨b16, 0, none⟩) 5 119 ([Value.func (.func 54) #[.pointer (some ⟨b15, 0, none⟩)] #[], Value.func (.func 55) #[.pointer (some ⟨b15, 0, none⟩)] #[], Value.func (.func 56) #[.pointer (some ⟨b15, 0, none⟩)] #[], Value.func (.func 57) #[.pointer (some ⟨b15, 0, none⟩)] #[], Value.func (.func 58) #[.pointer (some ⟨b15, 0, none⟩)] #[]] : List Value), cBx b15 163 (Value.slice A9 (r7.2.1).length c10 :: (Value.slice A11 (r7.2.2.1).length c12 :: [])), cR encCall 7 A9 c10 129 r7.2.1, cR encRowsValue 3 A11 c12 167 r7.2.2.1]) (I := fun v17 k10 => iter (rows_Check_L3 N r7) k10 v17 = some o7) 0 N (hF7) (.cons rfl (.nil)) (.cons (i := 3) rfl (.cons (i := 29) rfl (.cons (i := 30) rfl (.nil)))) (fun wz hw => hw.pick [4, 0, 1, 2, 3] rfl) (fun v17 k10 hI K11 hK11 => ?_)
      obtain ⟨k10, t10, rfl, hF10, hN10⟩ := iter_step hI
      refine W.seqR fun Q12 hQ12 => ?_
      refine WL.q (Y.lss (.pl rfl) (.pl rfl)) rfl ?_
      refine WL.next hQ12 (.cons (i := 3) rfl (.cons (i := 29) rfl (.cons (i := 30) rfl (.cons (i := 31) rfl (.cons (i := 32) rfl (.nil)))))) ?_
      refine W.seq fun K13 hK13 => ?_
      refine W.cond (.pl rfl) (fun hC14 => ?_) (fun hC14 => ?_)
      · replace hF10 := cpos hC14 hF10
        refine W.skip ?_
        refine W.go hK13 (.cons (i := 3) rfl (.cons (i := 29) rfl (.cons (i := 30) rfl (.cons (i := 31) rfl (.nil))))) ?_
        refine W.seq fun K15 hK15 => ?_
        refine W.block ?_
        refine W.seqR fun Q16 hQ16 => ?_
        obtain ⟨hk18, hF10⟩ := ckh hF10
        refine WL.q (Y.rowEl (enc := fun q => [q]) (sz := 1) (xs := ([Value.func (.func 54) #[.pointer (some ⟨b15, 0, none⟩)] #[], Value.func (.func 55) #[.pointer (some ⟨b15, 0, none⟩)] #[], Value.func (.func 56) #[.pointer (some ⟨b15, 0, none⟩)] #[], Value.func (.func 57) #[.pointer (some ⟨b15, 0, none⟩)] #[], Value.func (.func 58) #[.pointer (some ⟨b15, 0, none⟩)] #[]] : List Value)) Try.underlying123 cells119 (i := 1) rfl (.pl rfl) rfl (.pl rfl) (inb_len (hk18) rfl)) rfl ?_
        refine WL.q (Y.loadR (enc := fun q => [q]) (sz := 1) (v := (([Value.func (.func 54) #[.pointer (some ⟨b15, 0, none⟩)] #[], Value.func (.func 55) #[.pointer (some ⟨b15, 0, none⟩)] #[], Value.func (.func 56) #[.pointer (some ⟨b15, 0, none⟩)] #[], Value.func (.func 57) #[.pointer (some ⟨b15, 0, none⟩)] #[], Value.func (.func 58) #[.pointer (some ⟨b15, 0, none⟩)] #[]] : List Value).getD v17.toNat undef)) (a := (([Value.func (.func 54) #[.pointer (some ⟨b15, 0, none⟩)] #[], Value.func (.func 55) #[.pointer (some ⟨b15, 0, none⟩)] #[], Value.func (.func 56) #[.pointer (some ⟨b15, 0, none⟩)] #[], Value.func (.func 57) #[.pointer (some ⟨b15, 0, none⟩)] #[], Value.func (.func 58) #[.pointer (some ⟨b15, 0, none⟩)] #[]] : List Value).getD v17.toNat undef)) (idx := v17) (j := 0) Try.underlying119 rfl (fun _ => rfl) (i := 1) rfl (.pl rfl) (inb_ix (hk18) rfl) (by omega) rfl) rfl ?_
        refine WL.q (Y.assign (.pl rfl)) rfl ?_
        refine WL.next hQ16 (.cons (i := 3) rfl (.cons (i := 8) rfl (.cons (i := 29) rfl (.cons (i := 30) rfl (.cons (i := 31) rfl (.nil)))))) ?_
        obtain ⟨o17, hF17, hF10⟩ := bnd hF10
        refine W.join4 (Em := fun (Kind20 : Int) (A21 : Int) (B22 : Int) (b19 : Nat) => [(9, .pointer (some ⟨b19, 0, none⟩))]) (M := fun Kind20 A21 B22 b19 => [cBx b6 66 (encBad (Bad.mk 0 0 0)), cBx b19 66 (encBad (Bad.mk Kind20 A21 B22)), cR (fun q => [q]) 1 (some ⟨b16, 0, none⟩) 5 119 ([Value.func (.func 54) #[.pointer (some ⟨b15, 0, none⟩)] #[], Value.func (.func 55) #[.pointer (some ⟨b15, 0, none⟩)] #[], Value.func (.func 56) #[.pointer (some ⟨b15, 0, none⟩)] #[], Value.func (.func 57) #[.pointer (some ⟨b15, 0, none⟩)] #[], Value.func (.func 58) #[.pointer (some ⟨b15, 0, none⟩)] #[]] : List Value), cBx b15 163 (Value.slice A9 (r7.2.1).length c10 :: (Value.slice A11 (r7.2.2.1).length c12 :: [])), cR encCall 7 A9 c10 129 r7.2.1, cR encRowsValue 3 A11 c12 167 r7.2.2.1]) (I := fun Kind20 A21 B22 b19 => (Kind20, A21, B22) = o17) (.cons (i := 3) rfl (.cons (i := 29) rfl (.cons (i := 30) rfl (.cons (i := 31) rfl (.nil))))) (fun K18 hK18 => ?_) ?_
        · -- up to
          refine W.reg ?_
          refine WL.q (Y.move (.pl rfl)) rfl ?_
          refine bsplit (decide (v17 = 0)) (fun hT19 => ?_) (fun hT19 => ?_)
          · replace hF17 := cpos hT19 hF17
            obtain ⟨r23, hr23, hF17⟩ := bnd hF17
            refine WL.step (WO.callG (γ := Unit) (first := [.pointer (some ⟨b15, 0, none⟩)]) (cap := []) (fun g => .agg (encBad (Bad.mk r23.1 r23.2 0)).toArray) (fun g => [cBx b15 163 (Value.slice A9 (r7.2.1).length c10 :: (Value.slice A11 (r7.2.2.1).length c12 :: [])), cR encCall 7 A9 c10 129 r7.2.1, cR encRowsValue 3 A11 c12 167 r7.2.2.1, cBx b6 66 (encBad (Bad.mk 0 0 0)), cR (fun q => [q]) 1 (some ⟨b16, 0, none⟩) 5 119 ([Value.func (.func 54) #[.pointer (some ⟨b15, 0, none⟩)] #[], Value.func (.func 55) #[.pointer (some ⟨b15, 0, none⟩)] #[], Value.func (.func 56) #[.pointer (some ⟨b15, 0, none⟩)] #[], Value.func (.func 57) #[.pointer (some ⟨b15, 0, none⟩)] #[], Value.func (.func 58) #[.pointer (some ⟨b15, 0, none⟩)] #[]] : List Value)]) (fun g => True) isGo54 (Evs.cast (.pl rfl) (u := Value.func (.func 54) #[.pointer (some ⟨b15, 0, none⟩)] #[]) (by rw [show v17 = (0 : Int) from of_decide_eq_true hT19]; rfl)) (.nil) rfl (fun wz hw => rows_log_stray_ok (T := [cBx b6 66 (encBad (Bad.mk 0 0 0)), cR (fun q => [q]) 1 (some ⟨b16, 0, none⟩) 5 119 ([Value.func (.func 54) #[.pointer (some ⟨b15, 0, none⟩)] #[], Value.func (.func 55) #[.pointer (some ⟨b15, 0, none⟩)] #[], Value.func (.func 56) #[.pointer (some ⟨b15, 0, none⟩)] #[], Value.func (.func 57) #[.pointer (some ⟨b15, 0, none⟩)] #[], Value.func (.func 58) #[.pointer (some ⟨b15, 0, none⟩)] #[]] : List Value)]) (hr23) (hw.pick [2, 3, 4, 0, 1] rfl) ) ?_)
            rintro _ -
            refine WL.step (WO.alloc (cs := (encBad (Bad.mk 0 0 0)).toArray) zero66 rfl rfl fun b24 => ?_)
            refine WL.step (WO.storeBA (ds := (encBad (Bad.mk r23.1 r23.2 0))) (cs' := (encBad (Bad.mk r23.1 r23.2 0))) cells66 (.pl rfl) (.pl rfl) rfl (oneBad _) (i := 0) rfl (lel (o := 0) (l := 3) (m := 3) (by decide) rfl rfl) (putW rfl) ?_)
            refine WL.nil ?_
            exact W.joinAt4 hK18 r23.1 r23.2 0 b24 (Option.some.inj hF17) (.cons rfl (.nil)) (.cons (i := 3) rfl (.cons (i := 29) rfl (.cons (i := 30) rfl (.cons (i := 31) rfl (.nil))))) (fun wz hw => hw.pick [4, 0, 5, 1, 2, 3] rfl)
          · replace hF17 := cneg hT19 hF17
            refine bsplit (decide (v17 = 1)) (fun hT20 => ?_) (fun hT20 => ?_)
            · replace hF17 := cpos hT20 hF17
              obtain ⟨r25, hr25, hF17⟩ := bnd hF17
              refine WL.step (WO.callG (γ := Unit) (first := [.pointer (some ⟨b15, 0, none⟩)]) (cap := []) (fun g => .agg (encBad (Bad.mk r25.1 r25.2.1 r25.2.2)).toArray) (fun g => [cBx b15 163 (Value.slice A9 (r7.2.1).length c10 :: (Value.slice A11 (r7.2.2.1).length c12 :: [])), cR encCall 7 A9 c10 129 r7.2.1, cR encRowsValue 3 A11 c12 167 r7.2.2.1, cBx b6 66 (encBad (Bad.mk 0 0 0)), cR (fun q => [q]) 1 (some ⟨b16, 0, none⟩) 5 119 ([Value.func (.func 54) #[.pointer (some ⟨b15, 0, none⟩)] #[], Value.func (.func 55) #[.pointer (some ⟨b15, 0, none⟩)] #[], Value.func (.func 56) #[.pointer (some ⟨b15, 0, none⟩)] #[], Value.func (.func 57) #[.pointer (some ⟨b15, 0, none⟩)] #[], Value.func (.func 58) #[.pointer (some ⟨b15, 0, none⟩)] #[]] : List Value)]) (fun g => True) isGo55 (Evs.cast (.pl rfl) (u := Value.func (.func 55) #[.pointer (some ⟨b15, 0, none⟩)] #[]) (by rw [show v17 = (1 : Int) from of_decide_eq_true hT20]; rfl)) (.nil) rfl (fun wz hw => rows_log_twice_ok (T := [cBx b6 66 (encBad (Bad.mk 0 0 0)), cR (fun q => [q]) 1 (some ⟨b16, 0, none⟩) 5 119 ([Value.func (.func 54) #[.pointer (some ⟨b15, 0, none⟩)] #[], Value.func (.func 55) #[.pointer (some ⟨b15, 0, none⟩)] #[], Value.func (.func 56) #[.pointer (some ⟨b15, 0, none⟩)] #[], Value.func (.func 57) #[.pointer (some ⟨b15, 0, none⟩)] #[], Value.func (.func 58) #[.pointer (some ⟨b15, 0, none⟩)] #[]] : List Value)]) (hr25) (hw.pick [2, 3, 4, 0, 1] rfl) ) ?_)
              rintro _ -
              refine WL.step (WO.alloc (cs := (encBad (Bad.mk 0 0 0)).toArray) zero66 rfl rfl fun b26 => ?_)
              refine WL.step (WO.storeBA (ds := (encBad (Bad.mk r25.1 r25.2.1 r25.2.2))) (cs' := (encBad (Bad.mk r25.1 r25.2.1 r25.2.2))) cells66 (.pl rfl) (.pl rfl) rfl (oneBad _) (i := 0) rfl (lel (o := 0) (l := 3) (m := 3) (by decide) rfl rfl) (putW rfl) ?_)
              refine WL.nil ?_
              exact W.joinAt4 hK18 r25.1 r25.2.1 r25.2.2 b26 (Option.some.inj hF17) (.cons rfl (.nil)) (.cons (i := 3) rfl (.cons (i := 29) rfl (.cons (i := 30) rfl (.cons (i := 31) rfl (.nil))))) (fun wz hw => hw.pick [4, 0, 5, 1, 2, 3] rfl)
            · replace hF17 := cneg hT20 hF17
              refine bsplit (decide (v17 = 2)) (fun hT21 => ?_) (fun hT21 => ?_)
              · replace hF17 := cpos hT21 hF17
                obtain ⟨r27, hr27, hF17⟩ := bnd hF17
                refine WL.step (WO.callG (γ := Unit) (first := [.pointer (some ⟨b15, 0, none⟩)]) (cap := []) (fun g => .agg (encBad (Bad.mk r27.1 r27.2.1 r27.2.2)).toArray) (fun g => [cBx b15 163 (Value.slice A9 (r7.2.1).length c10 :: (Value.slice A11 (r7.2.2.1).length c12 :: [])), cR encCall 7 A9 c10 129 r7.2.1, cR encRowsValue 3 A11 c12 167 r7.2.2.1, cBx b6 66 (encBad (Bad.mk 0 0 0)), cR (fun q => [q]) 1 (some ⟨b16, 0, none⟩) 5 119 ([Value.func (.func 54) #[.pointer (some ⟨b15, 0, none⟩)] #[], Value.func (.func 55) #[.pointer (some ⟨b15, 0, none⟩)] #[], Value.func (.func 56) #[.pointer (some ⟨b15, 0, none⟩)] #[], Value.func (.func 57) #[.pointer (some ⟨b15, 0, none⟩)] #[], Value.func (.func 58) #[.pointer (some ⟨b15, 0, none⟩)] #[]] : List Value)]) (fun g => True) isGo56 (Evs.cast (.pl rfl) (u := Value.func (.func 56) #[.pointer (some ⟨b15, 0, none⟩)] #[]) (by rw [show v17 = (2 : Int) from of_decide_eq_true hT21]; rfl)) (.nil) rfl (fun wz hw => rows_log_early_ok (T := [cBx b6 66 (encBad (Bad.mk 0 0 0)), cR (fun q => [q]) 1 (some ⟨b16, 0, none⟩) 5 119 ([Value.func (.func 54) #[.pointer (some ⟨b15, 0, none⟩)] #[], Value.func (.func 55) #[.pointer (some ⟨b15, 0, none⟩)] #[], Value.func (.func 56) #[.pointer (some ⟨b15, 0, none⟩)] #[], Value.func (.func 57) #[.pointer (some ⟨b15, 0, none⟩)] #[], Value.func (.func 58) #[.pointer (some ⟨b15, 0, none⟩)] #[]] : List Value)]) (hr27) (hw.pick [2, 3, 4, 0, 1] rfl) ) ?_)
                rintro _ -
                refine WL.step (WO.alloc (cs := (encBad (Bad.mk 0 0 0)).toArray) zero66 rfl rfl fun b28 => ?_)
                refine WL.step (WO.storeBA (ds := (encBad (Bad.mk r27.1 r27.2.1 r27.2.2))) (cs' := (encBad (Bad.mk r27.1 r27.2.1 r27.2.2))) cells66 (.pl rfl) (.pl rfl) rfl (oneBad _) (i := 0) rfl (lel (o := 0) (l := 3) (m := 3) (by decide) rfl rfl) (putW rfl) ?_)
                refine WL.nil ?_
                exact W.joinAt4 hK18 r27.1 r27.2.1 r27.2.2 b28 (Option.some.inj hF17) (.cons rfl (.nil)) (.cons (i := 3) rfl (.cons (i := 29) rfl (.cons (i := 30) rfl (.cons (i := 31) rfl (.nil))))) (fun wz hw => hw.pick [4, 0, 5, 1, 2, 3] rfl)
              · replace hF17 := cneg hT21 hF17
                refine bsplit (decide (v17 = 3)) (fun hT22 => ?_) (fun hT22 => ?_)
                · replace hF17 := cpos hT22 hF17
                  obtain ⟨r29, hr29, hF17⟩ := bnd hF17
                  refine WL.step (WO.callG (γ := Unit) (first := [.pointer (some ⟨b15, 0, none⟩)]) (cap := []) (fun g => .agg (encBad (Bad.mk r29.1 r29.2.1 r29.2.2)).toArray) (fun g => [cBx b15 163 (Value.slice A9 (r7.2.1).length c10 :: (Value.slice A11 (r7.2.2.1).length c12 :: [])), cR encCall 7 A9 c10 129 r7.2.1, cR encRowsValue 3 A11 c12 167 r7.2.2.1, cBx b6 66 (encBad (Bad.mk 0 0 0)), cR (fun q => [q]) 1 (some ⟨b16, 0, none⟩) 5 119 ([Value.func (.func 54) #[.pointer (some ⟨b15, 0, none⟩)] #[], Value.func (.func 55) #[.pointer (some ⟨b15, 0, none⟩)] #[], Value.func (.func 56) #[.pointer (some ⟨b15, 0, none⟩)] #[], Value.func (.func 57) #[.pointer (some ⟨b15, 0, none⟩)] #[], Value.func (.func 58) #[.pointer (some ⟨b15, 0, none⟩)] #[]] : List Value)]) (fun g => True) isGo57 (Evs.cast (.pl rfl) (u := Value.func (.func 57) #[.pointer (some ⟨b15, 0, none⟩)] #[]) (by rw [show v17 = (3 : Int) from of_decide_eq_true hT22]; rfl)) (.nil) rfl (fun wz hw => rows_log_order_ok (T := [cBx b6 66 (encBad (Bad.mk 0 0 0)), cR (fun q => [q]) 1 (some ⟨b16, 0, none⟩) 5 119 ([Value.func (.func 54) #[.pointer (some ⟨b15, 0, none⟩)] #[], Value.func (.func 55) #[.pointer (some ⟨b15, 0, none⟩)] #[], Value.func (.func 56) #[.pointer (some ⟨b15, 0, none⟩)] #[], Value.func (.func 57) #[.pointer (some ⟨b15, 0, none⟩)] #[], Value.func (.func 58) #[.pointer (some ⟨b15, 0, none⟩)] #[]] : List Value)]) (hr29) (hw.pick [2, 3, 4, 0, 1] rfl) ) ?_)
                  rintro _ -
                  refine WL.step (WO.alloc (cs := (encBad (Bad.mk 0 0 0)).toArray) zero66 rfl rfl fun b30 => ?_)
                  refine WL.step (WO.storeBA (ds := (encBad (Bad.mk r29.1 r29.2.1 r29.2.2))) (cs' := (encBad (Bad.mk r29.1 r29.2.1 r29.2.2))) cells66 (.pl rfl) (.pl rfl) rfl (oneBad _) (i := 0) rfl (lel (o := 0) (l := 3) (m := 3) (by decide) rfl rfl) (putW rfl) ?_)
                  refine WL.nil ?_
                  exact W.joinAt4 hK18 r29.1 r29.2.1 r29.2.2 b30 (Option.some.inj hF17) (.cons rfl (.nil)) (.cons (i := 3) rfl (.cons (i := 29) rfl (.cons (i := 30) rfl (.cons (i := 31) rfl (.nil))))) (fun wz hw => hw.pick [4, 0, 5, 1, 2, 3] rfl)
                · replace hF17 := cneg hT22 hF17
                  refine bsplit (decide (v17 = 4)) (fun hT23 => ?_) (fun hT23 => ?_)
                  · replace hF17 := cpos hT23 hF17
                    obtain ⟨r31, hr31, hF17⟩ := bnd hF17
                    refine WL.step (WO.callG (γ := Unit) (first := [.pointer (some ⟨b15, 0, none⟩)]) (cap := []) (fun g => .agg (encBad (Bad.mk r31.1 r31.2 0)).toArray) (fun g => [cBx b15 163 (Value.slice A9 (r7.2.1).length c10 :: (Value.slice A11 (r7.2.2.1).length c12 :: [])), cR encCall 7 A9 c10 129 r7.2.1, cR encRowsValue 3 A11 c12 167 r7.2.2.1, cBx b6 66 (encBad (Bad.mk 0 0 0)), cR (fun q => [q]) 1 (some ⟨b16, 0, none⟩) 5 119 ([Value.func (.func 54) #[.pointer (some ⟨b15, 0, none⟩)] #[], Value.func (.func 55) #[.pointer (some ⟨b15, 0, none⟩)] #[], Value.func (.func 56) #[.pointer (some ⟨b15, 0, none⟩)] #[], Value.func (.func 57) #[.pointer (some ⟨b15, 0, none⟩)] #[], Value.func (.func 58) #[.pointer (some ⟨b15, 0, none⟩)] #[]] : List Value)]) (fun g => True) isGo58 (Evs.cast (.pl rfl) (u := Value.func (.func 58) #[.pointer (some ⟨b15, 0, none⟩)] #[]) (by rw [show v17 = (4 : Int) from of_decide_eq_true hT23]; rfl)) (.nil) rfl (fun wz hw => rows_log_empty_ok (T := [cBx b6 66 (encBad (Bad.mk 0 0 0)), cR (fun q => [q]) 1 (some ⟨b16, 0, none⟩) 5 119 ([Value.func (.func 54) #[.pointer (some ⟨b15, 0, none⟩)] #[], Value.func (.func 55) #[.pointer (some ⟨b15, 0, none⟩)] #[], Value.func (.func 56) #[.pointer (some ⟨b15, 0, none⟩)] #[], Value.func (.func 57) #[.pointer (some ⟨b15, 0, none⟩)] #[], Value.func (.func 58) #[.pointer (some ⟨b15, 0, none⟩)] #[]] : List Value)]) (hr31) (hw.pick [2, 3, 4, 0, 1] rfl) ) ?_)
                    rintro _ -
                    refine WL.step (WO.alloc (cs := (encBad (Bad.mk 0 0 0)).toArray) zero66 rfl rfl fun b32 => ?_)
                    refine WL.step (WO.storeBA (ds := (encBad (Bad.mk r31.1 r31.2 0))) (cs' := (encBad (Bad.mk r31.1 r31.2 0))) cells66 (.pl rfl) (.pl rfl) rfl (oneBad _) (i := 0) rfl (lel (o := 0) (l := 3) (m := 3) (by decide) rfl rfl) (putW rfl) ?_)
                    refine WL.nil ?_
                    exact W.joinAt4 hK18 r31.1 r31.2 0 b32 (Option.some.inj hF17) (.cons rfl (.nil)) (.cons (i := 3) rfl (.cons (i := 29) rfl (.cons (i := 30) rfl (.cons (i := 31) rfl (.nil))))) (fun wz hw => hw.pick [4, 0, 5, 1, 2, 3] rfl)
                  · replace hF17 := cneg hT23 hF17
                    exact nomatch hF17
        · -- behind
          rintro Kind20 A21 B22 b19 rfl
          refine W.seqR fun Q24 hQ24 => ?_
          refine WL.q (Y.fieldAddr0 (off := 0) (ft := 3) Try.underlying66 rfl cells3 (.pl rfl)) rfl ?_
          refine WL.q (Y.loadB (v := .int .i64 Kind20) Try.underlying3 rfl (.pl rfl) (i := 1) rfl (rfl)) rfl ?_
          refine WL.q (Y.neq (.pl rfl) (.pl rfl)) rfl ?_
          refine WL.next hQ24 (.cons (i := 3) rfl (.cons (i := 9) rfl (.cons (i := 29) rfl (.cons (i := 30) rfl (.cons (i := 31) rfl (.cons (i := 39) rfl (.nil))))))) ?_
          refine W.cond (.pl rfl) (fun hC25 => ?_) (fun hC25 => ?_)
          · replace hF10 := cpos hC25 hF10
            refine W.seqT 2 (by kernel_rfl) (by kernel_rfl) fun Q26 hQ26 => ?_
            refine WS.q (Y.loadBA (ds := (encBad (Bad.mk Kind20 A21 B22))) Try.underlying66 rfl cells66 (.pl rfl) (i := 1) rfl rfl subW) rfl ?_
            refine WS.q (Y.assign (.pl rfl)) rfl ?_
            refine WS.tail ?_
            refine WL.step (WO.storeBA (ds := (encBad (Bad.mk Kind20 A21 B22))) (cs' := (encBad (Bad.mk Kind20 A21 B22))) cells66 (.pl rfl) (.pl rfl) rfl (oneBad _) (i := 0) rfl (lel (o := 0) (l := 3) (m := 3) (by decide) rfl rfl) (putW rfl) ?_)
            refine WL.q (Y.assign (.pl rfl)) rfl ?_
            refine WL.next hQ26 (.cons (i := 2) rfl (.cons (i := 3) rfl (.cons (i := 4) rfl (.nil)))) ?_
            obtain rfl := Option.some.inj hF10
            obtain rfl := einr hN10
            obtain rfl := Option.some.inj hF
            refine W.retV (fn := Try.f29) (vs := [.bool false, .agg (encBad (Bad.mk Kind20 A21 B22)).toArray, .int .i64 0]) Try.results29 ⟨.tmp rfl, ⟨.cellA Try.underlying66 rfl cells66 rfl (i := 0) rfl rfl, ⟨.tmp rfl, trivial⟩⟩⟩ (fun _ _ h => h) (fun wz hw => ?_)
            exact hR _ _ ⟨rfl, (hw.pick [] rfl)⟩
          · replace hF10 := cneg hC25 hF10
            refine W.skip ?_
            refine W.go hK15 (.cons (i := 3) rfl (.cons (i := 29) rfl (.cons (i := 30) rfl (.cons (i := 31) rfl (.nil))))) ?_
            refine W.reg ?_
            obtain ⟨hk33, hF10⟩ := ckh hF10
            refine WL.q (Y.add (.pl rfl) (.pl rfl) (ok64_lt (hk33))) rfl ?_
            refine WL.q (Y.move (.pl rfl)) rfl ?_
            refine WL.nil ?_
            obtain rfl := Option.some.inj hF10
            exact W.again1 hK11 (v17 + 1) k10 hN10 (Nat.lt_succ_self _) (.cons rfl (.nil)) (.cons (i := 3) rfl (.cons (i := 29) rfl (.cons (i := 30) rfl (.nil)))) (fun wz hw => hw.pick [0, 2, 3, 4, 5] rfl)
      · replace hF10 := cneg hC14 hF10
        refine W.exit ?_
        obtain rfl := Option.some.inj hF10
        exact W.joinAt0 hK8  (einr hN10) (.nil) (.cons (i := 3) rfl (.nil)) (fun wz hw => hw.pick [0] rfl)
    · -- behind
      rintro  rfl
      refine W.seqR fun Q28 hQ28 => ?_
      refine WL.q (Y.build (cs := (encBad (Bad.mk 0 0 0)).toArray) shape66 (.nil) (one_parts trivial) rfl) rfl ?_
      refine WL.q (Y.assign (.pl rfl)) rfl ?_
      refine WL.step (WO.storeBA (ds := (encBad (Bad.mk 0 0 0))) (cs' := (encBad (Bad.mk 0 0 0))) cells66 (.pl rfl) (.pl rfl) rfl (oneBad _) (i := 0) rfl (lel (o := 0) (l := 3) (m := 3) (by decide) rfl rfl) (putW rfl) ?_)
      refine WL.q (Y.assign (.pl rfl)) rfl ?_
      refine WL.next hQ28 (.cons (i := 2) rfl (.cons (i := 3) rfl (.cons (i := 4) rfl (.nil)))) ?_
      obtain rfl := Option.some.inj hF
      refine W.retV (fn := Try.f29) (vs := [.bool true, .agg (encBad (Bad.mk 0 0 0)).toArray, .int .i64 0]) Try.results29 ⟨.tmp rfl, ⟨.cellA Try.underlying66 rfl cells66 rfl (i := 0) rfl rfl, ⟨.tmp rfl, trivial⟩⟩⟩ (fun _ _ h => h) (fun wz hw => ?_)
      exact hR _ _ ⟨rfl, (hw.pick [] rfl)⟩

end Go.Proofs.Ytkmmagekepoapaa
