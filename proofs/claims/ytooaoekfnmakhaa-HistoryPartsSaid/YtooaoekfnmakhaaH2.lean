/- history: the reader. -/
import Derived.Test.YtooaoekfnmakhaaH1
set_option linter.unusedVariables false
set_option linter.unusedSimpArgs false
set_option linter.unusedSectionVars false
set_option maxRecDepth 100000
namespace Go.Proofs.Ytooaoekfnmakhaa
open Go.RowKit
theorem cells22 : Try.prog.cellsOf 22 = 0 + 1 := by kernel_rfl
theorem cells24 : Try.prog.cellsOf 24 = 0 + 1 := by kernel_rfl
theorem cells30 : Try.prog.cellsOf 30 = 6 + 1 := by kernel_rfl
theorem cells82 : Try.prog.cellsOf 82 = 7 + 1 := by kernel_rfl
theorem isGo22 : IsGo Try.prog 22 := ⟨_, Try.func22, by kernel_rfl, rfl⟩
theorem isGo59 : IsGo Try.prog 59 := ⟨_, Try.func59, by kernel_rfl, rfl⟩
theorem isGo60 : IsGo Try.prog 60 := ⟨_, Try.func60, by kernel_rfl, rfl⟩
theorem bz30 : ∃ i, Try.prog.info? 30 = some i ∧ i.zero = some (Value.agg #[(Value.int .i64 0), (Value.int .i64 0), (Value.int .i64 0), (Value.int .i64 0), (Value.int .i64 0), (Value.int .i64 0), (Value.int .i64 0)]) ∧ i.size = 7 := ⟨_, rfl, by kernel_rfl, by kernel_rfl⟩
theorem ap30 : ∃ i z, Try.prog.info? 30 = some i ∧ i.zero = some z ∧ i.size = 7 ∧ i.bytes = 56 ∧ z.cells.size = 7 ∧ 0 < 7 := ⟨_, (Value.agg #[(Value.int .i64 0), (Value.int .i64 0), (Value.int .i64 0), (Value.int .i64 0), (Value.int .i64 0), (Value.int .i64 0), (Value.int .i64 0)]), rfl, by kernel_rfl, by kernel_rfl, by kernel_rfl, by kernel_rfl, by decide⟩
theorem shape30 : Shape Try.prog 30 [(0, 1), (1, 1), (2, 1), (3, 1), (4, 1), (5, 1), (6, 1)] #[(Value.int .i64 0), (Value.int .i64 0), (Value.int .i64 0), (Value.int .i64 0), (Value.int .i64 0), (Value.int .i64 0), (Value.int .i64 0)] := ⟨_, _, Value.agg #[(Value.int .i64 0), (Value.int .i64 0), (Value.int .i64 0), (Value.int .i64 0), (Value.int .i64 0), (Value.int .i64 0), (Value.int .i64 0)], Try.underlying30, rfl, by kernel_rfl, rfl, by kernel_rfl, by decide⟩
structure Rd where
  out : List Cl
  opn : List Int
def cl0 : Cl := ⟨0, 0, 0, 0, 0, 0, 0⟩
def eventF (ts : List Int) (r : Rd) (i : Int) (v : Ev) : Int × Rd :=
  if v.who < 0 ∨ 8 ≤ v.who ∨ v.thing < 0 ∨ ts.length ≤ v.thing then (3, r)
  else if v.kind ≠ 0 then
    if fitsF (ts.getD v.thing.toNat 0) v.kind = false ∨ argF v.kind v.value = false then (3, r)
    else if 0 < r.opn.getD v.who.toNat 0 then (5, r)
    else (0, ⟨r.out ++ [⟨v.who, v.thing, v.kind, v.value, 0, i, -1⟩], r.opn.set v.who.toNat (r.out.length + 1)⟩)
  else if r.opn.getD v.who.toNat 0 = 0 then (4, r)
  else if (r.out.getD (r.opn.getD v.who.toNat 0 - 1).toNat cl0).thing ≠ v.thing ∨ resF (r.out.getD (r.opn.getD v.who.toNat 0 - 1).toNat cl0).kind v.value = false then (3, r)
  else (0, ⟨r.out.set (r.opn.getD v.who.toNat 0 - 1).toNat { r.out.getD (r.opn.getD v.who.toNat 0 - 1).toNat cl0 with res := v.value, to := i }, r.opn.set v.who.toNat 0⟩)
structure Rd.Ok (r : Rd) : Prop where
  l8 : r.opn.length = 8
  ge : ∀ w, w < 8 → 0 ≤ r.opn.getD w 0 ∧ r.opn.getD w 0 ≤ r.out.length
  sm : r.out.length ≤ 1000
def memR (br : Nat) (A : Option Addr) (cap : Nat) (vv : Value) (r : Rd) : List Chunk :=
  [cObj br (.cells (vv :: .slice A r.out.length cap :: ints r.opn).toArray 84 (0, 0)), cRow A cap 30 7 r.out.length (r.out.flatMap encC)]
/-- A slice of numbers in old memory. -/
structure OldInts (base : Nat) (w : World) (v : Value) (xs : List Int) : Prop where
  is : ∃ a cap, v = .slice a xs.length cap ∧ xs.length ≤ cap ∧ ∀ i (h : i < xs.length), okA a ∧ w.cell? (elA a i) = some (.int .i64 xs[i]) ∧ (elA a i).block < base
theorem IntsIn.old {w : World} {v : Value} {xs : List Int} (h : IntsIn w v xs) : OldInts w.heap.size w v xs := by
  obtain ⟨a, cap, hv, hl, hc⟩ := h
  exact ⟨a, cap, hv, hl, fun i hi => ⟨(hc i hi).1, (hc i hi).2, World.block_lt_of_cell? _ _ (hc i hi).2⟩⟩
theorem opn_get {a b : Value} {o : List Int} {k : Nat} (h : k < o.length) : (a :: b :: ints o).toArray[2 + k]? = some (.int .i64 o[k]) := by
  rw [Nat.add_comm 2 k]
  simp [ints, h]

theorem set_1 {a b s : Value} {o : List Int} : (a :: b :: ints o).toArray.setIfInBounds 1 s = (a :: s :: ints o).toArray := by simp
theorem set_2 {a b : Value} {o : List Int} {k : Nat} {v : Int} : (a :: b :: ints o).toArray.setIfInBounds (2 + k) (.int .i64 v) = (a :: b :: ints (o.set k v)).toArray := by
  rw [Nat.add_comm 2 k]; simp [ints, List.map_set]
theorem row_ans {out : List Cl} {j : Nat} {v i : Int} (hj : j < out.length) : ((out.flatMap encC).set (j * (6 + 1) + 4) (.int .i64 v)).set (j * (6 + 1) + 6) (.int .i64 i) = (out.set j { out[j] with res := v, to := i }).flatMap encC := by
  have h1 := flat_set lenC out j 4 (.int .i64 v) { out[j] with res := v } hj (by decide) rfl
  have h2 := flat_set lenC (out.set j { out[j] with res := v }) j 6 (.int .i64 i) { out[j] with res := v, to := i } (by simpa using hj) (by decide) (by simp [encC])
  rw [show j * (6 + 1) = j * 7 by rfl, h1, h2, List.set_set]

theorem types_le {ts : List Int} (h : typesF ts = 0) : ts.length ≤ 4 := by
  unfold typesF at h
  split at h
  · cases h
  · rename_i h1
    simp at h1
    omega

theorem event_ok {base : Nat} {w0 w : World} {br cap : Nat} {A : Option Addr} {ts : List Int} {vv : Value} {r : Rd} {i : Int} {v : Ev} (hw0 : St base w0 (memR br A cap vv r) w) (hvs : OldInts base w0 vv ts) (hts : ts.length ≤ 4) (hok : r.Ok) (hi : 0 ≤ i ∧ i ≤ 1000) :
    Calls Try.prog 38 [.pointer (some ⟨br, 0, none⟩), .int .i64 i, .agg (encE v).toArray].toArray w fun e w' => e = .returned (.int .i64 (eventF ts r i v).1) ∧ ∃ A' cap', St base w0 (memR br A' cap' vv (eventF ts r i v).2) w' := by
  obtain ⟨a1, c1, rfl, hcap1, hv⟩ := hvs
  obtain ⟨who, thing, kind, value⟩ := v
  obtain ⟨l8, hge, hsm⟩ := hok
  have hA := fun h => (hw0.row_lim (i := 1) rfl).2.2 h
  refine W.enter (n := 137) Try.func38 rfl rfl Sub.refl (by simp) hw0 fun R hR => ?_
  unfold memR at *
  -- region 0: history.go:69
  refine W.seqR fun Q1 hQ1 => ?_
  refine WL.step (WO.boxA (.pl rfl) rfl fun b5 => ?_)
  refine WL.q (Y.assign (.pl rfl)) rfl ?_
  refine WL.next hQ1 (.cons (i := 0) rfl (.cons (i := 1) rfl (.cons (i := 5) rfl (.nil)))) ?_
  refine W.seq fun K2 hK2 => ?_
  -- region 1: history.go:70
  refine W.seqD (by kernel_rfl) (by kernel_rfl) fun R3 hR3 => ?_
  refine WD.q ((by first | exact Y.fieldAddr0 (off := 0) (ft := 3) Try.underlying36 rfl cells3 (.pl rfl) | exact Y.fieldAddr (off := 0) (ft := 3) Try.underlying36 rfl cells3 (.pl rfl))) rfl ?_
  refine WD.q (Y.load Try.underlying3 rfl (.pl rfl) (fun w hw => by first | exact cell_lit (hw.obj (i := 0) rfl) rfl | exact cell_lit (hw.obj (i := 1) rfl) rfl | exact cell_lit (hw.obj (i := 2) rfl) rfl)) rfl ?_
  refine WD.q (Y.lss (.pl rfl) (.pl rfl)) rfl ?_
  refine WD.q (Y.move (.pl rfl)) rfl ?_
  refine WD.g (.pl rfl rfl rfl) (fun _ => (by first | exact Y.fieldAddr0 (off := 0) (ft := 3) Try.underlying36 rfl cells3 (.pl rfl) | exact Y.fieldAddr (off := 0) (ft := 3) Try.underlying36 rfl cells3 (.pl rfl))) rfl ?_
  refine WD.g (.pl rfl rfl rfl) (fun hg => Y.load Try.underlying3 rfl (.gd (hg) rfl) (fun w hw => by first | exact cell_lit (hw.obj (i := 0) rfl) rfl | exact cell_lit (hw.obj (i := 1) rfl) rfl | exact cell_lit (hw.obj (i := 2) rfl) rfl)) rfl ?_
  refine WD.g (.pl rfl rfl rfl) (fun hg => Y.geq (.gd (hg) rfl) (.pl rfl)) rfl ?_
  refine WD.q (Y.or (.pl rfl) (fun h2 => .gd (eqf h2) rfl)) rfl ?_
  refine WD.q (Y.move (.pl rfl)) rfl ?_
  refine WD.g (.pl rfl rfl rfl) (fun _ => (by first | exact Y.fieldAddr0 (off := 1) (ft := 3) Try.underlying36 rfl cells3 (.pl rfl) | exact Y.fieldAddr (off := 1) (ft := 3) Try.underlying36 rfl cells3 (.pl rfl))) rfl ?_
  refine WD.g (.pl rfl rfl rfl) (fun hg => Y.load Try.underlying3 rfl (.gd (hg) rfl) (fun w hw => by first | exact cell_lit (hw.obj (i := 0) rfl) rfl | exact cell_lit (hw.obj (i := 1) rfl) rfl | exact cell_lit (hw.obj (i := 2) rfl) rfl)) rfl ?_
  refine WD.g (.pl rfl rfl rfl) (fun hg => Y.lss (.gd (hg) rfl) (.pl rfl)) rfl ?_
  refine WD.q (Y.or (.pl rfl) (fun h2 => .gd (eqf h2) rfl)) rfl ?_
  refine WD.q (Y.move (.pl rfl)) rfl ?_
  refine WD.g (.pl rfl rfl rfl) (fun _ => (by first | exact Y.fieldAddr0 (off := 1) (ft := 3) Try.underlying36 rfl cells3 (.pl rfl) | exact Y.fieldAddr (off := 1) (ft := 3) Try.underlying36 rfl cells3 (.pl rfl))) rfl ?_
  refine WD.g (.pl rfl rfl rfl) (fun hg => Y.load Try.underlying3 rfl (.gd (hg) rfl) (fun w hw => by first | exact cell_lit (hw.obj (i := 0) rfl) rfl | exact cell_lit (hw.obj (i := 1) rfl) rfl | exact cell_lit (hw.obj (i := 2) rfl) rfl)) rfl ?_
  refine WD.g (.pl rfl rfl rfl) (fun _ => Y.move (.pl rfl)) rfl ?_
  refine WD.g (.pl rfl rfl rfl) (fun hg => Y.nilCheck (.gd (hg) rfl)) rfl ?_
  refine WD.g (.pl rfl rfl rfl) (fun hg => (by first | exact Y.fieldAddr0 (off := 0) (ft := 22) Try.underlying84 rfl cells22 (.gd (hg) rfl) | exact Y.fieldAddr (off := 0) (ft := 22) Try.underlying84 rfl cells22 (.gd (hg) rfl))) rfl ?_
  refine WD.g (.pl rfl rfl rfl) (fun hg => Y.load Try.underlying22 rfl (.gd (hg) rfl) (fun w hw => by first | exact cell_lit (hw.obj (i := 0) rfl) rfl | exact cell_lit (hw.obj (i := 1) rfl) rfl | exact cell_lit (hw.obj (i := 2) rfl) rfl)) rfl ?_
  refine WD.g (.pl rfl rfl rfl) (fun hg => Y.len Try.underlying22 (.gd (hg) rfl)) rfl ?_
  refine WD.g (.pl rfl rfl rfl) (fun hg => Y.geq (.gd (hg) rfl) (.gd (hg) rfl)) rfl ?_
  refine WD.q (Y.or (.pl rfl) (fun h2 => .gd (eqf h2) rfl)) rfl ?_
  refine WD.next hR3 (.cons (i := 0) rfl (.cons (i := 1) rfl (.cons (i := 5) rfl (.cons (i := 31) rfl (.nil))))) ?_
  refine W.cond (.pl rfl) (fun hC0 => ?_) (fun hC0 => ?_)
  · -- C0 yes
    try simp only [Bool.or_eq_true, Bool.and_eq_true, Bool.not_eq_true', decide_eq_true_eq, decide_eq_false_iff_not, Bool.or_eq_false_iff, Bool.and_eq_false_iff, Bool.not_eq_false', Bool.not_eq_eq_eq_not, Bool.not_true, Bool.not_false] at hC0
    have hF0 : who < 0 ∨ 8 ≤ who ∨ thing < 0 ∨ (ts.length : Int) ≤ thing := by omega
    simp only [eventF, if_pos hF0] at hR
    -- region 2: history.go:71
    refine W.seqR fun Q4 hQ4 => ?_
    refine WL.q (Y.assign (.pl rfl)) rfl ?_
    refine WL.next hQ4 (.cons (i := 6) rfl (.nil)) ?_
    refine W.ret1 (fn := Try.f38) Try.results38 rfl (fun _ _ h => h) (fun w hw => ?_)
    refine hR _ _ ?_
    exact ⟨rfl, A, cap, hw.pick [1, 2] rfl⟩
  · -- C0 no
    try simp only [Bool.or_eq_true, Bool.and_eq_true, Bool.not_eq_true', decide_eq_true_eq, decide_eq_false_iff_not, Bool.or_eq_false_iff, Bool.and_eq_false_iff, Bool.not_eq_false', Bool.not_eq_eq_eq_not, Bool.not_true, Bool.not_false] at hC0
    have hF0 : ¬ (who < 0 ∨ 8 ≤ who ∨ thing < 0 ∨ (ts.length : Int) ≤ thing) := by omega
    obtain ⟨q, rfl⟩ : ∃ q : Nat, who = q := ⟨who.toNat, by omega⟩
    obtain ⟨p, rfl⟩ : ∃ p : Nat, thing = p := ⟨thing.toNat, by omega⟩
    have hq : q < r.opn.length := by omega
    have hp : p < ts.length := by omega
    have hgq := hge q (by omega)
    have hqd : r.opn.getD q 0 = r.opn[q] := getD_get hq
    have hpd : ts.getD p 0 = ts[p] := getD_get hp
    rw [hqd] at hgq
    simp only [eventF, if_neg hF0, Int.toNat_natCast, hqd, hpd] at hR
    refine W.skip ?_
    refine W.go hK2 (.cons (i := 0) rfl (.cons (i := 1) rfl (.cons (i := 5) rfl (.nil)))) ?_
    -- region 3: history.go:73
    refine W.seqD (by kernel_rfl) (by kernel_rfl) fun R5 hR5 => ?_
    refine WD.q (Y.move (.pl rfl)) rfl ?_
    refine WD.q ((by first | exact Y.fieldAddr0 (off := 0) (ft := 3) Try.underlying36 rfl cells3 (.pl rfl) | exact Y.fieldAddr (off := 0) (ft := 3) Try.underlying36 rfl cells3 (.pl rfl))) rfl ?_
    refine WD.q (Y.load Try.underlying3 rfl (.pl rfl) (fun w hw => by first | exact cell_lit (hw.obj (i := 0) rfl) rfl | exact cell_lit (hw.obj (i := 1) rfl) rfl | exact cell_lit (hw.obj (i := 2) rfl) rfl)) rfl ?_
    refine WD.q (Y.nilCheck (.pl rfl)) rfl ?_
    refine WD.q ((by first | exact Y.fieldAddr0 (off := 2) (ft := 82) Try.underlying84 rfl cells82 (.pl rfl) | exact Y.fieldAddr (off := 2) (ft := 82) Try.underlying84 rfl cells82 (.pl rfl))) rfl ?_
    refine WD.q ((by first | exact Y.arr1N Try.underlying82 cells3 (.pl rfl) (.pl rfl) (by omega) | exact Y.arr1Z Try.underlying82 cells3 (.pl rfl) (.pl rfl) (by omega))) rfl ?_
    refine WD.q (Y.load Try.underlying3 rfl (.pl rfl) (fun w hw => cell_of_obj (hw.obj (i := 1) rfl) (opn_get (k := q) hq))) rfl ?_
    refine WD.q (Y.assign (.pl rfl)) rfl ?_
    refine WD.next hR5 (.cons (i := 0) rfl (.cons (i := 1) rfl (.cons (i := 5) rfl (.cons (i := 7) rfl (.nil))))) ?_
    refine W.seq fun K6 hK6 => ?_
    -- region 4: history.go:74
    refine W.seqR fun Q7 hQ7 => ?_
    refine WL.q ((by first | exact Y.fieldAddr0 (off := 2) (ft := 3) Try.underlying36 rfl cells3 (.pl rfl) | exact Y.fieldAddr (off := 2) (ft := 3) Try.underlying36 rfl cells3 (.pl rfl))) rfl ?_
    refine WL.q (Y.load Try.underlying3 rfl (.pl rfl) (fun w hw => by first | exact cell_lit (hw.obj (i := 0) rfl) rfl | exact cell_lit (hw.obj (i := 1) rfl) rfl | exact cell_lit (hw.obj (i := 2) rfl) rfl)) rfl ?_
    refine WL.q (Y.neq (.pl rfl) (.pl rfl)) rfl ?_
    refine WL.next hQ7 (.cons (i := 0) rfl (.cons (i := 1) rfl (.cons (i := 5) rfl (.cons (i := 7) rfl (.cons (i := 41) rfl (.nil)))))) ?_
    refine W.cond (.pl rfl) (fun hC1 => ?_) (fun hC1 => ?_)
    · -- C1 yes
      try simp only [Bool.or_eq_true, Bool.and_eq_true, Bool.not_eq_true', decide_eq_true_eq, decide_eq_false_iff_not, Bool.or_eq_false_iff, Bool.and_eq_false_iff, Bool.not_eq_false', Bool.not_eq_eq_eq_not, Bool.not_true, Bool.not_false] at hC1
      simp only [ne_eq, hC1, not_false_eq_true, if_true] at hR
      refine W.seq fun K8 hK8 => ?_
      refine W.block ?_
      -- region 5: history.go:76
      refine W.seqD (by kernel_rfl) (by kernel_rfl) fun R9 hR9 => ?_
      refine WD.q (Y.move (.pl rfl)) rfl ?_
      refine WD.q (Y.nilCheck (.pl rfl)) rfl ?_
      refine WD.q ((by first | exact Y.fieldAddr0 (off := 0) (ft := 22) Try.underlying84 rfl cells22 (.pl rfl) | exact Y.fieldAddr (off := 0) (ft := 22) Try.underlying84 rfl cells22 (.pl rfl))) rfl ?_
      refine WD.q (Y.load Try.underlying22 rfl (.pl rfl) (fun w hw => by first | exact cell_lit (hw.obj (i := 0) rfl) rfl | exact cell_lit (hw.obj (i := 1) rfl) rfl | exact cell_lit (hw.obj (i := 2) rfl) rfl)) rfl ?_
      refine WD.q ((by first | exact Y.fieldAddr0 (off := 1) (ft := 3) Try.underlying36 rfl cells3 (.pl rfl) | exact Y.fieldAddr (off := 1) (ft := 3) Try.underlying36 rfl cells3 (.pl rfl))) rfl ?_
      refine WD.q (Y.load Try.underlying3 rfl (.pl rfl) (fun w hw => by first | exact cell_lit (hw.obj (i := 0) rfl) rfl | exact cell_lit (hw.obj (i := 1) rfl) rfl | exact cell_lit (hw.obj (i := 2) rfl) rfl)) rfl ?_
      refine WD.q (Y.elem1N Try.underlying22 cells3 (.pl rfl) (.pl rfl) (hp) (hv p hp).1) rfl ?_
      refine WD.q (Y.load Try.underlying3 rfl (.pl rfl) (fun w hw => hw.ro (hv p hp).2.1 (hv p hp).2.2)) rfl ?_
      refine WD.q ((by first | exact Y.fieldAddr0 (off := 2) (ft := 3) Try.underlying36 rfl cells3 (.pl rfl) | exact Y.fieldAddr (off := 2) (ft := 3) Try.underlying36 rfl cells3 (.pl rfl))) rfl ?_
      refine WD.q (Y.load Try.underlying3 rfl (.pl rfl) (fun w hw => by first | exact cell_lit (hw.obj (i := 0) rfl) rfl | exact cell_lit (hw.obj (i := 1) rfl) rfl | exact cell_lit (hw.obj (i := 2) rfl) rfl)) rfl ?_
      refine WD.callP isGo22 (.cons (.pl rfl) (.cons (.pl rfl) (.nil))) rfl (fun w hw => fits_ok ts[p] kind w) ?_
      refine WD.q (Y.not (.pl rfl)) rfl ?_
      refine WD.q (Y.move (.pl rfl)) rfl ?_
      refine WD.g (.pl rfl rfl rfl) (fun _ => (by first | exact Y.fieldAddr0 (off := 2) (ft := 3) Try.underlying36 rfl cells3 (.pl rfl) | exact Y.fieldAddr (off := 2) (ft := 3) Try.underlying36 rfl cells3 (.pl rfl))) rfl ?_
      refine WD.g (.pl rfl rfl rfl) (fun hg => Y.load Try.underlying3 rfl (.gd (hg) rfl) (fun w hw => by first | exact cell_lit (hw.obj (i := 0) rfl) rfl | exact cell_lit (hw.obj (i := 1) rfl) rfl | exact cell_lit (hw.obj (i := 2) rfl) rfl)) rfl ?_
      refine WD.g (.pl rfl rfl rfl) (fun _ => (by first | exact Y.fieldAddr0 (off := 3) (ft := 3) Try.underlying36 rfl cells3 (.pl rfl) | exact Y.fieldAddr (off := 3) (ft := 3) Try.underlying36 rfl cells3 (.pl rfl))) rfl ?_
      refine WD.g (.pl rfl rfl rfl) (fun hg => Y.load Try.underlying3 rfl (.gd (hg) rfl) (fun w hw => by first | exact cell_lit (hw.obj (i := 0) rfl) rfl | exact cell_lit (hw.obj (i := 1) rfl) rfl | exact cell_lit (hw.obj (i := 2) rfl) rfl)) rfl ?_
      refine WD.gP (.pl rfl rfl rfl) isGo59 (fun hg => (.cons (.gd (hg) rfl) (.cons (.gd (hg) rfl) (.nil)))) rfl (fun hg w hw => arg_ok kind value w) ?_
      refine WD.g (.pl rfl rfl rfl) (fun hg => Y.not (.gd (hg) rfl)) rfl ?_
      refine WD.q (Y.or (.pl rfl) (fun h2 => .gd (eqf h2) rfl)) rfl ?_
      refine WD.q (Y.assign (.pl rfl)) rfl ?_
      refine WD.next hR9 (.cons (i := 0) rfl (.cons (i := 1) rfl (.cons (i := 5) rfl (.cons (i := 7) rfl (.cons (i := 42) rfl (.nil)))))) ?_
      refine W.cond (.pl rfl) (fun hC2 => ?_) (fun hC2 => ?_)
      · -- C2 yes
        try simp only [Bool.or_eq_true, Bool.and_eq_true, Bool.not_eq_true', decide_eq_true_eq, decide_eq_false_iff_not, Bool.or_eq_false_iff, Bool.and_eq_false_iff, Bool.not_eq_false', Bool.not_eq_eq_eq_not, Bool.not_true, Bool.not_false] at hC2
        simp only [if_pos hC2] at hR
        -- region 6: history.go:77
        refine W.seqR fun Q10 hQ10 => ?_
        refine WL.q (Y.assign (.pl rfl)) rfl ?_
        refine WL.next hQ10 (.cons (i := 6) rfl (.nil)) ?_
        refine W.ret1 (fn := Try.f38) Try.results38 rfl (fun _ _ h => h) (fun w hw => ?_)
        refine hR _ _ ?_
        exact ⟨rfl, A, cap, hw.pick [1, 2] rfl⟩
      · -- C2 no
        try simp only [Bool.or_eq_true, Bool.and_eq_true, Bool.not_eq_true', decide_eq_true_eq, decide_eq_false_iff_not, Bool.or_eq_false_iff, Bool.and_eq_false_iff, Bool.not_eq_false', Bool.not_eq_eq_eq_not, Bool.not_true, Bool.not_false] at hC2
        have hC2n : ¬ (fitsF ts[p] kind = false ∨ argF kind value = false) := by simp [hC2]
        simp only [if_neg hC2n] at hR
        -- region 7: history.go:78
        refine W.seqR fun Q11 hQ11 => ?_
        refine WL.q (Y.move (.pl rfl)) rfl ?_
        refine WL.q (Y.gtr (.pl rfl) (.pl rfl)) rfl ?_
        refine WL.q (Y.assign (.pl rfl)) rfl ?_
        refine WL.next hQ11 (.cons (i := 0) rfl (.cons (i := 1) rfl (.cons (i := 5) rfl (.cons (i := 63) rfl (.nil))))) ?_
        refine W.cond (.pl rfl) (fun hC3 => ?_) (fun hC3 => ?_)
        · -- C3 yes
          try simp only [Bool.or_eq_true, Bool.and_eq_true, Bool.not_eq_true', decide_eq_true_eq, decide_eq_false_iff_not, Bool.or_eq_false_iff, Bool.and_eq_false_iff, Bool.not_eq_false', Bool.not_eq_eq_eq_not, Bool.not_true, Bool.not_false] at hC3
          simp only [if_pos hC3] at hR
          -- region 8: history.go:79
          refine W.seqR fun Q12 hQ12 => ?_
          refine WL.q (Y.assign (.pl rfl)) rfl ?_
          refine WL.next hQ12 (.cons (i := 6) rfl (.nil)) ?_
          refine W.ret1 (fn := Try.f38) Try.results38 rfl (fun _ _ h => h) (fun w hw => ?_)
          refine hR _ _ ?_
          exact ⟨rfl, A, cap, hw.pick [1, 2] rfl⟩
        · -- C3 no
          try simp only [Bool.or_eq_true, Bool.and_eq_true, Bool.not_eq_true', decide_eq_true_eq, decide_eq_false_iff_not, Bool.or_eq_false_iff, Bool.and_eq_false_iff, Bool.not_eq_false', Bool.not_eq_eq_eq_not, Bool.not_true, Bool.not_false] at hC3
          simp only [if_neg hC3] at hR
          refine W.skip ?_
          refine W.go hK8 (.cons (i := 0) rfl (.cons (i := 1) rfl (.cons (i := 5) rfl (.nil)))) ?_
          -- region 9: history.go:81
          refine W.seqX 16 (by kernel_rfl) fun K13 hK13 => ?_
          refine WX.pure 0 #[true, false, false, false, false, false, false, false, false, false, false, false, false, false, false, false, false, false, false, false] rfl (by kernel_rfl) (fun _ _ => Y.move (.pl rfl)) rfl ?_
          refine WX.pure 1 #[true, true, false, false, false, false, false, false, false, false, false, false, false, false, false, false, false, false, false, false] rfl (by kernel_rfl) (fun _ _ => Y.move (.pl rfl)) rfl ?_
          refine WX.pure 2 #[true, true, true, false, false, false, false, false, false, false, false, false, false, false, false, false, false, false, false, false] rfl (by kernel_rfl) (fun _ _ => Y.nilCheck (.pl rfl)) rfl ?_
          refine WX.pure 3 #[true, true, true, true, false, false, false, false, false, false, false, false, false, false, false, false, false, false, false, false] rfl (by kernel_rfl) (fun _ _ => (by first | exact Y.fieldAddr0 (off := 1) (ft := 24) Try.underlying84 rfl cells24 (.pl rfl) | exact Y.fieldAddr (off := 1) (ft := 24) Try.underlying84 rfl cells24 (.pl rfl))) rfl ?_
          refine WX.take 4 #[true, true, true, true, true, false, false, false, false, false, false, false, false, false, false, false, false, false, false, false] [] rfl rfl (by kernel_rfl) (Y.load Try.underlying24 rfl (.pl rfl) (fun w hw => by first | exact cell_lit (hw.obj (i := 0) rfl) rfl | exact cell_lit (hw.obj (i := 1) rfl) rfl | exact cell_lit (hw.obj (i := 2) rfl) rfl)) rfl ?_
          refine WX.pure 5 #[true, true, true, true, true, true, false, false, false, false, false, false, false, false, false, false, false, false, false, false] rfl (by kernel_rfl) (fun _ _ => (by first | exact Y.fieldAddr0 (off := 0) (ft := 3) Try.underlying36 rfl cells3 (.pl rfl) | exact Y.fieldAddr (off := 0) (ft := 3) Try.underlying36 rfl cells3 (.pl rfl))) rfl ?_
          refine WX.take 6 #[true, true, true, true, true, true, true, false, false, false, false, false, false, false, false, false, false, false, false, false] [] rfl rfl (by kernel_rfl) (Y.load Try.underlying3 rfl (.pl rfl) (fun w hw => by first | exact cell_lit (hw.obj (i := 0) rfl) rfl | exact cell_lit (hw.obj (i := 1) rfl) rfl | exact cell_lit (hw.obj (i := 2) rfl) rfl)) rfl ?_
          refine WX.pure 7 #[true, true, true, true, true, true, true, true, false, false, false, false, false, false, false, false, false, false, false, false] rfl (by kernel_rfl) (fun _ _ => (by first | exact Y.fieldAddr0 (off := 1) (ft := 3) Try.underlying36 rfl cells3 (.pl rfl) | exact Y.fieldAddr (off := 1) (ft := 3) Try.underlying36 rfl cells3 (.pl rfl))) rfl ?_
          refine WX.take 8 #[true, true, true, true, true, true, true, true, true, false, false, false, false, false, false, false, false, false, false, false] [] rfl rfl (by kernel_rfl) (Y.load Try.underlying3 rfl (.pl rfl) (fun w hw => by first | exact cell_lit (hw.obj (i := 0) rfl) rfl | exact cell_lit (hw.obj (i := 1) rfl) rfl | exact cell_lit (hw.obj (i := 2) rfl) rfl)) rfl ?_
          refine WX.pure 9 #[true, true, true, true, true, true, true, true, true, true, false, false, false, false, false, false, false, false, false, false] rfl (by kernel_rfl) (fun _ _ => (by first | exact Y.fieldAddr0 (off := 2) (ft := 3) Try.underlying36 rfl cells3 (.pl rfl) | exact Y.fieldAddr (off := 2) (ft := 3) Try.underlying36 rfl cells3 (.pl rfl))) rfl ?_
          refine WX.take 10 #[true, true, true, true, true, true, true, true, true, true, true, false, false, false, false, false, false, false, false, false] [] rfl rfl (by kernel_rfl) (Y.load Try.underlying3 rfl (.pl rfl) (fun w hw => by first | exact cell_lit (hw.obj (i := 0) rfl) rfl | exact cell_lit (hw.obj (i := 1) rfl) rfl | exact cell_lit (hw.obj (i := 2) rfl) rfl)) rfl ?_
          refine WX.pure 11 #[true, true, true, true, true, true, true, true, true, true, true, true, false, false, false, false, false, false, false, false] rfl (by kernel_rfl) (fun _ _ => (by first | exact Y.fieldAddr0 (off := 3) (ft := 3) Try.underlying36 rfl cells3 (.pl rfl) | exact Y.fieldAddr (off := 3) (ft := 3) Try.underlying36 rfl cells3 (.pl rfl))) rfl ?_
          refine WX.take 12 #[true, true, true, true, true, true, true, true, true, true, true, true, true, false, false, false, false, false, false, false] [] rfl rfl (by kernel_rfl) (Y.load Try.underlying3 rfl (.pl rfl) (fun w hw => by first | exact cell_lit (hw.obj (i := 0) rfl) rfl | exact cell_lit (hw.obj (i := 1) rfl) rfl | exact cell_lit (hw.obj (i := 2) rfl) rfl)) rfl ?_
          refine WX.pure 13 #[true, true, true, true, true, true, true, true, true, true, true, true, true, true, false, false, false, false, false, false] rfl (by kernel_rfl) (fun _ _ => Y.move (.pl rfl)) rfl ?_
          refine WX.pure 14 #[true, true, true, true, true, true, true, true, true, true, true, true, true, true, true, false, false, false, false, false] rfl (by kernel_rfl) (fun _ _ => Y.build shape30 (.cons (.pl rfl) (.cons (.pl rfl) (.cons (.pl rfl) (.cons (.pl rfl) (.cons (.pl rfl) (.cons (.pl rfl) (.nil))))))) (by simp [Value.oneCell']) rfl) rfl ?_
          refine WX.one 15 #[true, true, true, true, true, true, true, true, true, true, true, true, true, true, true, true, false, false, false, false] [] rfl rfl (by kernel_rfl) (WO.bslice Try.underlying24 bz30 (.cons (.pl rfl) (.nil)) rfl (by simp [Value.cells]) (by decide) rfl fun b81 => ?_)
          refine WX.stop #[true, true, true, true, true, true, true, true, true, true, true, true, true, true, true, true, true, false, false, false] [_] rfl rfl (by kernel_rfl) (WO.append Try.underlying24 ap30 (.pl rfl) (.pl rfl) (i := 3) rfl (news := encC ⟨q, p, kind, value, 0, i, -1⟩) rfl (fun w hw => news_lit hw (i := 0) rfl) (by simp [encC, Value.oneCell']) (by unfold maxLen; omega) (by omega) rfl fun A82 c82 => ?_)
          refine WA.take 17 #[true, true, true, true, true, true, true, true, true, true, true, true, true, true, true, true, true, true, false, false] rfl (by kernel_rfl) (fun _ _ => Y.nilCheck (.pl rfl)) rfl ?_
          refine WA.take 18 #[true, true, true, true, true, true, true, true, true, true, true, true, true, true, true, true, true, true, true, false] rfl (by kernel_rfl) (fun _ _ => (by first | exact Y.fieldAddr0 (off := 1) (ft := 24) Try.underlying84 rfl cells24 (.pl rfl) | exact Y.fieldAddr (off := 1) (ft := 24) Try.underlying84 rfl cells24 (.pl rfl))) rfl ?_
          refine WA.branch [19] (by kernel_rfl) ⟨?_, trivial⟩
          refine WI.step #[true, true, true, true, true, true, true, true, true, true, true, true, true, true, true, true, true, true, true, true] rfl rfl (WO.store cells24 (.pl rfl) (.pl rfl) rfl (i := 2) rfl (by simp) ?_)
          refine WA.done (by kernel_rfl) ?_
          refine KK.next hK13 (.cons (i := 0) rfl (.cons (i := 5) rfl (.nil))) ?_
          -- region 10: history.go:82
          refine W.seqT 11 (by kernel_rfl) (by kernel_rfl) fun Q14 hQ14 => ?_
          refine WS.q (Y.move (.pl rfl)) rfl ?_
          refine WS.q ((by first | exact Y.fieldAddr0 (off := 0) (ft := 3) Try.underlying36 rfl cells3 (.pl rfl) | exact Y.fieldAddr (off := 0) (ft := 3) Try.underlying36 rfl cells3 (.pl rfl))) rfl ?_
          refine WS.q (Y.load Try.underlying3 rfl (.pl rfl) (fun w hw => by first | exact cell_lit (hw.obj (i := 0) rfl) rfl | exact cell_lit (hw.obj (i := 1) rfl) rfl | exact cell_lit (hw.obj (i := 2) rfl) rfl)) rfl ?_
          refine WS.q (Y.move (.pl rfl)) rfl ?_
          refine WS.q (Y.nilCheck (.pl rfl)) rfl ?_
          refine WS.q ((by first | exact Y.fieldAddr0 (off := 1) (ft := 24) Try.underlying84 rfl cells24 (.pl rfl) | exact Y.fieldAddr (off := 1) (ft := 24) Try.underlying84 rfl cells24 (.pl rfl))) rfl ?_
          refine WS.q (Y.load Try.underlying24 rfl (.pl rfl) (fun w hw => cell_of_obj (v := .slice A82 (r.out.length + 1) c82) (hw.obj (i := 2) rfl) (by simp))) rfl ?_
          refine WS.q (Y.len Try.underlying24 (.pl rfl)) rfl ?_
          refine WS.q (Y.nilCheck (.pl rfl)) rfl ?_
          refine WS.q ((by first | exact Y.fieldAddr0 (off := 2) (ft := 82) Try.underlying84 rfl cells82 (.pl rfl) | exact Y.fieldAddr (off := 2) (ft := 82) Try.underlying84 rfl cells82 (.pl rfl))) rfl ?_
          refine WS.q ((by first | exact Y.arr1N Try.underlying82 cells3 (.pl rfl) (.pl rfl) (by omega) | exact Y.arr1Z Try.underlying82 cells3 (.pl rfl) (.pl rfl) (by omega))) rfl ?_
          refine WS.tail ?_
          refine WL.step (WO.store cells3 (.pl rfl) (.pl rfl) rfl (i := 2) rfl (by simp [ints]; omega) ?_)
          refine WL.next hQ14 (.nil) ?_
          -- region 11: history.go:83
          refine W.seqR fun Q15 hQ15 => ?_
          refine WL.q (Y.assign (.pl rfl)) rfl ?_
          refine WL.next hQ15 (.cons (i := 6) rfl (.nil)) ?_
          refine W.ret1 (fn := Try.f38) Try.results38 rfl (fun _ _ h => h) (fun w hw => ?_)
          refine hR _ _ ?_
          refine ⟨rfl, A82, c82, (hw.pick [2, 3] rfl).cong ?_⟩
          simp only [List.filterMap_cons, List.filterMap_nil, List.getElem?_cons_succ, List.getElem?_cons_zero, List.set_cons_succ, List.set_cons_zero, set_1, set_2, List.flatMap_append, List.flatMap_cons, List.flatMap_nil, List.append_nil, List.length_append, List.length_cons, List.length_nil, Nat.zero_add, Int.natCast_add]
          rfl
    · -- C1 no
      try simp only [Bool.or_eq_true, Bool.and_eq_true, Bool.not_eq_true', decide_eq_true_eq, decide_eq_false_iff_not, Bool.or_eq_false_iff, Bool.and_eq_false_iff, Bool.not_eq_false', Bool.not_eq_eq_eq_not, Bool.not_true, Bool.not_false] at hC1
      obtain rfl : kind = 0 := hC1
      simp only [ne_eq, not_true_eq_false, if_false] at hR
      refine W.skip ?_
      refine W.go hK6 (.cons (i := 0) rfl (.cons (i := 1) rfl (.cons (i := 5) rfl (.cons (i := 7) rfl (.nil))))) ?_
      refine W.seq fun K16 hK16 => ?_
      -- region 12: history.go:85
      refine W.seqR fun Q17 hQ17 => ?_
      refine WL.q (Y.move (.pl rfl)) rfl ?_
      refine WL.q (Y.eql (.pl rfl) (.pl rfl)) rfl ?_
      refine WL.next hQ17 (.cons (i := 0) rfl (.cons (i := 1) rfl (.cons (i := 5) rfl (.cons (i := 7) rfl (.cons (i := 97) rfl (.nil)))))) ?_
      refine W.cond (.pl rfl) (fun hC4 => ?_) (fun hC4 => ?_)
      · -- C4 yes
        try simp only [Bool.or_eq_true, Bool.and_eq_true, Bool.not_eq_true', decide_eq_true_eq, decide_eq_false_iff_not, Bool.or_eq_false_iff, Bool.and_eq_false_iff, Bool.not_eq_false', Bool.not_eq_eq_eq_not, Bool.not_true, Bool.not_false] at hC4
        simp only [if_pos hC4] at hR
        -- region 13: history.go:86
        refine W.seqR fun Q18 hQ18 => ?_
        refine WL.q (Y.assign (.pl rfl)) rfl ?_
        refine WL.next hQ18 (.cons (i := 6) rfl (.nil)) ?_
        refine W.ret1 (fn := Try.f38) Try.results38 rfl (fun _ _ h => h) (fun w hw => ?_)
        refine hR _ _ ?_
        exact ⟨rfl, A, cap, hw.pick [1, 2] rfl⟩
      · -- C4 no
        try simp only [Bool.or_eq_true, Bool.and_eq_true, Bool.not_eq_true', decide_eq_true_eq, decide_eq_false_iff_not, Bool.or_eq_false_iff, Bool.and_eq_false_iff, Bool.not_eq_false', Bool.not_eq_eq_eq_not, Bool.not_true, Bool.not_false] at hC4
        simp only [if_neg hC4] at hR
        have hj : (r.opn[q] - 1).toNat < r.out.length := by omega
        have hjd : r.out.getD (r.opn[q] - 1).toNat cl0 = r.out[(r.opn[q] - 1).toNat] := by rw [List.getD_eq_getElem?_getD, List.getElem?_eq_getElem hj]; rfl
        have hA' := hA (by omega)
        simp only [hjd] at hR
        refine W.skip ?_
        refine W.go hK16 (.cons (i := 0) rfl (.cons (i := 1) rfl (.cons (i := 5) rfl (.cons (i := 7) rfl (.nil))))) ?_
        -- region 14: history.go:88
        refine W.seqR fun Q19 hQ19 => ?_
        refine WL.q (Y.move (.pl rfl)) rfl ?_
        refine WL.q (Y.nilCheck (.pl rfl)) rfl ?_
        refine WL.q ((by first | exact Y.fieldAddr0 (off := 1) (ft := 24) Try.underlying84 rfl cells24 (.pl rfl) | exact Y.fieldAddr (off := 1) (ft := 24) Try.underlying84 rfl cells24 (.pl rfl))) rfl ?_
        refine WL.q (Y.load Try.underlying24 rfl (.pl rfl) (fun w hw => by first | exact cell_lit (hw.obj (i := 0) rfl) rfl | exact cell_lit (hw.obj (i := 1) rfl) rfl | exact cell_lit (hw.obj (i := 2) rfl) rfl)) rfl ?_
        refine WL.q (Y.move (.pl rfl)) rfl ?_
        refine WL.q (Y.sub (.pl rfl) (.pl rfl) (by omega)) rfl ?_
        refine WL.q (Y.elemZ Try.underlying24 cells30 (.pl rfl) (.pl rfl) (by omega) hA') rfl ?_
        refine WL.q (Y.assign (.pl rfl)) rfl ?_
        refine WL.next hQ19 (.cons (i := 0) rfl (.cons (i := 1) rfl (.cons (i := 5) rfl (.cons (i := 8) rfl (.nil))))) ?_
        refine W.seq fun K20 hK20 => ?_
        -- region 15: history.go:89
        refine W.seqD (by kernel_rfl) (by kernel_rfl) fun R21 hR21 => ?_
        refine WD.q (Y.move (.pl rfl)) rfl ?_
        refine WD.q (Y.nilCheck (.pl rfl)) rfl ?_
        refine WD.q (Y.fieldAddrE (off := 1) (ft := 3) Try.underlying30 rfl cells3 hA'.1 (.pl rfl)) rfl ?_
        refine WD.q (Y.load Try.underlying3 rfl (.pl rfl) (fun w hw => (hw.row_get (i := 2) rfl ((flat_get lenC r.out _ 1 hj (by decide)).trans rfl)).2)) rfl ?_
        refine WD.q ((by first | exact Y.fieldAddr0 (off := 1) (ft := 3) Try.underlying36 rfl cells3 (.pl rfl) | exact Y.fieldAddr (off := 1) (ft := 3) Try.underlying36 rfl cells3 (.pl rfl))) rfl ?_
        refine WD.q (Y.load Try.underlying3 rfl (.pl rfl) (fun w hw => by first | exact cell_lit (hw.obj (i := 0) rfl) rfl | exact cell_lit (hw.obj (i := 1) rfl) rfl | exact cell_lit (hw.obj (i := 2) rfl) rfl)) rfl ?_
        refine WD.q (Y.neq (.pl rfl) (.pl rfl)) rfl ?_
        refine WD.q (Y.move (.pl rfl)) rfl ?_
        refine WD.g (.pl rfl rfl rfl) (fun _ => Y.move (.pl rfl)) rfl ?_
        refine WD.g (.pl rfl rfl rfl) (fun hg => Y.nilCheck (.gd (hg) rfl)) rfl ?_
        refine WD.g (.pl rfl rfl rfl) (fun hg => Y.fieldAddrE (off := 2) (ft := 3) Try.underlying30 rfl cells3 hA'.1 (.gd (hg) rfl)) rfl ?_
        refine WD.g (.pl rfl rfl rfl) (fun hg => Y.load Try.underlying3 rfl (.gd (hg) rfl) (fun w hw => (hw.row_get (i := 2) rfl ((flat_get lenC r.out _ 2 hj (by decide)).trans rfl)).2)) rfl ?_
        refine WD.g (.pl rfl rfl rfl) (fun _ => (by first | exact Y.fieldAddr0 (off := 3) (ft := 3) Try.underlying36 rfl cells3 (.pl rfl) | exact Y.fieldAddr (off := 3) (ft := 3) Try.underlying36 rfl cells3 (.pl rfl))) rfl ?_
        refine WD.g (.pl rfl rfl rfl) (fun hg => Y.load Try.underlying3 rfl (.gd (hg) rfl) (fun w hw => by first | exact cell_lit (hw.obj (i := 0) rfl) rfl | exact cell_lit (hw.obj (i := 1) rfl) rfl | exact cell_lit (hw.obj (i := 2) rfl) rfl)) rfl ?_
        refine WD.gP (.pl rfl rfl rfl) isGo60 (fun hg => (.cons (.gd (hg) rfl) (.cons (.gd (hg) rfl) (.nil)))) rfl (fun hg w hw => res_ok r.out[(r.opn[q] - 1).toNat].kind value w) ?_
        refine WD.g (.pl rfl rfl rfl) (fun hg => Y.not (.gd (hg) rfl)) rfl ?_
        refine WD.q (Y.or (.pl rfl) (fun h2 => .gd (eqf h2) rfl)) rfl ?_
        refine WD.next hR21 (.cons (i := 0) rfl (.cons (i := 1) rfl (.cons (i := 5) rfl (.cons (i := 8) rfl (.cons (i := 121) rfl (.nil)))))) ?_
        refine W.cond (.pl rfl) (fun hC5 => ?_) (fun hC5 => ?_)
        · -- C5 yes
          try simp only [Bool.or_eq_true, Bool.and_eq_true, Bool.not_eq_true', decide_eq_true_eq, decide_eq_false_iff_not, Bool.or_eq_false_iff, Bool.and_eq_false_iff, Bool.not_eq_false', Bool.not_eq_eq_eq_not, Bool.not_true, Bool.not_false] at hC5
          simp only [if_pos hC5] at hR
          -- region 16: history.go:90
          refine W.seqR fun Q22 hQ22 => ?_
          refine WL.q (Y.assign (.pl rfl)) rfl ?_
          refine WL.next hQ22 (.cons (i := 6) rfl (.nil)) ?_
          refine W.ret1 (fn := Try.f38) Try.results38 rfl (fun _ _ h => h) (fun w hw => ?_)
          refine hR _ _ ?_
          exact ⟨rfl, A, cap, hw.pick [1, 2] rfl⟩
        · -- C5 no
          try simp only [Bool.or_eq_true, Bool.and_eq_true, Bool.not_eq_true', decide_eq_true_eq, decide_eq_false_iff_not, Bool.or_eq_false_iff, Bool.and_eq_false_iff, Bool.not_eq_false', Bool.not_eq_eq_eq_not, Bool.not_true, Bool.not_false] at hC5
          have hC5n : ¬ (¬ r.out[(r.opn[q] - 1).toNat].thing = p ∨ resF r.out[(r.opn[q] - 1).toNat].kind value = false) := fun h => by rcases h with h | h <;> simp_all
          simp only [ne_eq, if_neg hC5n] at hR
          refine W.skip ?_
          refine W.go hK20 (.cons (i := 0) rfl (.cons (i := 1) rfl (.cons (i := 5) rfl (.cons (i := 8) rfl (.nil))))) ?_
          -- region 17: history.go:92
          refine W.seqR fun Q23 hQ23 => ?_
          refine WL.q (Y.move (.pl rfl)) rfl ?_
          refine WL.q (Y.move (.pl rfl)) rfl ?_
          refine WL.q ((by first | exact Y.fieldAddr0 (off := 3) (ft := 3) Try.underlying36 rfl cells3 (.pl rfl) | exact Y.fieldAddr (off := 3) (ft := 3) Try.underlying36 rfl cells3 (.pl rfl))) rfl ?_
          refine WL.q (Y.load Try.underlying3 rfl (.pl rfl) (fun w hw => by first | exact cell_lit (hw.obj (i := 0) rfl) rfl | exact cell_lit (hw.obj (i := 1) rfl) rfl | exact cell_lit (hw.obj (i := 2) rfl) rfl)) rfl ?_
          refine WL.q (Y.move (.pl rfl)) rfl ?_
          refine WL.q (Y.nilCheck (.pl rfl)) rfl ?_
          refine WL.q (Y.fieldAddrE (off := 4) (ft := 3) Try.underlying30 rfl cells3 hA'.1 (.pl rfl)) rfl ?_
          refine WL.step (WO.storeR cells3 (.pl rfl) (.pl rfl) rfl (i := 2) rfl (by rw [flat_len lenC]; omega) ?_)
          refine WL.q (Y.nilCheck (.pl rfl)) rfl ?_
          refine WL.q (Y.fieldAddrE (off := 6) (ft := 3) Try.underlying30 rfl cells3 hA'.1 (.pl rfl)) rfl ?_
          refine WL.step (WO.storeR cells3 (.pl rfl) (.pl rfl) rfl (i := 2) rfl (by rw [List.length_set, flat_len lenC]; omega) ?_)
          refine WL.next hQ23 (.cons (i := 0) rfl (.cons (i := 5) rfl (.nil))) ?_
          -- region 18: history.go:93
          refine W.seqT 6 (by kernel_rfl) (by kernel_rfl) fun Q24 hQ24 => ?_
          refine WS.q (Y.move (.pl rfl)) rfl ?_
          refine WS.q ((by first | exact Y.fieldAddr0 (off := 0) (ft := 3) Try.underlying36 rfl cells3 (.pl rfl) | exact Y.fieldAddr (off := 0) (ft := 3) Try.underlying36 rfl cells3 (.pl rfl))) rfl ?_
          refine WS.q (Y.load Try.underlying3 rfl (.pl rfl) (fun w hw => by first | exact cell_lit (hw.obj (i := 0) rfl) rfl | exact cell_lit (hw.obj (i := 1) rfl) rfl | exact cell_lit (hw.obj (i := 2) rfl) rfl)) rfl ?_
          refine WS.q (Y.nilCheck (.pl rfl)) rfl ?_
          refine WS.q ((by first | exact Y.fieldAddr0 (off := 2) (ft := 82) Try.underlying84 rfl cells82 (.pl rfl) | exact Y.fieldAddr (off := 2) (ft := 82) Try.underlying84 rfl cells82 (.pl rfl))) rfl ?_
          refine WS.q ((by first | exact Y.arr1N Try.underlying82 cells3 (.pl rfl) (.pl rfl) (by omega) | exact Y.arr1Z Try.underlying82 cells3 (.pl rfl) (.pl rfl) (by omega))) rfl ?_
          refine WS.tail ?_
          refine WL.step (WO.store cells3 (.pl rfl) (.pl rfl) rfl (i := 1) rfl (by simp [ints]; omega) ?_)
          refine WL.next hQ24 (.nil) ?_
          -- region 19: history.go:94
          refine W.seqR fun Q25 hQ25 => ?_
          refine WL.q (Y.assign (.pl rfl)) rfl ?_
          refine WL.next hQ25 (.cons (i := 6) rfl (.nil)) ?_
          refine W.ret1 (fn := Try.f38) Try.results38 rfl (fun _ _ h => h) (fun w hw => ?_)
          refine hR _ _ ?_
          refine ⟨rfl, A, cap, (hw.pick [1, 2] rfl).cong ?_⟩
          simp only [List.filterMap_cons, List.filterMap_nil, List.getElem?_cons_succ, List.getElem?_cons_zero, List.set_cons_succ, List.set_cons_zero, set_1, set_2, row_ans hj, List.length_set]

end Go.Proofs.Ytooaoekfnmakhaa
