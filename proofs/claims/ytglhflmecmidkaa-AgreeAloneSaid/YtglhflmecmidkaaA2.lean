/- The walks of package agree: the machine. -/
import Derived.Test.YtglhflmecmidkaaA1
set_option linter.unusedVariables false
set_option linter.unusedSimpArgs false
set_option linter.unusedSectionVars false
set_option maxRecDepth 100000
namespace Go.Proofs.Ytglhflmecmidkaa
open Go.RowKit
theorem cells22 : Try.prog.cellsOf 22 = 0 + 1 := by kernel_rfl
theorem cells34 : Try.prog.cellsOf 34 = 0 + 1 := by kernel_rfl
theorem isGo18 : IsGo Try.prog 18 := ⟨_, Try.func18, by kernel_rfl, rfl⟩
theorem zero3 : ∃ i, Try.prog.info? 3 = some i ∧ i.zero = some (Value.int .i64 0) := ⟨_, rfl, by kernel_rfl⟩
/-- Maps from numbers to numbers. -/
def getZ : List (Int × Int) → Int → Option Int
  | [], _ => none
  | (a, v) :: r, k => if a = k then some v else getZ r k
def putZ : List (Int × Int) → Int → Int → List (Int × Int)
  | [], k, v => [(k, v)]
  | (a, u) :: r, k, v => if a = k then (a, v) :: r else (a, u) :: putZ r k v
def vals (l : List (Int × Int)) : List (Int × Value) := l.map fun p => (p.1, .int .i64 p.2)
theorem getI_vals (k : Int) : ∀ l, getI (vals l) k = (getZ l k).map (Value.int .i64)
  | [] => rfl
  | (a, v) :: r => by
    have := getI_vals k r
    simp only [vals, List.map_cons, getI, getZ] at this ⊢
    split
    · rfl
    · exact this
theorem putI_vals (k v : Int) : ∀ l, putI (vals l) k (.int .i64 v) = vals (putZ l k v)
  | [] => rfl
  | (a, u) :: r => by
    have := putI_vals k v r
    simp only [vals, List.map_cons, putI, putZ] at this ⊢
    split
    · simp
    · simp [this]
theorem getI_vals_some (k : Int) (l : List (Int × Int)) : (getI (vals l) k).isSome = (getZ l k).isSome := by rw [getI_vals]; cases getZ l k <;> rfl
theorem getI_vals0 (k : Int) (l : List (Int × Int)) : (getI (vals l) k).getD (Value.int .i64 0) = .int .i64 ((getZ l k).getD 0) := by rw [getI_vals]; cases getZ l k <;> rfl
/-- All processes with what they share. -/
structure Mac where
  places : List (Int × Int)
  count : Int
  step : List Int
  x : List Int
  out : List Int
def row (b : Nat) (xs : List Int) : Chunk := cObj b (.cells (ints xs).toArray 3 (0, 0))
/-- The memory of a machine. -/
def memM (bm bp bs bx bo m : Nat) (vv : Value) (s : Mac) : List Chunk :=
  [cObj bm (.cells #[vv, .map (some bp), .int .i64 s.count, .slice (some ⟨bs, 0, none⟩) m m, .slice (some ⟨bx, 0, none⟩) m m, .slice (some ⟨bo, 0, none⟩) m m] 36 (0, 0)), cMap bp (vals s.places), row bs s.step, row bx s.x, row bo s.out]
structure Mac.Ok (s : Mac) (m : Nat) : Prop where
  m8 : m ≤ 8
  step : s.step.length = m
  x : s.x.length = m
  out : s.out.length = m
  cnt : 0 ≤ s.count ∧ s.count ≤ 1000
theorem ints_get {xs : List Int} {k : Nat} (h : k < xs.length) : (ints xs).toArray[k]? = some (.int .i64 xs[k]) := by simp [ints, h]
theorem ints_size (xs : List Int) : (ints xs).toArray.size = xs.length := by simp [ints]
theorem ints_set (xs : List Int) (k : Nat) (v : Int) : (ints xs).toArray.setIfInBounds k (.int .i64 v) = (ints (xs.set k v)).toArray := by simp [ints, List.map_set]
theorem St.row {base : Nat} {w0 w : World} {L : List Chunk} (h : St base w0 L w) {i b : Nat} {xs : List Int} (hi : L[i]? = some (row b xs)) {k : Nat} (hk : k < xs.length) : w.cell? ⟨b, k, none⟩ = some (.int .i64 xs[k]) :=
  cell_of_obj (h.obj hi) (ints_get hk)
theorem St.cong {base : Nat} {w0 w : World} {L L' : List Chunk} (h : St base w0 L w) (e : L = L') : St base w0 L' w := e ▸ h

/-- A slice of numbers in old memory. -/
structure OldInts (base : Nat) (w : World) (v : Value) (xs : List Int) : Prop where
  is : ∃ a cap, v = .slice a xs.length cap ∧ xs.length ≤ cap ∧ ∀ i (h : i < xs.length), okA a ∧ w.cell? (elA a i) = some (.int .i64 xs[i]) ∧ (elA a i).block < base
def ownF (vs : List Int) (s : Mac) (q : Nat) : Mac := { s with places := putZ s.places q (vs.getD q 0), step := s.step.set q 1 }
def casF (vs : List Int) (s : Mac) (q : Nat) : Mac :=
  if s.step.getD q 0 = 0 then { s with places := if (getZ s.places (-1)).isSome then s.places else putZ s.places (-1) (vs.getD q 0), step := s.step.set q 1 }
  else { s with out := s.out.set q ((getZ s.places (-1)).getD 0) }
theorem getD_get {xs : List Int} {k : Nat} (h : k < xs.length) : xs.getD k 0 = xs[k] := by simp [h]

theorem own_ok {base : Nat} {w0 w : World} {bm bp bs bx bo : Nat} {vs : List Int} {vv : Value} {s : Mac} {who : Int} (hw0 : St base w0 (memM bm bp bs bx bo vs.length vv s) w) (hvs : OldInts base w0 vv vs) (hok : s.Ok vs.length) (hwho : 0 ≤ who ∧ who < vs.length) :
    Calls Try.prog 18 [.pointer (some ⟨bm, 0, none⟩), .int .i64 who].toArray w fun e w' => e = .returned (.tuple #[]) ∧ St base w0 (memM bm bp bs bx bo vs.length vv (ownF vs s who.toNat)) w' := by
  obtain ⟨a1, c1, rfl, hcap1, hv⟩ := hvs
  obtain ⟨m8, hls, hlx, hlo, hcnt⟩ := hok
  obtain ⟨q, rfl⟩ : ∃ q : Nat, who = q := ⟨who.toNat, by omega⟩
  have hq : q < vs.length := by omega
  have hqs : q < s.step.length := by omega
  have hqx : q < s.x.length := by omega
  have hqo : q < s.out.length := by omega
  refine W.enter (n := 22) Try.func18 rfl rfl Sub.refl (by simp) hw0 fun R hR => ?_
  unfold memM at *
  -- region 0: agree.go:21
  refine W.seqT 12 (by kernel_rfl) (by kernel_rfl) fun Q1 hQ1 => ?_
  refine WS.q (Y.move (.pl rfl)) rfl ?_
  refine WS.q (Y.nilCheck (.pl rfl)) rfl ?_
  refine WS.q ((by first | exact Y.fieldAddr0 (off := 1) (ft := 34) Try.underlying36 rfl cells34 (.pl rfl) | exact Y.fieldAddr (off := 1) (ft := 34) Try.underlying36 rfl cells34 (.pl rfl))) rfl ?_
  refine WS.q (Y.load Try.underlying34 rfl (.pl rfl) (fun w hw => by first | exact cell_lit (hw.obj (i := 0) rfl) rfl | exact hw.ro (hv q hq).2.1 (hv q hq).2.2 | exact hw.row (i := 2) rfl hqs | exact hw.row (i := 3) rfl hqx | exact hw.row (i := 4) rfl hqo)) rfl ?_
  refine WS.q (Y.move (.pl rfl)) rfl ?_
  refine WS.q (Y.move (.pl rfl)) rfl ?_
  refine WS.q (Y.nilCheck (.pl rfl)) rfl ?_
  refine WS.q ((by first | exact Y.fieldAddr0 (off := 0) (ft := 22) Try.underlying36 rfl cells22 (.pl rfl) | exact Y.fieldAddr (off := 0) (ft := 22) Try.underlying36 rfl cells22 (.pl rfl))) rfl ?_
  refine WS.q (Y.load Try.underlying22 rfl (.pl rfl) (fun w hw => by first | exact cell_lit (hw.obj (i := 0) rfl) rfl | exact hw.ro (hv q hq).2.1 (hv q hq).2.2 | exact hw.row (i := 2) rfl hqs | exact hw.row (i := 3) rfl hqx | exact hw.row (i := 4) rfl hqo)) rfl ?_
  refine WS.q (Y.move (.pl rfl)) rfl ?_
  refine WS.q (Y.elem1N Try.underlying22 cells3 (.pl rfl) (.pl rfl) (by exact hq) (hv q hq).1) rfl ?_
  refine WS.q (Y.load Try.underlying3 rfl (.pl rfl) (fun w hw => by first | exact cell_lit (hw.obj (i := 0) rfl) rfl | exact hw.ro (hv q hq).2.1 (hv q hq).2.2 | exact hw.row (i := 2) rfl hqs | exact hw.row (i := 3) rfl hqx | exact hw.row (i := 4) rfl hqo)) rfl ?_
  refine WS.tail ?_
  refine WL.step (WO.mapSet Try.underlying34 Try.underlying3 (.pl rfl) (.pl rfl) (.pl rfl) (i := 1) rfl ?_)
  refine WL.next hQ1 (.cons (i := 0) rfl (.cons (i := 1) rfl (.nil))) ?_
  -- region 1: agree.go:22
  refine W.reg ?_
  refine WL.q (Y.move (.pl rfl)) rfl ?_
  refine WL.q (Y.nilCheck (.pl rfl)) rfl ?_
  refine WL.q ((by first | exact Y.fieldAddr0 (off := 3) (ft := 22) Try.underlying36 rfl cells22 (.pl rfl) | exact Y.fieldAddr (off := 3) (ft := 22) Try.underlying36 rfl cells22 (.pl rfl))) rfl ?_
  refine WL.q (Y.load Try.underlying22 rfl (.pl rfl) (fun w hw => by first | exact cell_lit (hw.obj (i := 0) rfl) rfl | exact hw.ro (hv q hq).2.1 (hv q hq).2.2 | exact hw.row (i := 2) rfl hqs | exact hw.row (i := 3) rfl hqx | exact hw.row (i := 4) rfl hqo)) rfl ?_
  refine WL.q (Y.move (.pl rfl)) rfl ?_
  refine WL.q (Y.own1N Try.underlying22 cells3 (.pl rfl) (.pl rfl) (by omega)) rfl ?_
  refine WL.step (WO.store cells3 (.pl rfl) (.pl rfl) rfl (i := 2) rfl (by rw [ints_size]; exact hqs) ?_)
  refine WL.nil ?_
  refine W.end0 (fn := Try.f18) Try.results18 (fun _ _ h => h) (fun w hw => ?_)
  refine hR _ _ ?_
  refine ⟨rfl, hw.cong ?_⟩
  simp only [ownF, casF, getI_vals0, row, List.set_cons_zero, List.set_cons_succ, ints_set, putI_vals, Int.toNat_natCast, getD_get hq]

theorem cas_ok {base : Nat} {w0 w : World} {bm bp bs bx bo : Nat} {vs : List Int} {vv : Value} {s : Mac} {who : Int} (hw0 : St base w0 (memM bm bp bs bx bo vs.length vv s) w) (hvs : OldInts base w0 vv vs) (hok : s.Ok vs.length) (hwho : 0 ≤ who ∧ who < vs.length) :
    Calls Try.prog 12 [.pointer (some ⟨bm, 0, none⟩), .int .i64 who].toArray w fun e w' => e = .returned (.tuple #[]) ∧ St base w0 (memM bm bp bs bx bo vs.length vv (casF vs s who.toNat)) w' := by
  obtain ⟨a1, c1, rfl, hcap1, hv⟩ := hvs
  obtain ⟨m8, hls, hlx, hlo, hcnt⟩ := hok
  obtain ⟨q, rfl⟩ : ∃ q : Nat, who = q := ⟨who.toNat, by omega⟩
  have hq : q < vs.length := by omega
  have hqs : q < s.step.length := by omega
  have hqx : q < s.x.length := by omega
  have hqo : q < s.out.length := by omega
  refine W.enter (n := 52) Try.func12 rfl rfl Sub.refl (by simp) hw0 fun R hR => ?_
  unfold memM at *
  refine W.seq fun K1 hK1 => ?_
  -- region 0: agree.go:26
  refine W.seqR fun Q2 hQ2 => ?_
  refine WL.q (Y.move (.pl rfl)) rfl ?_
  refine WL.q (Y.nilCheck (.pl rfl)) rfl ?_
  refine WL.q ((by first | exact Y.fieldAddr0 (off := 3) (ft := 22) Try.underlying36 rfl cells22 (.pl rfl) | exact Y.fieldAddr (off := 3) (ft := 22) Try.underlying36 rfl cells22 (.pl rfl))) rfl ?_
  refine WL.q (Y.load Try.underlying22 rfl (.pl rfl) (fun w hw => by first | exact cell_lit (hw.obj (i := 0) rfl) rfl | exact hw.ro (hv q hq).2.1 (hv q hq).2.2 | exact hw.row (i := 2) rfl hqs | exact hw.row (i := 3) rfl hqx | exact hw.row (i := 4) rfl hqo)) rfl ?_
  refine WL.q (Y.move (.pl rfl)) rfl ?_
  refine WL.q (Y.own1N Try.underlying22 cells3 (.pl rfl) (.pl rfl) (by omega)) rfl ?_
  refine WL.q (Y.load Try.underlying3 rfl (.pl rfl) (fun w hw => by first | exact cell_lit (hw.obj (i := 0) rfl) rfl | exact hw.ro (hv q hq).2.1 (hv q hq).2.2 | exact hw.row (i := 2) rfl hqs | exact hw.row (i := 3) rfl hqx | exact hw.row (i := 4) rfl hqo)) rfl ?_
  refine WL.q (Y.eql (.pl rfl) (.pl rfl)) rfl ?_
  refine WL.next hQ2 (.cons (i := 0) rfl (.cons (i := 1) rfl (.cons (i := 13) rfl (.nil)))) ?_
  refine W.cond (.pl rfl) (fun hC0 => ?_) (fun hC0 => ?_)
  · -- C0 yes
    try simp only [Bool.or_eq_true, Bool.and_eq_true, Bool.not_eq_true', decide_eq_true_eq, decide_eq_false_iff_not, Bool.or_eq_false_iff, Bool.and_eq_false_iff, Bool.not_eq_false', Bool.not_eq_eq_eq_not, Bool.not_true, Bool.not_false] at hC0
    have hs0 : s.step.getD q 0 = 0 := by rw [getD_get hqs]; exact hC0
    refine W.join (γ := Unit) (Em := fun _ => []) (M := fun _ => memM bm bp bs bx bo vs.length (.slice a1 vs.length c1) { s with places := if (getZ s.places (-1)).isSome then s.places else putZ s.places (-1) (vs.getD q 0) }) (I := fun _ => True) (.cons (i := 0) rfl (.cons (i := 1) rfl (.nil))) (fun K3 hK3 => ?_) ?_
    · -- up to J0
      -- region 1: agree.go:27
      refine W.seqR fun Q4 hQ4 => ?_
      refine WL.q (Y.move (.pl rfl)) rfl ?_
      refine WL.q (Y.nilCheck (.pl rfl)) rfl ?_
      refine WL.q ((by first | exact Y.fieldAddr0 (off := 1) (ft := 34) Try.underlying36 rfl cells34 (.pl rfl) | exact Y.fieldAddr (off := 1) (ft := 34) Try.underlying36 rfl cells34 (.pl rfl))) rfl ?_
      refine WL.q (Y.load Try.underlying34 rfl (.pl rfl) (fun w hw => by first | exact cell_lit (hw.obj (i := 0) rfl) rfl | exact hw.ro (hv q hq).2.1 (hv q hq).2.2 | exact hw.row (i := 2) rfl hqs | exact hw.row (i := 3) rfl hqx | exact hw.row (i := 4) rfl hqo)) rfl ?_
      refine WL.q (Y.mapHas Try.underlying34 Try.underlying3 zero3 (.pl rfl) (.pl rfl) (i := 1) rfl) rfl ?_
      refine WL.q (Y.move (.pl rfl)) rfl ?_
      refine WL.q (Y.extract (.pl rfl) rfl) rfl ?_
      refine WL.q (Y.extract (.pl rfl) rfl) rfl ?_
      refine WL.q (Y.assign (.pl rfl)) rfl ?_
      refine WL.q (Y.assign (.pl rfl)) rfl ?_
      refine WL.next hQ4 (.cons (i := 0) rfl (.cons (i := 1) rfl (.cons (i := 5) rfl (.nil)))) ?_
      -- region 2: agree.go:27
      refine W.seqR fun Q5 hQ5 => ?_
      refine WL.q (Y.move (.pl rfl)) rfl ?_
      refine WL.q (Y.not (.pl rfl)) rfl ?_
      refine WL.next hQ5 (.cons (i := 0) rfl (.cons (i := 1) rfl (.cons (i := 23) rfl (.nil)))) ?_
      refine W.cond (.pl rfl) (fun hC1 => ?_) (fun hC1 => ?_)
      · -- C1 yes
        try simp only [Bool.or_eq_true, Bool.and_eq_true, Bool.not_eq_true', decide_eq_true_eq, decide_eq_false_iff_not, Bool.or_eq_false_iff, Bool.and_eq_false_iff, Bool.not_eq_false', Bool.not_eq_eq_eq_not, Bool.not_true, Bool.not_false] at hC1
        have hm : (getZ s.places (-1)).isSome = false := by rw [← getI_vals_some]; simpa using hC1
        -- region 3: agree.go:28
        refine W.regT 11 (by kernel_rfl) (by kernel_rfl) ?_
        refine WS.q (Y.move (.pl rfl)) rfl ?_
        refine WS.q (Y.nilCheck (.pl rfl)) rfl ?_
        refine WS.q ((by first | exact Y.fieldAddr0 (off := 1) (ft := 34) Try.underlying36 rfl cells34 (.pl rfl) | exact Y.fieldAddr (off := 1) (ft := 34) Try.underlying36 rfl cells34 (.pl rfl))) rfl ?_
        refine WS.q (Y.load Try.underlying34 rfl (.pl rfl) (fun w hw => by first | exact cell_lit (hw.obj (i := 0) rfl) rfl | exact hw.ro (hv q hq).2.1 (hv q hq).2.2 | exact hw.row (i := 2) rfl hqs | exact hw.row (i := 3) rfl hqx | exact hw.row (i := 4) rfl hqo)) rfl ?_
        refine WS.q (Y.move (.pl rfl)) rfl ?_
        refine WS.q (Y.nilCheck (.pl rfl)) rfl ?_
        refine WS.q ((by first | exact Y.fieldAddr0 (off := 0) (ft := 22) Try.underlying36 rfl cells22 (.pl rfl) | exact Y.fieldAddr (off := 0) (ft := 22) Try.underlying36 rfl cells22 (.pl rfl))) rfl ?_
        refine WS.q (Y.load Try.underlying22 rfl (.pl rfl) (fun w hw => by first | exact cell_lit (hw.obj (i := 0) rfl) rfl | exact hw.ro (hv q hq).2.1 (hv q hq).2.2 | exact hw.row (i := 2) rfl hqs | exact hw.row (i := 3) rfl hqx | exact hw.row (i := 4) rfl hqo)) rfl ?_
        refine WS.q (Y.move (.pl rfl)) rfl ?_
        refine WS.q (Y.elem1N Try.underlying22 cells3 (.pl rfl) (.pl rfl) (by exact hq) (hv q hq).1) rfl ?_
        refine WS.q (Y.load Try.underlying3 rfl (.pl rfl) (fun w hw => by first | exact cell_lit (hw.obj (i := 0) rfl) rfl | exact hw.ro (hv q hq).2.1 (hv q hq).2.2 | exact hw.row (i := 2) rfl hqs | exact hw.row (i := 3) rfl hqx | exact hw.row (i := 4) rfl hqo)) rfl ?_
        refine WS.tail ?_
        refine WL.step (WO.mapSet Try.underlying34 Try.underlying3 (.pl rfl) (.pl rfl) (.pl rfl) (i := 1) rfl ?_)
        refine WL.nil ?_
        exact W.joinAt hK3 (()) (by first | trivial | omega) (.nil) (.cons (i := 0) rfl (.cons (i := 1) rfl (.nil))) (fun w hw => hw.cong (by simp only [memM, hm, putI_vals, getD_get hq, List.set_cons_zero, List.set_cons_succ, if_false, Bool.false_eq_true]))
      · -- C1 no
        try simp only [Bool.or_eq_true, Bool.and_eq_true, Bool.not_eq_true', decide_eq_true_eq, decide_eq_false_iff_not, Bool.or_eq_false_iff, Bool.and_eq_false_iff, Bool.not_eq_false', Bool.not_eq_eq_eq_not, Bool.not_true, Bool.not_false] at hC1
        have hm : (getZ s.places (-1)).isSome = true := by rw [← getI_vals_some]; simpa using hC1
        refine W.skip ?_
        exact W.joinAt hK3 (()) (by first | trivial | omega) (.nil) (.cons (i := 0) rfl (.cons (i := 1) rfl (.nil))) (fun w hw => hw.cong (by simp only [memM, hm, if_true]))
    · -- behind J0
      intro _ _
      unfold memM
      -- region 4: agree.go:30
      refine W.seqR fun Q7 hQ7 => ?_
      refine WL.q (Y.move (.pl rfl)) rfl ?_
      refine WL.q (Y.nilCheck (.pl rfl)) rfl ?_
      refine WL.q ((by first | exact Y.fieldAddr0 (off := 3) (ft := 22) Try.underlying36 rfl cells22 (.pl rfl) | exact Y.fieldAddr (off := 3) (ft := 22) Try.underlying36 rfl cells22 (.pl rfl))) rfl ?_
      refine WL.q (Y.load Try.underlying22 rfl (.pl rfl) (fun w hw => by first | exact cell_lit (hw.obj (i := 0) rfl) rfl | exact hw.ro (hv q hq).2.1 (hv q hq).2.2 | exact hw.row (i := 2) rfl hqs | exact hw.row (i := 3) rfl hqx | exact hw.row (i := 4) rfl hqo)) rfl ?_
      refine WL.q (Y.move (.pl rfl)) rfl ?_
      refine WL.q (Y.own1N Try.underlying22 cells3 (.pl rfl) (.pl rfl) (by omega)) rfl ?_
      refine WL.step (WO.store cells3 (.pl rfl) (.pl rfl) rfl (i := 2) rfl (by rw [ints_size]; exact hqs) ?_)
      refine WL.next hQ7 (.nil) ?_
      refine W.ret0 (fn := Try.f12) Try.results12 (fun _ _ h => h) (fun w hw => ?_)
      refine hR _ _ ?_
      refine ⟨rfl, hw.cong ?_⟩
      simp only [ownF, casF, if_pos hs0, getI_vals0, row, List.set_cons_zero, List.set_cons_succ, ints_set, putI_vals, Int.toNat_natCast, getD_get hq]
  · -- C0 no
    try simp only [Bool.or_eq_true, Bool.and_eq_true, Bool.not_eq_true', decide_eq_true_eq, decide_eq_false_iff_not, Bool.or_eq_false_iff, Bool.and_eq_false_iff, Bool.not_eq_false', Bool.not_eq_eq_eq_not, Bool.not_true, Bool.not_false] at hC0
    have hs0 : ¬ s.step.getD q 0 = 0 := by rw [getD_get hqs]; exact hC0
    refine W.skip ?_
    refine W.go hK1 (.cons (i := 0) rfl (.cons (i := 1) rfl (.nil))) ?_
    -- region 5: agree.go:33
    refine W.regT 11 (by kernel_rfl) (by kernel_rfl) ?_
    refine WS.q (Y.move (.pl rfl)) rfl ?_
    refine WS.q (Y.nilCheck (.pl rfl)) rfl ?_
    refine WS.q ((by first | exact Y.fieldAddr0 (off := 5) (ft := 22) Try.underlying36 rfl cells22 (.pl rfl) | exact Y.fieldAddr (off := 5) (ft := 22) Try.underlying36 rfl cells22 (.pl rfl))) rfl ?_
    refine WS.q (Y.load Try.underlying22 rfl (.pl rfl) (fun w hw => by first | exact cell_lit (hw.obj (i := 0) rfl) rfl | exact hw.ro (hv q hq).2.1 (hv q hq).2.2 | exact hw.row (i := 2) rfl hqs | exact hw.row (i := 3) rfl hqx | exact hw.row (i := 4) rfl hqo)) rfl ?_
    refine WS.q (Y.move (.pl rfl)) rfl ?_
    refine WS.q (Y.move (.pl rfl)) rfl ?_
    refine WS.q (Y.nilCheck (.pl rfl)) rfl ?_
    refine WS.q ((by first | exact Y.fieldAddr0 (off := 1) (ft := 34) Try.underlying36 rfl cells34 (.pl rfl) | exact Y.fieldAddr (off := 1) (ft := 34) Try.underlying36 rfl cells34 (.pl rfl))) rfl ?_
    refine WS.q (Y.load Try.underlying34 rfl (.pl rfl) (fun w hw => by first | exact cell_lit (hw.obj (i := 0) rfl) rfl | exact hw.ro (hv q hq).2.1 (hv q hq).2.2 | exact hw.row (i := 2) rfl hqs | exact hw.row (i := 3) rfl hqx | exact hw.row (i := 4) rfl hqo)) rfl ?_
    refine WS.q (Y.mapGet Try.underlying34 Try.underlying3 zero3 (.pl rfl) (.pl rfl) (i := 1) rfl) rfl ?_
    refine WS.q (Y.own1N Try.underlying22 cells3 (.pl rfl) (.pl rfl) (by omega)) rfl ?_
    refine WS.tail ?_
    refine WL.step (WO.store cells3 (.pl rfl) (.pl rfl) (by rw [getI_vals0]; rfl) (i := 4) rfl (by rw [ints_size]; exact hqo) ?_)
    refine WL.nil ?_
    refine W.end0 (fn := Try.f12) Try.results12 (fun _ _ h => h) (fun w hw => ?_)
    refine hR _ _ ?_
    refine ⟨rfl, hw.cong ?_⟩
    simp only [ownF, casF, if_neg hs0, getI_vals0, row, List.set_cons_zero, List.set_cons_succ, ints_set, putI_vals, Int.toNat_natCast, getD_get hq]

def ticF (vs : List Int) (s : Mac) (q : Nat) : Mac :=
  if s.step.getD q 0 = 0 then ownF vs s q
  else if s.step.getD q 0 = 1 then { s with x := s.x.set q s.count, count := s.count + 1, step := s.step.set q 2 }
  else if s.x.getD q 0 = 0 then { s with out := s.out.set q (vs.getD q 0) } else { s with out := s.out.set q ((getZ s.places (1 - (q : Int))).getD 0) }
def naiF (vs : List Int) (s : Mac) (q : Nat) : Mac :=
  if s.step.getD q 0 = 0 then ownF vs s q
  else { s with out := s.out.set q (match getZ s.places (1 - (q : Int)) with | some v => min v (vs.getD q 0) | none => vs.getD q 0) }

theorem tic_ok {base : Nat} {w0 w : World} {bm bp bs bx bo : Nat} {vs : List Int} {vv : Value} {s : Mac} {who : Int} (hw0 : St base w0 (memM bm bp bs bx bo vs.length vv s) w) (hvs : OldInts base w0 vv vs) (hok : s.Ok vs.length) (hwho : 0 ≤ who ∧ who < vs.length) :
    Calls Try.prog 13 [.pointer (some ⟨bm, 0, none⟩), .int .i64 who].toArray w fun e w' => e = .returned (.tuple #[]) ∧ St base w0 (memM bm bp bs bx bo vs.length vv (ticF vs s who.toNat)) w' := by
  obtain ⟨a1, c1, rfl, hcap1, hv⟩ := hvs
  obtain ⟨m8, hls, hlx, hlo, hcnt⟩ := hok
  obtain ⟨q, rfl⟩ : ∃ q : Nat, who = q := ⟨who.toNat, by omega⟩
  have hq : q < vs.length := by omega
  have hqs : q < s.step.length := by omega
  have hqx : q < s.x.length := by omega
  have hqo : q < s.out.length := by omega
  refine W.enter (n := 83) Try.func13 rfl rfl Sub.refl (by simp) hw0 fun R hR => ?_
  unfold memM at *
  refine W.block ?_
  -- region 1: agree.go:38
  refine W.seqR fun Q1 hQ1 => ?_
  refine WL.q (Y.move (.pl rfl)) rfl ?_
  refine WL.q (Y.nilCheck (.pl rfl)) rfl ?_
  refine WL.q ((by first | exact Y.fieldAddr0 (off := 3) (ft := 22) Try.underlying36 rfl cells22 (.pl rfl) | exact Y.fieldAddr (off := 3) (ft := 22) Try.underlying36 rfl cells22 (.pl rfl))) rfl ?_
  refine WL.q (Y.load Try.underlying22 rfl (.pl rfl) (fun w hw => by first | exact cell_lit (hw.obj (i := 0) rfl) rfl | exact hw.ro (hv q hq).2.1 (hv q hq).2.2 | exact hw.row (i := 2) rfl hqs | exact hw.row (i := 3) rfl hqx | exact hw.row (i := 4) rfl hqo)) rfl ?_
  refine WL.q (Y.move (.pl rfl)) rfl ?_
  refine WL.q ((by first | exact Y.own1N Try.underlying22 cells3 (.pl rfl) (.pl rfl) (by omega) | exact Y.own1Z Try.underlying22 cells3 (.pl rfl) (.pl rfl) (by omega) | exact Y.elem1N Try.underlying22 cells3 (.pl rfl) (.pl rfl) (by omega) (hv q hq).1 | exact Y.elem1Z Try.underlying22 cells3 (.pl rfl) (.pl rfl) (by omega) (hv q hq).1)) rfl ?_
  refine WL.q (Y.load Try.underlying3 rfl (.pl rfl) (fun w hw => by first | exact cell_lit (hw.obj (i := 0) rfl) rfl | exact hw.ro (hv q hq).2.1 (hv q hq).2.2 | exact hw.row (i := 2) rfl hqs | exact hw.row (i := 3) rfl hqx | exact hw.row (i := 4) rfl hqo)) rfl ?_
  refine WL.q (Y.eql (.pl rfl) (.pl rfl)) rfl ?_
  refine WL.q (Y.assign (.pl rfl)) rfl ?_
  refine WL.next hQ1 (.cons (i := 0) rfl (.cons (i := 1) rfl (.cons (i := 17) rfl (.nil)))) ?_
  refine W.cond (.pl rfl) (fun hC0 => ?_) (fun hC0 => ?_)
  · -- C0 yes
    try simp only [Bool.or_eq_true, Bool.and_eq_true, Bool.not_eq_true', decide_eq_true_eq, decide_eq_false_iff_not, Bool.or_eq_false_iff, Bool.and_eq_false_iff, Bool.not_eq_false', Bool.not_eq_eq_eq_not, Bool.not_true, Bool.not_false] at hC0
    have hs0 : s.step.getD q 0 = 0 := by rw [getD_get (by assumption)]; exact hC0
    -- region 2: agree.go:39
    refine W.reg ?_
    refine WL.q (Y.move (.pl rfl)) rfl ?_
    refine WL.q (Y.move (.pl rfl)) rfl ?_
    refine WL.step (WO.call (fun _ : Unit => .tuple #[]) (fun _ => memM bm bp bs bx bo vs.length (.slice a1 vs.length c1) (ownF vs s (q : Int).toNat)) (fun _ => True) isGo18 (.cons (.pl rfl) (.cons (.pl rfl) (.nil))) rfl (fun w hw => by refine (own_ok hw (OldInts.mk ⟨a1, c1, rfl, hcap1, hv⟩) ⟨m8, hls, hlx, hlo, hcnt⟩ (by omega)).mono ?_; rintro e w2 ⟨rfl, h2⟩; exact ⟨(), trivial, rfl, h2⟩) ?_)
    intro _ _
    refine WL.nil ?_
    refine W.end0 (fn := Try.f13) Try.results13 (fun _ _ h => h) (fun w hw => ?_)
    refine hR _ _ ?_
    refine ⟨rfl, hw.cong ?_⟩
    simp only [ticF, if_pos hs0, memM, Int.toNat_natCast]
  · -- C0 no
    try simp only [Bool.or_eq_true, Bool.and_eq_true, Bool.not_eq_true', decide_eq_true_eq, decide_eq_false_iff_not, Bool.or_eq_false_iff, Bool.and_eq_false_iff, Bool.not_eq_false', Bool.not_eq_eq_eq_not, Bool.not_true, Bool.not_false] at hC0
    have hs0 : ¬ s.step.getD q 0 = 0 := by rw [getD_get (by assumption)]; exact hC0
    -- region 3: agree.go:40
    refine W.seqR fun Q2 hQ2 => ?_
    refine WL.q (Y.move (.pl rfl)) rfl ?_
    refine WL.q (Y.nilCheck (.pl rfl)) rfl ?_
    refine WL.q ((by first | exact Y.fieldAddr0 (off := 3) (ft := 22) Try.underlying36 rfl cells22 (.pl rfl) | exact Y.fieldAddr (off := 3) (ft := 22) Try.underlying36 rfl cells22 (.pl rfl))) rfl ?_
    refine WL.q (Y.load Try.underlying22 rfl (.pl rfl) (fun w hw => by first | exact cell_lit (hw.obj (i := 0) rfl) rfl | exact hw.ro (hv q hq).2.1 (hv q hq).2.2 | exact hw.row (i := 2) rfl hqs | exact hw.row (i := 3) rfl hqx | exact hw.row (i := 4) rfl hqo)) rfl ?_
    refine WL.q (Y.move (.pl rfl)) rfl ?_
    refine WL.q ((by first | exact Y.own1N Try.underlying22 cells3 (.pl rfl) (.pl rfl) (by omega) | exact Y.own1Z Try.underlying22 cells3 (.pl rfl) (.pl rfl) (by omega) | exact Y.elem1N Try.underlying22 cells3 (.pl rfl) (.pl rfl) (by omega) (hv q hq).1 | exact Y.elem1Z Try.underlying22 cells3 (.pl rfl) (.pl rfl) (by omega) (hv q hq).1)) rfl ?_
    refine WL.q (Y.load Try.underlying3 rfl (.pl rfl) (fun w hw => by first | exact cell_lit (hw.obj (i := 0) rfl) rfl | exact hw.ro (hv q hq).2.1 (hv q hq).2.2 | exact hw.row (i := 2) rfl hqs | exact hw.row (i := 3) rfl hqx | exact hw.row (i := 4) rfl hqo)) rfl ?_
    refine WL.q (Y.eql (.pl rfl) (.pl rfl)) rfl ?_
    refine WL.q (Y.assign (.pl rfl)) rfl ?_
    refine WL.next hQ2 (.cons (i := 0) rfl (.cons (i := 1) rfl (.cons (i := 29) rfl (.nil)))) ?_
    refine W.cond (.pl rfl) (fun hC1 => ?_) (fun hC1 => ?_)
    · -- C1 yes
      try simp only [Bool.or_eq_true, Bool.and_eq_true, Bool.not_eq_true', decide_eq_true_eq, decide_eq_false_iff_not, Bool.or_eq_false_iff, Bool.and_eq_false_iff, Bool.not_eq_false', Bool.not_eq_eq_eq_not, Bool.not_true, Bool.not_false] at hC1
      have hs1 : s.step.getD q 0 = 1 := by rw [getD_get (by assumption)]; exact hC1
      -- region 4: agree.go:41
      refine W.seqT 10 (by kernel_rfl) (by kernel_rfl) fun Q3 hQ3 => ?_
      refine WS.q (Y.move (.pl rfl)) rfl ?_
      refine WS.q (Y.nilCheck (.pl rfl)) rfl ?_
      refine WS.q ((by first | exact Y.fieldAddr0 (off := 4) (ft := 22) Try.underlying36 rfl cells22 (.pl rfl) | exact Y.fieldAddr (off := 4) (ft := 22) Try.underlying36 rfl cells22 (.pl rfl))) rfl ?_
      refine WS.q (Y.load Try.underlying22 rfl (.pl rfl) (fun w hw => by first | exact cell_lit (hw.obj (i := 0) rfl) rfl | exact hw.ro (hv q hq).2.1 (hv q hq).2.2 | exact hw.row (i := 2) rfl hqs | exact hw.row (i := 3) rfl hqx | exact hw.row (i := 4) rfl hqo)) rfl ?_
      refine WS.q (Y.move (.pl rfl)) rfl ?_
      refine WS.q (Y.move (.pl rfl)) rfl ?_
      refine WS.q (Y.nilCheck (.pl rfl)) rfl ?_
      refine WS.q ((by first | exact Y.fieldAddr0 (off := 2) (ft := 3) Try.underlying36 rfl cells3 (.pl rfl) | exact Y.fieldAddr (off := 2) (ft := 3) Try.underlying36 rfl cells3 (.pl rfl))) rfl ?_
      refine WS.q (Y.load Try.underlying3 rfl (.pl rfl) (fun w hw => by first | exact cell_lit (hw.obj (i := 0) rfl) rfl | exact hw.ro (hv q hq).2.1 (hv q hq).2.2 | exact hw.row (i := 2) rfl hqs | exact hw.row (i := 3) rfl hqx | exact hw.row (i := 4) rfl hqo)) rfl ?_
      refine WS.q ((by first | exact Y.own1N Try.underlying22 cells3 (.pl rfl) (.pl rfl) (by omega) | exact Y.own1Z Try.underlying22 cells3 (.pl rfl) (.pl rfl) (by omega) | exact Y.elem1N Try.underlying22 cells3 (.pl rfl) (.pl rfl) (by omega) (hv q hq).1 | exact Y.elem1Z Try.underlying22 cells3 (.pl rfl) (.pl rfl) (by omega) (hv q hq).1)) rfl ?_
      refine WS.tail ?_
      refine WL.step (WO.store cells3 (.pl rfl) (.pl rfl) rfl (i := 3) rfl (by rw [ints_size]; exact hqx) ?_)
      refine WL.next hQ3 (.cons (i := 0) rfl (.cons (i := 1) rfl (.nil))) ?_
      -- region 5: agree.go:42
      refine W.seqR fun Q4 hQ4 => ?_
      refine WL.q (Y.move (.pl rfl)) rfl ?_
      refine WL.q (Y.nilCheck (.pl rfl)) rfl ?_
      refine WL.q ((by first | exact Y.fieldAddr0 (off := 2) (ft := 3) Try.underlying36 rfl cells3 (.pl rfl) | exact Y.fieldAddr (off := 2) (ft := 3) Try.underlying36 rfl cells3 (.pl rfl))) rfl ?_
      refine WL.q (Y.load Try.underlying3 rfl (.pl rfl) (fun w hw => by first | exact cell_lit (hw.obj (i := 0) rfl) rfl | exact hw.ro (hv q hq).2.1 (hv q hq).2.2 | exact hw.row (i := 2) rfl hqs | exact hw.row (i := 3) rfl hqx | exact hw.row (i := 4) rfl hqo)) rfl ?_
      refine WL.q (Y.add (.pl rfl) (.pl rfl) (by omega)) rfl ?_
      refine WL.q (Y.nilCheck (.pl rfl)) rfl ?_
      refine WL.q ((by first | exact Y.fieldAddr0 (off := 2) (ft := 3) Try.underlying36 rfl cells3 (.pl rfl) | exact Y.fieldAddr (off := 2) (ft := 3) Try.underlying36 rfl cells3 (.pl rfl))) rfl ?_
      refine WL.step (WO.store cells3 (.pl rfl) (.pl rfl) rfl (i := 0) rfl (by simp) ?_)
      refine WL.next hQ4 (.cons (i := 0) rfl (.cons (i := 1) rfl (.nil))) ?_
      -- region 6: agree.go:43
      refine W.reg ?_
      refine WL.q (Y.move (.pl rfl)) rfl ?_
      refine WL.q (Y.nilCheck (.pl rfl)) rfl ?_
      refine WL.q ((by first | exact Y.fieldAddr0 (off := 3) (ft := 22) Try.underlying36 rfl cells22 (.pl rfl) | exact Y.fieldAddr (off := 3) (ft := 22) Try.underlying36 rfl cells22 (.pl rfl))) rfl ?_
      refine WL.q (Y.load Try.underlying22 rfl (.pl rfl) (fun w hw => by first | exact cell_lit (hw.obj (i := 0) rfl) rfl | exact hw.ro (hv q hq).2.1 (hv q hq).2.2 | exact hw.row (i := 2) rfl hqs | exact hw.row (i := 3) rfl hqx | exact hw.row (i := 4) rfl hqo)) rfl ?_
      refine WL.q (Y.move (.pl rfl)) rfl ?_
      refine WL.q ((by first | exact Y.own1N Try.underlying22 cells3 (.pl rfl) (.pl rfl) (by omega) | exact Y.own1Z Try.underlying22 cells3 (.pl rfl) (.pl rfl) (by omega) | exact Y.elem1N Try.underlying22 cells3 (.pl rfl) (.pl rfl) (by omega) (hv q hq).1 | exact Y.elem1Z Try.underlying22 cells3 (.pl rfl) (.pl rfl) (by omega) (hv q hq).1)) rfl ?_
      refine WL.step (WO.store cells3 (.pl rfl) (.pl rfl) rfl (i := 2) rfl (by rw [ints_size]; exact hqs) ?_)
      refine WL.nil ?_
      refine W.end0 (fn := Try.f13) Try.results13 (fun _ _ h => h) (fun w hw => ?_)
      refine hR _ _ ?_
      refine ⟨rfl, hw.cong ?_⟩
      simp only [ticF, if_neg hs0, if_pos hs1, row, List.set_cons_zero, List.set_cons_succ, ints_set, putI_vals, Int.toNat_natCast, getD_get hq, getI_vals0, List.set_set, Option.getD_some] <;> rfl
    · -- C1 no
      try simp only [Bool.or_eq_true, Bool.and_eq_true, Bool.not_eq_true', decide_eq_true_eq, decide_eq_false_iff_not, Bool.or_eq_false_iff, Bool.and_eq_false_iff, Bool.not_eq_false', Bool.not_eq_eq_eq_not, Bool.not_true, Bool.not_false] at hC1
      have hs1 : ¬ s.step.getD q 0 = 1 := by rw [getD_get (by assumption)]; exact hC1
      -- region 7: agree.go:44
      refine W.seqR fun Q5 hQ5 => ?_
      refine WL.q (Y.move (.pl rfl)) rfl ?_
      refine WL.q (Y.nilCheck (.pl rfl)) rfl ?_
      refine WL.q ((by first | exact Y.fieldAddr0 (off := 4) (ft := 22) Try.underlying36 rfl cells22 (.pl rfl) | exact Y.fieldAddr (off := 4) (ft := 22) Try.underlying36 rfl cells22 (.pl rfl))) rfl ?_
      refine WL.q (Y.load Try.underlying22 rfl (.pl rfl) (fun w hw => by first | exact cell_lit (hw.obj (i := 0) rfl) rfl | exact hw.ro (hv q hq).2.1 (hv q hq).2.2 | exact hw.row (i := 2) rfl hqs | exact hw.row (i := 3) rfl hqx | exact hw.row (i := 4) rfl hqo)) rfl ?_
      refine WL.q (Y.move (.pl rfl)) rfl ?_
      refine WL.q ((by first | exact Y.own1N Try.underlying22 cells3 (.pl rfl) (.pl rfl) (by omega) | exact Y.own1Z Try.underlying22 cells3 (.pl rfl) (.pl rfl) (by omega) | exact Y.elem1N Try.underlying22 cells3 (.pl rfl) (.pl rfl) (by omega) (hv q hq).1 | exact Y.elem1Z Try.underlying22 cells3 (.pl rfl) (.pl rfl) (by omega) (hv q hq).1)) rfl ?_
      refine WL.q (Y.load Try.underlying3 rfl (.pl rfl) (fun w hw => by first | exact cell_lit (hw.obj (i := 0) rfl) rfl | exact hw.ro (hv q hq).2.1 (hv q hq).2.2 | exact hw.row (i := 2) rfl hqs | exact hw.row (i := 3) rfl hqx | exact hw.row (i := 4) rfl hqo)) rfl ?_
      refine WL.q (Y.eql (.pl rfl) (.pl rfl)) rfl ?_
      refine WL.q (Y.assign (.pl rfl)) rfl ?_
      refine WL.next hQ5 (.cons (i := 0) rfl (.cons (i := 1) rfl (.cons (i := 61) rfl (.nil)))) ?_
      refine W.cond (.pl rfl) (fun hC2 => ?_) (fun hC2 => ?_)
      · -- C2 yes
        try simp only [Bool.or_eq_true, Bool.and_eq_true, Bool.not_eq_true', decide_eq_true_eq, decide_eq_false_iff_not, Bool.or_eq_false_iff, Bool.and_eq_false_iff, Bool.not_eq_false', Bool.not_eq_eq_eq_not, Bool.not_true, Bool.not_false] at hC2
        have hx0 : s.x.getD q 0 = 0 := by rw [getD_get (by assumption)]; exact hC2
        -- region 8: agree.go:45
        refine W.regT 13 (by kernel_rfl) (by kernel_rfl) ?_
        refine WS.q (Y.move (.pl rfl)) rfl ?_
        refine WS.q (Y.nilCheck (.pl rfl)) rfl ?_
        refine WS.q ((by first | exact Y.fieldAddr0 (off := 5) (ft := 22) Try.underlying36 rfl cells22 (.pl rfl) | exact Y.fieldAddr (off := 5) (ft := 22) Try.underlying36 rfl cells22 (.pl rfl))) rfl ?_
        refine WS.q (Y.load Try.underlying22 rfl (.pl rfl) (fun w hw => by first | exact cell_lit (hw.obj (i := 0) rfl) rfl | exact hw.ro (hv q hq).2.1 (hv q hq).2.2 | exact hw.row (i := 2) rfl hqs | exact hw.row (i := 3) rfl hqx | exact hw.row (i := 4) rfl hqo)) rfl ?_
        refine WS.q (Y.move (.pl rfl)) rfl ?_
        refine WS.q (Y.move (.pl rfl)) rfl ?_
        refine WS.q (Y.nilCheck (.pl rfl)) rfl ?_
        refine WS.q ((by first | exact Y.fieldAddr0 (off := 0) (ft := 22) Try.underlying36 rfl cells22 (.pl rfl) | exact Y.fieldAddr (off := 0) (ft := 22) Try.underlying36 rfl cells22 (.pl rfl))) rfl ?_
        refine WS.q (Y.load Try.underlying22 rfl (.pl rfl) (fun w hw => by first | exact cell_lit (hw.obj (i := 0) rfl) rfl | exact hw.ro (hv q hq).2.1 (hv q hq).2.2 | exact hw.row (i := 2) rfl hqs | exact hw.row (i := 3) rfl hqx | exact hw.row (i := 4) rfl hqo)) rfl ?_
        refine WS.q (Y.move (.pl rfl)) rfl ?_
        refine WS.q ((by first | exact Y.own1N Try.underlying22 cells3 (.pl rfl) (.pl rfl) (by omega) | exact Y.own1Z Try.underlying22 cells3 (.pl rfl) (.pl rfl) (by omega) | exact Y.elem1N Try.underlying22 cells3 (.pl rfl) (.pl rfl) (by omega) (hv q hq).1 | exact Y.elem1Z Try.underlying22 cells3 (.pl rfl) (.pl rfl) (by omega) (hv q hq).1)) rfl ?_
        refine WS.q (Y.load Try.underlying3 rfl (.pl rfl) (fun w hw => by first | exact cell_lit (hw.obj (i := 0) rfl) rfl | exact hw.ro (hv q hq).2.1 (hv q hq).2.2 | exact hw.row (i := 2) rfl hqs | exact hw.row (i := 3) rfl hqx | exact hw.row (i := 4) rfl hqo)) rfl ?_
        refine WS.q ((by first | exact Y.own1N Try.underlying22 cells3 (.pl rfl) (.pl rfl) (by omega) | exact Y.own1Z Try.underlying22 cells3 (.pl rfl) (.pl rfl) (by omega) | exact Y.elem1N Try.underlying22 cells3 (.pl rfl) (.pl rfl) (by omega) (hv q hq).1 | exact Y.elem1Z Try.underlying22 cells3 (.pl rfl) (.pl rfl) (by omega) (hv q hq).1)) rfl ?_
        refine WS.tail ?_
        refine WL.step (WO.store cells3 (.pl rfl) (.pl rfl) rfl (i := 4) rfl (by rw [ints_size]; exact hqo) ?_)
        refine WL.nil ?_
        refine W.end0 (fn := Try.f13) Try.results13 (fun _ _ h => h) (fun w hw => ?_)
        refine hR _ _ ?_
        refine ⟨rfl, hw.cong ?_⟩
        simp only [ticF, if_neg hs0, if_neg hs1, if_pos hx0, row, List.set_cons_zero, List.set_cons_succ, ints_set, putI_vals, Int.toNat_natCast, getD_get hq, getI_vals0, List.set_set, Option.getD_some] <;> rfl
      · -- C2 no
        try simp only [Bool.or_eq_true, Bool.and_eq_true, Bool.not_eq_true', decide_eq_true_eq, decide_eq_false_iff_not, Bool.or_eq_false_iff, Bool.and_eq_false_iff, Bool.not_eq_false', Bool.not_eq_eq_eq_not, Bool.not_true, Bool.not_false] at hC2
        have hx0 : ¬ s.x.getD q 0 = 0 := by rw [getD_get (by assumption)]; exact hC2
        -- region 0: agree.go:47
        refine W.regT 13 (by kernel_rfl) (by kernel_rfl) ?_
        refine WS.q (Y.move (.pl rfl)) rfl ?_
        refine WS.q (Y.nilCheck (.pl rfl)) rfl ?_
        refine WS.q ((by first | exact Y.fieldAddr0 (off := 5) (ft := 22) Try.underlying36 rfl cells22 (.pl rfl) | exact Y.fieldAddr (off := 5) (ft := 22) Try.underlying36 rfl cells22 (.pl rfl))) rfl ?_
        refine WS.q (Y.load Try.underlying22 rfl (.pl rfl) (fun w hw => by first | exact cell_lit (hw.obj (i := 0) rfl) rfl | exact hw.ro (hv q hq).2.1 (hv q hq).2.2 | exact hw.row (i := 2) rfl hqs | exact hw.row (i := 3) rfl hqx | exact hw.row (i := 4) rfl hqo)) rfl ?_
        refine WS.q (Y.move (.pl rfl)) rfl ?_
        refine WS.q (Y.move (.pl rfl)) rfl ?_
        refine WS.q (Y.nilCheck (.pl rfl)) rfl ?_
        refine WS.q ((by first | exact Y.fieldAddr0 (off := 1) (ft := 34) Try.underlying36 rfl cells34 (.pl rfl) | exact Y.fieldAddr (off := 1) (ft := 34) Try.underlying36 rfl cells34 (.pl rfl))) rfl ?_
        refine WS.q (Y.load Try.underlying34 rfl (.pl rfl) (fun w hw => by first | exact cell_lit (hw.obj (i := 0) rfl) rfl | exact hw.ro (hv q hq).2.1 (hv q hq).2.2 | exact hw.row (i := 2) rfl hqs | exact hw.row (i := 3) rfl hqx | exact hw.row (i := 4) rfl hqo)) rfl ?_
        refine WS.q (Y.move (.pl rfl)) rfl ?_
        refine WS.q (Y.sub (.pl rfl) (.pl rfl) (by omega)) rfl ?_
        refine WS.q (Y.mapGet Try.underlying34 Try.underlying3 zero3 (.pl rfl) (.pl rfl) (i := 1) rfl) rfl ?_
        refine WS.q ((by first | exact Y.own1N Try.underlying22 cells3 (.pl rfl) (.pl rfl) (by omega) | exact Y.own1Z Try.underlying22 cells3 (.pl rfl) (.pl rfl) (by omega) | exact Y.elem1N Try.underlying22 cells3 (.pl rfl) (.pl rfl) (by omega) (hv q hq).1 | exact Y.elem1Z Try.underlying22 cells3 (.pl rfl) (.pl rfl) (by omega) (hv q hq).1)) rfl ?_
        refine WS.tail ?_
        refine WL.step (WO.store cells3 (.pl rfl) (.pl rfl) (by rw [getI_vals0]; rfl) (i := 4) rfl (by rw [ints_size]; exact hqo) ?_)
        refine WL.nil ?_
        refine W.end0 (fn := Try.f13) Try.results13 (fun _ _ h => h) (fun w hw => ?_)
        refine hR _ _ ?_
        refine ⟨rfl, hw.cong ?_⟩
        simp only [ticF, if_neg hs0, if_neg hs1, if_neg hx0, row, List.set_cons_zero, List.set_cons_succ, ints_set, putI_vals, Int.toNat_natCast, getD_get hq, getI_vals0, List.set_set, Option.getD_some] <;> rfl

theorem nai_ok {base : Nat} {w0 w : World} {bm bp bs bx bo : Nat} {vs : List Int} {vv : Value} {s : Mac} {who : Int} (hw0 : St base w0 (memM bm bp bs bx bo vs.length vv s) w) (hvs : OldInts base w0 vv vs) (hok : s.Ok vs.length) (hwho : 0 ≤ who ∧ who < vs.length) :
    Calls Try.prog 14 [.pointer (some ⟨bm, 0, none⟩), .int .i64 who].toArray w fun e w' => e = .returned (.tuple #[]) ∧ St base w0 (memM bm bp bs bx bo vs.length vv (naiF vs s who.toNat)) w' := by
  obtain ⟨a1, c1, rfl, hcap1, hv⟩ := hvs
  obtain ⟨m8, hls, hlx, hlo, hcnt⟩ := hok
  obtain ⟨q, rfl⟩ : ∃ q : Nat, who = q := ⟨who.toNat, by omega⟩
  have hq : q < vs.length := by omega
  have hqs : q < s.step.length := by omega
  have hqx : q < s.x.length := by omega
  have hqo : q < s.out.length := by omega
  refine W.enter (n := 56) Try.func14 rfl rfl Sub.refl (by simp) hw0 fun R hR => ?_
  unfold memM at *
  refine W.seq fun K1 hK1 => ?_
  -- region 0: agree.go:52
  refine W.seqR fun Q2 hQ2 => ?_
  refine WL.q (Y.move (.pl rfl)) rfl ?_
  refine WL.q (Y.nilCheck (.pl rfl)) rfl ?_
  refine WL.q ((by first | exact Y.fieldAddr0 (off := 3) (ft := 22) Try.underlying36 rfl cells22 (.pl rfl) | exact Y.fieldAddr (off := 3) (ft := 22) Try.underlying36 rfl cells22 (.pl rfl))) rfl ?_
  refine WL.q (Y.load Try.underlying22 rfl (.pl rfl) (fun w hw => by first | exact cell_lit (hw.obj (i := 0) rfl) rfl | exact hw.ro (hv q hq).2.1 (hv q hq).2.2 | exact hw.row (i := 2) rfl hqs | exact hw.row (i := 3) rfl hqx | exact hw.row (i := 4) rfl hqo)) rfl ?_
  refine WL.q (Y.move (.pl rfl)) rfl ?_
  refine WL.q ((by first | exact Y.own1N Try.underlying22 cells3 (.pl rfl) (.pl rfl) (by omega) | exact Y.own1Z Try.underlying22 cells3 (.pl rfl) (.pl rfl) (by omega) | exact Y.elem1N Try.underlying22 cells3 (.pl rfl) (.pl rfl) (by omega) (hv q hq).1 | exact Y.elem1Z Try.underlying22 cells3 (.pl rfl) (.pl rfl) (by omega) (hv q hq).1)) rfl ?_
  refine WL.q (Y.load Try.underlying3 rfl (.pl rfl) (fun w hw => by first | exact cell_lit (hw.obj (i := 0) rfl) rfl | exact hw.ro (hv q hq).2.1 (hv q hq).2.2 | exact hw.row (i := 2) rfl hqs | exact hw.row (i := 3) rfl hqx | exact hw.row (i := 4) rfl hqo)) rfl ?_
  refine WL.q (Y.eql (.pl rfl) (.pl rfl)) rfl ?_
  refine WL.next hQ2 (.cons (i := 0) rfl (.cons (i := 1) rfl (.cons (i := 13) rfl (.nil)))) ?_
  refine W.cond (.pl rfl) (fun hC0 => ?_) (fun hC0 => ?_)
  · -- C0 yes
    try simp only [Bool.or_eq_true, Bool.and_eq_true, Bool.not_eq_true', decide_eq_true_eq, decide_eq_false_iff_not, Bool.or_eq_false_iff, Bool.and_eq_false_iff, Bool.not_eq_false', Bool.not_eq_eq_eq_not, Bool.not_true, Bool.not_false] at hC0
    have hs0 : s.step.getD q 0 = 0 := by rw [getD_get (by assumption)]; exact hC0
    -- region 1: agree.go:53
    refine W.seqR fun Q3 hQ3 => ?_
    refine WL.q (Y.move (.pl rfl)) rfl ?_
    refine WL.q (Y.move (.pl rfl)) rfl ?_
    refine WL.step (WO.call (fun _ : Unit => .tuple #[]) (fun _ => memM bm bp bs bx bo vs.length (.slice a1 vs.length c1) (ownF vs s (q : Int).toNat)) (fun _ => True) isGo18 (.cons (.pl rfl) (.cons (.pl rfl) (.nil))) rfl (fun w hw => by refine (own_ok hw (OldInts.mk ⟨a1, c1, rfl, hcap1, hv⟩) ⟨m8, hls, hlx, hlo, hcnt⟩ (by omega)).mono ?_; rintro e w2 ⟨rfl, h2⟩; exact ⟨(), trivial, rfl, h2⟩) ?_)
    intro _ _
    refine WL.next hQ3 (.nil) ?_
    refine W.ret0 (fn := Try.f14) Try.results14 (fun _ _ h => h) (fun w hw => ?_)
    refine hR _ _ ?_
    refine ⟨rfl, hw.cong ?_⟩
    simp only [naiF, if_pos hs0, memM, Int.toNat_natCast]
  · -- C0 no
    try simp only [Bool.or_eq_true, Bool.and_eq_true, Bool.not_eq_true', decide_eq_true_eq, decide_eq_false_iff_not, Bool.or_eq_false_iff, Bool.and_eq_false_iff, Bool.not_eq_false', Bool.not_eq_eq_eq_not, Bool.not_true, Bool.not_false] at hC0
    have hs0 : ¬ s.step.getD q 0 = 0 := by rw [getD_get (by assumption)]; exact hC0
    refine W.skip ?_
    refine W.go hK1 (.cons (i := 0) rfl (.cons (i := 1) rfl (.nil))) ?_
    -- region 2: agree.go:56
    refine W.seqT 13 (by kernel_rfl) (by kernel_rfl) fun Q4 hQ4 => ?_
    refine WS.q (Y.move (.pl rfl)) rfl ?_
    refine WS.q (Y.nilCheck (.pl rfl)) rfl ?_
    refine WS.q ((by first | exact Y.fieldAddr0 (off := 5) (ft := 22) Try.underlying36 rfl cells22 (.pl rfl) | exact Y.fieldAddr (off := 5) (ft := 22) Try.underlying36 rfl cells22 (.pl rfl))) rfl ?_
    refine WS.q (Y.load Try.underlying22 rfl (.pl rfl) (fun w hw => by first | exact cell_lit (hw.obj (i := 0) rfl) rfl | exact hw.ro (hv q hq).2.1 (hv q hq).2.2 | exact hw.row (i := 2) rfl hqs | exact hw.row (i := 3) rfl hqx | exact hw.row (i := 4) rfl hqo)) rfl ?_
    refine WS.q (Y.move (.pl rfl)) rfl ?_
    refine WS.q (Y.move (.pl rfl)) rfl ?_
    refine WS.q (Y.nilCheck (.pl rfl)) rfl ?_
    refine WS.q ((by first | exact Y.fieldAddr0 (off := 0) (ft := 22) Try.underlying36 rfl cells22 (.pl rfl) | exact Y.fieldAddr (off := 0) (ft := 22) Try.underlying36 rfl cells22 (.pl rfl))) rfl ?_
    refine WS.q (Y.load Try.underlying22 rfl (.pl rfl) (fun w hw => by first | exact cell_lit (hw.obj (i := 0) rfl) rfl | exact hw.ro (hv q hq).2.1 (hv q hq).2.2 | exact hw.row (i := 2) rfl hqs | exact hw.row (i := 3) rfl hqx | exact hw.row (i := 4) rfl hqo)) rfl ?_
    refine WS.q (Y.move (.pl rfl)) rfl ?_
    refine WS.q ((by first | exact Y.own1N Try.underlying22 cells3 (.pl rfl) (.pl rfl) (by omega) | exact Y.own1Z Try.underlying22 cells3 (.pl rfl) (.pl rfl) (by omega) | exact Y.elem1N Try.underlying22 cells3 (.pl rfl) (.pl rfl) (by omega) (hv q hq).1 | exact Y.elem1Z Try.underlying22 cells3 (.pl rfl) (.pl rfl) (by omega) (hv q hq).1)) rfl ?_
    refine WS.q (Y.load Try.underlying3 rfl (.pl rfl) (fun w hw => by first | exact cell_lit (hw.obj (i := 0) rfl) rfl | exact hw.ro (hv q hq).2.1 (hv q hq).2.2 | exact hw.row (i := 2) rfl hqs | exact hw.row (i := 3) rfl hqx | exact hw.row (i := 4) rfl hqo)) rfl ?_
    refine WS.q ((by first | exact Y.own1N Try.underlying22 cells3 (.pl rfl) (.pl rfl) (by omega) | exact Y.own1Z Try.underlying22 cells3 (.pl rfl) (.pl rfl) (by omega) | exact Y.elem1N Try.underlying22 cells3 (.pl rfl) (.pl rfl) (by omega) (hv q hq).1 | exact Y.elem1Z Try.underlying22 cells3 (.pl rfl) (.pl rfl) (by omega) (hv q hq).1)) rfl ?_
    refine WS.tail ?_
    refine WL.step (WO.store cells3 (.pl rfl) (.pl rfl) rfl (i := 4) rfl (by rw [ints_size]; exact hqo) ?_)
    refine WL.next hQ4 (.cons (i := 0) rfl (.cons (i := 1) rfl (.nil))) ?_
    -- region 3: agree.go:57
    refine W.seqR fun Q5 hQ5 => ?_
    refine WL.q (Y.move (.pl rfl)) rfl ?_
    refine WL.q (Y.nilCheck (.pl rfl)) rfl ?_
    refine WL.q ((by first | exact Y.fieldAddr0 (off := 1) (ft := 34) Try.underlying36 rfl cells34 (.pl rfl) | exact Y.fieldAddr (off := 1) (ft := 34) Try.underlying36 rfl cells34 (.pl rfl))) rfl ?_
    refine WL.q (Y.load Try.underlying34 rfl (.pl rfl) (fun w hw => by first | exact cell_lit (hw.obj (i := 0) rfl) rfl | exact hw.ro (hv q hq).2.1 (hv q hq).2.2 | exact hw.row (i := 2) rfl hqs | exact hw.row (i := 3) rfl hqx | exact hw.row (i := 4) rfl hqo)) rfl ?_
    refine WL.q (Y.move (.pl rfl)) rfl ?_
    refine WL.q (Y.sub (.pl rfl) (.pl rfl) (by omega)) rfl ?_
    refine WL.q (Y.cast (Y.mapHas Try.underlying34 Try.underlying3 zero3 (.pl rfl) (.pl rfl) (i := 1) rfl) (v' := .tuple #[.int .i64 ((getZ s.places (1 - (q : Int))).getD 0), .bool (getI (vals s.places) (1 - (q : Int))).isSome]) (by rw [getI_vals0])) rfl ?_
    refine WL.q (Y.move (.pl rfl)) rfl ?_
    refine WL.q (Y.extract (.pl rfl) rfl) rfl ?_
    refine WL.q (Y.extract (.pl rfl) rfl) rfl ?_
    refine WL.q (Y.assign (.pl rfl)) rfl ?_
    refine WL.q (Y.assign (.pl rfl)) rfl ?_
    refine WL.next hQ5 (.cons (i := 0) rfl (.cons (i := 1) rfl (.cons (i := 4) rfl (.cons (i := 5) rfl (.nil))))) ?_
    -- region 4: agree.go:57
    refine W.seqR fun Q6 hQ6 => ?_
    refine WL.q (Y.move (.pl rfl)) rfl ?_
    refine WL.next hQ6 (.cons (i := 0) rfl (.cons (i := 1) rfl (.cons (i := 4) rfl (.cons (i := 40) rfl (.nil))))) ?_
    refine W.cond (.pl rfl) (fun hC1 => ?_) (fun hC1 => ?_)
    · -- C1 yes
      try simp only [Bool.or_eq_true, Bool.and_eq_true, Bool.not_eq_true', decide_eq_true_eq, decide_eq_false_iff_not, Bool.or_eq_false_iff, Bool.and_eq_false_iff, Bool.not_eq_false', Bool.not_eq_eq_eq_not, Bool.not_true, Bool.not_false] at hC1
      rw [getI_vals_some] at hC1
      obtain ⟨z, hz⟩ := Option.isSome_iff_exists.1 hC1
      -- region 5: agree.go:58
      refine W.regT 15 (by kernel_rfl) (by kernel_rfl) ?_
      refine WS.q (Y.move (.pl rfl)) rfl ?_
      refine WS.q (Y.nilCheck (.pl rfl)) rfl ?_
      refine WS.q ((by first | exact Y.fieldAddr0 (off := 5) (ft := 22) Try.underlying36 rfl cells22 (.pl rfl) | exact Y.fieldAddr (off := 5) (ft := 22) Try.underlying36 rfl cells22 (.pl rfl))) rfl ?_
      refine WS.q (Y.load Try.underlying22 rfl (.pl rfl) (fun w hw => by first | exact cell_lit (hw.obj (i := 0) rfl) rfl | exact hw.ro (hv q hq).2.1 (hv q hq).2.2 | exact hw.row (i := 2) rfl hqs | exact hw.row (i := 3) rfl hqx | exact hw.row (i := 4) rfl hqo)) rfl ?_
      refine WS.q (Y.move (.pl rfl)) rfl ?_
      refine WS.q (Y.move (.pl rfl)) rfl ?_
      refine WS.q (Y.move (.pl rfl)) rfl ?_
      refine WS.q (Y.nilCheck (.pl rfl)) rfl ?_
      refine WS.q ((by first | exact Y.fieldAddr0 (off := 0) (ft := 22) Try.underlying36 rfl cells22 (.pl rfl) | exact Y.fieldAddr (off := 0) (ft := 22) Try.underlying36 rfl cells22 (.pl rfl))) rfl ?_
      refine WS.q (Y.load Try.underlying22 rfl (.pl rfl) (fun w hw => by first | exact cell_lit (hw.obj (i := 0) rfl) rfl | exact hw.ro (hv q hq).2.1 (hv q hq).2.2 | exact hw.row (i := 2) rfl hqs | exact hw.row (i := 3) rfl hqx | exact hw.row (i := 4) rfl hqo)) rfl ?_
      refine WS.q (Y.move (.pl rfl)) rfl ?_
      refine WS.q ((by first | exact Y.own1N Try.underlying22 cells3 (.pl rfl) (.pl rfl) (by omega) | exact Y.own1Z Try.underlying22 cells3 (.pl rfl) (.pl rfl) (by omega) | exact Y.elem1N Try.underlying22 cells3 (.pl rfl) (.pl rfl) (by omega) (hv q hq).1 | exact Y.elem1Z Try.underlying22 cells3 (.pl rfl) (.pl rfl) (by omega) (hv q hq).1)) rfl ?_
      refine WS.q (Y.load Try.underlying3 rfl (.pl rfl) (fun w hw => by first | exact cell_lit (hw.obj (i := 0) rfl) rfl | exact hw.ro (hv q hq).2.1 (hv q hq).2.2 | exact hw.row (i := 2) rfl hqs | exact hw.row (i := 3) rfl hqx | exact hw.row (i := 4) rfl hqo)) rfl ?_
      refine WS.q (Y.min (.pl rfl) (.pl rfl)) rfl ?_
      refine WS.q ((by first | exact Y.own1N Try.underlying22 cells3 (.pl rfl) (.pl rfl) (by omega) | exact Y.own1Z Try.underlying22 cells3 (.pl rfl) (.pl rfl) (by omega) | exact Y.elem1N Try.underlying22 cells3 (.pl rfl) (.pl rfl) (by omega) (hv q hq).1 | exact Y.elem1Z Try.underlying22 cells3 (.pl rfl) (.pl rfl) (by omega) (hv q hq).1)) rfl ?_
      refine WS.tail ?_
      refine WL.step (WO.store cells3 (.pl rfl) (.pl rfl) rfl (i := 4) rfl (by simpa [ints] using hqo) ?_)
      refine WL.nil ?_
      refine W.end0 (fn := Try.f14) Try.results14 (fun _ _ h => h) (fun w hw => ?_)
      refine hR _ _ ?_
      refine ⟨rfl, hw.cong ?_⟩
      simp only [naiF, if_neg hs0, hz, row, List.set_cons_zero, List.set_cons_succ, ints_set, putI_vals, Int.toNat_natCast, getD_get hq, getI_vals0, List.set_set, Option.getD_some] <;> rfl
    · -- C1 no
      try simp only [Bool.or_eq_true, Bool.and_eq_true, Bool.not_eq_true', decide_eq_true_eq, decide_eq_false_iff_not, Bool.or_eq_false_iff, Bool.and_eq_false_iff, Bool.not_eq_false', Bool.not_eq_eq_eq_not, Bool.not_true, Bool.not_false] at hC1
      rw [getI_vals_some] at hC1
      have hz : getZ s.places (1 - (q : Int)) = none := by simpa using hC1
      refine W.skip ?_
      refine W.end0 (fn := Try.f14) Try.results14 (fun _ _ h => h) (fun w hw => ?_)
      refine hR _ _ ?_
      refine ⟨rfl, hw.cong ?_⟩
      simp only [naiF, if_neg hs0, hz, row, List.set_cons_zero, List.set_cons_succ, ints_set, putI_vals, Int.toNat_natCast, getD_get hq, getI_vals0, List.set_set, Option.getD_some] <;> rfl

end Go.Proofs.Ytglhflmecmidkaa
