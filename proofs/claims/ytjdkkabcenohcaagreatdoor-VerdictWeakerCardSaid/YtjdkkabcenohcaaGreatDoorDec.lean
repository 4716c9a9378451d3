/- The words of what the walks read off the code: functions that may fail, rounds, cells of arrays; and the operations over them. It speaks of every program. -/
import Derived.Test.YtjdkkabcenohcaaGreatDoorMore
set_option linter.unusedVariables false
set_option linter.unusedSimpArgs false
set_option linter.unusedSectionVars false
namespace Go.Proofs.YtjdkkabcenohcaaGreatDoor
open Go.RowKit

/-! ### Functions that may fail -/
section
variable {α β σ ρ : Type}
/-- Rounds, at most N. -/
def iter (body : σ → Option (σ ⊕ ρ)) : Nat → σ → Option ρ
  | 0, _ => none
  | n + 1, s => match body s with
    | none => none
    | some (.inl s') => iter body n s'
    | some (.inr r) => some r
def bd (m : Option α) (f : α → Option β) : Option β := match m with
  | none => none
  | some a => f a
def ck (b : Bool) (x : Option α) : Option α := cond b x none
def lb (a : α) (f : α → Option β) : Option β := f a
def ix (l : List α) (i : Int) : Option α := if 0 ≤ i then l[i.toNat]? else none
def ax (n : Nat) (d : α) (a : List α) (i : Int) : Option α := if 0 ≤ i ∧ i < n then some (a.getD i.toNat d) else none
def inb (n : Int) (i : Int) : Bool := decide (0 ≤ i ∧ i < n)
def ok64 (z : Int) : Bool := decide (-9223372036854775808 ≤ z ∧ z ≤ 9223372036854775807)
def limB (bytes n : Nat) : Bool := decide (n ≤ maxLen ∧ n * bytes ≤ 140737488355328)
def mkB (bytes : Nat) (k : Int) : Bool := decide (0 ≤ k ∧ k.toNat ≤ maxLen ∧ bytes * k.toNat ≤ 140737488355328)
theorem iter_step {body : σ → Option (σ ⊕ ρ)} {k : Nat} {s : σ} {o : ρ} (h : iter body k s = some o) :
    ∃ k' t, k = k' + 1 ∧ body s = some t ∧ Sum.elim (fun s' => iter body k' s' = some o) (fun r => r = o) t := by
  cases k with
  | zero => cases h
  | succ k =>
    unfold iter at h
    cases hb : body s with
    | none => rw [hb] at h; cases h
    | some t =>
      rw [hb] at h
      refine ⟨k, t, rfl, rfl, ?_⟩
      cases t with
      | inl s' => exact h
      | inr r => exact Option.some.inj h
theorem bnd {m : Option α} {f : α → Option β} {r : β} (h : bd m f = some r) : ∃ x, m = some x ∧ f x = some r := by
  cases m with
  | none => cases h
  | some a => exact ⟨a, rfl, h⟩
theorem ckh {b : Bool} {x : Option α} {r : α} (h : ck b x = some r) : b = true ∧ x = some r := by
  cases b with
  | true => exact ⟨rfl, h⟩
  | false => cases h
theorem cpos {b : Bool} {x y : Option α} {r : α} (hb : b = true) (h : cond b x y = some r) : x = some r := by subst hb; exact h
theorem cneg {b : Bool} {x y : Option α} {r : α} (hb : b = false) (h : cond b x y = some r) : y = some r := by subst hb; exact h
/-- Under a guard. -/
theorem gpos {b : Bool} {x y z : Option α} (hb : b = true) (h : cond b x y = z) : x = z := by subst hb; exact h
theorem gor {b c : Bool} (hb : b = true) (h : (!b || c) = true) : c = true := by subst hb; simpa using h
theorem ix_lt {l : List α} {i : Int} {x : α} (h : ix l i = some x) : 0 ≤ i ∧ i < l.length := by
  unfold ix at h
  split at h
  · have := (List.getElem?_eq_some_iff.1 h).1; omega
  · cases h
theorem ix_get {l : List α} {i : Int} {x : α} (h : ix l i = some x) : l[i.toNat]? = some x := by
  unfold ix at h
  split at h
  · exact h
  · cases h
theorem ax_lt {n : Nat} {d : α} {a : List α} {i : Int} {x : α} (h : ax n d a i = some x) : 0 ≤ i ∧ i < n := by
  unfold ax at h
  split at h
  · assumption
  · cases h
theorem ax_get {n : Nat} {d : α} {a : List α} {i : Int} {x : α} (h : ax n d a i = some x) : a.getD i.toNat d = x := by
  unfold ax at h
  split at h
  · exact Option.some.inj h
  · cases h
theorem inb_lt {n i : Int} (h : inb n i = true) : 0 ≤ i ∧ i < n := by simpa [inb] using h
theorem ok64_lt {z : Int} (h : ok64 z = true) : -9223372036854775808 ≤ z ∧ z ≤ 9223372036854775807 := by simpa [ok64] using h
theorem limB_le {b n : Nat} (h : limB b n = true) : n ≤ maxLen ∧ n * b ≤ 140737488355328 := by simpa [limB] using h
end

theorem bsplit (b : Bool) {p : Prop} (h1 : b = true → p) (h2 : b = false → p) : p := by cases b; exact h2 rfl; exact h1 rfl
theorem gabsA {b : Bool} (h : (b == true) = false) (k : b = true) : False := by subst k; simp at h
theorem gabsO {b : Bool} (h : (b == false) = false) (k : b = false) : False := by subst k; simp at h
def bandI (k : IntKind) (x y : Int) : Int := k.wrap (BitVec.ofInt k.bits x &&& BitVec.ofInt k.bits y).toNat
def borI (k : IntKind) (x y : Int) : Int := k.wrap (BitVec.ofInt k.bits x ||| BitVec.ofInt k.bits y).toNat
def bxorI (k : IntKind) (x y : Int) : Int := k.wrap (BitVec.ofInt k.bits x ^^^ BitVec.ofInt k.bits y).toNat
def bclrI (k : IntKind) (x y : Int) : Int := k.wrap (BitVec.ofInt k.bits x &&& ~~~(BitVec.ofInt k.bits y)).toNat
def shlI (k : IntKind) (x y : Int) : Int := k.wrap (x * 2 ^ (min y.toNat k.bits))
def shrI (k : IntKind) (x y : Int) : Int := x.fdiv (2 ^ (min y.toNat k.bits))

/-! ### Cells -/
def eI (k : IntKind) (x : Int) : List Value := [.int k x]
def eB (x : Bool) : List Value := [.bool x]
def eS (x : ByteArray) : List Value := [.string x]
/-- An array's cells: of each place, whatever the list holds. -/
def encA {α : Type} (n : Nat) (enc : α → List Value) (d : α) (a : List α) : List Value := (List.range n).flatMap fun i => enc (a.getD i d)
def setA {α : Type} (n : Nat) (d : α) (a : List α) (i : Int) (v : α) : List α := (List.range n).map fun j => if j = i.toNat then v else a.getD j d
theorem setA_get {α : Type} {n : Nat} {d : α} {a : List α} {i : Int} {v : α} {j : Nat} (h : j < n) : (setA n d a i v).getD j d = if j = i.toNat then v else a.getD j d := by
  unfold setA
  rw [List.getD_eq_getElem?_getD, List.getElem?_map, List.getElem?_range h]; rfl
theorem lenA {α : Type} {n sz : Nat} {enc : α → List Value} {d : α} {a : List α} (hz : ∀ x, (enc x).length = sz) : (encA n enc d a).length = n * sz := by
  unfold encA
  have : ∀ l : List Nat, (l.flatMap fun i => enc (a.getD i d)).length = l.length * sz := by
    intro l
    induction l with
    | nil => simp
    | cons x l ih => simp only [List.flatMap_cons, List.length_append, hz, ih, List.length_cons, Nat.add_mul]; omega
  rw [this, List.length_range]
theorem encA_flat {α : Type} {n : Nat} {enc : α → List Value} {d : α} {a : List α} : encA n enc d a = ((List.range n).map fun i => a.getD i d).flatMap enc := by
  unfold encA
  rw [List.flatMap_map]
theorem oneA {α : Type} {n : Nat} {enc : α → List Value} {d : α} (h1 : ∀ x, ∀ v ∈ enc x, v.oneCell' = true) : ∀ a, ∀ v ∈ encA n enc d a, v.oneCell' = true := by
  intro a v hv
  obtain ⟨i, _, hi⟩ := List.mem_flatMap.1 hv
  exact h1 _ _ hi
theorem oneI {k : IntKind} : ∀ x, ∀ v ∈ eI k x, v.oneCell' = true := by intro x v hv; obtain rfl := List.mem_singleton.1 hv; rfl
theorem oneB : ∀ x, ∀ v ∈ eB x, v.oneCell' = true := by intro x v hv; obtain rfl := List.mem_singleton.1 hv; rfl
/-- An array's cells, amid others. -/
theorem cellsA {α : Type} {n sz i j off : Nat} {enc : α → List Value} {d x : α} {a : List α} {pre post : List Value} {v : Value} (hz : ∀ x, (enc x).length = sz) (hp : pre.length = off) (hi : i < n) (hx : a.getD i d = x) (hv : (enc x)[j]? = some v) :
    (pre ++ (encA n enc d a ++ post))[off + i * sz + j]? = some v := by
  subst hx
  have hj : j < sz := by rw [← hz (a.getD i d)]; exact (List.getElem?_eq_some_iff.1 hv).1
  have hl : i * sz + j < (encA n enc d a).length := by
    rw [lenA hz]
    have : (i + 1) * sz ≤ n * sz := Nat.mul_le_mul_right _ hi
    rw [Nat.add_mul] at this; omega
  rw [List.getElem?_append_right (by omega), show off + i * sz + j - pre.length = i * sz + j by omega, List.getElem?_append_left hl, encA_flat, flat_get hz _ i j (by simpa using hi) hj]
  simpa using hv
theorem setA_flat {α : Type} {n : Nat} {d : α} {a : List α} {i : Int} {v : α} (h0 : 0 ≤ i) (hi : i < n) : (List.range n).map (fun j => (setA n d a i v).getD j d) = ((List.range n).map fun j => a.getD j d).set i.toNat v := by
  apply List.ext_getElem
  · simp
  · intro j h1 h2
    have hj : j < n := by simpa using h1
    simp only [List.getElem_map, List.getElem_range, List.getElem_set]
    rw [setA_get hj]
    by_cases h : j = i.toNat
    · rw [if_pos h, if_pos h.symm]
    · rw [if_neg h, if_neg (Ne.symm h)]
theorem cellsSet {α : Type} {n sz j off p : Nat} {i : Int} {enc : α → List Value} {d x x' : α} {a : List α} {pre post : List Value} {v : Value} (hz : ∀ x, (enc x).length = sz) (hp : pre.length = off) (hi : 0 ≤ i ∧ i < n) (hx : a.getD i.toNat d = x) (hj : j < sz) (hs : (enc x).set j v = enc x') (hpp : p = off + i.toNat * sz + j) :
    (pre ++ (encA n enc d a ++ post)).set p v = pre ++ (encA n enc d (setA n d a i x') ++ post) := by
  subst hpp; subst hx
  have hi' : i.toNat < n := by omega
  have hl : i.toNat * sz + j < (encA n enc d a).length := by
    rw [lenA hz]
    have : (i.toNat + 1) * sz ≤ n * sz := Nat.mul_le_mul_right _ hi'
    rw [Nat.add_mul] at this; omega
  rw [List.set_append_right _ _ (by omega), show off + i.toNat * sz + j - pre.length = i.toNat * sz + j by omega, List.set_append_left _ _ hl, encA_flat, encA_flat, setA_flat hi.1 hi.2]
  rw [flat_set hz _ i.toNat j v x' (by simpa using hi') hj (by simpa using hs)]
theorem putAt_app {a b c ds : List Value} (h : b.length = ds.length) {o : Nat} (ho : o = a.length) : putAt (a ++ (b ++ c)) o ds = a ++ (ds ++ c) := by
  subst ho
  unfold putAt
  have h1 : (a ++ (b ++ c)).drop (a.length + ds.length) = c := by
    rw [← h, ← List.append_assoc, show a.length + b.length = (a ++ b).length by simp, List.drop_left]
  rw [h1, List.take_left, List.append_assoc]
abbrev cBx (b : Nat) (T : TypeId) (cs : List Value) : Chunk := cObj b (.cells cs.toArray T (0, 0))
/-- A slice of the call's own, of things. -/
abbrev cR {α : Type} (enc : α → List Value) (sz : Nat) (A : Option Addr) (cap : Nat) (E : TypeId) (xs : List α) : Chunk := cRow A cap E sz xs.length (xs.flatMap enc)

variable {P : Program} {n : Nat} {base : Nat} {w0 w : World} {L : List Chunk} {e : Env}
variable {ops rest : List Oper} {Q : Exit → Act → World → Prop} {d : Nat} {D : Option Tmp} {op : Op} {t : TypeId} {pos : String} {af : Array Edge} {G : Option (Nat × Bool)} {v u : Value} {x y z : Operand}
theorem bxget (h : St base w0 L w) {i b off : Nat} {T : TypeId} {cs : List Value} (hi : L[i]? = some (cBx b T cs)) (hv : cs[off]? = some v) : w.cell? ⟨b, off, none⟩ = some v :=
  cell_of_obj (h.obj hi) (by simpa using hv)
theorem Y.loadB {T T' b off i : Nat} {cs : List Value} {dT : TypeDesc} (hT : P.underlying T = some dT) (hd : plainT dT = true) (hx : Evs n e x (.pointer (some ⟨b, off, none⟩))) (hi : L[i]? = some (cBx b T' cs)) (hv : cs[off]? = some v) :
    Yd P n base w0 e L ⟨D, .load T x, t, pos, af, G⟩ v := Y.load hT hd hx (fun w hw => bxget hw hi hv)
theorem Y.loadBA {T T' b off i k : Nat} {cs ds : List Value} {dT : TypeDesc} (hT : P.underlying T = some dT) (hd : aggT dT = true) (hk : P.cellsOf T = k + 1) (hx : Evs n e x (.pointer (some ⟨b, off, none⟩))) (hi : L[i]? = some (cBx b T' cs)) (hl : ds.length = k + 1) (hv : ∀ j v, ds[j]? = some v → cs[off + j]? = some v) :
    Yd P n base w0 e L ⟨D, .load T x, t, pos, af, G⟩ (.agg ds.toArray) := Y.loadAgg hT hd hk hx hl (fun w hw j v hj => bxget hw hi (hv j v hj))
theorem subW {cs : List Value} : ∀ j v, cs[j]? = some v → cs[0 + j]? = some v := fun j v h => by rw [Nat.zero_add]; exact h
theorem subM {pre ds post : List Value} {o : Nat} (ho : pre.length = o) : ∀ j v, ds[j]? = some v → (pre ++ (ds ++ post))[o + j]? = some v := fun j v h => by
  have hj := (List.getElem?_eq_some_iff.1 h).1
  rw [List.getElem?_append_right (by omega), show o + j - pre.length = j by omega, List.getElem?_append_left hj]; exact h

/-! Slices. -/
section
variable {α : Type} {enc : α → List Value} {sz : Nat} {A : Option Addr} {cap m k i p E T T' : Nat} {xs : List α} {a : α} {kd : IntKind} {idx : Int}
theorem SlIn.okA' {c : Nat} (h : SlIn enc sz w (.slice A m c) xs) (hb : 0 ≤ idx ∧ idx < xs.length) : okA A := by
  obtain ⟨a, c', e, -, hh⟩ := h
  obtain ⟨rfl, rfl, rfl⟩ : A = a ∧ m = xs.length ∧ c = c' := by simpa using e
  exact (hh idx.toNat (by omega)).1
theorem SlIn.cells (h : SlIn enc sz w (.slice A m cap) xs) (hx : xs[k]? = some a) {j : Nat} (hv : (enc a)[j]? = some v) : w.cell? (elA A (k * sz + j)) = some v := by
  obtain ⟨a', c', e, -, hh⟩ := h
  obtain ⟨rfl, rfl, rfl⟩ : A = a' ∧ m = xs.length ∧ cap = c' := by simpa using e
  obtain ⟨hk, rfl⟩ := List.getElem?_eq_some_iff.1 hx
  exact (hh k hk).2 j v hv
theorem SlIn.form (h : SlIn enc sz w v xs) : ∃ A cap, v = .slice A xs.length cap ∧ xs.length ≤ cap ∧ SlIn enc sz w (.slice A xs.length cap) xs := by
  obtain ⟨a, c, e, hc, hh⟩ := h
  exact ⟨a, c, e, hc, ⟨a, c, rfl, hc, hh⟩⟩
/-- The place of an element. -/
theorem Y.slEl {c : Nat} (hT : P.underlying T = some (.slice E)) (hk : P.cellsOf E = k + 1) (h : SlIn enc sz w (.slice A xs.length c) xs) (hx : Evs n e x (.slice A xs.length c)) (hy : Evs n e y (.int kd idx)) (hb : 0 ≤ idx ∧ idx < xs.length) :
    Yd P n base w0 e L ⟨D, .indexAddr T x y, t, pos, af, G⟩ (.pointer (some (elA A (idx.toNat * (k + 1))))) := Y.elemZ hT hk hx hy hb (h.okA' hb)
theorem Y.rowEl (hT : P.underlying T = some (.slice E)) (hk : P.cellsOf E = k + 1) (hi : L[i]? = some (cR enc sz A cap T' xs)) (hx : Evs n e x (.slice A m cap)) (hm : m = xs.length) (hy : Evs n e y (.int kd idx)) (hb : 0 ≤ idx ∧ idx < xs.length) :
    Yd P n base w0 e L ⟨D, .indexAddr T x y, t, pos, af, G⟩ (.pointer (some (elA A (idx.toNat * (k + 1))))) := by
  subst hm
  intro a w ha hw
  exact Y.elemZ hT hk hx hy hb ((hw.row_lim hi).2.2 (by omega)) a w ha hw
theorem Y.slField {T i off ft k : Nat} {fs : Array Field} {j c : Nat} (hT : P.underlying T = some (.struct fs)) (hf : fieldIs P fs i off ft) (hk : P.cellsOf ft = k + 1) (h : SlIn enc sz w (.slice A xs.length c) xs) (hb : 0 ≤ idx ∧ idx < xs.length) (hx : Evs n e x (.pointer (some (elA A j)))) :
    Yd P n base w0 e L ⟨D, .fieldAddr T x i, t, pos, af, G⟩ (.pointer (some (elA A (j + off)))) := Y.fieldAddrE hT hf hk (h.okA' hb).1 hx
theorem Y.rowField {T i i' off ft k : Nat} {fs : Array Field} {j : Nat} (hT : P.underlying T = some (.struct fs)) (hf : fieldIs P fs i off ft) (hk : P.cellsOf ft = k + 1) (hi : L[i']? = some (cR enc sz A cap T' xs)) (hb : 0 ≤ idx ∧ idx < xs.length) (hx : Evs n e x (.pointer (some (elA A j)))) :
    Yd P n base w0 e L ⟨D, .fieldAddr T x i, t, pos, af, G⟩ (.pointer (some (elA A (j + off)))) := by
  intro a w ha hw
  exact Y.fieldAddrE hT hf hk ((hw.row_lim hi).2.2 (by omega)).1 hx a w ha hw
theorem Y.loadS {dT : TypeDesc} {j : Nat} {L : List Chunk} (hT : P.underlying T = some dT) (hd : plainT dT = true) (h : SlIn enc sz w0 (.slice A m cap) xs) (hx : Evs n e x (.pointer (some (elA A p)))) (ha : ix xs idx = some a) (hp : p = idx.toNat * sz + j) (hv : (enc a)[j]? = some v) :
    Yd P n w0.heap.size w0 e L ⟨D, .load T x, t, pos, af, G⟩ v := Y.load hT hd hx (fun w hw => by subst hp; exact hw.roW (h.cells (ix_get ha) hv))
theorem Y.loadSA {dT : TypeDesc} {j : Nat} {L : List Chunk} {ds : List Value} (hT : P.underlying T = some dT) (hd : aggT dT = true) (hk : P.cellsOf T = k + 1) (h : SlIn enc sz w0 (.slice A m cap) xs) (hx : Evs n e x (.pointer (some (elA A p)))) (ha : ix xs idx = some a) (hp : p = idx.toNat * sz + j) (hl : ds.length = k + 1) (hv : ∀ q v, ds[q]? = some v → (enc a)[j + q]? = some v) :
    Yd P n w0.heap.size w0 e L ⟨D, .load T x, t, pos, af, G⟩ (.agg ds.toArray) := by
  have hs : A.isSome = true := (h.okA' (ix_lt ha)).1
  exact Y.loadAggE hT hd hk hs hx hl (fun w hw q v hq => by subst hp; rw [Nat.add_assoc]; exact hw.roW (h.cells (ix_get ha) (hv q v hq)))
theorem rowcell (hw : St base w0 L w) (hz : ∀ a, (enc a).length = sz) (hi : L[i]? = some (cR enc sz A cap T' xs)) (ha : xs[k]? = some a) {j : Nat} (hv : (enc a)[j]? = some v) : w.cell? (elA A (k * sz + j)) = some v := by
  obtain ⟨hk, rfl⟩ := List.getElem?_eq_some_iff.1 ha
  exact hw.rowA hz hi hk j v hv
theorem Y.loadR {dT : TypeDesc} {j : Nat} (hT : P.underlying T = some dT) (hd : plainT dT = true) (hz : ∀ a, (enc a).length = sz) (hi : L[i]? = some (cR enc sz A cap T' xs)) (hx : Evs n e x (.pointer (some (elA A p)))) (ha : xs[idx.toNat]? = some a) (hp : p = idx.toNat * sz + j) (hv : (enc a)[j]? = some v) :
    Yd P n base w0 e L ⟨D, .load T x, t, pos, af, G⟩ v := Y.load hT hd hx (fun w hw => by subst hp; exact rowcell hw hz hi ha hv)
theorem Y.loadRA {dT : TypeDesc} {j : Nat} {ds : List Value} (hT : P.underlying T = some dT) (hd : aggT dT = true) (hk : P.cellsOf T = k + 1) (hz : ∀ a, (enc a).length = sz) (hi : L[i]? = some (cR enc sz A cap T' xs)) (hx : Evs n e x (.pointer (some (elA A p)))) (ha : xs[idx.toNat]? = some a) (hp : p = idx.toNat * sz + j) (hl : ds.length = k + 1) (hv : ∀ q v, ds[q]? = some v → (enc a)[j + q]? = some v) :
    Yd P n base w0 e L ⟨D, .load T x, t, pos, af, G⟩ (.agg ds.toArray) := by
  intro ac w hac hw
  have hlt := (List.getElem?_eq_some_iff.1 ha).1
  have hs : A.isSome = true := ((hw.row_lim hi).2.2 (by omega)).1
  exact Y.loadAggE hT hd hk hs hx hl (fun w hw q v hq => by subst hp; rw [Nat.add_assoc]; exact rowcell hw hz hi ha (hv q v hq)) ac w hac hw
theorem Y.okEl (hT : P.underlying T = some (.slice E)) (hk : P.cellsOf E = k + 1) (hok : 0 < xs.length → okA A) (hx : Evs n e x (.slice A m cap)) (hm : m = xs.length) (hy : Evs n e y (.int kd idx)) (hb : 0 ≤ idx ∧ idx < xs.length) :
    Yd P n base w0 e L ⟨D, .indexAddr T x y, t, pos, af, G⟩ (.pointer (some (elA A (idx.toNat * (k + 1))))) := by
  subst hm
  exact Y.elemZ hT hk hx hy hb (hok (by omega))
/-- The same of a slice that is somewhere. -/
theorem Y.wEl {c : Nat} (hT : P.underlying T = some (.slice E)) (hk : P.cellsOf E = k + 1) (h : ∀ w, St base w0 L w → SlIn enc sz w (.slice A xs.length c) xs) (hx : Evs n e x (.slice A xs.length c)) (hy : Evs n e y (.int kd idx)) (hb : 0 ≤ idx ∧ idx < xs.length) :
    Yd P n base w0 e L ⟨D, .indexAddr T x y, t, pos, af, G⟩ (.pointer (some (elA A (idx.toNat * (k + 1))))) := fun a w ha hw => Y.slEl hT hk (h w hw) hx hy hb a w ha hw
theorem Y.loadW {dT : TypeDesc} {j : Nat} (hT : P.underlying T = some dT) (hd : plainT dT = true) (h : ∀ w, St base w0 L w → SlIn enc sz w (.slice A m cap) xs) (hx : Evs n e x (.pointer (some (elA A p)))) (ha : ix xs idx = some a) (hp : p = idx.toNat * sz + j) (hv : (enc a)[j]? = some v) :
    Yd P n base w0 e L ⟨D, .load T x, t, pos, af, G⟩ v := Y.load hT hd hx (fun w hw => by subst hp; exact (h w hw).cells (ix_get ha) hv)
theorem SlIn.ofRow (hz : ∀ a, (enc a).length = sz) (h : St base w0 L w) (hi : L[i]? = some (cR enc sz A cap T' xs)) (hm : m = xs.length := by rfl) : SlIn enc sz w (.slice A m cap) xs := by subst hm; exact SlIn.row hz h hi
theorem SlIn.nil0 : SlIn enc sz w (.slice none 0 0) ([] : List α) := SlIn.nil
end

/-! ### Numbers -/
section
variable {kd : IntKind} {p q : Int} {tx ty : TypeId}
theorem Y.band (hx : Evs n e x (.int kd p)) (hy : Evs n e y (.int kd q)) : Yd P n base w0 e L ⟨D, .binOp .and tx x y ty, t, pos, af, G⟩ (.int kd (bandI kd p q)) :=
  fun a w ha _ => by simp [execOp, hx a ha, hy a ha, eqGuard, binOp, Op.intBits, bandI]
theorem Y.bor (hx : Evs n e x (.int kd p)) (hy : Evs n e y (.int kd q)) : Yd P n base w0 e L ⟨D, .binOp .or tx x y ty, t, pos, af, G⟩ (.int kd (borI kd p q)) :=
  fun a w ha _ => by simp [execOp, hx a ha, hy a ha, eqGuard, binOp, Op.intBits, borI]
theorem Y.bclr (hx : Evs n e x (.int kd p)) (hy : Evs n e y (.int kd q)) : Yd P n base w0 e L ⟨D, .binOp .andNot tx x y ty, t, pos, af, G⟩ (.int kd (bclrI kd p q)) :=
  fun a w ha _ => by simp [execOp, hx a ha, hy a ha, eqGuard, binOp, Op.intBits, bclrI]
theorem Y.shl {kd' : IntKind} (hx : Evs n e x (.int kd p)) (hy : Evs n e y (.int kd' q)) (h : 0 ≤ q) : Yd P n base w0 e L ⟨D, .binOp .shl tx x y ty, t, pos, af, G⟩ (.int kd (shlI kd p q)) := by
  intro a w ha _
  have : ¬ q < 0 := by omega
  simp [execOp, hx a ha, hy a ha, eqGuard, binOp, Op.shift, this, shlI]
theorem Y.shr {kd' : IntKind} (hx : Evs n e x (.int kd p)) (hy : Evs n e y (.int kd' q)) (h : 0 ≤ q) : Yd P n base w0 e L ⟨D, .binOp .shr tx x y ty, t, pos, af, G⟩ (.int kd (shrI kd p q)) := by
  intro a w ha _
  have : ¬ q < 0 := by omega
  simp [execOp, hx a ha, hy a ha, eqGuard, binOp, Op.shift, this, shrI]
theorem Y.subW (hx : Evs n e x (.int kd p)) (hy : Evs n e y (.int kd q)) : Yd P n base w0 e L ⟨D, .binOp .sub tx x y ty, t, pos, af, G⟩ (.int kd (kd.wrap (p - q))) := by
  intro a w ha _; simp [execOp, hx a ha, hy a ha, eqGuard, binOp, Op.intArith]
theorem run_eqBool {T : TypeId} {a b : Bool} (hT : P.underlying T = some .bool) (w : World) (dp : Nat) : (Op.equalIn (dp + 1) T (.bool a) (.bool b)).run P w = .ok (a == b) w := by
  unfold Op.equalIn
  rw [Sem.run_bind, run_underlying hT]; rfl
theorem Y.neqB {a b : Bool} (hT : P.underlying tx = some .bool) (hx : Evs n e x (.bool a)) (hy : Evs n e y (.bool b)) : Yd P n base w0 e L ⟨D, .binOp .neq tx x y ty, t, pos, af, G⟩ (.bool (!(a == b))) := by
  intro ac w ha _
  have := run_eqBool (P := P) (a := a) (b := b) hT w 9999
  simp [execOp, hx ac ha, hy ac ha, eqGuard, binOp, Op.equal, Op.maxDepth, this]
end

theorem setget {α : Type} {xs : List α} {a : α} {idx : Int} (h : 0 ≤ idx ∧ idx < xs.length) : (xs.set idx.toNat a)[idx.toNat]? = some a := by
  rw [List.getElem?_set_self (by omega)]
theorem einr {α β : Type} {f : α → Prop} {x o : β} (h : Sum.elim f (fun r => r = o) (Sum.inr x : α ⊕ β)) : x = o := h
theorem one_nil : ∀ v ∈ ([] : List Value), v.oneCell' = true := by simp
theorem one_cons {v : Value} {l : List Value} (h : v.oneCell' = true) (hl : ∀ u ∈ l, u.oneCell' = true) : ∀ u ∈ v :: l, u.oneCell' = true := by
  intro u hu
  rcases List.mem_cons.1 hu with rfl | hu
  · exact h
  · exact hl u hu
theorem one_app {l m : List Value} (h : ∀ u ∈ l, u.oneCell' = true) (hl : ∀ u ∈ m, u.oneCell' = true) : ∀ u ∈ l ++ m, u.oneCell' = true := by
  intro u hu
  rcases List.mem_append.1 hu with hu | hu
  · exact h u hu
  · exact hl u hu
def OneAll : List (Nat × Value) → Prop
  | [] => True
  | p :: r => p.2.oneCell' = true ∧ OneAll r
theorem one_parts : ∀ {vs : List (Nat × Value)}, OneAll vs → ∀ p ∈ vs, p.2.oneCell' = true
  | [], _, p, hp => by cases hp
  | q :: r, h, p, hp => by
    rcases List.mem_cons.1 hp with rfl | hp
    · exact h.1
    · exact one_parts h.2 p hp
theorem wrapU_nn {k : IntKind} (h : k.signed = false) (x : Int) : 0 ≤ k.wrap x := by
  unfold IntKind.wrap
  simp only [h, Bool.false_and, Bool.false_eq_true, if_false]
  exact Int.emod_nonneg _ (by cases k <;> simp [IntKind.bits])
theorem ltl {cs : List Value} {k m : Nat} (h : k < m) (hm : cs.length = m) : k < cs.length := by omega
theorem lel {cs ds : List Value} {o m l : Nat} (h : o + l ≤ m) (hm : cs.length = m) (hd : ds.length = l) : o + ds.length ≤ cs.length := by omega
theorem offlt {i n off sz j m : Nat} (h : i < n) (h2 : decide (off + (n - 1) * sz + j < m) = true) : off + i * sz + j < m := by
  have h2 := of_decide_eq_true h2
  have : i * sz ≤ (n - 1) * sz := Nat.mul_le_mul_right _ (by omega)
  omega
theorem putW {cs ds : List Value} (h : cs.length = ds.length) : putAt cs 0 ds = ds := putAt0 h
theorem ax_nat {α : Type} {n : Nat} {d : α} {a : List α} {i : Int} {x : α} (h : ax n d a i = some x) : i.toNat < n := by
  have := ax_lt h; omega
theorem eqSl {A : Option Addr} {m m' c : Nat} (h : m = m') : some (Value.slice A m c) = some (Value.slice A m' c) := by rw [h]
/-! ### Writes -/
section
variable {K : Act → World → Prop}
variable {α : Type} {enc : α → List Value} {sz : Nat} {A : Option Addr} {cap m k i p E T T' : Nat} {xs ys : List α} {a a' : α} {kd : IntKind} {idx : Int}
theorem WO.storeB {T b k i : Nat} {E : TypeId} {cs cs' : List Value} (hc : P.cellsOf T = 1) (hx : Evs n e x (.pointer (some ⟨b, k, none⟩))) (hy : Evs n e y v) (hv : v.oneCell' = true)
    (hi : L[i]? = some (cBx b E cs)) (hk : k < cs.length) (hs : cs.set k v = cs') (h : KK n base w0 e (L.set i (cBx b E cs')) K) : WO P ops n base w0 e L ⟨none, .store T x y, t, pos, af, none⟩ K Q :=
  WO.store hc hx hy hv hi (by simpa using hk) (by subst hs; simpa using h)
theorem WO.storeBA {T k b o i : Nat} {E : TypeId} {cs cs' ds : List Value} (hc : P.cellsOf T = k + 1) (hx : Evs n e x (.pointer (some ⟨b, o, none⟩))) (hy : Evs n e y (.agg ds.toArray)) (hl : ds.length = k + 1) (h1 : ∀ v ∈ ds, v.oneCell' = true)
    (hi : L[i]? = some (cBx b E cs)) (hk : o + ds.length ≤ cs.length) (hs : putAt cs o ds = cs') (h : KK n base w0 e (L.set i (cBx b E cs')) K) : WO P ops n base w0 e L ⟨none, .store T x y, t, pos, af, none⟩ K Q :=
  WO.storeA hc hx hy hl h1 hi (by simpa using hk) (by subst hs; simpa using h)
theorem WO.storeS (hc : P.cellsOf T = 1) (hx : Evs n e x (.pointer (some (elA A p)))) (hy : Evs n e y v) (hv : v.oneCell' = true) (hz : ∀ a, (enc a).length = sz) {j : Nat}
    (hi : L[i]? = some (cR enc sz A cap T' xs)) (ha : xs[idx.toNat]? = some a) (hp : p = idx.toNat * sz + j) (hj : j < sz) (hs : (enc a).set j v = enc a') (h : KK n base w0 e (L.set i (cR enc sz A cap T' (xs.set idx.toNat a'))) K) :
    WO P ops n base w0 e L ⟨none, .store T x y, t, pos, af, none⟩ K Q := by
  subst hp
  obtain ⟨hk, rfl⟩ := List.getElem?_eq_some_iff.1 ha
  have hle : (idx.toNat + 1) * sz ≤ xs.length * sz := Nat.mul_le_mul_right _ hk
  rw [Nat.add_mul] at hle
  refine WO.storeR hc hx hy hv hi (by rw [flat_len hz]; omega) ?_
  rw [flat_set hz xs _ j v a' hk hj hs]
  simpa [cR] using h
theorem WO.storeSA (hc : P.cellsOf T = k + 1) (hx : Evs n e x (.pointer (some (elA A p)))) (hy : Evs n e y (.agg (enc a').toArray)) (hz : ∀ a, (enc a).length = sz) (hsz : sz = k + 1) (h1 : ∀ v ∈ enc a', v.oneCell' = true)
    (hi : L[i]? = some (cR enc sz A cap T' xs)) (hb : 0 ≤ idx ∧ idx < xs.length) (hp : p = idx.toNat * sz) (h : KK n base w0 e (L.set i (cR enc sz A cap T' (xs.set idx.toNat a'))) K) :
    WO P ops n base w0 e L ⟨none, .store T x y, t, pos, af, none⟩ K Q := by
  subst hp
  have hk : idx.toNat < xs.length := by omega
  have hle : (idx.toNat + 1) * sz ≤ xs.length * sz := Nat.mul_le_mul_right _ hk
  rw [Nat.add_mul] at hle
  refine WO.storeRA hc hx hy (by rw [hz, hsz]) h1 hi (by rw [flat_len hz, hz]; omega) ?_
  rw [flat_put hz xs _ a' hk]
  simpa [cR] using h
/-- append(s, y...) -/
theorem WO.appendC {t E size bytes i c cap m2 : Nat} {A : Option Addr} {ty : TypeId} (hT : P.underlying t = some (.slice E)) (hz : ∃ i z, P.info? E = some i ∧ i.zero = some z ∧ i.size = size ∧ i.bytes = bytes ∧ z.cells.size = size ∧ 0 < size)
    (hzz : ∀ a, (enc a).length = size) (h1 : ∀ a, ∀ u ∈ enc a, u.oneCell' = true) {b : Nat}
    (hx : Evs n e x (.slice A m cap)) (hm : m = xs.length) (hy : Evs n e y (.slice (some ⟨b, 0, none⟩) ys.length c)) (hi : L[i]? = some (cR enc size A cap E xs)) (hi2 : L[m2]? = some (cR enc size (some ⟨b, 0, none⟩) c E ys)) (hb : limB bytes (xs.length + ys.length) = true) (hd : Nat.blt d n = true)
    (h : ∀ A' cap', KK n base w0 ((d, .slice A' (xs ++ ys).length cap') :: e) (L.set i (cR enc size A' cap' E (xs ++ ys))) K) :
    WO P ops n base w0 e L ⟨some d, .call { callee := .builtin .append, args := #[x, y], argTypes := #[t, t] }, ty, pos, af, none⟩ K Q := by
  subst hm
  obtain ⟨hb1, hb2⟩ := limB_le hb
  refine WO.append (news := ys.flatMap enc) hT hz hx hy hi (flat_len hzz ys) (fun w hw j u hj => ?_) (fun u hu => ?_) hb1 hb2 hd (fun A' cap' => ?_)
  · have := (hw.row_get hi2 hj).2
    rw [add_none]
    simpa [elA] using this
  · obtain ⟨a, _, ha⟩ := List.mem_flatMap.1 hu
    exact h1 a u ha
  · have := h A' cap'
    simpa [cR, List.flatMap_append] using this
theorem WO.storeFS (hc : P.cellsOf T = 1) (hx : Evs n e x (.pointer (some (elA A p)))) (hy : Evs n e y v) (hv : v.oneCell' = true) (hz : ∀ a, (enc a).length = sz) {j : Nat}
    (hi : L[i]? = some (cR enc sz A cap T' (xs.set idx.toNat a))) (hb : 0 ≤ idx ∧ idx < xs.length) (hp : p = idx.toNat * sz + j) (hj : j < sz) (hs : (enc a).set j v = enc a') (h : KK n base w0 e (L.set i (cR enc sz A cap T' (xs.set idx.toNat a'))) K) :
    WO P ops n base w0 e L ⟨none, .store T x y, t, pos, af, none⟩ K Q := by
  refine WO.storeS hc hx hy hv hz hi (a := a) (setget hb) hp hj hs ?_
  rw [List.set_set]; exact h
/-- A literal. -/
theorem WO.bsliceC {T E len : Nat} {zv : Value} {es : List (Nat × Operand)} {vs : List Value} (hT : P.underlying T = some (.slice E)) (hz : ∃ i, P.info? E = some i ∧ i.zero = some zv ∧ i.size = sz) (hx : Evn n e 0 es vs) (hl : vs.length = len) (hzz : ∀ a, (enc a).length = sz) (hs : vs.map (fun v => v.cells.toList) = ys.map enc) (hyl : ys.length = len) (hpos : 0 < sz) (hsm : len * sz ≤ 16777216) (hd : Nat.blt d n = true)
    (h : ∀ b, KK n base w0 ((d, .slice (some ⟨b, 0, none⟩) ys.length ys.length) :: e) (cR enc sz (some ⟨b, 0, none⟩) ys.length E ys :: L) K) : WO P ops n base w0 e L ⟨some d, .buildSlice T len es.toArray, t, pos, af, none⟩ K Q := by
  have hlen : ∀ v ∈ vs, v.cells.size = sz := by
    intro v hv
    have : v.cells.toList ∈ ys.map enc := by rw [← hs]; exact List.mem_map.2 ⟨v, hv, rfl⟩
    obtain ⟨a, _, ha⟩ := List.mem_map.1 this
    have h2 : v.cells.toList.length = sz := by rw [← ha]; exact hzz a
    simpa using h2
  refine WO.bslice hT hz hx hl hlen hsm hd (fun b => ?_)
  subst hyl
  intro a w ha hw
  refine h b a w ha (St.weak1 (o := some b) hw (fun o ho => ?_))
  subst ho
  have hfl : (vs.flatMap fun v => v.cells.toList) = ys.flatMap enc := by rw [List.flatMap_def, hs, List.flatMap_def]
  have hyl := flat_len hzz ys
  by_cases hcap : ys.length ≤ maxLen
  · refine ⟨hyl, .inr ⟨b, _, rfl, rfl, Nat.le_refl _, hcap, ?_, ?_⟩⟩
    · rw [hfl]; simpa using hyl
    · rw [hfl]; exact List.take_of_length_le (by simpa using Nat.le_of_eq hyl)
  · exfalso
    have : ys.length * 1 ≤ ys.length * sz := Nat.mul_le_mul_left _ hpos
    unfold maxLen at hcap; omega
/-- Nothing yet of a row. -/
theorem St.nilR (h : St base w0 L w) (enc : α → List Value) (sz : Nat) (E : TypeId) : St base w0 (cR enc sz none 0 E ([] : List α) :: L) w := by
  have := h.nilRow E sz
  simpa [cR] using this
end

/-! ### Division, bytes of strings -/
section
variable {kd : IntKind} {p q : Int} {tx ty : TypeId}
def quoI (k : IntKind) (x y : Int) : Int := k.wrap (x.tdiv y)
def remI (k : IntKind) (x y : Int) : Int := x.tmod y
def sx (s : ByteArray) (i : Int) : Option Int := (if 0 ≤ i then s[i.toNat]? else none).map fun b => (b.toNat : Int)
theorem Y.sindex {T : TypeId} {s : ByteArray} {i r : Int} (hT : P.underlying T = some .string) (hx : Evs n e x (.string s)) (hy : Evs n e y (.int kd i)) (h : sx s i = some r) : Yd P n base w0 e L ⟨D, .index T x y, t, pos, af, G⟩ (.int .u8 r) := by
  intro a w ha _
  unfold sx at h
  cases hb : (if 0 ≤ i then s[i.toNat]? else none) with
  | none => rw [hb] at h; cases h
  | some b =>
    rw [hb] at h
    obtain rfl : (b.toNat : Int) = r := by simpa using h
    simp [execOp, hx a ha, hy a ha, Instr.index, asIntOf, run_underlying hT, hb]
end
/-- A struct's value, or an array's, of parts of whatever sizes. -/
theorem Y.buildF {T : Nat} {places : List (Nat × Nat)} {z cs : Array Value} {xs : List (Nat × Operand)} {vs : List (Nat × Value)} (hs : Shape P T places z) (hx : Evp n e xs vs) (hc : Instr.fill (places.toArray[·]?) z vs = some cs) :
    Yd P n base w0 e L ⟨D, .build T xs.toArray, t, pos, af, G⟩ (.agg cs) := by
  intro a w ha _
  obtain ⟨fs, i, zv, hT, hi, hz, rfl, hp, hpos⟩ := hs
  have h2 := run_places (P := P) (w := w) fs.toList places hp hpos
  have h3 : (fs.mapM (m := Sem) fun f => do pure (f.offset, ← sizeOf f.type)).run P w = .ok places.toArray w := by
    rw [Array.mapM_eq_mapM_toList, Sem.run_map, h2]; rfl
  have h4 := hx a ha
  have h6 : (xs.toArray.map fun (p : Nat × Operand) => (p.1, a.eval p.2)) = vs.toArray := by rw [← h4]; simp
  simp only [execOp, Instr.build, Sem.run_bind, zeroValue, typeInfo, Sem.run_pure, run_program, Result.andThen_ok, hi, hz, run_underlying hT, h3, h6, hc]
theorem Y.buildA {T E m k : Nat} {z cs : Array Value} {xs : List (Nat × Operand)} {vs : List (Nat × Value)} (hT : P.underlying T = some (.array m E)) (hk : P.cellsOf E = k + 1) (hz : ∃ i zv, P.info? T = some i ∧ i.zero = some zv ∧ zv.cells = z) (hx : Evp n e xs vs) (hc : Instr.fill (fun i => some (i * (k + 1), k + 1)) z vs = some cs) :
    Yd P n base w0 e L ⟨D, .build T xs.toArray, t, pos, af, G⟩ (.agg cs) := by
  intro a w ha _
  obtain ⟨i, zv, hi, hz, rfl⟩ := hz
  have h4 := hx a ha
  have h6 : (xs.toArray.map fun (p : Nat × Operand) => (p.1, a.eval p.2)) = vs.toArray := by rw [← h4]; simp
  simp only [execOp, Instr.build, Sem.run_bind, zeroValue, typeInfo, Sem.run_pure, run_program, Result.andThen_ok, hi, hz, run_underlying hT, run_size hk, h6, hc]
theorem WD.fin {R : Act → Prop} (hR : ∀ a, (∀ w, St base w0 L w → Q .normal a w) → R a) (k : ∀ a w, Fits n e a → St base w0 L w → Q .normal a w) : WD P ops n base w0 e L [] R := fun a ha => hR a fun w hw => k a w ha hw
/-- A region at a body's end that draws its order. -/
theorem W.regX {id : Nat} {l : List Oper} (s : Nat) (hm : P.follows .mixedOrders = true) (h : WX P l n base w0 e L L s l.length (Array.replicate l.length false) (fun a w => Q .normal a w)) : W P n base w0 e L (.region id l.toArray true) Q := by
  intro a w ha hw
  have h1 := wp_region_any (id := id) (ops := l.toArray) (Q := fun x a w => x = .normal ∧ Q .normal a w) (a := a) (w := w) hm (by simpa using anyI_any _ _ _ _ (h a w.drew ha hw.drew))
  refine wp_mono h1 ?_
  rintro e a w ⟨rfl, h⟩
  exact h
/-! ### Calls -/
theorem St.cong {L' : List Chunk} (h : St base w0 L w) (e : L = L') : St base w0 L' w := e ▸ h
/-- Some of the first k chunks, by their places; and all the others. -/
theorem St.pickK (h : St base w0 L w) (k : Nat) (idx : List Nat) (hi : (decide idx.Nodup && idx.all (fun i => Nat.blt i k) && Nat.ble k L.length) = true) : St base w0 (idx.filterMap (L[·]?) ++ L.drop k) w := by
  simp only [Bool.and_eq_true, decide_eq_true_eq, List.all_eq_true, Nat.blt_eq, Nat.ble_eq] at hi
  obtain ⟨⟨hn, hl⟩, hk⟩ := hi
  have e : ∀ i, i < k → (L.take k)[i]? = L[i]? := fun i hi => by rw [List.getElem?_take_of_lt hi]
  have h0 : St base w0 (L.take k ++ L.drop k) w := by rw [List.take_append_drop]; exact h
  refine h0.sub ⟨((List.range k).filter (fun i => decide (i ∉ idx))).filterMap ((L.take k)[·]?), ?_⟩
  have e0 : ∀ l : List Nat, (∀ i ∈ l, i < k) → l.filterMap (L[·]?) = l.filterMap ((L.take k)[·]?) := by
    intro l
    induction l with
    | nil => intro _; rfl
    | cons a l ih =>
      intro h
      rw [List.filterMap_cons, List.filterMap_cons, e a (h a (by simp)), ih (fun i hi => h i (by simp [hi]))]
  have e1 := e0 idx hl
  have hkl : (L.take k).length = k := by rw [List.length_take]; omega
  have hp : (idx.filterMap ((L.take k)[·]?) ++ ((List.range k).filter (fun i => decide (i ∉ idx))).filterMap ((L.take k)[·]?)).Perm (L.take k) := by
    conv => rhs; rw [← fm_range (L.take k), hkl]
    rw [← List.filterMap_append]
    refine List.Perm.filterMap _ ?_
    rw [List.perm_ext_iff_of_nodup]
    · intro a
      simp only [List.mem_append, List.mem_filter, List.mem_range, decide_eq_true_eq]
      constructor
      · rintro (h | h)
        · exact hl a h
        · exact h.1
      · intro h
        by_cases ha : a ∈ idx
        · exact .inl ha
        · exact .inr ⟨h, ha⟩
    · rw [List.nodup_append]
      refine ⟨hn, List.Pairwise.filter _ List.nodup_range, fun a ha b hb e => ?_⟩
      subst e
      simp at hb
      exact hb.2 ha
    · exact List.nodup_range
  rw [e1]
  generalize idx.filterMap ((L.take k)[·]?) = X at hp ⊢
  generalize ((List.range k).filter (fun i => decide (i ∉ idx))).filterMap ((L.take k)[·]?) = Y at hp ⊢
  generalize L.take k = Z at hp ⊢
  generalize L.drop k = T
  calc X ++ T ++ Y
      _ = X ++ (T ++ Y) := List.append_assoc _ _ _
      _ |>.Perm (X ++ (Y ++ T)) := List.Perm.append_left X List.perm_append_comm
      _ = (X ++ Y) ++ T := (List.append_assoc _ _ _).symm
      _ |>.Perm (Z ++ T) := List.Perm.append_right T hp
theorem Pure.calls {f : FuncId} {vs : List Value} (h : Pure P f vs w v) (hw : St base w0 L w) : Calls P f vs.toArray w fun e w' => ∃ g : Unit, True ∧ e = .returned v ∧ St base w0 L w' :=
  h.mono fun e w' ⟨he, hs⟩ => ⟨(), trivial, he, hw.same hs⟩
theorem Made.calls {f : FuncId} {vs : List Value} {γ : Type} {V : γ → Value} {C : γ → List Chunk} {I : γ → Prop} (h : Made P f vs w V C I) (hw : St base w0 L w) : Calls P f vs.toArray w fun e w' => ∃ g, I g ∧ e = .returned (V g) ∧ St base w0 (C g ++ L) w' :=
  h.mono fun e w' ⟨g, hI, he, hs⟩ => ⟨g, hI, he, hw.merge hs⟩
section
variable {K : Act → World → Prop}
/-- A call through a function value: what it hands back, and what it leaves. -/
theorem WO.callG {γ : Type} {f : FuncId} {x : Operand} {first cap : List Value} {args : List Operand} {vs : List Value} {ats : Array TypeId} {D : Option Tmp} (V : γ → Value) (L' : γ → List Chunk) (I : γ → Prop) (hg : IsGo P f) (hf : Evs n e x (.func (.func f) first.toArray cap.toArray)) (hx : Evl n e args vs) (hd : dOk D n = true)
    (hc : ∀ w, St base w0 L w → Calls P f (first ++ vs ++ cap).toArray w fun e w' => ∃ g, I g ∧ e = .returned (V g) ∧ St base w0 (L' g) w') (h : ∀ g, I g → KK n base w0 (setO D (V g) e) (L' g) K) :
    WO P ops n base w0 e L ⟨D, .call { callee := .value x, args := args.toArray, argTypes := ats }, t, pos, af, none⟩ K Q := by
  refine WO.of_run rfl fun a w ha hw => ?_
  unfold Oper.wp
  rw [run_callV hg hf hx a w ha]
  simp only [Oper.upon]
  have h1 : first.toArray ++ vs.toArray ++ cap.toArray = (first ++ vs ++ cap).toArray := by simp
  rw [h1]
  refine (hc w hw).mono ?_
  rintro e' w' ⟨g, hI, rfl, hs⟩
  exact h g hI _ _ (ha.putO hd) hs
end

/-! ### Maps with numbers for keys -/
def mget {α : Type} : List (Int × α) → Int → Option α
  | [], _ => none
  | (a, v) :: r, k => if a = k then some v else mget r k
def mput {α : Type} : List (Int × α) → Int → α → List (Int × α)
  | [], k, v => [(k, v)]
  | (a, u) :: r, k, v => if a = k then (a, v) :: r else (a, u) :: mput r k v
def mval {α : Type} (f : α → Value) (m : List (Int × α)) : List (Int × Value) := m.map fun p => (p.1, f p.2)
/-- A map of the call's own; 'none': the nil map, that holds nothing. -/
def cM {α : Type} (f : α → Value) (o : Option Nat) (m : List (Int × α)) : Chunk := .one o fun x => match o with | none => m = [] | some b => ∃ es clock, x = some (.map es clock) ∧ MapIs es (mval f m) ∧ Go.MapKept.Stamped es clock
theorem St.nilM {α : Type} (h : St base w0 L w) (f : α → Value) : St base w0 (cM f none ([] : List (Int × α)) :: L) w := by
  refine ⟨h.below, h.base_le, fun c hc => ?_, h.nodup, h.ge⟩
  rcases List.mem_cons.1 hc with rfl | hc
  · rfl
  · exact h.sat c hc
theorem run_nilLookup {P : Program} {w : World} {T KT E : Nat} {z : Value} (hT : P.underlying T = some (.map KT E)) (hK : P.underlying KT = some (.int .i64)) (hz : ∃ i, P.info? E = some i ∧ i.zero = some z) (k : Int) (cok : Bool) :
    (Instr.lookup T (.map none) (.int .i64 k) cok).run P w = .ok (if cok then .tuple #[z, .bool false] else z) w := by
  obtain ⟨i, hi, hz⟩ := hz
  unfold Instr.lookup
  have hf := run_findKey (P := P) (w := w) (es := #[]) (l := []) hK rfl k
  simp only [List.toList_toArray] at hf
  simp only [Sem.run_bind, run_underlying hT, Result.andThen_ok, run_checkKey hK, Sem.run_pure, hf]
  simp [findI, zeroValue, typeInfo, hi, hz]
theorem mget_val {α : Type} (f : α → Value) (k : Int) : ∀ m : List (Int × α), getI (mval f m) k = (mget m k).map f
  | [] => rfl
  | (a, v) :: r => by
    simp only [mval, List.map_cons, getI, mget]
    by_cases h : a = k
    · rw [if_pos h, if_pos h]; rfl
    · rw [if_neg h, if_neg h]; exact mget_val f k r
theorem mput_val {α : Type} (f : α → Value) (k : Int) (v : α) : ∀ m : List (Int × α), putI (mval f m) k (f v) = mval f (mput m k v)
  | [] => rfl
  | (a, u) :: r => by
    simp only [mval, List.map_cons, putI, mput]
    by_cases h : a = k
    · rw [if_pos h, if_pos h]; rfl
    · rw [if_neg h, if_neg h]; simp only [List.map_cons]; exact congrArg _ (mput_val f k v r)
section
variable {α : Type} {f : α → Value} {m : List (Int × α)} {a : α} {k : Int} {i b T KT E : Nat} {o : Option Nat}
theorem Y.mget {dv : α} (hT : P.underlying T = some (.map KT E)) (hK : P.underlying KT = some (.int .i64)) (hz : ∃ i, P.info? E = some i ∧ i.zero = some (f dv)) (hx : Evs n e x (.map o)) (hy : Evs n e y (.int .i64 k)) (hi : L[i]? = some (cM f o m)) :
    Yd P n base w0 e L ⟨D, .lookup T x y false, t, pos, af, G⟩ (f ((mget m k).getD dv)) := by
  cases o with
  | none =>
    intro ac w ha hw
    have hm : m = [] := hw.sat _ (List.mem_of_getElem? hi)
    subst hm
    have := run_nilLookup (P := P) (w := w) hT hK hz k false
    simp [execOp, hx ac ha, hy ac ha, this, Go.Proofs.YtjdkkabcenohcaaGreatDoor.mget]
  | some b =>
    have := Y.mapGet (D := D) (t := t) (pos := pos) (af := af) (G := G) (base := base) (w0 := w0) hT hK hz hx hy hi
    rw [mget_val] at this
    have e1 : (((Go.Proofs.YtjdkkabcenohcaaGreatDoor.mget m k).map f).getD (f dv)) = f ((Go.Proofs.YtjdkkabcenohcaaGreatDoor.mget m k).getD dv) := by cases Go.Proofs.YtjdkkabcenohcaaGreatDoor.mget m k <;> rfl
    rw [← e1]; exact this
variable {K : Act → World → Prop}
theorem WO.mmake {T : Nat} (f : α → Value) (hd : Nat.blt d n = true) (h : ∀ b, KK n base w0 ((d, .map (some b)) :: e) (cM f (some b) [] :: L) K) : WO P ops n base w0 e L ⟨some d, .makeMap T none, t, pos, af, none⟩ K Q :=
  WO.makeMap hd h
theorem WO.mset (hT : P.underlying T = some (.map KT E)) (hK : P.underlying KT = some (.int .i64)) (hx : Evs n e x (.map (some b))) (hy : Evs n e y (.int .i64 k)) (hz : Evs n e z (f a))
    (hi : L[i]? = some (cM f (some b) m)) (h : KK n base w0 e (L.set i (cM f (some b) (mput m k a))) K) : WO P ops n base w0 e L ⟨none, .mapUpdate T x y z, t, pos, af, none⟩ K Q :=
  WO.mapSet hT hK hx hy hz hi (by rw [mput_val]; exact h)
end

/-! ### Parts of slices -/
def subA (A : Option Addr) (c i sz : Nat) : Option Addr := if c = i then A else A.map fun p => p.add (i * sz)
section
variable {α : Type} {enc : α → List Value} {sz : Nat} {A : Option Addr} {cap m k E T T' : Nat} {xs : List α} {kd kd' : IntKind} {lo hi : Int}
theorem okA_sub {A : Option Addr} {c i sz : Nat} (h : okA A) : okA (subA A c i sz) := by
  unfold subA
  split
  · exact h
  · obtain ⟨h1, h2⟩ := h
    cases A with
    | none => cases h1
    | some p =>
      obtain ⟨b, o, s⟩ := p
      obtain rfl : s = none := h2 _ rfl
      rw [Option.map_some, add_none]
      exact ⟨rfl, fun q hq => by cases hq; rfl⟩
theorem elA_sub {A : Option Addr} {c i sz j : Nat} (h : okA A) (hc : c ≠ i) : elA (subA A c i sz) j = elA A (i * sz + j) := by
  unfold subA
  rw [if_neg hc]
  obtain ⟨h1, h2⟩ := h
  cases A with
  | none => cases h1
  | some p =>
    obtain ⟨b, o, s⟩ := p
    obtain rfl : s = none := h2 _ rfl
    rw [Option.map_some, add_none]
    simp [elA, Nat.add_assoc]
theorem SlIn.sub (h : SlIn enc sz w (.slice A xs.length cap) xs) {i j : Nat} (hb : i ≤ j ∧ j ≤ xs.length) : SlIn enc sz w (.slice (subA A cap i sz) ((xs.take j).drop i).length (cap - i)) ((xs.take j).drop i) := by
  obtain ⟨a, c, e, hc, hh⟩ := h
  obtain ⟨rfl, rfl⟩ : A = a ∧ cap = c := by simpa using e
  refine ⟨_, _, rfl, by simp; omega, fun q hq => ?_⟩
  have hq' : q < j - i := by simp at hq; omega
  obtain ⟨ho, hat⟩ := hh (i + q) (by omega)
  refine ⟨okA_sub ho, fun r v hr => ?_⟩
  rw [elA_sub ho (by omega)]
  have := hat r v (by simpa using hr)
  rw [← this]
  congr 2
  rw [Nat.add_mul]; omega
def slB (n : Nat) (lo hi : Int) : Bool := decide (0 ≤ lo ∧ lo ≤ hi ∧ hi ≤ n)
theorem slB_le {n : Nat} {lo hi : Int} (h : slB n lo hi = true) : 0 ≤ lo ∧ lo ≤ hi ∧ hi ≤ n := by simpa [slB] using h
theorem slB_nat {n : Nat} {lo hi : Int} (h : slB n lo hi = true) : lo.toNat ≤ hi.toNat ∧ hi.toNat ≤ n := by have := slB_le h; omega
theorem Y.slice0 (hT : P.underlying T = some (.slice E)) (hk : P.cellsOf E = k + 1) (hx : Evs n e x (.slice A m cap)) (hm : m = xs.length) (hc : xs.length ≤ cap) (hz : Evs n e z (.int kd' hi)) (hb : slB xs.length 0 hi = true) :
    Yd P n base w0 e L ⟨D, .slice T x none (some z) none, t, pos, af, G⟩ (.slice A (xs.take hi.toNat).length cap) := by
  have hb := slB_le hb
  have := Y.sliceTo (D := D) (t := t) (pos := pos) (af := af) (G := G) (base := base) (w0 := w0) (L := L) hT hk hx hz ⟨by omega, by omega⟩
  rw [List.length_take, Nat.min_eq_left (by omega)]
  exact this
theorem Y.slice1 (hT : P.underlying T = some (.slice E)) (hk : P.cellsOf E = k + 1) (hx : Evs n e x (.slice A m cap)) (hm : m = xs.length) (hc : xs.length ≤ cap) (hy : Evs n e y (.int kd lo)) (hb : slB xs.length lo xs.length = true) :
    Yd P n base w0 e L ⟨D, .slice T x (some y) none none, t, pos, af, G⟩ (.slice (subA A cap lo.toNat (k + 1)) (xs.drop lo.toNat).length (cap - lo.toNat)) := by
  intro a w ha _
  have hb := slB_le hb
  have h2 : lo ≤ (xs.length : Int) := by omega
  subst hm
  simp only [execOp, hx a ha, Option.map_some, Option.map_none, hy a ha]
  simp [Instr.sliceAt, Instr.slice, Instr.sliceBounds, Instr.sliceBound, asIntOf, run_underlying hT, run_size hk, hb.1, h2, subA]
theorem SlIn.sub1 (h : SlIn enc sz w (.slice A xs.length cap) xs) {i : Nat} (hb : i ≤ xs.length) : SlIn enc sz w (.slice (subA A cap i sz) (xs.drop i).length (cap - i)) (xs.drop i) := by
  have := h.sub (i := i) (j := xs.length) ⟨hb, Nat.le_refl _⟩
  rwa [List.take_length] at this
theorem SlIn.cap_le (h : SlIn enc sz w (.slice A m cap) xs) : xs.length ≤ cap := by
  obtain ⟨a, c, e, hc, -⟩ := h
  obtain ⟨-, -, rfl⟩ : A = a ∧ m = xs.length ∧ cap = c := by simpa using e
  exact hc
end
theorem St.trunc {α : Type} {enc : α → List Value} {sz i cap E j : Nat} {A : Option Addr} {xs : List α} (h : St base w0 L w) (hz : ∀ a, (enc a).length = sz) (hi : L[i]? = some (cR enc sz A cap E xs)) : St base w0 (L.set i (cR enc sz A cap E (xs.take j))) w := by
  have hsat : (cR enc sz A cap E (xs.take j)).sat w := by
    have hs := h.sat _ (List.mem_of_getElem? hi)
    obtain ⟨hl, hr⟩ := hs
    refine ⟨flat_len hz _, ?_⟩
    rcases hr with ⟨rfl, hm, rfl⟩ | ⟨g, cur, rfl, hx, hmc, hcm, hcs, htake⟩
    · exact .inl ⟨rfl, by simp [List.length_eq_zero_iff.1 hm], rfl⟩
    · refine .inr ⟨g, cur, rfl, hx, by simp; omega, hcm, hcs, ?_⟩
      have e1 : (xs.take j).flatMap enc = (xs.flatMap enc).take ((xs.take j).length * sz) := by
        have h2 : xs.flatMap enc = (xs.take j).flatMap enc ++ (xs.drop j).flatMap enc := by rw [← List.flatMap_append, List.take_append_drop]
        rw [h2, ← flat_len hz, List.take_left]
      rw [e1, ← htake, List.take_take, Nat.min_eq_left (Nat.mul_le_mul_right _ (by simp; omega))]
  exact h.turn hi rfl rfl rfl (Nat.le_refl _) (fun _ _ _ => rfl) hsat (by cases A <;> simp [cRow, Chunk.one]) (fun b hb => .inl hb)
theorem Y.sliceR {α : Type} {enc : α → List Value} {sz k i cap E E' T m : Nat} {A : Option Addr} {xs : List α} {kd : IntKind} {hi' : Int} (hT : P.underlying T = some (.slice E)) (hk : P.cellsOf E = k + 1) (hi : L[i]? = some (cR enc sz A cap E' xs)) (hx : Evs n e x (.slice A m cap)) (hm : m = xs.length) (hz : Evs n e z (.int kd hi')) (hb : slB xs.length 0 hi' = true) :
    Yd P n base w0 e L ⟨D, .slice T x none (some z) none, t, pos, af, G⟩ (.slice A (xs.take hi'.toNat).length cap) := by
  intro a w ha hw
  exact Y.slice0 hT hk hx hm (hw.row_lim hi).1 hz hb a w ha hw

theorem Y.sliceR0 {α : Type} {enc : α → List Value} {sz k i cap E E' T m : Nat} {A : Option Addr} {xs : List α} {kd : IntKind} {hi' : Int} (hT : P.underlying T = some (.slice E)) (hk : P.cellsOf E = k + 1) (hi : L[i]? = some (cR enc sz A cap E' xs)) (hx : Evs n e x (.slice A m cap)) (hm : m = xs.length) (hz : Evs n e z (.int kd hi')) (hb : slB xs.length 0 hi' = true) :
    Yd P n base w0 e L ⟨D, .slice T x none (some z) none, t, pos, af, G⟩ (.slice A (xs.take hi'.toNat).length cap) := Y.sliceR hT hk hi hx hm hz hb
theorem Y.sliceR1 {α : Type} {enc : α → List Value} {sz k i cap E E' T m : Nat} {A : Option Addr} {xs : List α} {kd : IntKind} {lo : Int} (hT : P.underlying T = some (.slice E)) (hk : P.cellsOf E = k + 1) (hi : L[i]? = some (cR enc sz A cap E' xs)) (hx : Evs n e x (.slice A m cap)) (hm : m = xs.length) (hy : Evs n e y (.int kd lo)) (hb : slB xs.length lo xs.length = true) :
    Yd P n base w0 e L ⟨D, .slice T x (some y) none none, t, pos, af, G⟩ (.slice (subA A cap lo.toNat (k + 1)) (xs.drop lo.toNat).length (cap - lo.toNat)) := by
  intro a w ha hw
  exact Y.slice1 hT hk hx hm (hw.row_lim hi).1 hy hb a w ha hw
section
variable {α : Type} {enc : α → List Value} {sz : Nat} {A : Option Addr} {cap m k E T T' : Nat} {xs ys : List α} {kd : IntKind} {idx : Int}
/-- An array, as a list. -/
def arrL {α : Type} (n : Nat) (d : α) (a : List α) : List α := (List.range n).map fun i => a.getD i d
variable {K : Act → World → Prop}
/-- append of what is somewhere, to a row. -/
theorem WO.appendS {t E size bytes i c cap m m2 : Nat} {A : Option Addr} {ty : TypeId} {ad : Addr} (hT : P.underlying t = some (.slice E)) (hz : ∃ i z, P.info? E = some i ∧ i.zero = some z ∧ i.size = size ∧ i.bytes = bytes ∧ z.cells.size = size ∧ 0 < size)
    (hzz : ∀ a, (enc a).length = size) (h1 : ∀ a, ∀ u ∈ enc a, u.oneCell' = true)
    (hx : Evs n e x (.slice A m2 cap)) (hm : m2 = xs.length) (hy : Evs n e y (.slice (some ad) m c)) (hi : L[i]? = some (cR enc size A cap E xs)) (hs : ∀ w, St base w0 L w → SlIn enc size w (.slice (some ad) m c) ys) (hb : limB bytes (xs.length + ys.length) = true) (hd : Nat.blt d n = true)
    (h : ∀ A' cap', KK n base w0 ((d, .slice A' (xs ++ ys).length cap') :: e) (L.set i (cR enc size A' cap' E (xs ++ ys))) K) :
    WO P ops n base w0 e L ⟨some d, .call { callee := .builtin .append, args := #[x, y], argTypes := #[t, t] }, ty, pos, af, none⟩ K Q := by
  intro a w ha hw
  subst hm
  have hs0 := hs w hw
  have hml : m = ys.length := by
    obtain ⟨a', c', e', -, -⟩ := hs0
    simpa using (by simpa using e' : some ad = a' ∧ m = ys.length ∧ c = c').2.1
  subst hml
  obtain ⟨hb1, hb2⟩ := limB_le hb
  refine WO.append (news := ys.flatMap enc) hT hz hx hy hi (flat_len hzz ys) (fun w hw j u hj => ?_) (fun u hu => ?_) hb1 hb2 hd (fun A' cap' => ?_) a w ha hw
  · have hjl : j < ys.length * size := by rw [← flat_len hzz ys]; exact (List.getElem?_eq_some_iff.1 hj).1
    have hpos : 0 < size := by obtain ⟨_, _, _, _, _, _, _, h⟩ := hz; exact h
    have hq : j / size < ys.length := (Nat.div_lt_iff_lt_mul hpos).2 hjl
    have hr : j % size < size := Nat.mod_lt _ hpos
    have e1 : j = j / size * size + j % size := by rw [Nat.mul_comm]; exact (Nat.div_add_mod j size).symm
    rw [e1, flat_get hzz ys _ _ hq hr] at hj
    have hok := (hs w hw).okA' (idx := ((j / size : Nat) : Int)) ⟨Int.natCast_nonneg _, Int.ofNat_lt.2 hq⟩
    have := (hs w hw).cells (List.getElem?_eq_getElem hq) hj
    rw [← e1] at this
    obtain ⟨b, o, s⟩ := ad
    obtain rfl : s = none := hok.2 _ rfl
    rw [add_none]
    simpa [elA] using this
  · obtain ⟨a, _, ha⟩ := List.mem_flatMap.1 hu
    exact h1 a u ha
  · have := h A' cap'
    simpa [cR, List.flatMap_append] using this
end
/-! ### Slices that are cloned -/
theorem run_eqNil {T E : TypeId} {A : Option Addr} {m c : Nat} (hT : P.underlying T = some (.slice E)) (w : World) (dp : Nat) : (Op.equalIn (dp + 1) T (.slice A m c) (.slice none 0 0)).run P w = .ok A.isNone w := by
  unfold Op.equalIn
  rw [Sem.run_bind, run_underlying hT]
  cases A <;> rfl
/-- Is a slice nil? -/
theorem Y.eqNil {T E : TypeId} {A : Option Addr} {m c : Nat} {ty : TypeId} (hT : P.underlying T = some (.slice E)) (hx : Evs n e x (.slice A m c)) : Yd P n base w0 e L ⟨D, .binOp .eql T x (.const (.slice none 0 0)) ty, t, pos, af, G⟩ (.bool A.isNone) := by
  intro a w ha _
  have := run_eqNil (P := P) (A := A) (m := m) (c := c) hT w 9999
  simp [execOp, hx a ha, ev_const, eqGuard, binOp, Op.equal, Op.maxDepth, this]

/-! ### Ends -/
def resOne (tmps : Array Value) : ResultVar → Sem Value
  | .tmp t => pure (tmps.getD t undef)
  | .cell a t => do loadVar t (← asAddr (tmps.getD a undef))
/-- What one result is. -/
def Rv (P : Program) (n : Nat) (base : Nat) (w0 : World) (e : Env) (L : List Chunk) (r : ResultVar) (v : Value) : Prop := ∀ a w, Fits n e a → St base w0 L w → (resOne a.tmps r).run P w = .ok v w
def Rvs (P : Program) (n : Nat) (base : Nat) (w0 : World) (e : Env) (L : List Chunk) : List ResultVar → List Value → Prop
  | [], [] => True
  | r :: rs, v :: vs => Rv P n base w0 e L r v ∧ Rvs P n base w0 e L rs vs
  | _, _ => False
theorem Rv.tmp {s : Tmp} (h : e.get? s = some v) : Rv P n base w0 e L (.tmp s) v := by
  intro a w ha _
  have := ha.get s v h
  show (pure (a.tmps.getD s undef) : Sem Value).run P w = _
  rw [this]; rfl
theorem Rv.cellA {p : Tmp} {ty k b i T' : Nat} {dT : TypeDesc} {cs : List Value} (hT : P.underlying ty = some dT) (hd : aggT dT = true) (hk : P.cellsOf ty = k + 1) (hp : e.get? p = some (.pointer (some ⟨b, 0, none⟩))) (hi : L[i]? = some (cBx b T' cs)) (hc : cs.length = k + 1) : Rv P n base w0 e L (.cell p ty) (.agg cs.toArray) := by
  intro a w ha hw
  have h1 : (loadCells ⟨b, 0, none⟩ cs.length).run P w = .ok cs.toArray w := run_loadCells_list w ⟨b, 0, none⟩ cs (fun j v hj => by rw [add_none, Nat.zero_add]; exact bxget hw hi hj)
  rw [hc] at h1
  have hg' : a.tmps[p]?.getD undef = .pointer (some ⟨b, 0, none⟩) := by simpa using ha.get p _ hp
  simp [resOne, hg', asAddr, loadVar, run_isAgg_agg hT hd, run_size hk, h1]
theorem Rv.cell {p : Tmp} {ty b i T' : Nat} {dT : TypeDesc} {cs : List Value} (hT : P.underlying ty = some dT) (hd : plainT dT = true) (hp : e.get? p = some (.pointer (some ⟨b, 0, none⟩))) (hi : L[i]? = some (cBx b T' cs)) (hc : cs[0]? = some v) : Rv P n base w0 e L (.cell p ty) v := by
  intro a w ha hw
  have hg' : a.tmps[p]?.getD undef = .pointer (some ⟨b, 0, none⟩) := by simpa using ha.get p _ hp
  simp [resOne, hg', asAddr, loadVar, run_isAgg_plain hT hd, bxget hw hi hc]
def ResAll (P : Program) (w : World) (tmps : Array Value) : List ResultVar → List Value → Prop
  | [], [] => True
  | r :: rs, v :: vs => (resOne tmps r).run P w = .ok v w ∧ ResAll P w tmps rs vs
  | _, _ => False
theorem run_mapRes {P : Program} {w : World} (tmps : Array Value) : ∀ (rs : List ResultVar) (vs : List Value), ResAll P w tmps rs vs → (rs.mapM (resOne tmps)).run P w = .ok vs w
  | [], [], _ => by simp
  | r :: rs, v :: vs, h => by
    have ih := run_mapRes tmps rs vs h.2
    rw [List.mapM_cons, Sem.run_bind, h.1, Result.andThen_ok, Sem.run_bind, ih, Result.andThen_ok, Sem.run_pure]
  | [], _ :: _, h => h.elim
  | _ :: _, [], h => h.elim
theorem results_eq (fn : Func) (tmps : Array Value) : results fn tmps = (do let vs ← fn.results.mapM (resOne tmps); pure (if h : vs.size = 1 then vs[0] else .tuple vs)) := by
  unfold results
  congr 1
theorem run_results {P : Program} {w : World} {fn : Func} {rs : List ResultVar} {vs : List Value} {tmps : Array Value} (hr : fn.results = rs.toArray) (h : ResAll P w tmps rs vs) :
    (results fn tmps).run P w = .ok (if h : vs.toArray.size = 1 then vs.toArray[0] else .tuple vs.toArray) w := by
  rw [results_eq, hr, List.mapM_toArray, Sem.run_bind, map_eq_pure_bind, Sem.run_bind, run_mapRes tmps rs vs h]
  simp
theorem resAll_of {a : Act} {w : World} (ha : Fits n e a) (hw : St base w0 L w) : ∀ {rs : List ResultVar} {vs : List Value}, Rvs P n base w0 e L rs vs → ResAll P w a.tmps rs vs
  | [], [], _ => trivial
  | r :: rs, v :: vs, h => ⟨h.1 a w ha hw, resAll_of ha hw h.2⟩
  | [], _ :: _, h => h.elim
  | _ :: _, [], h => h.elim
def resV : List Value → Value
  | [v] => v
  | vs => .tuple vs.toArray
theorem resV_eq (vs : List Value) : (if h : vs.toArray.size = 1 then vs.toArray[0] else .tuple vs.toArray) = resV vs := by
  match vs with
  | [] => rfl
  | [v] => rfl
  | v :: u :: r => rfl
theorem W.retV {fn : Func} {R : Ending → World → Prop} {rs : List ResultVar} {vs : List Value} (hr : fn.results = rs.toArray) (hv : Rvs P n base w0 e L rs vs) (hQ : ∀ a w, bodyPost P fn R .ret a w → Q .ret a w) (h : ∀ w, St base w0 L w → R (.returned (resV vs)) w) : W P n base w0 e L .ret Q :=
  fun a w ha hw => wp_ret (hQ a w ⟨ha.defers, _, by rw [run_results hr (resAll_of ha hw hv), resV_eq], h w hw⟩)
theorem W.endV {fn : Func} {R : Ending → World → Prop} {rs : List ResultVar} {vs : List Value} (hr : fn.results = rs.toArray) (hv : Rvs P n base w0 e L rs vs) (hQ : ∀ a w, bodyPost P fn R .normal a w → Q .normal a w) (h : ∀ w, St base w0 L w → R (.returned (resV vs)) w) : ∀ a w, Fits n e a → St base w0 L w → Q .normal a w :=
  fun a w ha hw => hQ a w ⟨ha.defers, _, by rw [run_results hr (resAll_of ha hw hv), resV_eq], h w hw⟩
end Go.Proofs.YtjdkkabcenohcaaGreatDoor
