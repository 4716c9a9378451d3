/- Slices of slices that are the caller's own; rows of structs that hold slices of the caller's. It speaks of every program. -/
import Derived.Test.YteklmleiiiodfaaView
import Derived.Test.YteklmleiiiodfaaOpen
import Derived.Test.YteklmleiiiodfaaPl
import Derived.Lib.AppendZeros
set_option linter.unusedVariables false
set_option linter.unusedSimpArgs false
set_option linter.unusedSectionVars false
namespace Go.Proofs.Yteklmleiiiodfaa
open Go.ChangeShapes Go.WideShapes Go.ChangeAt Go.RowKit

variable {P : Program} {n : Nat} {base : Nat} {w0 w : World} {L : List Chunk} {e : Env}
variable {ops rest : List Oper} {Q : Exit → Act → World → Prop} {d : Nat} {D : Option Tmp} {op : Op} {t : TypeId} {pos : String} {af : Array Edge} {G : Option (Nat × Bool)} {v u : Value} {x y z : Operand}

/-! ### Slices of slices -/
section
variable {α : Type} {enc : α → List Value} {sz cap m p : Nat} {A : Option Addr} {hs : List Hd} {xs : List (List α)} {a : List α} {kd : IntKind} {idx : Int} {E T : Nat}
structure SlNN (enc : α → List Value) (sz : Nat) (w : World) (A : Option Addr) (cap : Nat) (hs : List Hd) (xs : List (List α)) : Prop where
  cap_le : xs.length ≤ cap
  out : ∀ i a, xs[i]? = some a → okA A ∧ w.cell? (elA A i) = some (.slice (hs.getD i (none, 0)).1 a.length (hs.getD i (none, 0)).2)
  inn : ∀ i a, xs[i]? = some a → SlIn enc sz w (.slice (hs.getD i (none, 0)).1 a.length (hs.getD i (none, 0)).2) a
theorem SlNN.mono {w' : World} (h : SlNN enc sz w A cap hs xs) (hw : St w.heap.size w L w') : SlNN enc sz w' A cap hs xs :=
  ⟨h.cap_le, fun i a ha => ⟨(h.out i a ha).1, hw.roW (h.out i a ha).2⟩, fun i a ha => (h.inn i a ha).mono hw⟩
theorem SlNN.nil0 : SlNN enc sz w none 0 [] ([] : List (List α)) := ⟨Nat.le_refl _, fun i a h => by simp at h, fun i a h => by simp at h⟩
theorem SlNN.at (h : SlNN enc sz w A cap hs xs) (ha : ix xs idx = some a) : SlIn enc sz w (.slice (hs.getD idx.toNat (none, 0)).1 a.length (hs.getD idx.toNat (none, 0)).2) a := h.inn _ _ (ix_get ha)
theorem SlNN.ofN {i : Nat} (hz : ∀ a, (enc a).length = sz) (h : St base w0 L w) (hi : L[i]? = some (cN encSl (innSl enc sz E) 1 A cap T hs xs)) : SlNN enc sz w A cap hs xs := by
  refine ⟨?_, fun i a ha => ?_, fun i a ha => ?_⟩
  · exact ((n_row h hi).row_lim (i := 0) rfl).1
  · have hlt := (List.getElem?_eq_some_iff.1 ha).1
    refine ⟨n_okA (idx := (i : Int)) h hi ⟨Int.natCast_nonneg _, Int.ofNat_lt.2 hlt⟩, ?_⟩
    have := n_cell (enc := encSl) (sz := 1) (h0 := ((none, 0) : Hd)) (j := 0) h (fun _ _ => rfl) hi ha (v := .slice (hs.getD i (none, 0)).1 a.length (hs.getD i (none, 0)).2) rfl
    simpa using this
  · have h1 := n_inner (h0 := ((none, 0) : Hd)) h hi ha (c := cR enc sz (hs.getD i (none, 0)).1 (hs.getD i (none, 0)).2 E a) (List.mem_singleton.2 rfl)
    exact SlIn.ofRow hz h1 (i := 0) rfl
theorem Y.nnEl {wq : World} (hT : P.underlying T = some (.slice E)) (hk : P.cellsOf E = 0 + 1) (h : SlNN enc sz wq A cap hs xs) (hx : Evs n e x (.slice A xs.length cap)) (hy : Evs n e y (.int kd idx)) (hb : 0 ≤ idx ∧ idx < xs.length) :
    Yd P n base w0 e L ⟨D, .indexAddr T x y, t, pos, af, G⟩ (.pointer (some (elA A (idx.toNat * (0 + 1))))) :=
  Y.elemZ hT hk hx hy hb (h.out idx.toNat xs[idx.toNat] (List.getElem?_eq_getElem (by omega))).1
theorem Y.loadNN {dT : TypeDesc} (hT : P.underlying T = some dT) (hd : plainT dT = true) (h : SlNN enc sz w0 A cap hs xs) (hx : Evs n e x (.pointer (some (elA A p)))) (ha : ix xs idx = some a) (hp : p = idx.toNat * (0 + 1)) :
    Yd P n w0.heap.size w0 e L ⟨D, .load T x, t, pos, af, G⟩ (.slice (hs.getD idx.toNat (none, 0)).1 a.length (hs.getD idx.toNat (none, 0)).2) :=
  Y.load hT hd hx (fun w hw => by subst hp; rw [Nat.zero_add, Nat.mul_one]; exact hw.roW (h.out _ _ (ix_get ha)).2)
end

/-! ### Rows of structs that hold slices of the caller's: what is known of these -/
section
variable {η α : Type} {enc : η → α → List Value} {inn : η → α → List Chunk} {sz : Nat} {A : Option Addr} {cap m k i p E T T' : Nat} {hs : List η} {xs : List α} {a : α} {h0 : η} {idx : Int}
theorem bor_of {q : η → α → Prop} (hw : St base w0 L w) (hi : L[i]? = some (cN enc inn sz A cap E hs xs)) (hc : ∀ h a, cF (q h a) ∈ inn h a) : ∀ j a, xs[j]? = some a → q (hs.getD j h0) a := fun j a ha =>
  (n_inner (h0 := h0) hw hi ha (hc _ _)).sat (cF _) (by simp)
theorem n_okA0 (h : St base w0 L w) (hi : L[i]? = some (cN enc inn sz A cap E hs xs)) : 0 < xs.length → okA A := fun hb => n_okA (idx := 0) h hi ⟨Int.le_refl _, by omega⟩
theorem Y.okField {T i off ft k m : Nat} {fs : Array Field} {j : Nat} {A : Option Addr} (hT : P.underlying T = some (.struct fs)) (hf : fieldIs P fs i off ft) (hk : P.cellsOf ft = k + 1) (hok : 0 < m → okA A) (hb : 0 < m) (hx : Evs n e x (.pointer (some (elA A j)))) :
    Yd P n base w0 e L ⟨D, .fieldAddr T x i, t, pos, af, G⟩ (.pointer (some (elA A (j + off)))) := Y.fieldAddrE hT hf hk (hok hb).1 hx
theorem WL.know {F : Prop} (hF : ∀ w, St base w0 L w → F) (h : F → WL P ops n base w0 e L rest Q) : WL P ops n base w0 e L rest Q := fun a w ha hw => h (hF w hw) a w ha hw
variable {K : Act → World → Prop}
theorem putAt_mid {l l' ds : List Value} {o : Nat} (h : putAt l o ds = l') : l.take o ++ ds ++ l.drop (o + ds.length) = l' := h
theorem flat_putj {β : Type} {f : β → List Value} {sz : Nat} (hz : ∀ a, (f a).length = sz) : ∀ (xs : List β) (i j : Nat) (a a' : β) (ds : List Value), xs[i]? = some a → j + ds.length ≤ sz → putAt (f a) j ds = f a' → putAt (xs.flatMap f) (i * sz + j) ds = (xs.set i a').flatMap f
  | [], _, _, _, _, _, h, _, _ => by simp at h
  | x :: xs, 0, j, a, a', ds, h, hj, hp => by
    obtain rfl : x = a := by simpa using h
    have hx := hz x
    unfold putAt at hp ⊢
    simp only [List.flatMap_cons, Nat.zero_mul, Nat.zero_add, List.set_cons_zero]
    rw [← hp, List.take_append_of_le_length (by omega), List.drop_append_of_le_length (by omega)]
    simp [List.append_assoc]
  | x :: xs, i + 1, j, a, a', ds, h, hj, hp => by
    have ih := flat_putj hz xs i j a a' ds (by simpa using h) hj hp
    have hx := hz x
    unfold putAt at ih ⊢
    simp only [List.flatMap_cons, List.set_cons_succ, ← ih]
    have e1 : (i + 1) * sz + j = (f x).length + (i * sz + j) := by rw [hx, Nat.add_mul]; omega
    rw [e1, List.take_append, List.drop_append]
    simp [List.take_of_length_le, List.drop_of_length_le, Nat.add_assoc]
/-- A store of a struct into a part of an element. -/
theorem WO.storeNA0 {a' : α} {ds : List Value} (hc : P.cellsOf T = k + 1) (hx : Evs n e x (.pointer (some (elA A p)))) (hy : Evs n e y (.agg ds.toArray)) (hl : ds.length = k + 1) (h1 : ∀ v ∈ ds, v.oneCell' = true) (hz : ∀ h a, (enc h a).length = sz) {j : Nat}
    (hi : L[i]? = some (cN enc inn sz A cap T' hs xs)) (ha : xs[idx.toNat]? = some a) (hp : p = idx.toNat * sz + j) (hj : j + (k + 1) ≤ sz) (hs' : putAt (enc (hs.getD idx.toNat h0) a) j ds = enc (hs.getD idx.toNat h0) a') (hM : inn (hs.getD idx.toNat h0) a = inn (hs.getD idx.toNat h0) a')
    (h : KK n base w0 e (cN enc inn sz A cap T' hs (xs.set idx.toNat a') :: L.eraseIdx i) K) :
    WO P ops n base w0 e L ⟨none, .store T x y, t, pos, af, none⟩ K Q := by
  subst hp
  intro ac w hac hw
  have hln := n_len hw hi
  have hk := (List.getElem?_eq_some_iff.1 ha).1
  have hle : (idx.toNat + 1) * sz ≤ xs.length * sz := Nat.mul_le_mul_right _ hk
  rw [Nat.add_mul] at hle
  have hw1 := (Ent.trans (.head hi) .openN).at _ _ _ hw
  refine (WO.storeRA (ops := ops) (Q := Q) (K := K) (i := 0) (cs := ds) hc hx hy hl h1 rfl (by rw [lenN hz _ _ hln]; omega) ?_) ac w hac hw1
  have e1 : hs.set idx.toNat (hs.getD idx.toNat h0) = hs := by
    apply List.ext_getElem (by simp)
    intro q h1 h2
    rw [List.getElem_set]
    split
    · rename_i hq
      subst hq
      simp [List.getD_eq_getElem?_getD, List.getElem?_eq_getElem h2]
    · rfl
  have hzg := zip_get (h0 := h0) hln ha
  have hput : putAt (zipC enc hs xs) (idx.toNat * sz + j) ds = zipC enc hs (xs.set idx.toNat a') := by
    have h5 := flat_putj (f := fun p : η × α => enc p.1 p.2) (fun p => hz p.1 p.2) (List.zip hs xs) idx.toNat j _ (hs.getD idx.toNat h0, a') ds hzg (by omega) hs'
    unfold zipC
    rw [h5, ← zip_set hln, e1]
  rw [hput]
  refine KK.ent ?_ h
  show Ent (cRow A cap T' sz xs.length (zipC enc hs (xs.set idx.toNat a')) :: (zipI inn hs xs ++ L.eraseIdx i)) _
  have e2 : (cRow A cap T' sz xs.length (zipC enc hs (xs.set idx.toNat a'))) = cRow A cap T' sz (xs.set idx.toNat a').length (zipC enc hs (xs.set idx.toNat a')) := by rw [List.length_set]
  rw [e2]
  refine .trans (.cons ?_) (.closeN (by simp [hln]))
  have h6 := Ent.putI (L := L.eraseIdx i) (inn := inn) hln hk (hs.getD idx.toNat h0) a'
  rw [e1] at h6
  refine .trans (.takeI (h0 := h0) hln ha) ?_
  rw [hM]
  exact h6
end
section
variable {K : Act → World → Prop} {α : Type} {enc : α → List Value} {sz : Nat} {A : Option Addr} {cap m k i p E T T' : Nat} {xs : List α} {a a' : α} {kd : IntKind} {idx : Int}
/-- The same of a row of plain structs. -/
theorem WO.storeSAj {ds : List Value} (hc : P.cellsOf T = k + 1) (hx : Evs n e x (.pointer (some (elA A p)))) (hy : Evs n e y (.agg ds.toArray)) (hl : ds.length = k + 1) (h1 : ∀ v ∈ ds, v.oneCell' = true) (hz : ∀ a, (enc a).length = sz) {j : Nat}
    (hi : L[i]? = some (cR enc sz A cap T' xs)) (ha : xs[idx.toNat]? = some a) (hp : p = idx.toNat * sz + j) (hj : j + (k + 1) ≤ sz) (hs : putAt (enc a) j ds = enc a') (h : KK n base w0 e (L.set i (cR enc sz A cap T' (xs.set idx.toNat a'))) K) :
    WO P ops n base w0 e L ⟨none, .store T x y, t, pos, af, none⟩ K Q := by
  subst hp
  have hk := (List.getElem?_eq_some_iff.1 ha).1
  have hle : (idx.toNat + 1) * sz ≤ xs.length * sz := Nat.mul_le_mul_right _ hk
  rw [Nat.add_mul] at hle
  refine WO.storeRA hc hx hy hl h1 hi (by rw [flat_len hz]; omega) ?_
  rw [flat_putj hz xs _ j a a' ds ha (by omega) hs]
  simpa [cR] using h
theorem WO.storeFSAj {ds : List Value} (hc : P.cellsOf T = k + 1) (hx : Evs n e x (.pointer (some (elA A p)))) (hy : Evs n e y (.agg ds.toArray)) (hl : ds.length = k + 1) (h1 : ∀ v ∈ ds, v.oneCell' = true) (hz : ∀ a, (enc a).length = sz) {j : Nat}
    (hi : L[i]? = some (cR enc sz A cap T' (xs.set idx.toNat a))) (hb : 0 ≤ idx ∧ idx < xs.length) (hp : p = idx.toNat * sz + j) (hj : j + (k + 1) ≤ sz) (hs : putAt (enc a) j ds = enc a') (h : KK n base w0 e (L.set i (cR enc sz A cap T' (xs.set idx.toNat a'))) K) :
    WO P ops n base w0 e L ⟨none, .store T x y, t, pos, af, none⟩ K Q := by
  refine WO.storeSAj hc hx hy hl h1 hz hi (a := a) (setget hb) hp hj hs ?_
  rw [List.set_set]; exact h
end

/-! ### Boxes that may not be there -/
def ptO (b : Option Nat) : Option Addr := b.map fun b => ⟨b, 0, none⟩
def cBo (b : Option Nat) (T : TypeId) (cs : List Value) : Chunk := match b with
  | some b => cBx b T cs
  | none => cF True
theorem St.nilO (h : St base w0 L w) (T : TypeId) (cs : List Value) : St base w0 (cBo none T cs :: L) w := (Ent.fact (p := True) trivial).at _ _ _ h
/-- append(nil, make([]T, k)...) -/
theorem WO.appendMk {α : Type} {enc : α → List Value} {sz : Nat} {K : Act → World → Prop} {T TI E bytes : Nat} {ty : TypeId} {zd : α} {zs : List Value} {kd kn : IntKind} {idx : Int} (hT : P.underlying T = some (.slice E)) (hTI : P.underlying TI = some (.int kn)) (hz : ∃ i z, P.info? E = some i ∧ i.zero = some z ∧ i.size = sz ∧ i.bytes = bytes ∧ z.cells = zs.toArray ∧ zs.length = sz ∧ 0 < sz) (hez : enc zd = zs) (hzz : ∀ a, (enc a).length = sz)
    (hx : Evs n e x (.slice none 0 0)) (hy : Evs n e y (.int kd idx)) (hb1 : decide (1 ≤ idx) = true) (hb : mkB bytes idx = true) (hd : Nat.blt d n = true)
    (h : ∀ A' cap', KK n base w0 ((d, .slice A' (List.replicate idx.toNat zd).length cap') :: e) (cR enc sz A' cap' E (List.replicate idx.toNat zd) :: L) K) :
    WO P ops n base w0 e L ⟨some d, .call { callee := .builtin .append, args := #[x, y], argTypes := #[T, TI] }, ty, pos, af, none⟩ K Q := by
  obtain ⟨h0, hm, hbb⟩ := mkB_le hb
  obtain ⟨k, rfl⟩ : ∃ k : Nat, idx = k := ⟨idx.toNat, by omega⟩
  rw [Int.toNat_natCast] at hm hbb h
  refine WO.of_run rfl fun a w ha hw => ?_
  obtain ⟨i, z, hi, hzv, hs, hby, hzc, hzl, hpos⟩ := hz
  subst hs; subst hby
  have hk : 0 < k := by have := of_decide_eq_true hb1; omega
  · have hr := Go.Lib.run_append_nil_zeros (P := P) w T TI ty E i z kd kn hT hTI hi hzv k hk hpos (by unfold maxLen at hm; omega) (by rw [Nat.mul_comm]; omega)
    unfold Oper.wp execOp
    simp only [resolve, invoke, builtin, Sem.run_bind, Sem.run_pure, Result.andThen_ok, List.map_toArray, List.map_cons, List.map_nil, hx a ha, hy a ha, hr]
    have hge := grownCap_ge w k 0 E
    have hcm : grownCap w k 0 E ≤ maxLen := grownCap_le_maxLen w k 0 E hm
    have hK := h (some ⟨w.heap.size, 0, none⟩) (grownCap w k 0 E)
    rw [List.length_replicate] at hK
    refine hK _ _ (ha.put d _ hd) (St.weak1 (o := some w.heap.size) (hw.drew.alloc _) (fun o ho => ?_))
    subst ho
    have hzc' : z.cells.toList = enc zd := by rw [hzc, hez]
    have hzs : z.cells.size = i.size := by rw [hzc]; simpa using hzl
    have hl : ((List.replicate k zd).flatMap enc).length = k * i.size := by rw [flat_len hzz]; simp
    rw [List.length_replicate]
    refine ⟨hl, .inr ⟨w.heap.size, _, rfl, rfl, hge, hcm, ?_, ?_⟩⟩
    · simp only [Array.size_append, size_zeroCells, hzs, ← Nat.add_mul]
      congr 1; omega
    · rw [Array.toList_append, zero_flat hzz k hzc', ← hl]
      exact List.take_left
theorem Y.capNil {T E : TypeId} (hT : P.underlying T = some (.slice E)) (hx : Evs n e x (.slice none 0 0)) :
    Yd P n base w0 e L ⟨D, .call { callee := .builtin .cap, args := #[x], argTypes := #[T] }, t, pos, af, G⟩ (.int .i64 ((0 : Nat) : Int)) := by
  intro a w ha _; simp [execOp, resolve, invoke, builtin, hx a ha, Builtin.cap_, run_underlying hT, goInt]
theorem Y.sliceNil {T E k : Nat} {kd : IntKind} {hi : Int} (hT : P.underlying T = some (.slice E)) (hk : P.cellsOf E = k + 1) (hx : Evs n e x (.slice none 0 0)) (hz : Evs n e z (.int kd hi)) (hb : slB 0 0 hi = true) :
    Yd P n base w0 e L ⟨D, .slice T x none (some z) none, t, pos, af, G⟩ (.slice none 0 0) := by
  have := Y.slice0 (D := D) (t := t) (pos := pos) (af := af) (G := G) (base := base) (w0 := w0) (L := L) (xs := ([] : List Unit)) hT hk hx rfl (Nat.le_refl _) hz hb
  simpa using this
/-! ### Arguments -/
section
variable {H : Type} {ench : TypeId × Value → H}
theorem rows_trod {α : Type} {encA : α → List Value} {sz : Nat} (dec : List Int → α) (hdec : ∀ r : List Int, r.length = sz → encA (dec r) = ints r) {W : World} {base fuel : Nat} {sp : Nat → Bool} {held : Bool} {t e : TypeId} {fs : Array Field} {cs : List Value} {q : DataW H × List MemPlace}
    (ht : P.underlying t = some (.slice e)) (he : P.underlying e = some (.struct fs)) (hf : numFields P 0 fs.toList = true) (hn : fs.size = sz) (hc : P.cellsOf e = sz) (h0 : 0 < sz)
    (hfu : DataW.trod ench P W base sp held fuel t cs = some q) :
    ∃ (xs : List α) (A : Option Addr) (cap : Nat), cs = [.slice A xs.length cap] ∧ SlIn encA sz W (.slice A xs.length cap) xs ∧ xs.length ≤ maxLen ∧ ∀ x ∈ xs, ∃ r, x = dec r ∧ r.length = sz ∧ ∀ y ∈ r, -9223372036854775808 ≤ y ∧ y ≤ 9223372036854775807 := by
  rcases Go.Deep.open_slice ht hfu with ⟨rfl, _⟩ | ⟨a1, len, cap, m, nn, D, Pl, rfl, hb, hlc, hm, hmm, _, hx⟩
  · exact ⟨[], none, 0, rfl, SlIn.nil, by simp, by simp⟩
  · have hlm : len ≤ m := by rw [hmm]; split <;> omega
    have each : ∀ i, i < len → ∀ j, j < sz → ∃ z, W.cell? ((a1.add (i * sz)).add j) = some (.int .i64 z) ∧ -9223372036854775808 ≤ z ∧ z ≤ 9223372036854775807 := by
      intro i hi j hj
      obtain ⟨cs, h1, h2⟩ := hx i (by omega)
      rw [hc] at h1
      obtain ⟨_, hcl, hat⟩ := World.cells?_some h1
      obtain ⟨ys, n', _, _, _, hyl, hff⟩ := DataW.trod_struct he h2
      have hjf : fs.toList[j]? = some fs[j] := by simp [hn, hj]
      obtain ⟨ho, hk, hT⟩ := numFields_get hf hjf
      have h3 := hff j fs[j] (by simp [hn, hj])
      rw [ho, hk, Nat.zero_add, List.getElem?_eq_getElem (by omega)] at h3
      obtain ⟨z, h4, _, h5⟩ := DataW.trod_int hT h3
      have hcj : cs[j]? = some (.int .i64 z) := by
        have : (cs.drop j).take 1 = [cs[j]'(by omega)] := by rw [List.drop_eq_getElem_cons (by omega)]; rfl
        rw [this] at h4
        rw [List.getElem?_eq_getElem (by omega)]
        simpa using h4
      exact ⟨z, by rw [hat j hj, hcj], bounds_i64 h5⟩
    have hrow : ∀ i, i < len → okA (some a1) ∧ ∀ j, j < sz → W.cell? (elA (some a1) (i * sz + j)) = some (.int .i64 (cellInt W (some a1) (i * sz + j))) ∧ -9223372036854775808 ≤ cellInt W (some a1) (i * sz + j) ∧ cellInt W (some a1) (i * sz + j) ≤ 9223372036854775807 := by
      intro i hi
      have hsp : a1.spot = none := by
        obtain ⟨z, hz, _⟩ := each 0 (by omega) 0 h0
        have e0 : (a1.add (0 * sz)).add 0 = a1 := by rw [Nat.zero_mul]; rfl
        rw [e0] at hz
        exact spot_none hz
      refine ⟨⟨rfl, fun p hp => by cases hp; exact hsp⟩, fun j hj => ?_⟩
      obtain ⟨z, hz, hz2⟩ := each i hi j hj
      obtain ⟨b, o, s⟩ := a1
      simp only at hsp
      subst hsp
      rw [add_none, add_none, Nat.add_assoc] at hz
      have e1 : cellInt W (some ⟨b, o, none⟩) (i * sz + j) = z := by simp [cellInt, elA, hz]
      rw [e1]
      exact ⟨by simpa [elA] using hz, hz2⟩
    refine ⟨(List.range len).map fun i => dec (rowInt W (some a1) sz i), some a1, cap, by simp, ⟨some a1, cap, rfl, by simpa using hlc, fun i hi => ?_⟩, by simp; omega, fun x hx => ?_⟩
    · have hi' : i < len := by simpa using hi
      refine ⟨(hrow i hi').1, fun j u hu => ?_⟩
      simp only [List.getElem_map, List.getElem_range] at hu
      rw [hdec _ (by simp [rowInt])] at hu
      have hj : j < sz := by have := (List.getElem?_eq_some_iff.1 hu).1; simpa [ints, rowInt] using this
      have := ((hrow i hi').2 j hj).1
      rw [this]
      simpa [ints, rowInt, hj] using hu
    · obtain ⟨i, hi, rfl⟩ := List.mem_map.1 hx
      have hi' : i < len := List.mem_range.1 hi
      refine ⟨_, rfl, by simp [rowInt], fun y hy => ?_⟩
      obtain ⟨j, hj, rfl⟩ := List.mem_map.1 hy
      exact ((hrow i hi').2 j (List.mem_range.1 hj)).2
theorem open_nest {α : Type} {encA : α → List Value} {sz : Nat} (dec : List Int → α) (hdec : ∀ r : List Int, r.length = sz → encA (dec r) = ints r) {W : World} {base b0 : Nat} {sp : Nat → Bool} {held : Bool} {r : Reach} {t1 t e : TypeId} {fs : Array Field} {v : Value} {d : DataW H} {ps : List MemPlace}
    (ht1 : P.underlying t1 = some (.slice t)) (hct : P.cellsOf t = 1) (ht : P.underlying t = some (.slice e)) (he : P.underlying e = some (.struct fs)) (hf : numFields P 0 fs.toList = true) (hn : fs.size = sz) (hc : P.cellsOf e = sz) (h0 : 0 < sz)
    (hv : Value.okWide P W r b0 t1 v) (h : DataW.Trod ench P W base sp held t1 v d ps) :
    ∃ (xs : List (List α)) (A : Option Addr) (cap : Nat) (hs : List Hd), v = .slice A xs.length cap ∧ SlNN encA sz W A cap hs xs ∧ xs.length ≤ maxLen ∧ ∀ l ∈ xs, l.length ≤ maxLen ∧ ∀ x ∈ l, ∃ r, x = dec r ∧ r.length = sz ∧ ∀ y ∈ r, -9223372036854775808 ≤ y ∧ y ≤ 9223372036854775807 := by
  obtain ⟨a, len, cap, rfl⟩ := okWide_slice ht1 hv
  obtain ⟨fuel, hfu⟩ := h
  rcases Go.Deep.open_slice ht1 hfu with ⟨hcs, _⟩ | ⟨a1, len1, cap1, m, nn, D, Pl, hcs, hb, hlc, hm, hmm, _, hx⟩
  · simp [Value.cells] at hcs
    obtain ⟨rfl, rfl, rfl⟩ := hcs
    exact ⟨[], none, 0, [], rfl, SlNN.nil0, by simp, by simp⟩
  · simp [Value.cells] at hcs
    obtain ⟨rfl, rfl, rfl⟩ := hcs
    have hlm : len ≤ m := by rw [hmm]; split <;> omega
    have each : ∀ i, i < len → ∃ (l : List α) (A : Option Addr) (c : Nat), W.cell? (a1.add i) = some (.slice A l.length c) ∧ SlIn encA sz W (.slice A l.length c) l ∧ l.length ≤ maxLen ∧ ∀ x ∈ l, ∃ r, x = dec r ∧ r.length = sz ∧ ∀ y ∈ r, -9223372036854775808 ≤ y ∧ y ≤ 9223372036854775807 := by
      intro i hi
      obtain ⟨cs, h1, h2⟩ := hx i (by omega)
      rw [hct, Nat.mul_one] at h1
      obtain ⟨_, hcl, hat⟩ := World.cells?_some h1
      obtain ⟨l, A, c, rfl, h3, h4, h5⟩ := rows_trod dec hdec ht he hf hn hc h0 h2
      have h6 := hat 0 (by omega)
      have e0 : (a1.add i).add 0 = a1.add i := rfl
      rw [e0] at h6
      exact ⟨l, A, c, by simpa using h6, h3, h4, h5⟩
    let f : Nat → List α × Hd := fun i => if hi : i < len then ((each i hi).choose, ((each i hi).choose_spec.choose, (each i hi).choose_spec.choose_spec.choose)) else ([], (none, 0))
    have hff : ∀ i, i < len → W.cell? (a1.add i) = some (.slice (f i).2.1 (f i).1.length (f i).2.2) ∧ SlIn encA sz W (.slice (f i).2.1 (f i).1.length (f i).2.2) (f i).1 ∧ (f i).1.length ≤ maxLen ∧ ∀ x ∈ (f i).1, ∃ r, x = dec r ∧ r.length = sz ∧ ∀ y ∈ r, -9223372036854775808 ≤ y ∧ y ≤ 9223372036854775807 := by
      intro i hi
      have e1 : f i = ((each i hi).choose, ((each i hi).choose_spec.choose, (each i hi).choose_spec.choose_spec.choose)) := dif_pos hi
      rw [e1]
      exact (each i hi).choose_spec.choose_spec.choose_spec
    have hxl : ((List.range len).map fun i => (f i).1).length = len := by simp
    have hget : ∀ i a, ((List.range len).map fun i => (f i).1)[i]? = some a → i < len ∧ a = (f i).1 ∧ ((List.range len).map fun i => (f i).2).getD i (none, 0) = (f i).2 := by
      intro i a ha
      have hi : i < len := by have := (List.getElem?_eq_some_iff.1 ha).1; simpa using this
      refine ⟨hi, ?_, ?_⟩
      · simp [hi] at ha; exact ha.symm
      · simp [List.getD_eq_getElem?_getD, hi]
    refine ⟨(List.range len).map fun i => (f i).1, some a1, cap, (List.range len).map fun i => (f i).2, by rw [hxl], ⟨by rw [hxl]; exact hlc, fun i a ha => ?_, fun i a ha => ?_⟩, by rw [hxl]; omega, fun l hl => ?_⟩
    · obtain ⟨hi, rfl, e2⟩ := hget i a ha
      rw [e2]
      have h1 := (hff i hi).1
      have h2 := (hff 0 (by omega)).1
      have hsp : a1.spot = none := by
        have e0 : a1.add 0 = a1 := rfl
        rw [e0] at h2
        exact spot_none h2
      refine ⟨⟨rfl, fun p hp => by cases hp; exact hsp⟩, ?_⟩
      obtain ⟨b, o, s⟩ := a1
      simp only at hsp
      subst hsp
      rw [add_none] at h1
      simpa [elA] using h1
    · obtain ⟨hi, rfl, e2⟩ := hget i a ha
      rw [e2]
      exact (hff i hi).2.1
    · obtain ⟨i, hi, rfl⟩ := List.mem_map.1 hl
      exact (hff i (List.mem_range.1 hi)).2.2
end
end Go.Proofs.Yteklmleiiiodfaa
