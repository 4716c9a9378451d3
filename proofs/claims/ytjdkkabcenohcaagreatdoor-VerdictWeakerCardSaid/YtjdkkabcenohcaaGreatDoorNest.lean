/- Rows of things that hold slices themselves: a row, and what lies behind each of its elements, as one piece of memory. It speaks of every program. -/
import Derived.Test.YtjdkkabcenohcaaGreatDoorLoops
set_option linter.unusedVariables false
set_option linter.unusedSimpArgs false
set_option linter.unusedSectionVars false
namespace Go.Proofs.YtjdkkabcenohcaaGreatDoor
open Go.RowKit

variable {P : Program} {n : Nat} {base : Nat} {w0 w : World} {L : List Chunk} {e : Env}
variable {ops rest : List Oper} {Q : Exit → Act → World → Prop} {d : Nat} {D : Option Tmp} {op : Op} {t : TypeId} {pos : String} {af : Array Edge} {G : Option (Nat × Bool)} {v u : Value} {x y z : Operand}

/-! ### Several chunks as one -/
def bundle (M : List Chunk) : Chunk := ⟨owns M, fun f => ∀ c ∈ M, c.ok f, fun f g h hf c hc => c.loc f g (fun b hb => h b (mem_owns hc hb)) (hf c hc)⟩
/-- A fact. -/
def cF (p : Prop) : Chunk := ⟨[], fun _ => p, fun _ _ _ h => h⟩
/-- What follows of some chunks, whatever lies beside them. -/
def Ent (L L' : List Chunk) : Prop := ∀ R base w0 w, St base w0 (R ++ L) w → St base w0 (R ++ L') w
theorem Ent.at {L L' : List Chunk} (h : Ent L L') : ∀ base w0 w, St base w0 L w → St base w0 L' w := fun b w0 w hw => h [] b w0 w hw
theorem Ent.refl {L : List Chunk} : Ent L L := fun _ _ _ _ h => h
theorem Ent.trans {L M N : List Chunk} (h : Ent L M) (k : Ent M N) : Ent L N := fun R b w0 w hw => k R b w0 w (h R b w0 w hw)
theorem Ent.perm {L M : List Chunk} (h : L.Perm M) : Ent L M := fun R _ _ _ hw => hw.sub ⟨[], by rw [List.append_nil]; exact (List.Perm.append_left R h).symm⟩
theorem Ent.cons {c : Chunk} {L M : List Chunk} (h : Ent L M) : Ent (c :: L) (c :: M) := fun R b w0 w hw => by
  have e : ∀ X : List Chunk, R ++ c :: X = (R ++ [c]) ++ X := fun X => by simp
  rw [e] at hw ⊢; exact h _ _ _ _ hw
theorem Ent.app {X L M : List Chunk} (h : Ent L M) : Ent (X ++ L) (X ++ M) := fun R b w0 w hw => by
  rw [← List.append_assoc] at hw ⊢; exact h _ _ _ _ hw
theorem Ent.openB {M R : List Chunk} : Ent (bundle M :: R) (M ++ R) := fun X b w0 w h => by
  have ho : owns (X ++ (M ++ R)) = owns (X ++ bundle M :: R) := by rw [owns_app, owns_app, owns_app, owns_cons]; rfl
  refine ⟨h.below, h.base_le, fun c hc => ?_, ho ▸ h.nodup, ho ▸ h.ge⟩
  have hc' : c ∈ X ∨ c ∈ M ∨ c ∈ R := by simpa using hc
  rcases hc' with hc | hc | hc
  · exact h.sat c (by simp [hc])
  · exact h.sat (bundle M) (by simp) c hc
  · exact h.sat c (by simp [hc])
theorem Ent.closeB {M R : List Chunk} : Ent (M ++ R) (bundle M :: R) := fun X b w0 w h => by
  have ho : owns (X ++ (M ++ R)) = owns (X ++ bundle M :: R) := by rw [owns_app, owns_app, owns_app, owns_cons]; rfl
  refine ⟨h.below, h.base_le, fun c hc => ?_, ho ▸ h.nodup, ho ▸ h.ge⟩
  have hc' : c ∈ X ∨ c = bundle M ∨ c ∈ R := by simpa using hc
  rcases hc' with hc | rfl | hc
  · exact h.sat c (by simp [hc])
  · exact fun c hc => h.sat c (by simp [hc])
  · exact h.sat c (by simp [hc])
theorem Ent.drop {M R : List Chunk} : Ent (M ++ R) R := fun X _ _ _ h => h.sub ⟨M, by
  have : (X ++ R ++ M).Perm (X ++ (R ++ M)) := by simp
  exact this.trans (List.Perm.append_left X List.perm_append_comm)⟩
theorem perm_erase {L : List Chunk} {i : Nat} {c : Chunk} (hi : L[i]? = some c) : L.Perm (c :: L.eraseIdx i) := by
  obtain ⟨e1, -⟩ := set_split hi
  have h2 : L.eraseIdx i = L.take i ++ L.drop (i + 1) := List.eraseIdx_eq_take_drop_succ ..
  rw [h2]
  conv => lhs; rw [e1]
  exact List.perm_middle
theorem Ent.head {i : Nat} {c : Chunk} (hi : L[i]? = some c) : Ent L (c :: L.eraseIdx i) := .perm (perm_erase hi)
theorem Ent.fact {p : Prop} {R : List Chunk} (h : p) : Ent R (cF p :: R) := fun X b w0 w hw => by
  have ho : owns (X ++ cF p :: R) = owns (X ++ R) := by rw [owns_app, owns_app, owns_cons]; rfl
  refine ⟨hw.below, hw.base_le, fun c hc => ?_, ho ▸ hw.nodup, ho ▸ hw.ge⟩
  have hc' : c ∈ X ∨ c = cF p ∨ c ∈ R := by simpa using hc
  rcases hc' with hc | rfl | hc
  · exact hw.sat c (by simp [hc])
  · exact h
  · exact hw.sat c (by simp [hc])
theorem Ent.pick (idx : List Nat) (hi : (decide idx.Nodup && idx.all fun i => Nat.blt i L.length) = true) : Ent L (idx.filterMap (L[·]?)) := fun R b w0 w hw => by
  simp only [Bool.and_eq_true, decide_eq_true_eq, List.all_eq_true, Nat.blt_eq] at hi
  obtain ⟨hn, hl⟩ := hi
  have hp : (idx.filterMap (L[·]?) ++ ((List.range L.length).filter (fun i => decide (i ∉ idx))).filterMap (L[·]?)).Perm L := by
    conv => rhs; rw [← fm_range L]
    rw [← List.filterMap_append]
    refine List.Perm.filterMap _ ?_
    rw [List.perm_ext_iff_of_nodup]
    · intro a
      simp only [List.mem_append, List.mem_filter, List.mem_range, decide_eq_true_eq]
      constructor
      · rintro (h | h)
        · exact hl a h
        · exact h.1
      · intro h
        by_cases ha : a ∈ idx
        · exact .inl ha
        · exact .inr ⟨h, ha⟩
    · rw [List.nodup_append]
      refine ⟨hn, List.Pairwise.filter _ List.nodup_range, fun a ha b hb e => ?_⟩
      subst e
      simp at hb
      exact hb.2 ha
    · exact List.nodup_range
  have h1 := Ent.perm hp.symm R b w0 w hw
  exact h1.sub ⟨((List.range L.length).filter (fun i => decide (i ∉ idx))).filterMap (L[·]?), by rw [List.append_assoc]⟩
theorem Ent.pickN (k : Nat) (idx : List Nat) (hi : (decide idx.Nodup && idx.all (fun i => Nat.blt i k) && Nat.ble k L.length) = true) : Ent L (idx.filterMap (L[·]?) ++ L.drop k) := fun R b w0 w hw => by
  -- the frame is put behind
  have h1 : St b w0 (L ++ R) w := Ent.perm (List.perm_append_comm (l₁ := R) (l₂ := L)) [] b w0 w hw
  have e1 : ∀ i, i < k → (L ++ R)[i]? = L[i]? := fun i hi' => by
    simp only [Bool.and_eq_true, Nat.ble_eq] at hi
    exact List.getElem?_append_left (by omega)
  have hi2 : (decide idx.Nodup && idx.all (fun i => Nat.blt i k) && Nat.ble k (L ++ R).length) = true := by
    simp only [Bool.and_eq_true, Nat.ble_eq, List.length_append] at hi ⊢
    exact ⟨hi.1, by omega⟩
  have h2 := h1.pickK k idx hi2
  have hk : k ≤ L.length := by simp only [Bool.and_eq_true, Nat.ble_eq] at hi; exact hi.2
  have hl : ∀ i ∈ idx, i < k := by simp only [Bool.and_eq_true, List.all_eq_true, Nat.blt_eq] at hi; exact hi.1.2
  have e2 : ∀ l : List Nat, (∀ i ∈ l, i < k) → l.filterMap ((L ++ R)[·]?) = l.filterMap (L[·]?) := by
    intro l
    induction l with
    | nil => intro _; rfl
    | cons a l ih =>
      intro h
      rw [List.filterMap_cons, List.filterMap_cons, e1 a (h a (by simp)), ih (fun i hi => h i (by simp [hi]))]
  rw [e2 idx hl, List.drop_append_of_le_length hk, ← List.append_assoc] at h2
  exact Ent.perm (List.perm_append_comm) [] b w0 w h2
theorem Ent.nilR {α : Type} (enc : α → List Value) (sz E : Nat) : Ent L (cR enc sz none 0 E ([] : List α) :: L) := fun R b w0 w hw => by
  have h1 := St.nilR hw enc sz E
  exact h1.sub ⟨[], by rw [List.append_nil]; exact List.perm_middle⟩
/-- Of those ahead of a tail. -/
theorem Ent.pickK {X T : List Chunk} (idx : List Nat) (hi : (decide idx.Nodup && idx.all fun i => Nat.blt i X.length) = true) : Ent (X ++ T) (idx.filterMap (X[·]?) ++ T) :=
  .trans (.perm List.perm_append_comm) (.trans (.app (.pick idx hi)) (.perm List.perm_append_comm))
/-- One of those that are bundled. -/
theorem St.inside (h : St base w0 L w) {M : List Chunk} {c : Chunk} (hM : bundle M ∈ L) (hc : c ∈ M) : St base w0 [c] w := by
  obtain ⟨X, Y, rfl⟩ := List.append_of_mem hM
  have h1 := Ent.openB.at _ _ _ (h.sub ⟨[], by rw [List.append_nil]; exact (List.perm_middle (l₁ := X) (a := bundle M) (l₂ := Y)).symm⟩)
  obtain ⟨X', Y', rfl⟩ := List.append_of_mem hc
  refine h1.sub ⟨X' ++ Y' ++ (X ++ Y), ?_⟩
  have : ([c] ++ (X' ++ Y' ++ (X ++ Y))).Perm ((c :: (X' ++ Y')) ++ (X ++ Y)) := by simp
  exact this.trans (List.Perm.append_right _ List.perm_middle.symm)
theorem WL.ent {L' : List Chunk} (h : Ent L L') (k : WL P ops n base w0 e L' rest Q) : WL P ops n base w0 e L rest Q := fun a w ha hw => k a w ha (h.at _ _ _ hw)
theorem KK.ent {K : Act → World → Prop} {L' : List Chunk} (h : Ent L L') (k : KK n base w0 e L' K) : KK n base w0 e L K := fun a w ha hw => k a w ha (h.at _ _ _ hw)
theorem WO.ent {o : Oper} {K : Act → World → Prop} {L' : List Chunk} (h : Ent L L') (k : WO P ops n base w0 e L' o K Q) : WO P ops n base w0 e L o K Q := fun a w ha hw => k a w ha (h.at _ _ _ hw)

/-! ### Rows with something behind each element -/
section
variable {η α : Type} {enc : η → α → List Value} {inn : η → α → List Chunk} {sz : Nat} {A : Option Addr} {cap m k i p E T T' : Nat} {hs : List η} {xs : List α} {a : α} {h0 : η} {kd : IntKind} {idx : Int}
def zipC (enc : η → α → List Value) (hs : List η) (xs : List α) : List Value := (List.zip hs xs).flatMap fun p => enc p.1 p.2
def zipI (inn : η → α → List Chunk) (hs : List η) (xs : List α) : List Chunk := (List.zip hs xs).flatMap fun p => inn p.1 p.2
def cN (enc : η → α → List Value) (inn : η → α → List Chunk) (sz : Nat) (A : Option Addr) (cap : Nat) (E : TypeId) (hs : List η) (xs : List α) : Chunk :=
  bundle (cRow A cap E sz xs.length (zipC enc hs xs) :: cF (hs.length = xs.length) :: zipI inn hs xs)
/-- What lies behind all elements but one. -/
def zipE (inn : η → α → List Chunk) (hs : List η) (xs : List α) (k : Nat) : List Chunk := ((List.zip hs xs).eraseIdx k).flatMap fun p => inn p.1 p.2
/-- A row one of whose elements has nothing behind it for a while. -/
def cH (inn : η → α → List Chunk) (sz : Nat) (A : Option Addr) (cap : Nat) (E : TypeId) (enc : η → α → List Value) (hs : List η) (xs : List α) (k : Nat) : Chunk :=
  bundle (cRow A cap E sz xs.length (zipC enc hs xs) :: cF (hs.length = xs.length) :: zipE inn hs xs k)
theorem zip_get (hl : hs.length = xs.length) (hx : xs[k]? = some a) : (List.zip hs xs)[k]? = some (hs.getD k h0, a) := by
  obtain ⟨hk, rfl⟩ := List.getElem?_eq_some_iff.1 hx
  rw [List.getElem?_eq_getElem (by simp; omega)]
  simp [List.getD_eq_getElem?_getD, List.getElem?_eq_getElem (show k < hs.length by omega)]
theorem n_len (h : St base w0 L w) (hi : L[i]? = some (cN enc inn sz A cap E hs xs)) : hs.length = xs.length := by
  have := h.sat _ (List.mem_of_getElem? hi)
  exact this (cF (hs.length = xs.length)) (by simp)
theorem n_row (h : St base w0 L w) (hi : L[i]? = some (cN enc inn sz A cap E hs xs)) : St base w0 [cRow A cap E sz xs.length (zipC enc hs xs)] w :=
  h.inside (List.mem_of_getElem? hi) (by simp)
theorem n_okA (h : St base w0 L w) (hi : L[i]? = some (cN enc inn sz A cap E hs xs)) (hb : 0 ≤ idx ∧ idx < xs.length) : okA A :=
  ((n_row h hi).row_lim (i := 0) rfl).2.2 (by omega)
theorem n_cell (h : St base w0 L w) (hz : ∀ h a, (enc h a).length = sz) (hi : L[i]? = some (cN enc inn sz A cap E hs xs)) (hx : xs[k]? = some a) {j : Nat} (hv : (enc (hs.getD k h0) a)[j]? = some v) : w.cell? (elA A (k * sz + j)) = some v := by
  have hl := n_len h hi
  have hzg := zip_get (h0 := h0) hl hx
  obtain ⟨hk, he⟩ := List.getElem?_eq_some_iff.1 hzg
  have hj : j < sz := by rw [← hz (hs.getD k h0) a]; exact (List.getElem?_eq_some_iff.1 hv).1
  refine ((n_row h hi).row_get (i := 0) rfl (j := k * sz + j) ?_).2
  unfold zipC
  rw [flat_get (fun p => hz p.1 p.2) _ k j hk hj, he]
  exact hv
theorem n_inner (h : St base w0 L w) (hi : L[i]? = some (cN enc inn sz A cap E hs xs)) (hx : xs[k]? = some a) {c : Chunk} (hc : c ∈ inn (hs.getD k h0) a) : St base w0 [c] w := by
  refine h.inside (List.mem_of_getElem? hi) ?_
  have hzg := zip_get (h0 := h0) (n_len h hi) hx
  simp only [List.mem_cons]
  right; right
  exact List.mem_flatMap.2 ⟨_, List.mem_of_getElem? hzg, hc⟩
theorem Y.nEl (hT : P.underlying T = some (.slice E)) (hk : P.cellsOf E = k + 1) (hi : L[i]? = some (cN enc inn sz A cap T' hs xs)) (hx : Evs n e x (.slice A m cap)) (hm : m = xs.length) (hy : Evs n e y (.int kd idx)) (hb : 0 ≤ idx ∧ idx < xs.length) :
    Yd P n base w0 e L ⟨D, .indexAddr T x y, t, pos, af, G⟩ (.pointer (some (elA A (idx.toNat * (k + 1))))) := by
  subst hm
  intro a w ha hw
  exact Y.elemZ hT hk hx hy hb (n_okA hw hi hb) a w ha hw
theorem Y.nField {T i i' off ft k : Nat} {fs : Array Field} {j : Nat} (hT : P.underlying T = some (.struct fs)) (hf : fieldIs P fs i off ft) (hk : P.cellsOf ft = k + 1) (hi : L[i']? = some (cN enc inn sz A cap T' hs xs)) (hb : 0 ≤ idx ∧ idx < xs.length) (hx : Evs n e x (.pointer (some (elA A j)))) :
    Yd P n base w0 e L ⟨D, .fieldAddr T x i, t, pos, af, G⟩ (.pointer (some (elA A (j + off)))) := by
  intro a w ha hw
  exact Y.fieldAddrE hT hf hk (n_okA hw hi hb).1 hx a w ha hw
theorem Y.loadN {dT : TypeDesc} {j : Nat} (hT : P.underlying T = some dT) (hd : plainT dT = true) (hz : ∀ h a, (enc h a).length = sz) (hi : L[i]? = some (cN enc inn sz A cap T' hs xs)) (hx : Evs n e x (.pointer (some (elA A p)))) (ha : xs[idx.toNat]? = some a) (hp : p = idx.toNat * sz + j) (hv : (enc (hs.getD idx.toNat h0) a)[j]? = some v) :
    Yd P n base w0 e L ⟨D, .load T x, t, pos, af, G⟩ v := Y.load hT hd hx (fun w hw => by subst hp; exact n_cell hw hz hi ha hv)
theorem Y.loadNA {dT : TypeDesc} {j : Nat} {ds : List Value} (hT : P.underlying T = some dT) (hd : aggT dT = true) (hk : P.cellsOf T = k + 1) (hz : ∀ h a, (enc h a).length = sz) (hi : L[i]? = some (cN enc inn sz A cap T' hs xs)) (hx : Evs n e x (.pointer (some (elA A p)))) (ha : xs[idx.toNat]? = some a) (hp : p = idx.toNat * sz + j) (hl : ds.length = k + 1) (hv : ∀ q v, ds[q]? = some v → (enc (hs.getD idx.toNat h0) a)[j + q]? = some v) :
    Yd P n base w0 e L ⟨D, .load T x, t, pos, af, G⟩ (.agg ds.toArray) := by
  intro ac w hac hw
  have hlt := (List.getElem?_eq_some_iff.1 ha).1
  have hs : A.isSome = true := (n_okA (idx := (idx.toNat : Int)) hw hi ⟨Int.natCast_nonneg _, Int.ofNat_lt.2 hlt⟩).1
  exact Y.loadAggE hT hd hk hs hx hl (fun w hw q v hq => by subst hp; rw [Nat.add_assoc]; exact n_cell hw hz hi ha (hv q v hq)) ac w hac hw
theorem h_okA (h : St base w0 L w) (hi : L[i]? = some (cH inn sz A cap E enc hs xs m)) (hb : 0 ≤ idx ∧ idx < xs.length) : okA A := by
  have h1 : St base w0 [cRow A cap E sz xs.length (zipC enc hs xs)] w := h.inside (List.mem_of_getElem? hi) (by simp)
  exact (h1.row_lim (i := 0) rfl).2.2 (by omega)
theorem Y.hField {T i i' off ft k mm : Nat} {fs : Array Field} {j : Nat} (hT : P.underlying T = some (.struct fs)) (hf : fieldIs P fs i off ft) (hk : P.cellsOf ft = k + 1) (hi : L[i']? = some (cH inn sz A cap T' enc hs xs mm)) (hb : 0 ≤ idx ∧ idx < xs.length) (hx : Evs n e x (.pointer (some (elA A j)))) :
    Yd P n base w0 e L ⟨D, .fieldAddr T x i, t, pos, af, G⟩ (.pointer (some (elA A (j + off)))) := by
  intro a w ha hw
  exact Y.fieldAddrE hT hf hk (h_okA hw hi hb).1 hx a w ha hw
/-- What lies behind an element, as a slice. -/
theorem SlIn.inN {β : Type} {enc2 : β → List Value} {sz2 c2 E2 : Nat} {A2 : Option Addr} {ys : List β} (hz : ∀ a, (enc2 a).length = sz2) (h : St base w0 L w) (hi : L[i]? = some (cN enc inn sz A cap E hs xs)) (hx : ix xs idx = some a) (hc : cR enc2 sz2 A2 c2 E2 ys ∈ inn (hs.getD idx.toNat h0) a) : SlIn enc2 sz2 w (.slice A2 ys.length c2) ys :=
  SlIn.ofRow hz (n_inner h hi (ix_get hx) hc) (i := 0) rfl

/-! Made. -/
/-- A row, and what lies behind its elements, made one. -/
theorem Ent.closeN (hl : hs.length = xs.length) : Ent (cRow A cap E sz xs.length (zipC enc hs xs) :: (zipI inn hs xs ++ L)) (cN enc inn sz A cap E hs xs :: L) :=
  .trans (.trans (.fact hl) (.perm (List.Perm.swap ..))) (.closeB (M := _ :: _ :: zipI inn hs xs))
theorem Ent.openN : Ent (cN enc inn sz A cap E hs xs :: L) (cRow A cap E sz xs.length (zipC enc hs xs) :: (zipI inn hs xs ++ L)) :=
  .trans .openB (.cons (.drop (M := [cF (hs.length = xs.length)])))
theorem Ent.nilN (enc : η → α → List Value) (inn : η → α → List Chunk) (sz E : Nat) : Ent L (cN enc inn sz none 0 E ([] : List η) ([] : List α) :: L) := by
  refine .trans ?_ (Ent.closeN (hs := []) (xs := []) rfl)
  intro R b w0 w hw
  have h1 := (St.nilRow hw E sz)
  exact h1.sub ⟨[], by rw [List.append_nil]; exact List.perm_middle⟩
theorem St.nilN (h : St base w0 L w) (enc : η → α → List Value) (inn : η → α → List Chunk) (sz E : Nat) : St base w0 (cN enc inn sz none 0 E ([] : List η) ([] : List α) :: L) w := (Ent.nilN enc inn sz E).at _ _ _ h
theorem zip_set (hl : hs.length = xs.length) (k : Nat) (h' : η) (a' : α) : List.zip (hs.set k h') (xs.set k a') = (List.zip hs xs).set k (h', a') := by
  apply List.ext_getElem?
  intro j
  by_cases hj : j = k
  · subst hj
    by_cases hlt : j < xs.length
    · rw [List.getElem?_eq_getElem (by simp; omega), List.getElem?_eq_getElem (by simp; omega)]
      simp
    · rw [List.getElem?_eq_none (by simp; omega), List.getElem?_eq_none (by simp; omega)]
  · by_cases hlt : j < xs.length
    · rw [List.getElem?_eq_getElem (by simp; omega), List.getElem?_eq_getElem (by simp; omega)]
      simp [List.getElem_set, Ne.symm hj]
    · rw [List.getElem?_eq_none (by simp; omega), List.getElem?_eq_none (by simp; omega)]
theorem flat_erase {β : Type} (f : β → List Chunk) : ∀ (l : List β) (k : Nat) (b : β), l[k]? = some b → (l.flatMap f).Perm (f b ++ (l.eraseIdx k).flatMap f)
  | [], _, _, h => by simp at h
  | c :: l, 0, b, h => by
    obtain rfl : c = b := by simpa using h
    simp
  | c :: l, k + 1, b, h => by
    have ih := flat_erase f l k b (by simpa using h)
    simp only [List.flatMap_cons, List.eraseIdx_cons_succ]
    refine (List.Perm.append_left _ ih).trans ?_
    rw [← List.append_assoc, ← List.append_assoc]
    exact List.Perm.append_right _ List.perm_append_comm
theorem erase_set {β : Type} : ∀ (l : List β) (k : Nat) (b : β), (l.set k b).eraseIdx k = l.eraseIdx k
  | [], _, _ => rfl
  | _ :: _, 0, _ => rfl
  | c :: l, k + 1, b => by simp [erase_set l k b]
theorem Ent.takeI (hl : hs.length = xs.length) (hx : xs[k]? = some a) : Ent (zipI inn hs xs ++ L) (inn (hs.getD k h0) a ++ (zipE inn hs xs k ++ L)) := by
  have := flat_erase (fun p : η × α => inn p.1 p.2) (List.zip hs xs) k _ (zip_get (h0 := h0) hl hx)
  rw [← List.append_assoc]
  exact .perm (List.Perm.append_right L this)
theorem Ent.putI (hl : hs.length = xs.length) (hk : k < xs.length) (h' : η) (a' : α) : Ent (inn h' a' ++ (zipE inn hs xs k ++ L)) (zipI inn (hs.set k h') (xs.set k a') ++ L) := by
  have h1 : (List.zip (hs.set k h') (xs.set k a'))[k]? = some (h', a') := by
    rw [zip_set hl, List.getElem?_set_self (by simp; omega)]
  have := flat_erase (fun p : η × α => inn p.1 p.2) _ k _ h1
  rw [zip_set hl, erase_set] at this
  rw [← List.append_assoc]
  refine .perm (List.Perm.append_right L ?_)
  unfold zipI zipE
  rw [zip_set hl]
  exact this.symm
theorem zipC_set (hz : ∀ h a, (enc h a).length = sz) (hl : hs.length = xs.length) (hx : xs[k]? = some a) {j : Nat} {v : Value} {h' : η} {a' : α} (hj : j < sz) (hs' : (enc (hs.getD k h0) a).set j v = enc h' a') : (zipC enc hs xs).set (k * sz + j) v = zipC enc (hs.set k h') (xs.set k a') := by
  have hzg := zip_get (h0 := h0) hl hx
  obtain ⟨hk, he⟩ := List.getElem?_eq_some_iff.1 hzg
  unfold zipC
  rw [zip_set hl]
  exact flat_set (enc := fun p : η × α => enc p.1 p.2) (fun p => hz p.1 p.2) _ k j v (h', a') hk hj (by rw [he]; exact hs')
theorem zipI_app {hs2 : List η} {ys : List α} (hl : hs.length = xs.length) : zipI inn (hs ++ hs2) (xs ++ ys) = zipI inn hs xs ++ zipI inn hs2 ys := by
  unfold zipI; rw [List.zip_append hl, List.flatMap_append]
theorem zipC_app {hs2 : List η} {ys : List α} (hl : hs.length = xs.length) : zipC enc (hs ++ hs2) (xs ++ ys) = zipC enc hs xs ++ zipC enc hs2 ys := by
  unfold zipC; rw [List.zip_append hl, List.flatMap_append]
theorem Ent.hole (hi : L[i]? = some (cN enc inn sz A cap E hs xs)) (hx : xs[k]? = some a) : Ent L (inn (hs.getD k h0) a ++ (cH inn sz A cap E enc hs xs k :: L.eraseIdx i)) := by
  intro R b w0 w hw
  have h1 := Ent.head hi R b w0 w hw
  have hl := n_len (enc := enc) (inn := inn) (sz := sz) (A := A) (cap := cap) (E := E) (hs := hs) (xs := xs) (i := R.length) h1 (by simp)
  have h2 := Ent.openN R b w0 w h1
  have h3 := (Ent.cons (.takeI (h0 := h0) hl hx)) R b w0 w h2
  have h4 := (Ent.perm (List.perm_middle (a := cRow A cap E sz xs.length (zipC enc hs xs)) (l₁ := inn (hs.getD k h0) a) (l₂ := zipE inn hs xs k ++ L.eraseIdx i)).symm) R b w0 w h3
  refine (Ent.app ?_) R b w0 w h4
  exact .trans (.trans (.fact hl) (.perm (List.Perm.swap ..))) (.closeB (M := _ :: _ :: zipE inn hs xs k))
theorem lenN {enc : η → α → List Value} (hz : ∀ h a, (enc h a).length = sz) : ∀ (hs : List η) (xs : List α), hs.length = xs.length → (zipC enc hs xs).length = xs.length * sz
  | [], [], _ => by simp [zipC]
  | h :: hs, a :: xs, hl => by
    have := lenN hz hs xs (by simpa using hl)
    unfold zipC at this ⊢
    simp only [List.zip_cons_cons, List.flatMap_cons, List.length_append, hz, this, List.length_cons, Nat.add_mul]; omega
  | [], _ :: _, hl => by simp at hl
  | _ :: _, [], hl => by simp at hl
section
variable {K : Act → World → Prop}
/-- A literal of a row of such things. -/
theorem WO.bsliceN {T E len : Nat} {zv : Value} {es : List (Nat × Operand)} {vs : List Value} {L' : List Chunk} (hT : P.underlying T = some (.slice E)) (hz : ∃ i, P.info? E = some i ∧ i.zero = some zv ∧ i.size = sz) (hx : Evn n e 0 es vs) (hl : vs.length = len) (hcs0 : vs.map (fun v => v.cells.size) = List.replicate len sz)
    (hv : (vs.flatMap fun v => v.cells.toList) = zipC enc hs xs) (hh : hs.length = xs.length) (hyl : xs.length = len) (hzz : ∀ h a, (enc h a).length = sz) (hpos : 0 < sz) (hsm : len * sz ≤ 16777216) (hM : Ent L (zipI inn hs xs ++ L')) (hd : Nat.blt d n = true)
    (h : ∀ b, KK n base w0 ((d, .slice (some ⟨b, 0, none⟩) xs.length xs.length) :: e) (cN enc inn sz (some ⟨b, 0, none⟩) xs.length E hs xs :: L') K) : WO P ops n base w0 e L ⟨some d, .buildSlice T len es.toArray, t, pos, af, none⟩ K Q := by
  have hcs : ∀ v ∈ vs, v.cells.size = sz := fun v hm => by
    have : v.cells.size ∈ List.replicate len sz := by rw [← hcs0]; exact List.mem_map.2 ⟨v, hm, rfl⟩
    exact (List.mem_replicate.1 this).2
  refine WO.bslice hT hz hx hl hcs hsm hd (fun b => ?_)
  subst hyl
  rw [hv]
  intro a w ha hw
  refine h b a w ha ((Ent.closeN hh).at _ _ _ ?_)
  have h1 : St base w0 (cRow (some ⟨b, 0, none⟩) xs.length E sz xs.length (zipC enc hs xs) :: L) w := by
    refine St.weak1 (o := some b) hw (fun o ho => ?_)
    subst ho
    have hle : xs.length * 1 ≤ xs.length * sz := Nat.mul_le_mul_left _ hpos
    have hln := lenN hzz hs xs hh
    refine ⟨hln, .inr ⟨b, _, rfl, rfl, Nat.le_refl _, by unfold maxLen; omega, by simpa using hln, ?_⟩⟩
    exact List.take_of_length_le (by simpa using Nat.le_of_eq hln)
  exact (Ent.cons hM).at _ _ _ h1
/-- append of a literal of such things: the literal lies ahead. -/
theorem WO.appendN {t E size bytes i c cap m : Nat} {A : Option Addr} {ty : TypeId} {b : Nat} {hs2 : List η} {ys : List α} {L0 : List Chunk} (hT : P.underlying t = some (.slice E)) (hz : ∃ i z, P.info? E = some i ∧ i.zero = some z ∧ i.size = size ∧ i.bytes = bytes ∧ z.cells.size = size ∧ 0 < size)
    (hzz : ∀ h a, (enc h a).length = size) (h1 : ∀ h a, ∀ u ∈ enc h a, u.oneCell' = true)
    (hx : Evs n e x (.slice A m cap)) (hm : m = xs.length) (hy : Evs n e y (.slice (some ⟨b, 0, none⟩) ys.length c)) (hi : L0[i]? = some (cN enc inn size A cap E hs xs)) (hb : limB bytes (xs.length + ys.length) = true) (hd : Nat.blt d n = true)
    (h : ∀ A' cap', KK n base w0 ((d, .slice A' (xs ++ ys).length cap') :: e) (cN enc inn size A' cap' E (hs ++ hs2) (xs ++ ys) :: L0.eraseIdx i) K) :
    WO P ops n base w0 e (cN enc inn size (some ⟨b, 0, none⟩) c E hs2 ys :: L0) ⟨some d, .call { callee := .builtin .append, args := #[x, y], argTypes := #[t, t] }, ty, pos, af, none⟩ K Q := by
  intro a w ha hw
  subst hm
  have hl2 := n_len (i := 0) hw rfl
  have hl := n_len (i := i + 1) hw (by simpa using hi)
  obtain ⟨hb1, hb2⟩ := limB_le hb
  have e1 : Ent (cN enc inn size (some ⟨b, 0, none⟩) c E hs2 ys :: L0) (cRow A cap E size xs.length (zipC enc hs xs) :: cRow (some ⟨b, 0, none⟩) c E size ys.length (zipC enc hs2 ys) :: (zipI inn hs xs ++ (zipI inn hs2 ys ++ L0.eraseIdx i))) := by
    refine .trans (.cons (.head hi)) (.trans .openN ?_)
    refine .trans (.cons (.app .openN)) (.perm ?_)
    have p1 : (zipI inn hs2 ys ++ (cRow A cap E size xs.length (zipC enc hs xs) :: (zipI inn hs xs ++ L0.eraseIdx i))).Perm (cRow A cap E size xs.length (zipC enc hs xs) :: (zipI inn hs xs ++ (zipI inn hs2 ys ++ L0.eraseIdx i))) := by
      refine List.perm_middle.trans (List.Perm.cons _ ?_)
      rw [← List.append_assoc, ← List.append_assoc]
      exact List.Perm.append_right _ List.perm_append_comm
    exact (List.Perm.cons _ p1).trans (List.Perm.swap ..)
  refine (WO.append (ops := ops) (Q := Q) (K := K) (i := 0) (news := zipC enc hs2 ys) hT hz hx hy rfl (lenN hzz hs2 ys hl2) (fun w hw j u hj => ?_) (fun u hu => ?_) hb1 hb2 hd (fun A' cap' => ?_)) a w ha (e1.at _ _ _ hw)
  · have := (hw.row_get (i := 1) rfl hj).2
    rw [add_none]
    simpa [elA] using this
  · obtain ⟨p, _, hp⟩ := List.mem_flatMap.1 hu
    exact h1 p.1 p.2 u hp
  · have hK := h A' cap'
    rw [List.length_append] at hK
    refine KK.ent ?_ hK
    rw [← zipC_app hl]
    refine .trans (.cons (.drop (M := [cRow (some ⟨b, 0, none⟩) c E size ys.length (zipC enc hs2 ys)]))) ?_
    have e3 : (zipI inn hs xs).append (zipI inn hs2 ys ++ L0.eraseIdx i) = zipI inn (hs ++ hs2) (xs ++ ys) ++ L0.eraseIdx i := by
      rw [zipI_app hl, List.append_assoc]; rfl
    rw [e3, ← List.length_append]
    exact .closeN (by simp [hl, hl2])
theorem swap3 {X Y Z : List Chunk} : (X ++ (Y ++ Z)).Perm (Y ++ (X ++ Z)) := by
  rw [← List.append_assoc, ← List.append_assoc]
  exact List.Perm.append_right _ List.perm_append_comm
/-- A store of one cell into an element: what lies behind it turns, too. -/
theorem WO.storeN {L' : List Chunk} {h' : η} {a' : α} (hc : P.cellsOf T = 1) (hx : Evs n e x (.pointer (some (elA A p)))) (hy : Evs n e y v) (hv : v.oneCell' = true) (hz : ∀ h a, (enc h a).length = sz) {j : Nat}
    (hi : L[i]? = some (cN enc inn sz A cap T' hs xs)) (ha : xs[idx.toNat]? = some a) (hp : p = idx.toNat * sz + j) (hj : j < sz) (hs' : (enc (hs.getD idx.toNat h0) a).set j v = enc h' a') (hM : Ent (inn (hs.getD idx.toNat h0) a ++ L.eraseIdx i) (inn h' a' ++ L'))
    (h : KK n base w0 e (cN enc inn sz A cap T' (hs.set idx.toNat h') (xs.set idx.toNat a') :: L') K) :
    WO P ops n base w0 e L ⟨none, .store T x y, t, pos, af, none⟩ K Q := by
  subst hp
  intro ac w hac hw
  have hl := n_len hw hi
  have hk := (List.getElem?_eq_some_iff.1 ha).1
  have hle : (idx.toNat + 1) * sz ≤ xs.length * sz := Nat.mul_le_mul_right _ hk
  rw [Nat.add_mul] at hle
  have hw1 := (Ent.trans (.head hi) .openN).at _ _ _ hw
  refine (WO.storeR (ops := ops) (Q := Q) (K := K) (i := 0) hc hx hy hv rfl (by rw [lenN hz _ _ hl]; omega) ?_) ac w hac hw1
  rw [zipC_set (h0 := h0) hz hl ha hj hs']
  refine KK.ent ?_ h
  have e2 : (cRow A cap T' sz xs.length (zipC enc (hs.set idx.toNat h') (xs.set idx.toNat a'))) = cRow A cap T' sz (xs.set idx.toNat a').length (zipC enc (hs.set idx.toNat h') (xs.set idx.toNat a')) := by rw [List.length_set]
  show Ent (cRow A cap T' sz xs.length (zipC enc (hs.set idx.toNat h') (xs.set idx.toNat a')) :: (zipI inn hs xs ++ L.eraseIdx i)) _
  rw [e2]
  refine .trans (.cons ?_) (.closeN (by simp [hl]))
  exact .trans (.takeI (h0 := h0) hl ha) (.trans (.perm swap3) (.trans (.app hM) (.trans (.perm swap3) (.putI hl hk h' a'))))
/-- The same, of a cell that tells nothing of what lies behind. -/
theorem WO.storeN0 {a' : α} (hc : P.cellsOf T = 1) (hx : Evs n e x (.pointer (some (elA A p)))) (hy : Evs n e y v) (hv : v.oneCell' = true) (hz : ∀ h a, (enc h a).length = sz) {j : Nat}
    (hi : L[i]? = some (cN enc inn sz A cap T' hs xs)) (ha : xs[idx.toNat]? = some a) (hp : p = idx.toNat * sz + j) (hj : j < sz) (hs' : (enc (hs.getD idx.toNat h0) a).set j v = enc (hs.getD idx.toNat h0) a') (hM : inn (hs.getD idx.toNat h0) a = inn (hs.getD idx.toNat h0) a')
    (h : KK n base w0 e (cN enc inn sz A cap T' hs (xs.set idx.toNat a') :: L.eraseIdx i) K) :
    WO P ops n base w0 e L ⟨none, .store T x y, t, pos, af, none⟩ K Q := by
  intro ac w hac hw
  have hl := n_len hw hi
  have hk := (List.getElem?_eq_some_iff.1 ha).1
  refine (WO.storeN (ops := ops) (Q := Q) (K := K) (h0 := h0) (h' := hs.getD idx.toNat h0) hc hx hy hv hz hi ha hp hj hs' (by rw [hM]; exact .refl) ?_) ac w hac hw
  have e1 : hs.set idx.toNat (hs.getD idx.toNat h0) = hs := by
    apply List.ext_getElem (by simp)
    intro q h1 h2
    rw [List.getElem_set]
    split
    · rename_i hq
      subst hq
      simp [List.getD_eq_getElem?_getD, List.getElem?_eq_getElem h2]
    · rfl
  rw [e1]; exact h
/-- The same where the element has nothing behind it just now. -/
theorem WO.storeH {L' : List Chunk} {h' : η} {a' : α} (hc : P.cellsOf T = 1) (hx : Evs n e x (.pointer (some (elA A p)))) (hy : Evs n e y v) (hv : v.oneCell' = true) (hz : ∀ h a, (enc h a).length = sz) {j : Nat}
    (hi : L[i]? = some (cH inn sz A cap T' enc hs xs idx.toNat)) (ha : xs[idx.toNat]? = some a) (hp : p = idx.toNat * sz + j) (hj : j < sz) (hs' : (enc (hs.getD idx.toNat h0) a).set j v = enc h' a') (hM : Ent (L.eraseIdx i) (inn h' a' ++ L'))
    (h : KK n base w0 e (cN enc inn sz A cap T' (hs.set idx.toNat h') (xs.set idx.toNat a') :: L') K) :
    WO P ops n base w0 e L ⟨none, .store T x y, t, pos, af, none⟩ K Q := by
  subst hp
  intro ac w hac hw
  have hl : hs.length = xs.length := hw.sat _ (List.mem_of_getElem? hi) (cF (hs.length = xs.length)) (by simp)
  have hk := (List.getElem?_eq_some_iff.1 ha).1
  have hle : (idx.toNat + 1) * sz ≤ xs.length * sz := Nat.mul_le_mul_right _ hk
  rw [Nat.add_mul] at hle
  have e1 : Ent L (cRow A cap T' sz xs.length (zipC enc hs xs) :: (zipE inn hs xs idx.toNat ++ L.eraseIdx i)) :=
    .trans (.head hi) (.trans .openB (.cons (.drop (M := [cF (hs.length = xs.length)]))))
  have hw1 := e1.at _ _ _ hw
  refine (WO.storeR (ops := ops) (Q := Q) (K := K) (i := 0) hc hx hy hv rfl (by rw [lenN hz _ _ hl]; omega) ?_) ac w hac hw1
  rw [zipC_set (h0 := h0) hz hl ha hj hs']
  refine KK.ent ?_ h
  have e2 : (cRow A cap T' sz xs.length (zipC enc (hs.set idx.toNat h') (xs.set idx.toNat a'))) = cRow A cap T' sz (xs.set idx.toNat a').length (zipC enc (hs.set idx.toNat h') (xs.set idx.toNat a')) := by rw [List.length_set]
  show Ent (cRow A cap T' sz xs.length (zipC enc (hs.set idx.toNat h') (xs.set idx.toNat a')) :: (zipE inn hs xs idx.toNat ++ L.eraseIdx i)) _
  rw [e2]
  refine .trans (.cons ?_) (.closeN (by simp [hl]))
  exact .trans (.app hM) (.trans (.perm swap3) (.putI hl hk h' a'))
end
end
/-! Slices of slices. -/
abbrev Hd := Option Addr × Nat
def encSl {α : Type} (h : Hd) (x : List α) : List Value := [.slice h.1 x.length h.2]
def innSl {α : Type} (enc : α → List Value) (sz E : Nat) (h : Hd) (x : List α) : List Chunk := [cR enc sz h.1 h.2 E x]
theorem lenSl {α : Type} (h : Hd) (x : List α) : (encSl h x).length = 1 := rfl
theorem oneSl {α : Type} (h : Hd) (x : List α) : ∀ u ∈ encSl h x, u.oneCell' = true := fun u hu => by obtain rfl := List.mem_singleton.1 hu; rfl
section
def eqA (n : Nat) (xs ys : List Int) : Bool := (List.range n).all fun i => decide (xs.getD i 0 = ys.getD i 0)
/-- A struct of a number, and an array of numbers. -/
structure EqIA (P : Program) (T n : Nat) (k1 k2 : IntKind) : Prop where
  is : ∃ t1 t2 e k3, P.underlying T = some (.struct (P.fieldsOf T)) ∧ P.stoodInHeld T = false ∧ P.eqGuardType P.depth T = false ∧ (P.fieldsOf T).toList.map (fun f => (f.name == "_", f.offset, f.type)) = [(false, 0, t1), (false, 1, t2)] ∧ P.underlying t1 = some (.int k1) ∧ P.underlying t2 = some (.array n e) ∧ P.underlying e = some (.int k3) ∧ P.cellsOf e = 0 + 1 ∧ P.cellsOf t2 = n ∧ 0 < n
end
end Go.Proofs.YtjdkkabcenohcaaGreatDoor
