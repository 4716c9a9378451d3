/- Nodes that point to one another: each in a block of its own, known by numbers. It speaks of every program. -/
import Derived.Test.YtkmmagekepoapaaBor
import Derived.LaidEqlPtr
set_option linter.unusedVariables false
set_option linter.unusedSimpArgs false
set_option linter.unusedSectionVars false
namespace Go.Proofs.Ytkmmagekepoapaa
open Go.RowKit
variable {P : Program} {n : Nat} {base : Nat} {w0 w : World} {L : List Chunk} {e : Env}
variable {ops rest : List Oper} {Q : Exit → Act → World → Prop} {d : Nat} {D : Option Tmp} {op : Op} {t : TypeId} {pos : String} {af : Array Edge} {G : Option (Nat × Bool)} {v u : Value} {x y z : Operand} {K : Act → World → Prop}
/-- The pointer to node k; nil where k is below 0. -/
def pt (bs : List Nat) : Int → Option Addr
  | .ofNat k => some ⟨bs.getD k 0, 0, none⟩
  | .negSucc _ => none
theorem pt_some {bs : List Nat} {p : Int} (h : 0 ≤ p) : pt bs p = some ⟨bs.getD p.toNat 0, 0, none⟩ := by
  cases p with
  | ofNat k => rfl
  | negSucc k => omega
theorem pt_none {bs : List Nat} {p : Int} (h : p < 0) : pt bs p = none := by
  cases p with
  | ofNat k => exact absurd h (by simp)
  | negSucc k => rfl
/-- Such a pointer is none, or of one of n nodes. -/
def vp (n : Nat) (p : Int) : Bool := decide (-1 ≤ p) && decide (p < n)
theorem vp_iff {n : Nat} {p : Int} : vp n p = true ↔ -1 ≤ p ∧ p < n := by simp [vp]
theorem vp_all {α : Type} {f : α → Bool} {xs : List α} (h : xs.all f = true) : ∀ x ∈ xs, f x = true := fun x hx => List.all_eq_true.1 h x hx
theorem pt_grow {bs : List Nat} {m : Nat} {p : Int} (hl : bs.length = m) (h : vp m p = true) (b : Nat) : pt (bs ++ [b]) p = pt bs p := by
  obtain ⟨h1, h2⟩ := vp_iff.1 h
  by_cases g : p < 0
  · rw [pt_none g, pt_none g]
  · rw [pt_some (Int.not_lt.1 g), pt_some (Int.not_lt.1 g)]
    have : (bs ++ [b]).getD p.toNat 0 = bs.getD p.toNat 0 := by
      rw [List.getD_eq_getElem?_getD, List.getD_eq_getElem?_getD, List.getElem?_append_left (by omega)]
    rw [this]
theorem pt_last {bs : List Nat} {m : Nat} (hl : bs.length = m) (b : Nat) : pt (bs ++ [b]) ((m : Nat) : Int) = some ⟨b, 0, none⟩ := by
  subst hl
  rw [pt_some (by omega)]
  simp
def cHp {α : Type} (enc : α → List Value) (T : TypeId) (bs : List Nat) (xs : List α) : Chunk :=
  bundle (cF (bs.length = xs.length) :: (List.zip bs xs).map fun p => cBx p.1 T (enc p.2))
section
variable {α : Type} {enc : α → List Value} {T' : TypeId} {bs : List Nat} {xs : List α} {a : α} {p q : Int} {i : Nat}
theorem hpz_owns : ∀ {bs : List Nat} {xs : List α}, bs.length = xs.length → owns ((List.zip bs xs).map fun p => cBx p.1 T' (enc p.2)) = bs
  | [], [], _ => rfl
  | b :: bs, x :: xs, h => by
    have ih := hpz_owns (bs := bs) (xs := xs) (by simpa using h)
    simp only [List.zip_cons_cons, List.map_cons, owns_cons, ih]
    rfl
  | [], _ :: _, h => by simp at h
  | _ :: _, [], h => by simp at h
theorem hp_facts (h : St base w0 L w) (hi : L[i]? = some (cHp enc T' bs xs)) : bs.length = xs.length ∧ bs.Nodup := by
  have hm := List.mem_of_getElem? hi
  have hs := h.sat _ hm
  have hl : bs.length = xs.length := hs (cF _) (by simp)
  refine ⟨hl, ?_⟩
  have h1 : owns [cHp enc T' bs xs] = bs := by
    have : owns [cHp enc T' bs xs] = owns (cF (bs.length = xs.length) :: (List.zip bs xs).map fun p => cBx p.1 T' (enc p.2)) := by simp [owns, cHp, bundle]
    rw [this, owns_cons, hpz_owns hl]; rfl
  rw [← h1]
  obtain ⟨X, Y, rfl⟩ := List.append_of_mem hm
  have := h.nodup
  rw [owns_app, owns_cons] at this
  have h2 := (List.nodup_append.1 (List.nodup_append.1 this).2.1).1
  simpa [owns] using h2
theorem hp_box (h : St base w0 L w) (hi : L[i]? = some (cHp enc T' bs xs)) {k : Nat} (ha : xs[k]? = some a) : w.heap[bs.getD k 0]? = some (.cells (enc a).toArray T' (0, 0)) := by
  have hs := h.sat _ (List.mem_of_getElem? hi)
  have hl : bs.length = xs.length := hs (cF _) (by simp)
  obtain ⟨hk, rfl⟩ := List.getElem?_eq_some_iff.1 ha
  have hc : cBx (bs.getD k 0) T' (enc xs[k]) ∈ (List.zip bs xs).map fun p => cBx p.1 T' (enc p.2) := by
    refine List.mem_map.2 ⟨(bs[k]'(by omega), xs[k]), ?_, by rw [getD_of (show k < bs.length by omega)]⟩
    rw [List.mem_iff_getElem]
    exact ⟨k, by simp; omega, by simp⟩
  exact hs _ (List.mem_cons_of_mem _ hc)
theorem Y.nilCheckP (h : 0 ≤ p) (hx : Evs n e x (.pointer (pt bs p))) : Yd P n base w0 e L ⟨D, .nilCheck x, t, pos, af, G⟩ (.pointer (some ⟨bs.getD p.toNat 0, 0, none⟩)) := by
  rw [pt_some h] at hx
  exact Y.nilCheck hx
theorem Y.loadH {T off : Nat} {dT : TypeDesc} (hT : P.underlying T = some dT) (hd : plainT dT = true) (hx : Evs n e x (.pointer (some ⟨bs.getD p.toNat 0, off, none⟩))) (hi : L[i]? = some (cHp enc T' bs xs)) (ha : xs[p.toNat]? = some a) (hv : (enc a)[off]? = some v) :
    Yd P n base w0 e L ⟨D, .load T x, t, pos, af, G⟩ v :=
  Y.load hT hd hx fun w hw => cell_of_obj (hp_box hw hi ha) (by simpa using hv)
theorem hpz_split : ∀ {bs : List Nat} {xs : List α} {k : Nat}, bs.length = xs.length → k < xs.length → ((List.zip bs xs).map fun p => cBx p.1 T' (enc p.2))[k]? = some (cBx (bs.getD k 0) T' (enc (xs.getD k a)))
  | b :: bs, x :: xs, 0, _, _ => rfl
  | b :: bs, x :: xs, k + 1, h, hk => by
    have := hpz_split (bs := bs) (xs := xs) (k := k) (by simpa using h) (by simpa using hk)
    simpa using this
  | [], _ :: _, _, h, _ => by simp at h
  | _, [], _, _, h => by simp at h
theorem hpz_set : ∀ {bs : List Nat} {xs : List α} {k : Nat} (a : α), bs.length = xs.length → k < xs.length → ((List.zip bs xs).map fun p => cBx p.1 T' (enc p.2)).set k (cBx (bs.getD k 0) T' (enc a)) = (List.zip bs (xs.set k a)).map fun p => cBx p.1 T' (enc p.2)
  | b :: bs, x :: xs, 0, a, _, _ => rfl
  | b :: bs, x :: xs, k + 1, a, h, hk => by
    have := hpz_set (bs := bs) (xs := xs) (k := k) a (by simpa using h) (by simpa using hk)
    simp only [List.zip_cons_cons, List.map_cons, List.set_cons_succ, List.getD_cons_succ, this]
  | [], _ :: _, _, _, h, _ => by simp at h
  | _, [], _, _, _, h => by simp at h
theorem set_ent {c0 : Chunk} (hi : L[i]? = some c0) (c : Chunk) : Ent (c :: L.eraseIdx i) (L.set i c) := by
  have h1 : (L.set i c)[i]? = some c := by
    have := (List.getElem?_eq_some_iff.1 hi).1
    simp [this]
  have h2 := perm_erase h1
  have h3 : (L.set i c).eraseIdx i = L.eraseIdx i := List.eraseIdx_set_eq
  rw [h3] at h2
  exact .perm h2.symm
theorem WO.storeP {T off : Nat} {a' : α} (hc : P.cellsOf T = 1) (hx : Evs n e x (.pointer (some ⟨bs.getD p.toNat 0, off, none⟩))) (hy : Evs n e y v) (hv : v.oneCell' = true)
    (hi : L[i]? = some (cHp enc T' bs xs)) (ha : xs[p.toNat]? = some a) (hk : off < (enc a).length) (hs : (enc a).set off v = enc a') (h : KK n base w0 e (L.set i (cHp enc T' bs (xs.set p.toNat a'))) K) :
    WO P ops n base w0 e L ⟨none, .store T x y, t, pos, af, none⟩ K Q := by
  intro ac w hac hw
  have hl := (hp_facts hw hi).1
  obtain ⟨hkx, rfl⟩ := List.getElem?_eq_some_iff.1 ha
  have hw1 := (Ent.trans (.head hi) .openB).at _ _ _ hw
  have hsp := hpz_split (T' := T') (enc := enc) (a := xs[p.toNat]) hl hkx
  rw [getD_of hkx] at hsp
  have hlz : p.toNat < ((List.zip bs xs).map fun p => cBx p.1 T' (enc p.2)).length := (List.getElem?_eq_some_iff.1 hsp).1
  refine (WO.storeB (ops := ops) (Q := Q) (K := K) (i := p.toNat + 1) hc hx hy hv (b := bs.getD p.toNat 0) (cs := enc xs[p.toNat]) (cs' := enc a') (E := T') ?_ hk hs ?_) ac w hac hw1
  · rw [List.cons_append, List.getElem?_cons_succ, List.getElem?_append_left hlz]; exact hsp
  · rw [List.cons_append, List.set_cons_succ, List.set_append_left _ _ hlz, hpz_set a' hl hkx]
    have hl2 : bs.length = (xs.set p.toNat a').length := by rw [List.length_set]; exact hl
    refine KK.ent (L' := L.set i (cHp enc T' bs (xs.set p.toNat a'))) ?_ h
    refine .trans (M := (cF (bs.length = (xs.set p.toNat a').length) :: (List.zip bs (xs.set p.toNat a')).map fun p => cBx p.1 T' (enc p.2)) ++ L.eraseIdx i) ?_ (.trans .closeB (set_ent hi _))
    exact .trans (.drop (M := [cF _])) (.fact hl2)
theorem run_eqPt {T E : TypeId} {j : TypeInfo} (hT : P.underlying T = some (.pointer E)) (hte : P.info? E = some j) (hsz : j.size ≠ 0) (h : St base w0 L w) (hi : L[i]? = some (cHp enc T' bs xs)) (hp : vp xs.length p = true) (hq : vp xs.length q = true) (dp : Nat) :
    (Op.equalIn (dp + 1) T (.pointer (pt bs p)) (.pointer (pt bs q))).run P w = .ok (decide (p = q)) w := by
  obtain ⟨hl, hn⟩ := hp_facts h hi
  obtain ⟨p1, p2⟩ := vp_iff.1 hp
  obtain ⟨q1, q2⟩ := vp_iff.1 hq
  by_cases g : p < 0 <;> by_cases g2 : q < 0
  · rw [pt_none g, pt_none g2, decide_eq_true (show p = q by omega)]
    simp [Op.equalIn, run_underlying hT]
  · rw [pt_none g, pt_some (Int.not_lt.1 g2), decide_eq_false (show p ≠ q by omega)]
    simp [Op.equalIn, run_underlying hT]
  · rw [pt_some (Int.not_lt.1 g), pt_none g2, decide_eq_false (show p ≠ q by omega)]
    simp [Op.equalIn, run_underlying hT]
  · rw [pt_some (Int.not_lt.1 g), pt_some (Int.not_lt.1 g2)]
    by_cases e1 : p = q
    · subst e1
      simp [Op.equalIn, run_underlying hT, sizeOf, typeInfo, hte, hsz, run_sameAddr_same]
    · have b1 := hp_box h hi (List.getElem?_eq_getElem (show p.toNat < xs.length by omega))
      have b2 := hp_box h hi (List.getElem?_eq_getElem (show q.toNat < xs.length by omega))
      have hne : (⟨bs.getD p.toNat 0, 0, none⟩ : Addr) ≠ ⟨bs.getD q.toNat 0, 0, none⟩ := by
        intro e2
        have e2 := congrArg Addr.block e2
        simp only at e2
        rw [getD_of (show p.toNat < bs.length by omega), getD_of (show q.toNat < bs.length by omega)] at e2
        have := (List.getElem_inj hn).1 e2
        omega
      rw [decide_eq_false e1]
      generalize bs.getD p.toNat 0 = A at b1 hne ⊢
      generalize bs.getD q.toNat 0 = B at b2 hne ⊢
      simp [Op.equalIn, run_underlying hT, sizeOf, typeInfo, hte, hsz, run_sameAddr_other w hne b1 b2]
theorem Y.eqlP {T E : TypeId} {sz : Nat} {z : Value} {ty : TypeId} (hT : P.underlying T = some (.pointer E)) (hte : ∃ j, P.info? E = some j ∧ j.zero = some z ∧ j.size = sz) (hsz : sz ≠ 0) (hx : Evs n e x (.pointer (pt bs p))) (hy : Evs n e y (.pointer (pt bs q))) (hp : vp xs.length p = true) (hq : vp xs.length q = true) (hi : L[i]? = some (cHp enc T' bs xs)) : Yd P n base w0 e L ⟨D, .binOp .eql T x y ty, t, pos, af, G⟩ (.bool (decide (p = q))) := by
  intro a w ha hw
  obtain ⟨j, hj, _, hj2⟩ := hte
  have := run_eqPt hT hj (by rw [hj2]; exact hsz) hw hi hp hq 9999
  simp [execOp, hx a ha, hy a ha, eqGuard, binOp, Op.equal, Op.maxDepth, this]
theorem Y.neqP {T E : TypeId} {sz : Nat} {z : Value} {ty : TypeId} (hT : P.underlying T = some (.pointer E)) (hte : ∃ j, P.info? E = some j ∧ j.zero = some z ∧ j.size = sz) (hsz : sz ≠ 0) (hx : Evs n e x (.pointer (pt bs p))) (hy : Evs n e y (.pointer (pt bs q))) (hp : vp xs.length p = true) (hq : vp xs.length q = true) (hi : L[i]? = some (cHp enc T' bs xs)) : Yd P n base w0 e L ⟨D, .binOp .neq T x y ty, t, pos, af, G⟩ (.bool (!(decide (p = q)))) := by
  intro a w ha hw
  obtain ⟨j, hj, _, hj2⟩ := hte
  have := run_eqPt hT hj (by rw [hj2]; exact hsz) hw hi hp hq 9999
  simp [execOp, hx a ha, hy a ha, eqGuard, binOp, Op.equal, Op.maxDepth, this]
theorem pt_isNone {bs : List Nat} {p : Int} : (pt bs p).isNone = decide (p < 0) := by
  by_cases g : p < 0
  · rw [pt_none g, decide_eq_true g]; rfl
  · rw [pt_some (Int.not_lt.1 g), decide_eq_false (by omega)]; rfl
theorem run_eqNilPt {T E : TypeId} (hT : P.underlying T = some (.pointer E)) (o : Option Addr) (w : World) (dp : Nat) : (Op.equalIn (dp + 1) T (.pointer o) (.pointer none)).run P w = .ok o.isNone w := by
  cases o <;> simp [Op.equalIn, run_underlying hT]
theorem Y.eqlPN {T E : TypeId} {ty : TypeId} (hT : P.underlying T = some (.pointer E)) (hx : Evs n e x (.pointer (pt bs p))) : Yd P n base w0 e L ⟨D, .binOp .eql T x (.const (.pointer none)) ty, t, pos, af, G⟩ (.bool (decide (p < 0))) := by
  intro a w ha _
  have := run_eqNilPt (P := P) hT (pt bs p) w 9999
  rw [pt_isNone] at this
  simp [execOp, hx a ha, ev_const, eqGuard, binOp, Op.equal, Op.maxDepth, this]
theorem Y.neqPN {T E : TypeId} {ty : TypeId} (hT : P.underlying T = some (.pointer E)) (hx : Evs n e x (.pointer (pt bs p))) : Yd P n base w0 e L ⟨D, .binOp .neq T x (.const (.pointer none)) ty, t, pos, af, G⟩ (.bool (!(decide (p < 0)))) := by
  intro a w ha _
  have := run_eqNilPt (P := P) hT (pt bs p) w 9999
  rw [pt_isNone] at this
  simp [execOp, hx a ha, ev_const, eqGuard, binOp, Op.equal, Op.maxDepth, this]
/-- The first node. -/
theorem Ent.heap1 {b : Nat} {cs : List Value} {R R' : List Chunk} (hcs : cs = enc a) (hR : R = R') : Ent (cBx b T' cs :: R) (cHp enc T' [b] [a] :: R') := by
  subst hcs; subst hR
  exact .trans (.fact (p := ([b] : List Nat).length = [a].length) rfl) (.closeB (M := [cF _, cBx b T' (enc a)]))
theorem hpz_last : ∀ {bs : List Nat} {xs : List α} {enc' : α → List Value} (b : Nat) (a : α), bs.length = xs.length → (∀ x ∈ xs, enc x = enc' x) → ((List.zip bs xs).map fun p => cBx p.1 T' (enc p.2)) ++ [cBx b T' (enc' a)] = (List.zip (bs ++ [b]) (xs ++ [a])).map fun p => cBx p.1 T' (enc' p.2)
  | [], [], _, _, _, _, _ => rfl
  | b' :: bs, x :: xs, enc', b, a, h, hx => by
    have ih := hpz_last (enc' := enc') (bs := bs) (xs := xs) b a (by simpa using h) fun x h => hx x (List.mem_cons_of_mem _ h)
    simp only [List.cons_append, List.zip_cons_cons, List.map_cons, ih, hx x (List.mem_cons_self ..)]
  | [], _ :: _, _, _, _, h, _ => by simp at h
  | _ :: _, [], _, _, _, h, _ => by simp at h
/-- One more node. -/
theorem Ent.heapAdd {enc' : α → List Value} {b : Nat} {cs : List Value} {R R' : List Chunk} (hl : bs.length = xs.length) (hx : ∀ x ∈ xs, enc x = enc' x) (hcs : cs = enc' a) (hR : R = R') : Ent (cBx b T' cs :: cHp enc T' bs xs :: R) (cHp enc' T' (bs ++ [b]) (xs ++ [a]) :: R') := by
  subst hcs; subst hR
  have h1 : Ent (cBx b T' (enc' a) :: cHp enc T' bs xs :: R) ((cF (bs.length = xs.length) :: (List.zip bs xs).map fun p => cBx p.1 T' (enc p.2)) ++ (cBx b T' (enc' a) :: R)) :=
    .trans (.perm (.swap ..)) .openB
  refine .trans h1 (.trans (M := (cF ((bs ++ [b]).length = (xs ++ [a]).length) :: (List.zip (bs ++ [b]) (xs ++ [a])).map fun p => cBx p.1 T' (enc' p.2)) ++ R) ?_ .closeB)
  rw [← hpz_last b a hl hx]
  refine .trans (.drop (M := [cF _])) ?_
  refine .trans (.fact (p := (bs ++ [b]).length = (xs ++ [a]).length) (by simp [hl])) ?_
  refine .perm ?_
  simp
end
theorem zipC_cong {η α : Type} {enc enc' : η → α → List Value} : ∀ {hs : List η} {xs : List α}, (∀ h, ∀ x ∈ xs, enc h x = enc' h x) → zipC enc hs xs = zipC enc' hs xs
  | [], _, _ => rfl
  | _ :: _, [], _ => rfl
  | h :: hs, x :: xs, H => by
    have ih := zipC_cong (hs := hs) (xs := xs) fun h x hx => H h x (List.mem_cons_of_mem _ hx)
    simp only [zipC, List.zip_cons_cons, List.flatMap_cons] at ih ⊢
    rw [ih, H h x (List.mem_cons_self ..)]
theorem cN_cong {η α : Type} {enc enc' : η → α → List Value} {inn : η → α → List Chunk} {sz cap E : Nat} {A : Option Addr} {hs : List η} {xs : List α} (H : ∀ h, ∀ x ∈ xs, enc h x = enc' h x) : cN enc inn sz A cap E hs xs = cN enc' inn sz A cap E hs xs := by
  unfold cN; rw [zipC_cong H]
theorem W.ent {c : Code} {L' : List Chunk} (h : Ent L L') (k : W P n base w0 e L' c Q) : W P n base w0 e L c Q := fun a w ha hw => k a w ha (h.at _ _ _ hw)
end Go.Proofs.Ytkmmagekepoapaa
