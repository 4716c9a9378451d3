/- SerialTwoPhase, plainly. -/
import Derived.Test.YtemckhkicfpgeaaQ5
set_option linter.unusedVariables false
set_option linter.unusedSimpArgs false
set_option linter.unusedSectionVars false
set_option maxRecDepth 100000
namespace Go.Proofs.Ytemckhkicfpgeaa
open Go.RowKit
namespace Rl
structure CR (c : Rel) (n : Nat) (q : Nat → Nat → Bool) : Prop where
  is : c.n = n
  le : n ≤ 12
  row : ∀ i, i < 12 → Row (c.after.getD i 0) (q i)
  inn : ∀ i j, q i j = true → i < n ∧ j < n
/-- The closed one. -/
abbrev cl (r : Rel) (n : Nat) : Nat → Nat → Bool := war (pOf r) n
theorem CR.of {r : Rel} {n : Nat} {A : List Int} (V : RelV r n) (h : Closed r n A) : CR ⟨n, A⟩ n (cl r n) := ⟨rfl, V.le, h, war_in V.inn n⟩
theorem cl_tr {r : Rel} {n : Nat} (V : RelV r n) {i m j : Nat} (h1 : cl r n i m = true) (h2 : cl r n m j = true) : cl r n i j = true := war_trans (war_in V.inn n i m h1).2 h1 h2
/-- What Close and the like tell. -/
theorem acyclic {N : Nat} {r : Rel} (hN : 300 < N) (hu : RelU r) :
    (∃ n A, RelV r n ∧ Closed r n A ∧ (∀ i, cl r n i i = false) ∧ order_Close N r = some ((n : Int), A, false, 0) ∧ order_acyclic N r = some ((n : Int), A, 0)) ∨
    (∃ n A, RelV r n ∧ Closed r n A ∧ (∃ i, i < n ∧ cl r n i i = true) ∧ order_Close N r = some ((n : Int), A, true, 0) ∧ order_acyclic N r = some (0, [], 4)) ∨
    (∃ e, e ≠ 0 ∧ (∀ n, ¬ RelV r n) ∧ order_Close N r = some (0, [], false, e) ∧ order_acyclic N r = some (0, [], e)) := by
  obtain ⟨⟨a, A, b, e⟩, hc, h⟩ := ordClose_wp (r := r) hN hu
  rcases h with ⟨n, V, h1, h2, h3, h4⟩ | ⟨h1, h2, h3, h4, h5⟩
  · simp only at h1 h2 h3 h4
    have hn := V.is
    subst h2
    rw [hn] at h1
    subst h1
    cases b with
    | true =>
      refine .inr (.inl ⟨n, A, V, h3, h4.1 rfl, hc, ?_⟩)
      unfold order_acyclic
      rw [bd_of hc]; rfl
    | false =>
      refine .inl ⟨n, A, V, h3, fun i => ?_, hc, ?_⟩
      · cases hw : cl r n i i with
        | false => rfl
        | true => exact absurd (h4.2 ⟨i, (war_in V.inn n i i hw).1, hw⟩) (by decide)
      · unfold order_acyclic
        rw [bd_of hc]; rfl
  · simp only at h2 h3 h4 h5
    subst h3; subst h4; subst h5
    refine .inr (.inr ⟨e, h2, h1, hc, ?_⟩)
    unfold order_acyclic
    rw [bd_of hc]
    exact cond_of (by simpa using h2)
theorem has_ok {N : Nat} {c : Rel} {n : Nat} {q : Nat → Nat → Bool} (C : CR c n q) {i j : Nat} (hi : i < 12) (hj : j < 64) : order_has N c (i : Int) (j : Int) = some (q i j) := by
  unfold order_has
  rw [bd_of (ax_nat' hi), wrapU64 (by omega) (by omega), (C.row i hi).test]
theorem before_wp {N : Nat} (hN : 300 < N) {c : Rel} {n : Nat} {q : Nat → Nat → Bool} (C : CR c n q) {j : Nat} (hj : j < 64) : Wp (order_before N c (j : Int)) fun x => Row x fun i => q i j := by
  have hn := C.is; have hle := C.le
  unfold order_before
  refine .seq (.iter n (fun k st => st.2 = (k : Int) ∧ Row st.1 fun i => decide (i < k) && q i j) (Q := fun x => Row x fun i => q i j) (by omega) ⟨rfl, Row.zero.cong fun i => by simp⟩ ?_ ?_) fun A _ hA => .one hA
  · rintro k ⟨x, v⟩ hk ⟨hv, hx⟩
    simp only at hv hx
    subst hv
    simp only [order_before_L3]
    refine .condT (decide_eq_true (by omega)) (.bdO (has_ok C (by omega) hj) (.cond (fun h => .ck64 (by omega) (.one ⟨by simp, ?_⟩)) fun h => .ck64 (by omega) (.one ⟨by simp, ?_⟩)))
    · refine (hx.set (j := k) (by omega)).cong fun i => ?_
      by_cases e : k = i
      · subst e; simp [h]
      · simp only [e, decide_false, Bool.or_false]
        congr 1
        exact decide_eq_decide.2 (by omega)
    · refine hx.cong fun i => ?_
      by_cases e : k = i
      · subst e; simp [h]
      · congr 1
        exact decide_eq_decide.2 (by omega)
  · rintro ⟨x, v⟩ ⟨hv, hx⟩
    simp only at hv hx
    subst hv
    simp only [order_before_L3]
    refine .condF (decide_eq_false (by omega)) (.one (hx.cong fun i => ?_))
    cases h : q i j with
    | false => simp
    | true => simp [(C.inn i j h).1]
theorem before_ok {N : Nat} (hN : 300 < N) {c : Rel} {n : Nat} {q : Nat → Nat → Bool} (C : CR c n q) {j : Nat} (hj : j < 64) : ∃ x, order_before N c (j : Int) = some x ∧ Row x fun i => q i j := before_wp hN C hj
/-! Sums -/
theorem pig {l m : List Nat} (h : l.Nodup) (hs : ∀ x ∈ l, x ∈ m) : l.length ≤ m.length := by
  induction l generalizing m with
  | nil => exact Nat.zero_le _
  | cons a l ih =>
    have ha := hs a (List.mem_cons_self ..)
    obtain ⟨h1, h2⟩ := List.nodup_cons.1 h
    have := ih (m := m.erase a) h2 fun x hx => (List.mem_erase_of_ne (fun e : x = a => h1 (e ▸ hx))).2 (hs x (List.mem_cons_of_mem _ hx))
    rw [List.length_erase_of_mem ha] at this
    have : 0 < m.length := List.length_pos_of_mem ha
    simp only [List.length_cons]; omega
theorem pig_lt {l : List Nat} {n : Nat} (h : l.Nodup) (hs : ∀ x ∈ l, x < n) : l.length ≤ n := by
  have := pig (m := List.range n) h fun x hx => List.mem_range.2 (hs x hx)
  simpa using this
theorem pig_all {l : List Nat} {n : Nat} (h : l.Nodup) (hs : ∀ x ∈ l, x < n) (hl : n ≤ l.length) {j : Nat} (hj : j < n) : j ∈ l := by
  apply Classical.byContradiction
  intro hn
  have := pig_lt (l := j :: l) (n := n) (List.nodup_cons.2 ⟨hn, h⟩) fun x hx => by
    rcases List.mem_cons.1 hx with rfl | hx
    · exact hj
    · exact hs x hx
  simp only [List.length_cons] at this; omega
theorem pig_ex {l : List Nat} {n : Nat} (hl : l.length < n) : ∃ j, j < n ∧ j ∉ l := by
  apply Classical.byContradiction
  intro hn
  have := pig (l := List.range n) (m := l) List.nodup_range fun x hx => by
    apply Classical.byContradiction
    intro h
    exact hn ⟨x, List.mem_range.1 hx, h⟩
  simp at this; omega
/-! Who is ahead of whom in a list that is told backwards. -/
def bef : List Nat → Nat → Nat → Bool
  | [], _, _ => false
  | i :: l, x, y => (decide (y = i) && decide (x ∈ l)) || bef l x y
theorem bef_mem {l : List Nat} {x y : Nat} (h : bef l x y = true) : x ∈ l ∧ y ∈ l := by
  induction l with
  | nil => cases h
  | cons i l ih =>
    simp only [bef, Bool.or_eq_true, Bool.and_eq_true, decide_eq_true_eq] at h
    rcases h with ⟨rfl, h⟩ | h
    · exact ⟨List.mem_cons_of_mem _ h, List.mem_cons_self ..⟩
    · exact ⟨List.mem_cons_of_mem _ (ih h).1, List.mem_cons_of_mem _ (ih h).2⟩
theorem bef_irr {l : List Nat} (hn : l.Nodup) (x : Nat) : bef l x x = false := by
  induction l with
  | nil => rfl
  | cons i l ih =>
    obtain ⟨h1, h2⟩ := List.nodup_cons.1 hn
    simp only [bef, ih h2, Bool.or_false, Bool.and_eq_false_imp, decide_eq_true_eq, decide_eq_false_iff_not]
    rintro rfl; exact h1
theorem bef_tr {l : List Nat} (hn : l.Nodup) {x y z : Nat} (h1 : bef l x y = true) (h2 : bef l y z = true) : bef l x z = true := by
  induction l with
  | nil => cases h1
  | cons i l ih =>
    obtain ⟨g1, g2⟩ := List.nodup_cons.1 hn
    simp only [bef, Bool.or_eq_true, Bool.and_eq_true, decide_eq_true_eq] at h1 h2 ⊢
    rcases h2 with ⟨rfl, h2⟩ | h2
    · rcases h1 with ⟨rfl, h1⟩ | h1
      · exact (g1 h2).elim
      · exact .inl ⟨rfl, (bef_mem h1).1⟩
    · rcases h1 with ⟨rfl, h1⟩ | h1
      · exact (g1 (bef_mem h2).1).elim
      · exact .inr (ih g2 h1 h2)
theorem bef_or {l : List Nat} {x y : Nat} (hx : x ∈ l) (hy : y ∈ l) (hxy : x ≠ y) : bef l x y = true ∨ bef l y x = true := by
  induction l with
  | nil => cases hx
  | cons i l ih =>
    simp only [bef, Bool.or_eq_true, Bool.and_eq_true, decide_eq_true_eq]
    rcases List.mem_cons.1 hx with rfl | hx <;> rcases List.mem_cons.1 hy with h | hy
    · exact (hxy h.symm).elim
    · exact .inr (.inl ⟨rfl, hy⟩)
    · exact .inl (.inl ⟨h, hx⟩)
    · rcases ih hx hy with h | h
      · exact .inl (.inr h)
      · exact .inr (.inr h)
theorem bef_not {l : List Nat} (hn : l.Nodup) {x y : Nat} (hx : x ∈ l) (hy : y ∈ l) (hxy : x ≠ y) : bef l y x = !bef l x y := by
  cases h : bef l x y with
  | true =>
    cases h2 : bef l y x with
    | false => rfl
    | true => have := bef_tr hn h h2; rw [bef_irr hn] at this; cases this
  | false =>
    rcases bef_or hx hy hxy with h2 | h2
    · rw [h] at h2; cases h2
    · rw [h2]; rfl
/-- An order that is told backwards. -/
def Ok (n : Nat) (q : Nat → Nat → Bool) : List Nat → Prop
  | [] => True
  | i :: l => Ok n q l ∧ i < n ∧ i ∉ l ∧ ∀ y, q y i = true → y ∈ l
theorem Ok.nodup {n : Nat} {q : Nat → Nat → Bool} : ∀ {l}, Ok n q l → l.Nodup
  | [], _ => List.nodup_nil
  | i :: l, h => List.nodup_cons.2 ⟨h.2.2.1, Ok.nodup h.1⟩
theorem Ok.lt {n : Nat} {q : Nat → Nat → Bool} : ∀ {l}, Ok n q l → ∀ x ∈ l, x < n
  | [], _, _, hx => (List.not_mem_nil hx).elim
  | i :: l, h, x, hx => by
    rcases List.mem_cons.1 hx with rfl | hx
    · exact h.2.1
    · exact Ok.lt h.1 x hx
theorem Ok_iff {n : Nat} {q : Nat → Nat → Bool} : ∀ {l : List Nat}, Ok n q l ↔ l.Nodup ∧ (∀ x ∈ l, x < n) ∧ ∀ x y, y ∈ l → q x y = true → bef l x y = true
  | [] => ⟨fun _ => ⟨List.nodup_nil, fun x h => (List.not_mem_nil h).elim, fun x y h => (List.not_mem_nil h).elim⟩, fun _ => trivial⟩
  | i :: l => by
    have ih := Ok_iff (n := n) (q := q) (l := l)
    constructor
    · intro h
      refine ⟨h.nodup, h.lt, fun x y hy hq => ?_⟩
      simp only [bef, Bool.or_eq_true, Bool.and_eq_true, decide_eq_true_eq]
      rcases List.mem_cons.1 hy with rfl | hy
      · exact .inl ⟨rfl, h.2.2.2 x hq⟩
      · exact .inr ((ih.1 h.1).2.2 x y hy hq)
    · rintro ⟨h1, h2, h3⟩
      obtain ⟨g1, g2⟩ := List.nodup_cons.1 h1
      refine ⟨ih.2 ⟨g2, fun x hx => h2 x (List.mem_cons_of_mem _ hx), fun x y hy hq => ?_⟩, h2 i (List.mem_cons_self ..), g1, fun y hq => ?_⟩
      · have := h3 x y (List.mem_cons_of_mem _ hy) hq
        simp only [bef, Bool.or_eq_true, Bool.and_eq_true, decide_eq_true_eq] at this
        rcases this with ⟨rfl, _⟩ | h
        · exact (g1 hy).elim
        · exact h
      · have := h3 y i (List.mem_cons_self ..) hq
        simp only [bef, Bool.or_eq_true, Bool.and_eq_true, decide_eq_true_eq] at this
        rcases this with ⟨_, h⟩ | h
        · exact h
        · exact (g1 (bef_mem h).2).elim
def Lin (n : Nat) (q : Nat → Nat → Bool) (l : List Nat) : Prop := l.Nodup ∧ (∀ j, j ∈ l ↔ j < n) ∧ ∀ x y, q x y = true → bef l x y = true
end Rl
theorem Row.test0 {x : Int} {p : Nat → Bool} (h : Row x p) (j : Nat) : decide (bandI .u16 (shrI .u16 x (j : Int)) 1 = 0) = !p j := by
  obtain ⟨a, rfl, h2, ha⟩ := h
  rw [shr16 h2, show (1 : Int) = ((1 : Nat) : Int) from rfl, band16 (Nat.lt_of_le_of_lt (by rw [Nat.shiftRight_eq_div_pow]; exact Nat.div_le_self _ _) h2) (by decide), ← ha]
  rw [Nat.testBit]
  simp only [Nat.and_comm 1]
  have hx : (a >>> j) &&& 1 = (a >>> j) % 2 := Nat.and_one_is_mod _
  rw [hx]
  rcases Nat.mod_two_eq_zero_or_one (a >>> j) with h | h <;> rw [h] <;> rfl
namespace Rl
theorem leastBy (P : Nat → Prop) (f : Nat → Nat) : ∀ m, (∃ i, P i ∧ f i ≤ m) → ∃ i, P i ∧ ∀ j, P j → f i ≤ f j
  | 0, ⟨i, h1, h2⟩ => ⟨i, h1, fun j _ => by omega⟩
  | m + 1, ⟨i, h1, h2⟩ => by
    by_cases h : ∃ j, P j ∧ f j ≤ m
    · exact leastBy P f m h
    · exact ⟨i, h1, fun j hj => by
        have : ¬ f j ≤ m := fun h' => h ⟨j, hj, h'⟩
        omega⟩
/-- How many stand ahead. -/
def cnt (n : Nat) (q : Nat → Nat → Bool) (i : Nat) : Nat := ((List.range n).filter fun y => q y i).length
structure Acy (n : Nat) (q : Nat → Nat → Bool) : Prop where
  inn : ∀ i j, q i j = true → i < n ∧ j < n
  tr : ∀ {i m j}, q i m = true → q m j = true → q i j = true
  irr : ∀ i, q i i = false
theorem cnt_lt {n : Nat} {q : Nat → Nat → Bool} (H : Acy n q) {y i : Nat} (h : q y i = true) : cnt n q y < cnt n q i := by
  unfold cnt
  have := pig (l := y :: (List.range n).filter fun z => q z y) (m := (List.range n).filter fun z => q z i) ?_ fun x hx => ?_
  · simp only [List.length_cons] at this; omega
  · refine List.nodup_cons.2 ⟨fun hm => ?_, List.nodup_range.filter _⟩
    have := (List.mem_filter.1 hm).2
    rw [H.irr] at this; cases this
  · rw [List.mem_filter, List.mem_range]
    rcases List.mem_cons.1 hx with rfl | hx
    · exact ⟨(H.inn _ _ h).1, h⟩
    · have := (List.mem_filter.1 hx).2
      exact ⟨(H.inn _ _ this).1, H.tr this h⟩
theorem cnt_le (n : Nat) (q : Nat → Nat → Bool) (i : Nat) : cnt n q i ≤ n := by
  unfold cnt
  have := List.length_filter_le (fun y => q y i) (List.range n)
  simpa using this
/-- Something can come next. -/
theorem next_ex {n : Nat} {q : Nat → Nat → Bool} (H : Acy n q) {l : List Nat} (hl : l.length < n) : ∃ i, i < n ∧ i ∉ l ∧ ∀ y, q y i = true → y ∈ l := by
  obtain ⟨j, hj, hjl⟩ := pig_ex hl
  obtain ⟨i, ⟨hi, hil⟩, hmin⟩ := leastBy (fun i => i < n ∧ i ∉ l) (cnt n q) _ ⟨j, ⟨hj, hjl⟩, Nat.le_refl _⟩
  refine ⟨i, hi, hil, fun y hy => ?_⟩
  apply Classical.byContradiction
  intro hyl
  have h1 := hmin y ⟨(H.inn _ _ hy).1, hyl⟩
  have h2 := cnt_lt H hy
  omega
theorem lin_ex {n : Nat} {q : Nat → Nat → Bool} (H : Acy n q) : ∀ k, k ≤ n → ∃ l, Ok n q l ∧ l.length = k
  | 0, _ => ⟨[], trivial, rfl⟩
  | k + 1, h => by
    obtain ⟨l, h1, h2⟩ := lin_ex H k (by omega)
    obtain ⟨i, g1, g2, g3⟩ := next_ex H (l := l) (by omega)
    exact ⟨i :: l, ⟨h1, g1, g2, g3⟩, by simp [h2]⟩
theorem ok_lin {n : Nat} {q : Nat → Nat → Bool} (H : Acy n q) {l : List Nat} (h : Ok n q l) (hl : l.length = n) : Lin n q l := by
  obtain ⟨h1, h2, h3⟩ := Ok_iff.1 h
  have hm : ∀ j, j ∈ l ↔ j < n := fun j => ⟨h2 j, pig_all h1 h2 (by omega)⟩
  exact ⟨h1, hm, fun x y hq => h3 x y ((hm y).2 (H.inn _ _ hq).2) hq⟩
theorem acy_of {r : Rel} {n : Nat} (V : RelV r n) (hno : ∀ i, cl r n i i = false) : Acy n (cl r n) := ⟨war_in V.inn n, fun h1 h2 => cl_tr V h1 h2, hno⟩
abbrev fwd (l : List Nat) : List Int := l.reverse.map fun (x : Nat) => (x : Int)
theorem least_in {N : Nat} (hN : 5000 < N) {n : Nat} {A : List Int} {q : Nat → Nat → Bool} (C : CR ⟨n, A⟩ n q) (H : Acy n q) {l : List Nat} (hl : Ok n q l) (hlen : l.length < n) {d : Int} (hd : Row d fun j => decide (j ∈ l)) :
    Wp (iter (order_Least_L15 N ((n : Int), A, 0) d (fwd l)) N 0) fun st => ∃ i, Ok n q (i :: l) ∧ st.1 = fwd (i :: l) ∧ Row st.2 fun j => decide (j ∈ i :: l) := by
  have hle := C.le
  obtain ⟨i0, g1, g2, g3⟩ := next_ex H hlen
  refine .iter n (fun k v => v = (k : Int) ∧ ∀ i, i < k → i ∉ l → ¬ ∀ y, q y i = true → y ∈ l) (by omega) ⟨rfl, fun i h => absurd h (Nat.not_lt_zero _)⟩ ?_ ?_
  · rintro k v hk ⟨rfl, hI⟩
    simp only [order_Least_L15]
    refine .condT (decide_eq_true (by omega)) ?_
    rw [wrapU64 (by omega) (by omega), hd.test0 k]
    obtain ⟨x, hx, hrow⟩ := before_ok (N := N) (by omega) C (j := k) (by omega)
    refine .gd x (fun _ => hx) fun b hb => ?_
    refine .cond (fun h => ?_) fun h => .ck64 (by omega) (.one ⟨by simp, fun i hi hil => ?_⟩)
    · simp only [Bool.and_eq_true, Bool.not_eq_true', decide_eq_false_iff_not, decide_eq_true_eq] at h
      obtain ⟨h1, h2⟩ := h
      rw [hb (by simp [h1])] at h2
      have h3 := (hrow.clr hd).empty.1 h2
      have hlen2 : (fwd l).length = l.length := by simp [fwd]
      have h4 : ∀ y, q y k = true → y ∈ l := fun y hy => by
        have := h3 y
        simpa [hy] using this
      refine .ck (limB_of (by simp only [List.length_append, hlen2, List.length_cons, List.length_nil]; unfold maxLen; omega)) (.one ⟨k, ⟨hl, hk, h1, h4⟩, by simp [fwd], ?_⟩)
      have h5 := hd.or (Row.one (j := k) (by omega))
      refine h5.cong fun j => ?_
      simp only [List.mem_cons]
      by_cases e : k = j
      · subst e; simp
      · have e' : ¬ j = k := fun h => e h.symm
        simp [e, e']
    · by_cases e : i = k
      · subst e
        intro hall
        have h1 : (!decide (i ∈ l)) = true := by simp [hil]
        rw [h1, hb (by rw [h1]; rfl), (hrow.clr hd).empty.2 fun y => ?_] at h
        · cases h
        · cases hy : q y i with
          | false => rfl
          | true => simp [hall y hy]
      · exact hI i (by omega) hil
  · rintro v ⟨rfl, hI⟩
    exact (hI i0 g1 g2 g3).elim
theorem least_wp {N : Nat} (hN : 5000 < N) {r : Rel} {n : Nat} {A : List Int} {q : Nat → Nat → Bool} (C : CR ⟨n, A⟩ n q) (H : Acy n q) (ha : order_acyclic N r = some ((n : Int), A, 0)) : ∃ l, order_Least N r = some (fwd l, 0) ∧ Lin n q l := by
  have hle := C.le
  have key : Wp (order_Least N r) fun x => x.2 = 0 ∧ ∃ l, x.1 = fwd l ∧ Lin n q l := by
    unfold order_Least
    refine .bdO ha (.condF rfl (.seq (P := fun o => ∃ l, o = fwd l ∧ Lin n q l) ?_ fun o _ ho => .one ⟨rfl, ho⟩))
    refine .iter n (fun k st => ∃ l, Ok n q l ∧ l.length = k ∧ st.1 = fwd l ∧ Row st.2 fun j => decide (j ∈ l)) (by omega) ⟨[], trivial, rfl, rfl, Row.zero.cong fun j => by simp⟩ ?_ ?_
    · rintro k ⟨o, d⟩ hk ⟨l, h1, h2, h3, h4⟩
      simp only at h3 h4
      subst h3
      simp only [order_Least_L14]
      refine .condT (decide_eq_true (by simp [fwd]; omega)) (.seq (least_in hN C H h1 (by omega) h4) fun st _ hst => .one ?_)
      obtain ⟨i, g1, g2, g3⟩ := hst
      exact ⟨i :: l, g1, by simp [h2], g2, g3⟩
    · rintro ⟨o, d⟩ ⟨l, h1, h2, h3, h4⟩
      simp only at h3 h4
      subst h3
      simp only [order_Least_L14]
      exact .condF (decide_eq_false (by simp [fwd]; omega)) (.one ⟨l, rfl, ok_lin H h1 h2⟩)
  obtain ⟨⟨o, e⟩, h1, h2, l, h3, h4⟩ := key
  simp only at h2 h3
  subst h2; subst h3
  exact ⟨l, h1, h4⟩
theorem least_err {N : Nat} {r : Rel} {e : Int} (he : e ≠ 0) (ha : order_acyclic N r = some (0, [], e)) : order_Least N r = some ([], e) := by
  unfold order_Least
  rw [bd_of ha]
  exact cond_of (by simpa using he)
end Rl

namespace Se
open Rl
/-- The lock of one on an item. -/
def tg (T : List (List Int)) (w x : Nat) : Int := (T.getD w []).getD x 0
theorem tg_set {T : List (List Int)} {w x : Nat} {v : Int} {i j : Nat} (hi : i < 6) (hj : j < 6) : tg (setA 6 [] T (w : Int) (setA 6 0 (T.getD w []) (x : Int) v)) i j = if i = w ∧ j = x then v else tg T i j := by
  unfold tg
  rw [setA_get hi]
  simp only [Int.toNat_natCast]
  by_cases h : i = w
  · subst h
    rw [if_pos rfl, setA_get hj]
    simp only [Int.toNat_natCast]
    by_cases h2 : j = x
    · simp [h2]
    · simp [h2]
  · simp [h]
theorem others_wp2 {N : Nat} (hN : 300 < N) {T : List (List Int)} {who item : Nat} (hi : item < 6) (hT : ∀ w, w < 6 → tg T w item ≤ 3) : Wp (serial_table_others N T (who : Int) (item : Int)) fun r => r ≤ 3 ∧ ∀ w, w < 6 → w ≠ who → tg T w item ≤ r := by
  unfold serial_table_others
  refine .seq (P := fun r => r ≤ 3 ∧ ∀ w, w < 6 → w ≠ who → tg T w item ≤ r) (.iter 6 (fun k st => st.2 = (k : Int) ∧ st.1 ≤ 3 ∧ ∀ w, w < k → w ≠ who → tg T w item ≤ st.1) (by omega) ⟨rfl, by decide, fun w h => absurd h (Nat.not_lt_zero _)⟩ ?_ ?_) fun r _ hr => .one hr
  · rintro k ⟨o, v⟩ hk ⟨hv, h3, hr⟩
    simp only at hv h3 hr
    subst hv
    simp only [serial_table_others_L3]
    refine .condT (decide_eq_true (by omega)) (.cond (fun hc => .axN (by omega) (.axN (by omega) (.ck64 (by omega) (.one ⟨by simp, ?_, fun w hw hne => ?_⟩)))) fun hc => .ck64 (by omega) (.one ⟨by simp, h3, fun w hw hne => ?_⟩))
    · have := hT k hk
      unfold tg at this
      simp only
      omega
    · simp only
      rcases Nat.lt_or_ge w k with h | h
      · have := hr w h hne
        omega
      · obtain rfl : w = k := by omega
        unfold tg
        omega
    · rcases Nat.lt_or_ge w k with h | h
      · exact hr w h hne
      · obtain rfl : w = k := by omega
        simp only [Bool.not_eq_false', decide_eq_true_eq] at hc
        omega
  · rintro ⟨o, v⟩ ⟨hv, h3, hr⟩
    simp only at hv h3 hr
    subst hv
    simp only [serial_table_others_L3]
    exact .condF (decide_eq_false (by omega)) (.one ⟨h3, hr⟩)
/-- A deed that the locks let be. -/
def Can (T : List (List Int)) (w x : Nat) (k : Int) : Prop :=
  (k = 0 → tg T w x ≠ 0) ∧ (k = 1 → tg T w x = 3) ∧ (k = 2 → tg T w x = 0 ∧ ∀ v, v < 6 → v ≠ w → tg T v x < 3) ∧ (k = 3 → ∀ v, v < 6 → v ≠ w → tg T v x ≤ 0)
theorem can_wp2 {N : Nat} (hN : 300 < N) {T : List (List Int)} {d : Deed} {w x : Nat} (hw : d.who = w) (hx : d.item = x) (h : OkD d) (hT : ∀ w, w < 6 → tg T w x ≤ 3) : Wp (serial_table_can N T d) fun r => r = true → Can T w x d.kind := by
  unfold OkD at h
  unfold serial_table_can
  rw [hw, hx]
  refine .axN (by omega) (.axN (by omega) (.seq (others_wp2 hN (by omega) hT) fun r _ hr => ?_))
  have e : (T.getD w []).getD x 0 = tg T w x := rfl
  rw [e]
  unfold Can
  have hk : d.kind = 0 ∨ d.kind = 1 ∨ d.kind = 2 ∨ d.kind = 3 ∨ d.kind = 4 := by omega
  rcases hk with h | h | h | h | h <;> rw [h]
  · refine ⟨_, rfl, fun hb => ⟨fun _ => ?_, fun h => by omega, fun h => by omega, fun h => by omega⟩⟩
    simpa using hb
  · refine ⟨_, rfl, fun hb => ⟨fun h => by omega, fun _ => ?_, fun h => by omega, fun h => by omega⟩⟩
    simpa using hb
  · refine ⟨_, rfl, fun hb => ⟨fun h => by omega, fun h => by omega, fun _ => ?_, fun h => by omega⟩⟩
    simp only [Bool.and_eq_true, decide_eq_true_eq, Bool.not_eq_true', decide_eq_false_iff_not] at hb
    refine ⟨hb.1, fun v hv hne => ?_⟩
    have := hr.2 v hv hne
    have := hr.1
    have := hb.2
    omega
  · refine ⟨_, rfl, fun hb => ⟨fun h => by omega, fun h => by omega, fun h => by omega, fun _ v hv hne => ?_⟩⟩
    have hb : ((!(decide (tg T w x = 3))) && (decide (r = 0))) = true := hb
    simp only [Bool.and_eq_true, decide_eq_true_eq] at hb
    have := hr.2 v hv hne
    omega
  · exact ⟨_, rfl, fun hb => ⟨fun h => by omega, fun h => by omega, fun h => by omega, fun h => by omega⟩⟩
/-- What a deed does to the locks. -/
def nxt (T : List (List Int)) (w x : Nat) (k : Int) (i j : Nat) : Int := if i = w ∧ j = x then (if k = 4 then 0 else if k = 2 ∨ k = 3 then max (tg T i j) k else tg T i j) else tg T i j
structure Does (l : List Deed) (k w x : Nat) (T : List (List Int)) (R : List Bool) (a b : Bool) (T' : List (List Int)) (R' : List Bool) (a' b' : Bool) : Prop where
  can : a' = true → a = true ∧ Can T w x (l.getD k Deed.z).kind
  ph : b' = true → b = true ∧ ((l.getD k Deed.z).kind = 2 ∨ (l.getD k Deed.z).kind = 3 → R.getD w false = false)
  tab : ∀ i j, i < 6 → j < 6 → tg T' i j = nxt T w x (l.getD k Deed.z).kind i j
  rel : ∀ i, i < 6 → R'.getD i false = (R.getD i false || (decide (i = w) && decide ((l.getD k Deed.z).kind = 4)))
theorem step2 {N : Nat} (hN : 300 < N) {l : List Deed} {k w x : Nat} (hk : k < l.length) (hl : l.length ≤ 60) (h : OkD (l.getD k Deed.z)) (hw : (l.getD k Deed.z).who = w) (hx : (l.getD k Deed.z).item = x) (T : List (List Int)) (R : List Bool) (a b : Bool) (hT : ∀ i j, i < 6 → j < 6 → tg T i j ≤ 3) :
    Wp (serial_Locks_L3 N l (T, R, a, b, (k : Int))) fun t => ∃ T' R' a' b', t = .inl (T', R', a', b', (k : Int) + 1) ∧ Does l k w x T R a b T' R' a' b' := by
  have h' := h
  unfold OkD at h'
  simp only [serial_Locks_L3]
  refine .condT (decide_eq_true (by omega)) (.ixD Deed.z (Int.natCast_nonneg k) (by omega) ?_)
  simp only [Int.toNat_natCast]
  refine .seq (P := fun r => r = true → a = true ∧ Can T w x (l.getD k Deed.z).kind) (.cond (fun ha => .seq (can_wp2 hN hw hx h (fun i hi => hT i x hi (by omega))) fun r _ hr => .one fun hb => ?_) fun _ => .one fun hb => by simp at hb) fun a' _ ha => ?_
  · have ha : a = true := by simpa using ha
    rw [Bool.and_eq_true] at hb
    exact ⟨ha, hr hb.2⟩
  refine .seq (P := fun v => v = decide ((l.getD k Deed.z).kind = 2 ∨ (l.getD k Deed.z).kind = 3)) (.cond (fun h => .one ?_) fun h => .one ?_) fun v _ hv => ?_
  · have h := of_decide_eq_true h
    exact decide_eq_decide.2 ⟨.inl, fun _ => h⟩
  · have h := of_decide_eq_false h
    exact decide_eq_decide.2 ⟨.inr, fun e => e.resolve_left h⟩
  subst hv
  rw [hw, hx]
  refine .cond (fun hc => ?_) fun hc => ?_
  · have hc := of_decide_eq_true hc
    refine .gd (R.getD w false) (fun _ => ax_nat' (by omega)) fun y hy => .axN (by omega) (.axN (by omega) (.axN (by omega) (.axN (by omega) (.ck64 (by omega) (.one ⟨_, _, _, _, rfl, ha, fun hb => ?_, fun i j hi hj => ?_, fun i hi => ?_⟩)))))
    · simp only [Bool.and_eq_true, Bool.not_eq_true'] at hb
      exact ⟨hb.1, fun _ => by rw [← hy (by simpa using hb.1)]; exact hb.2⟩
    · rw [tg_set hi hj]
      unfold nxt
      by_cases e : i = w ∧ j = x
      · obtain ⟨rfl, rfl⟩ := e
        rw [if_pos ⟨rfl, rfl⟩, if_pos ⟨rfl, rfl⟩, if_neg (by omega), if_pos hc]
        rfl
      · rw [if_neg e, if_neg e]
    · rw [decide_eq_false (show ¬ (l.getD k Deed.z).kind = 4 by omega)]
      simp
  · have hc := of_decide_eq_false hc
    refine .cond (fun h4 => ?_) fun h4 => .ck64 (by omega) (.one ⟨_, _, _, _, rfl, ha, fun hb => ⟨hb, fun e => (hc e).elim⟩, fun i j hi hj => ?_, fun i hi => ?_⟩)
    · have h4 := of_decide_eq_true h4
      refine .axN (by omega) (.axN (by omega) (.axN (by omega) (.ck64 (by omega) (.one ⟨_, _, _, _, rfl, ha, fun hb => ⟨hb, fun e => (hc e).elim⟩, fun i j hi hj => ?_, fun i hi => ?_⟩))))
      · rw [tg_set hi hj]
        unfold nxt
        by_cases e : i = w ∧ j = x
        · rw [if_pos e, if_pos e, if_pos h4]
        · rw [if_neg e, if_neg e]
      · rw [setA_get hi, decide_eq_true h4]
        simp only [Int.toNat_natCast]
        by_cases e : i = w
        · rw [if_pos e, decide_eq_true e]; simp
        · rw [if_neg e, decide_eq_false e]; simp
    · have h4 := of_decide_eq_false h4
      unfold nxt
      rw [if_neg h4, if_neg hc]
      simp
    · rw [h4]; simp
/-- A lock is none, shared, or one's own. -/
def Jv (T : List (List Int)) : Prop := ∀ i j, i < 6 → j < 6 → tg T i j = 0 ∨ (2 ≤ tg T i j ∧ tg T i j ≤ 3)
def Kv (T : List (List Int)) : Prop := ∀ i m j, i < 6 → m < 6 → j < 6 → i ≠ m → tg T i j = 3 → tg T m j = 0
abbrev LS := List (List Int) × List Bool × Bool × Bool
theorem Jv.next {T T' : List (List Int)} {w x : Nat} {k : Int} (hk : 0 ≤ k ∧ k ≤ 4) (J : Jv T) (h : ∀ i j, i < 6 → j < 6 → tg T' i j = nxt T w x k i j) : Jv T' := by
  intro i j hi hj
  rw [h i j hi hj]
  have := J i j hi hj
  unfold nxt
  split
  · split
    · omega
    · split <;> omega
  · exact this
theorem Kv.next {T T' : List (List Int)} {w x : Nat} {k : Int} (hw : w < 6) (J : Jv T) (K : Kv T) (C : Can T w x k) (h : ∀ i j, i < 6 → j < 6 → tg T' i j = nxt T w x k i j) : Kv T' := by
  intro i m j hi hm hj him h3
  rw [h i j hi hj] at h3
  rw [h m j hm hj]
  have K1 := K i m j hi hm hj him
  have J1 := J m j hm hj
  have J2 := J i j hi hj
  obtain ⟨c0, c1, c2, c3⟩ := C
  unfold nxt at h3 ⊢
  by_cases e1 : i = w ∧ j = x
  · obtain ⟨rfl, rfl⟩ := e1
    rw [if_pos ⟨rfl, rfl⟩] at h3
    rw [if_neg (fun e => him e.1.symm)]
    by_cases h4 : k = 4
    · rw [if_pos h4] at h3; omega
    · rw [if_neg h4] at h3
      by_cases h5 : k = 2 ∨ k = 3
      · rw [if_pos h5] at h3
        rcases h5 with h5 | h5
        · have := (c2 h5).1
          omega
        · have := c3 h5 m hm (fun e => him e.symm)
          omega
      · rw [if_neg h5] at h3
        exact K1 h3
  · rw [if_neg e1] at h3
    by_cases e2 : m = w ∧ j = x
    · obtain ⟨rfl, rfl⟩ := e2
      rw [if_pos ⟨rfl, rfl⟩]
      have := K1 h3
      by_cases h4 : k = 4
      · rw [if_pos h4]
      · rw [if_neg h4]
        by_cases h5 : k = 2 ∨ k = 3
        · rcases h5 with h5 | h5
          · have := (c2 h5).2 i hi him
            omega
          · have := c3 h5 i hi him
            omega
        · rw [if_neg h5]; exact this
    · rw [if_neg e2]; exact K1 h3
theorem crossing {f : Nat → Prop} {p : Nat} : ∀ {q : Nat}, p ≤ q → ¬ f p → f q → ∃ v, p ≤ v ∧ v < q ∧ ¬ f v ∧ f (v + 1)
  | 0, h, h1, h2 => by
    obtain rfl : p = 0 := by omega
    exact (h1 h2).elim
  | q + 1, h, h1, h2 => by
    by_cases hq : f q
    · rcases Nat.lt_or_ge q p with h3 | h3
      · obtain rfl : p = q + 1 := by omega
        exact (h1 h2).elim
      · obtain ⟨v, a, b, c, d⟩ := crossing h3 h1 hq
        exact ⟨v, a, by omega, c, d⟩
    · rcases Nat.lt_or_ge q p with h3 | h3
      · obtain rfl : p = q + 1 := by omega
        exact (h1 h2).elim
      · exact ⟨q, h3, by omega, hq, h2⟩
/-- All states, one behind the other. -/
structure Hist (l : List Deed) (n : Nat) (S : Nat → LS) : Prop where
  tab0 : ∀ i j, tg (S 0).1 i j = 0
  rel0 : ∀ i, (S 0).2.1.getD i false = false
  step : ∀ k, k < n → Does l k (l.getD k Deed.z).who.toNat (l.getD k Deed.z).item.toNat (S k).1 (S k).2.1 (S k).2.2.1 (S k).2.2.2 (S (k + 1)).1 (S (k + 1)).2.1 (S (k + 1)).2.2.1 (S (k + 1)).2.2.2
theorem hist {N : Nat} (hN : 300 < N) {l : List Deed} (D : Dd l) {n : Nat} {s : LS} (h : Lk N l n s) (hn : n ≤ l.length) : ∃ S : Nat → LS, S n = s ∧ Hist l n S ∧ ∀ k, k ≤ n → Jv (S k).1 := by
  induction h with
  | zero => exact ⟨fun _ => ([], [], true, true), rfl, ⟨fun i j => by simp [tg], fun i => by simp, fun k hk => absurd hk (Nat.not_lt_zero _)⟩, fun k _ i j _ _ => .inl (by simp [tg])⟩
  | @succ k T T' R R' a a' b b' h1 hk h2 ih =>
    obtain ⟨S, hS, H, J⟩ := ih (by omega)
    have hd := D.2 k hk
    have hd' := hd
    unfold OkD at hd'
    have Jk := J k (Nat.le_refl _)
    rw [hS] at Jk
    obtain ⟨t, e, T2, R2, a2, b2, rfl, hdo⟩ := step2 hN (w := (l.getD k Deed.z).who.toNat) (x := (l.getD k Deed.z).item.toNat) hk D.1 hd (by omega) (by omega) T R a b (fun i j hi hj => by have := Jk i j hi hj; simp only at this; omega)
    rw [h2] at e
    cases e
    refine ⟨fun m => if m = k + 1 then (T', R', a', b') else S m, if_pos rfl, ⟨fun i j => ?_, fun i => ?_, fun m hm => ?_⟩, fun m hm => ?_⟩
    · simp only [if_neg (show ¬ 0 = k + 1 by omega)]; exact H.tab0 i j
    · simp only [if_neg (show ¬ 0 = k + 1 by omega)]; exact H.rel0 i
    · rcases Nat.lt_or_ge m k with h3 | h3
      · simp only [if_neg (show ¬ m = k + 1 by omega), if_neg (show ¬ m + 1 = k + 1 by omega)]
        exact H.step m h3
      · obtain rfl : m = k := by omega
        simp only [if_neg (show ¬ m = m + 1 by omega), if_true, hS]
        exact hdo
    · simp only
      by_cases h3 : m = k + 1
      · rw [if_pos h3]
        exact Jk.next ⟨by omega, by omega⟩ hdo.tab
      · rw [if_neg h3]
        exact J m (by omega)
theorem Hist.back {l : List Deed} {n : Nat} {S : Nat → LS} (H : Hist l n S) : ∀ d k, k + d = n → ((S n).2.2.1 = true → (S k).2.2.1 = true) ∧ ((S n).2.2.2 = true → (S k).2.2.2 = true)
  | 0, k, h => by
    obtain rfl : k = n := by omega
    exact ⟨id, id⟩
  | d + 1, k, h => by
    have h1 := H.back d (k + 1) (by omega)
    have h2 := H.step k (by omega)
    exact ⟨fun h => (h2.can (h1.1 h)).1, fun h => (h2.ph (h1.2 h)).1⟩
theorem Hist.rel {l : List Deed} (D : Dd l) {n : Nat} (hn : n ≤ l.length) {S : Nat → LS} (H : Hist l n S) : ∀ k, k ≤ n → ∀ i, i < 6 → ((S k).2.1.getD i false = true ↔ ∃ j, j < k ∧ (l.getD j Deed.z).who = i ∧ (l.getD j Deed.z).kind = 4)
  | 0, _, i, hi => by
    rw [H.rel0]
    exact ⟨fun h => (by cases h), fun ⟨j, h, _⟩ => absurd h (Nat.not_lt_zero _)⟩
  | k + 1, hk, i, hi => by
    have hd := D.2 k (by omega)
    unfold OkD at hd
    rw [(H.step k (by omega)).rel i hi, Bool.or_eq_true, H.rel D hn k (by omega) i hi, Bool.and_eq_true, decide_eq_true_eq, decide_eq_true_eq]
    constructor
    · rintro (⟨j, h1, h2⟩ | ⟨h1, h2⟩)
      · exact ⟨j, by omega, h2⟩
      · exact ⟨k, by omega, by omega, h2⟩
    · rintro ⟨j, h1, h2, h3⟩
      by_cases e : j = k
      · subst e
        exact .inr ⟨by omega, h3⟩
      · exact .inl ⟨j, by omega, h2, h3⟩
theorem Hist.kv {l : List Deed} (D : Dd l) {n : Nat} (hn : n ≤ l.length) {S : Nat → LS} (H : Hist l n S) (J : ∀ k, k ≤ n → Jv (S k).1) (hleg : (S n).2.2.1 = true) : ∀ k, k ≤ n → Kv (S k).1
  | 0, _ => fun i m j _ _ _ _ h => by rw [H.tab0] at h; cases h
  | k + 1, hk => by
    have hd := D.2 k (by omega)
    unfold OkD at hd
    exact (H.kv D hn J hleg k (by omega)).next (by omega) (J k (by omega)) ((H.step k (by omega)).can ((H.back (n - (k + 1)) (k + 1) (by omega)).1 hleg)).2 (H.step k (by omega)).tab
/-- Who fights ahead of whom has freed something when the other one has not yet. -/
def Soon (l : List Deed) (i j : Nat) : Prop := ∃ u, u < l.length ∧ (l.getD u Deed.z).who = (i : Int) ∧ (l.getD u Deed.z).kind = 4 ∧ ∀ m, m ≤ u → ¬ ((l.getD m Deed.z).who = (j : Int) ∧ (l.getD m Deed.z).kind = 4)
theorem soon_tr {l : List Deed} {i m j : Nat} (h1 : Soon l i m) (h2 : Soon l m j) : Soon l i j := by
  obtain ⟨u, a1, a2, a3, a4⟩ := h1
  obtain ⟨v, b1, b2, b3, b4⟩ := h2
  have huv : u < v := by
    rcases Nat.lt_or_ge u v with h | h
    · exact h
    · exact (a4 v h ⟨b2, b3⟩).elim
  exact ⟨u, a1, a2, a3, fun m hm => b4 m (by omega)⟩
theorem soon_irr {l : List Deed} {i : Nat} (h : Soon l i i) : False := by
  obtain ⟨u, a1, a2, a3, a4⟩ := h
  exact a4 u (Nat.le_refl _) ⟨a2, a3⟩
theorem soon_of {l : List Deed} (D : Dd l) {S : Nat → LS} (H : Hist l l.length S) (J : ∀ k, k ≤ l.length → Jv (S k).1) (hleg : (S l.length).2.2.1 = true) (hph : (S l.length).2.2.2 = true) {p q i j : Nat} (hq : q < l.length) (h : cf l p q i j = true) : Soon l i j := by
  unfold cf at h
  simp only [Bool.and_eq_true, decide_eq_true_eq] at h
  obtain ⟨⟨⟨hpq, hc⟩, hi⟩, hj⟩ := h
  have K := H.kv D (Nat.le_refl _) J hleg
  have can : ∀ k, k < l.length → Can (S k).1 (l.getD k Deed.z).who.toNat (l.getD k Deed.z).item.toNat (l.getD k Deed.z).kind := fun k hk => ((H.step k hk).can ((H.back (l.length - (k + 1)) (k + 1) (by omega)).1 hleg)).2
  have ph : ∀ k, k < l.length → (l.getD k Deed.z).kind = 2 ∨ (l.getD k Deed.z).kind = 3 → (S k).2.1.getD (l.getD k Deed.z).who.toNat false = false := fun k hk => ((H.step k hk).ph ((H.back (l.length - (k + 1)) (k + 1) (by omega)).2 hph)).2
  have hcf : (l.getD p Deed.z).who ≠ (l.getD q Deed.z).who ∧ (l.getD p Deed.z).item = (l.getD q Deed.z).item ∧ (l.getD p Deed.z).kind ≤ 1 ∧ (l.getD q Deed.z).kind ≤ 1 ∧ ((l.getD p Deed.z).kind = 1 ∨ (l.getD q Deed.z).kind = 1) := by
    unfold conf at hc
    cases hb : ((((decide ((l.getD p Deed.z).who = (l.getD q Deed.z).who)) || (!(decide ((l.getD p Deed.z).item = (l.getD q Deed.z).item)))) || (decide (1 < (l.getD p Deed.z).kind))) || (decide (1 < (l.getD q Deed.z).kind))) with
    | true => rw [hb] at hc; cases hc
    | false =>
      rw [hb] at hc
      have hc : (decide ((l.getD p Deed.z).kind = 1) || decide ((l.getD q Deed.z).kind = 1)) = true := hc
      simp only [Bool.or_eq_true, decide_eq_true_eq] at hc
      simp only [Bool.or_eq_false_iff, decide_eq_false_iff_not, Bool.not_eq_false', decide_eq_true_eq] at hb
      exact ⟨hb.1.1.1, hb.1.1.2, by omega, by omega, hc⟩
  obtain ⟨h1, h2, h3, h4, h5⟩ := hcf
  have dp := D.2 p (by omega)
  have dq := D.2 q hq
  unfold OkD at dp dq
  have hi6 : i < 6 := by omega
  have hj6 : j < 6 := by omega
  have hij : i ≠ j := by omega
  obtain ⟨x, hx⟩ : ∃ x : Nat, (l.getD p Deed.z).item = x := ⟨(l.getD p Deed.z).item.toNat, by omega⟩
  have hx6 : x < 6 := by omega
  have cp := can p (by omega)
  have cq := can q hq
  rw [hi, hx, Int.toNat_natCast, Int.toNat_natCast] at cp
  rw [hj, ← h2, hx, Int.toNat_natCast, Int.toNat_natCast] at cq
  have Jp := J p (by omega)
  have Jq := J q (by omega)
  obtain ⟨α, hα⟩ : ∃ α : Int, α = if (l.getD p Deed.z).kind = 1 then 3 else 2 := ⟨_, rfl⟩
  obtain ⟨β, hβ⟩ : ∃ β : Int, β = if (l.getD q Deed.z).kind = 1 then 3 else 2 := ⟨_, rfl⟩
  have e1 : α ≤ tg (S p).1 i x := by
    have := Jp i x hi6 hx6
    by_cases e : (l.getD p Deed.z).kind = 1
    · rw [if_pos e] at hα
      have := cp.2.1 e
      omega
    · rw [if_neg e] at hα
      have := cp.1 (by omega)
      omega
  have e2 : β ≤ tg (S q).1 j x := by
    have := Jq j x hj6 hx6
    by_cases e : (l.getD q Deed.z).kind = 1
    · rw [if_pos e] at hβ
      have := cq.2.1 e
      omega
    · rw [if_neg e] at hβ
      have := cq.1 (by omega)
      omega
  have hα2 : 2 ≤ α ∧ α ≤ 3 := by split at hα <;> omega
  have hβ2 : 2 ≤ β ∧ β ≤ 3 := by split at hβ <;> omega
  have hαβ : α = 3 ∨ β = 3 := by split at hα <;> split at hβ <;> omega
  -- at p the other one has not enough yet
  have e3 : ¬ β ≤ tg (S p).1 j x := by
    intro h
    have k1 := K p (by omega) i j x hi6 hj6 hx6 hij
    have k2 := K p (by omega) j i x hj6 hi6 hx6 hij.symm
    have j1 := Jp i x hi6 hx6
    have j2 := Jp j x hj6 hx6
    omega
  obtain ⟨v, v1, v2, v3, v4⟩ := crossing (f := fun k => β ≤ tg (S k).1 j x) (Nat.le_of_lt hpq) e3 e2
  have dv := D.2 v (by omega)
  unfold OkD at dv
  have tv := (H.step v (by omega)).tab j x hj6 hx6
  rw [tv] at v4
  unfold nxt at v4
  have cv := can v (by omega)
  have Jv' := J v (by omega) j x hj6 hx6
  by_cases g1 : j = (l.getD v Deed.z).who.toNat ∧ x = (l.getD v Deed.z).item.toNat
  · rw [if_pos g1] at v4
    rw [← g1.1, ← g1.2] at cv
    by_cases g2 : (l.getD v Deed.z).kind = 4
    · rw [if_pos g2] at v4; omega
    rw [if_neg g2] at v4
    by_cases g3 : (l.getD v Deed.z).kind = 2 ∨ (l.getD v Deed.z).kind = 3
    · rw [if_pos g3] at v4
      have e4 : ¬ α ≤ tg (S v).1 i x := by
        rcases g3 with g | g
        · have := (cv.2.2.1 g).1
          have := (cv.2.2.1 g).2 i hi6 hij
          omega
        · have := cv.2.2.2 g i hi6 hij
          omega
      have hpv : p ≤ v := v1
      obtain ⟨u, u1, u2, u3, u4⟩ := crossing (f := fun k => ¬ α ≤ tg (S k).1 i x) hpv (fun h => h e1) e4
      simp only [Classical.not_not] at u3
      have du := D.2 u (by omega)
      unfold OkD at du
      have tu := (H.step u (by omega)).tab i x hi6 hx6
      rw [tu] at u4
      unfold nxt at u4
      have Ju := J u (by omega) i x hi6 hx6
      by_cases f1 : i = (l.getD u Deed.z).who.toNat ∧ x = (l.getD u Deed.z).item.toNat
      · rw [if_pos f1] at u4
        by_cases f2 : (l.getD u Deed.z).kind = 4
        · refine ⟨u, by omega, by omega, f2, fun m hm hh => ?_⟩
          have r := ph v (by omega) g3
          rw [← g1.1] at r
          have := (H.rel D (Nat.le_refl _) v (by omega) j hj6).2 ⟨m, by omega, hh⟩
          rw [r] at this; cases this
        · rw [if_neg f2] at u4
          by_cases f3 : (l.getD u Deed.z).kind = 2 ∨ (l.getD u Deed.z).kind = 3
          · rw [if_pos f3] at u4; omega
          · rw [if_neg f3] at u4; omega
      · rw [if_neg f1] at u4; omega
    · rw [if_neg g3] at v4; omega
  · rw [if_neg g1] at v4; omega
theorem dd_err {N : Nat} {l : List Deed} {i e : Int} (h : serial_Check N l = some (i, e)) (he : e ≠ 0) : serial_Locks N l = some (false, false, e) ∧ serial_Order N l = some ([], e) := by
  have hg : serial_Graph N l = some (0, [], e) := by
    unfold serial_Graph
    rw [bd_of h]
    exact cond_of (by simpa using he)
  constructor
  · unfold serial_Locks
    rw [bd_of h]
    exact cond_of (by simpa using he)
  · unfold serial_Order
    rw [bd_of hg]
    exact cond_of (by simpa using he)
theorem relV_of {l : List Deed} (D : Dd l) {n : Int} {A : List Int} (hn : n = 6) (hA : ∀ i, i < 12 → Row (A.getD i 0) (gr l l.length i)) : RelV ⟨n, A⟩ 6 ∧ ∀ i j, pOf ⟨n, A⟩ i j = true → gr l l.length i j = true := by
  have hu : RelU ⟨n, A⟩ := fun i hi => (hA i hi).rng
  have key : ∀ i j, pOf ⟨n, A⟩ i j = true → gr l l.length i j = true := fun i j hp => by
    have hi := pOf_lt hp
    rw [← (hu.row hi).uniq (hA i hi) j]; exact hp
  refine ⟨⟨hu, hn, by decide, fun i j hp => ?_⟩, key⟩
  obtain ⟨p, q, hq, h⟩ := gr_iff.1 (key i j hp)
  unfold cf at h
  simp only [Bool.and_eq_true, decide_eq_true_eq] at h
  have d1 := D.2 p (by omega)
  have d2 := D.2 q hq
  unfold OkD at d1 d2
  omega
theorem lin_len {n : Nat} {q : Nat → Nat → Bool} {l : List Nat} (h : Lin n q l) : l.length = n := by
  have h1 := pig_lt h.1 fun x hx => (h.2.1 x).1 hx
  have h2 := pig (l := List.range n) (m := l) List.nodup_range fun x hx => (h.2.1 x).2 (List.mem_range.1 hx)
  simp at h2; omega
theorem twoLaw {N : Nat} (hN : 5000 < N) (hL : alibkeep_serialLives N = some true) (l : List Deed) : alibkeep_SerialTwoPhase N l = some true := by
  refine Wp.eq ?_
  unfold alibkeep_SerialTwoPhase
  obtain ⟨⟨ci, ce⟩, hc, hcr⟩ := check_wp (N := N) (l := l) (by omega)
  rcases hcr with ⟨h0, D⟩ | ⟨h0, hno⟩
  · obtain ⟨s, hs, hs2⟩ := locks_wp (N := N) (l := l) (by omega)
    obtain ⟨r, hr, hr2⟩ := graph_wp (N := N) (l := l) (by omega)
    obtain ⟨hn, he, hA⟩ : r.1 = 6 ∧ r.2.2 = 0 ∧ ∀ i, i < 12 → Row (r.2.1.getD i 0) (gr l l.length i) := by
      rcases hr2 with ⟨_, hn, he, hA⟩ | ⟨hno, _⟩
      · exact ⟨hn, he, hA⟩
      · exact (hno D).elim
    obtain ⟨he2, T, R, hLk⟩ : s.2.2 = 0 ∧ ∃ T R, Lk N l l.length (T, R, s.1, s.2.1) := by
      rcases hs2 with ⟨_, he2, h⟩ | ⟨hno, _⟩
      · exact ⟨he2, h⟩
      · exact (hno D).elim
    obtain ⟨V, hV⟩ := relV_of D hn hA
    have hord : ∀ o e, order_Least N (Rel.mk r.1 r.2.1) = some (o, e) → serial_Order N l = some (o, e) := fun o e h => by
      unfold serial_Order
      rw [bd_of hr, cond_no (by simp [he]), bd_of h]
    have done : ∀ o e, serial_Order N l = some (o, e) → ((!s.1 || !s.2.1) || (decide (e = 0) && decide ((o.length : Int) = 6))) = true → Wp (Proofs.Ytemckhkicfpgeaa.bd (serial_Locks N l) fun (r6 : (Bool × Bool × Int)) =>
        Proofs.Ytemckhkicfpgeaa.bd (serial_Order N l) fun (r7 : ((List Int) × Int)) =>
        Proofs.Ytemckhkicfpgeaa.bd (alibkeep_serialLives N) fun (r10 : Bool) =>
        _root_.cond ((!r10) || (!(decide (r6.2.2 = 0))))
          (Proofs.Ytemckhkicfpgeaa.bd (alibkeep_serialLives N) fun (r11 : Bool) =>
          some (r11 && (decide (r7.2 = r6.2.2))))
          (some (((!r6.1) || (!r6.2.1)) || ((decide (r7.2 = 0)) && (decide (((r7.1).length : Int) = 6)))))) (· = true) := fun o e h1 h2 => .bdO hs (.bdO h1 (.bdO hL (.condF (by simp [he2]) (.one h2))))
    rcases acyclic (N := N) (by omega) V.u with ⟨n, A, V', hA', hno, _, ha⟩ | ⟨n, A, V', hA', ⟨z, _, hz⟩, _, ha⟩ | ⟨e, _, hv, _, _⟩
    · obtain rfl := V.uniq V'
      obtain ⟨o, hL2, hlin⟩ := least_wp hN (CR.of V hA') (acy_of V hno) ha
      refine done _ _ (hord _ _ hL2) ?_
      have := lin_len hlin
      simp [fwd, this]
    · obtain rfl := V.uniq V'
      refine done _ _ (hord _ _ (least_err (by decide) ha)) ?_
      cases h1 : s.1 with
      | false => rfl
      | true =>
        cases h2 : s.2.1 with
        | false => rfl
        | true =>
          exfalso
          obtain ⟨S, hS, H, J⟩ := hist (N := N) (by omega) D hLk (Nat.le_refl _)
          have : Soon l z z := by
            have hd : ∀ i j, Decidable (Soon l i j) := fun i j => Classical.propDecidable _
            have := war_least (q := fun i j => decide (Soon l i j)) (n := 6) (p := pOf ⟨r.1, r.2.1⟩) (fun i j h => ?_) (fun i m j _ g1 g2 => decide_eq_true (soon_tr (of_decide_eq_true g1) (of_decide_eq_true g2))) 6 (Nat.le_refl _) z z hz
            · exact of_decide_eq_true this
            · obtain ⟨p, q, hq, h⟩ := gr_iff.1 (hV i j h)
              exact decide_eq_true (soon_of D H J (by rw [hS]; exact h1) (by rw [hS]; exact h2) hq h)
          exact soon_irr this
    · exact (hv 6 V).elim
  · obtain ⟨g1, g2⟩ := dd_err hc h0
    exact .bdO g1 (.bdO g2 (.bdO hL (.condT (by simpa using h0) (.bdO hL (.one (by simp))))))
end Se

end Go.Proofs.Ytemckhkicfpgeaa
