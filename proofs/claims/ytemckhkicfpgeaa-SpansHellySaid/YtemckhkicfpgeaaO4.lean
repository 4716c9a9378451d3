/- Orders of all; OrderSplits. -/
import Derived.Test.YtemckhkicfpgeaaO3
set_option linter.unusedVariables false
set_option linter.unusedSimpArgs false
set_option linter.unusedSectionVars false
set_option maxRecDepth 100000
namespace Go.Proofs.Ytemckhkicfpgeaa
open Go.RowKit
namespace Rl
/-! Lists without repeats. -/
theorem pig {l m : List Nat} (h : l.Nodup) (hs : ∀ x ∈ l, x ∈ m) : l.length ≤ m.length := by
  induction l generalizing m with
  | nil => exact Nat.zero_le _
  | cons a l ih =>
    have ha := hs a (List.mem_cons_self ..)
    obtain ⟨h1, h2⟩ := List.nodup_cons.1 h
    have := ih (m := m.erase a) h2 fun x hx => (List.mem_erase_of_ne (fun e : x = a => h1 (e ▸ hx))).2 (hs x (List.mem_cons_of_mem _ hx))
    rw [List.length_erase_of_mem ha] at this
    have : 0 < m.length := List.length_pos_of_mem ha
    simp only [List.length_cons]; omega
theorem pig_lt {l : List Nat} {n : Nat} (h : l.Nodup) (hs : ∀ x ∈ l, x < n) : l.length ≤ n := by
  have := pig (m := List.range n) h fun x hx => List.mem_range.2 (hs x hx)
  simpa using this
theorem pig_all {l : List Nat} {n : Nat} (h : l.Nodup) (hs : ∀ x ∈ l, x < n) (hl : n ≤ l.length) {j : Nat} (hj : j < n) : j ∈ l := by
  apply Classical.byContradiction
  intro hn
  have := pig_lt (l := j :: l) (n := n) (List.nodup_cons.2 ⟨hn, h⟩) fun x hx => by
    rcases List.mem_cons.1 hx with rfl | hx
    · exact hj
    · exact hs x hx
  simp only [List.length_cons] at this; omega
theorem pig_ex {l : List Nat} {n : Nat} (hl : l.length < n) : ∃ j, j < n ∧ j ∉ l := by
  apply Classical.byContradiction
  intro hn
  have := pig (l := List.range n) (m := l) List.nodup_range fun x hx => by
    apply Classical.byContradiction
    intro h
    exact hn ⟨x, List.mem_range.1 hx, h⟩
  simp at this; omega
/-! Who is ahead of whom in a list that is told backwards. -/
def bef : List Nat → Nat → Nat → Bool
  | [], _, _ => false
  | i :: l, x, y => (decide (y = i) && decide (x ∈ l)) || bef l x y
theorem bef_mem {l : List Nat} {x y : Nat} (h : bef l x y = true) : x ∈ l ∧ y ∈ l := by
  induction l with
  | nil => cases h
  | cons i l ih =>
    simp only [bef, Bool.or_eq_true, Bool.and_eq_true, decide_eq_true_eq] at h
    rcases h with ⟨rfl, h⟩ | h
    · exact ⟨List.mem_cons_of_mem _ h, List.mem_cons_self ..⟩
    · exact ⟨List.mem_cons_of_mem _ (ih h).1, List.mem_cons_of_mem _ (ih h).2⟩
theorem bef_irr {l : List Nat} (hn : l.Nodup) (x : Nat) : bef l x x = false := by
  induction l with
  | nil => rfl
  | cons i l ih =>
    obtain ⟨h1, h2⟩ := List.nodup_cons.1 hn
    simp only [bef, ih h2, Bool.or_false, Bool.and_eq_false_imp, decide_eq_true_eq, decide_eq_false_iff_not]
    rintro rfl; exact h1
theorem bef_tr {l : List Nat} (hn : l.Nodup) {x y z : Nat} (h1 : bef l x y = true) (h2 : bef l y z = true) : bef l x z = true := by
  induction l with
  | nil => cases h1
  | cons i l ih =>
    obtain ⟨g1, g2⟩ := List.nodup_cons.1 hn
    simp only [bef, Bool.or_eq_true, Bool.and_eq_true, decide_eq_true_eq] at h1 h2 ⊢
    rcases h2 with ⟨rfl, h2⟩ | h2
    · rcases h1 with ⟨rfl, h1⟩ | h1
      · exact (g1 h2).elim
      · exact .inl ⟨rfl, (bef_mem h1).1⟩
    · rcases h1 with ⟨rfl, h1⟩ | h1
      · exact (g1 (bef_mem h2).1).elim
      · exact .inr (ih g2 h1 h2)
theorem bef_or {l : List Nat} {x y : Nat} (hx : x ∈ l) (hy : y ∈ l) (hxy : x ≠ y) : bef l x y = true ∨ bef l y x = true := by
  induction l with
  | nil => cases hx
  | cons i l ih =>
    simp only [bef, Bool.or_eq_true, Bool.and_eq_true, decide_eq_true_eq]
    rcases List.mem_cons.1 hx with rfl | hx <;> rcases List.mem_cons.1 hy with h | hy
    · exact (hxy h.symm).elim
    · exact .inr (.inl ⟨rfl, hy⟩)
    · exact .inl (.inl ⟨h, hx⟩)
    · rcases ih hx hy with h | h
      · exact .inl (.inr h)
      · exact .inr (.inr h)
theorem bef_not {l : List Nat} (hn : l.Nodup) {x y : Nat} (hx : x ∈ l) (hy : y ∈ l) (hxy : x ≠ y) : bef l y x = !bef l x y := by
  cases h : bef l x y with
  | true =>
    cases h2 : bef l y x with
    | false => rfl
    | true => have := bef_tr hn h h2; rw [bef_irr hn] at this; cases this
  | false =>
    rcases bef_or hx hy hxy with h2 | h2
    · rw [h] at h2; cases h2
    · rw [h2]; rfl
/-- An order that is told backwards. -/
def Ok (n : Nat) (q : Nat → Nat → Bool) : List Nat → Prop
  | [] => True
  | i :: l => Ok n q l ∧ i < n ∧ i ∉ l ∧ ∀ y, q y i = true → y ∈ l
theorem Ok.nodup {n : Nat} {q : Nat → Nat → Bool} : ∀ {l}, Ok n q l → l.Nodup
  | [], _ => List.nodup_nil
  | i :: l, h => List.nodup_cons.2 ⟨h.2.2.1, Ok.nodup h.1⟩
theorem Ok.lt {n : Nat} {q : Nat → Nat → Bool} : ∀ {l}, Ok n q l → ∀ x ∈ l, x < n
  | [], _, _, hx => (List.not_mem_nil hx).elim
  | i :: l, h, x, hx => by
    rcases List.mem_cons.1 hx with rfl | hx
    · exact h.2.1
    · exact Ok.lt h.1 x hx
theorem Ok_iff {n : Nat} {q : Nat → Nat → Bool} : ∀ {l : List Nat}, Ok n q l ↔ l.Nodup ∧ (∀ x ∈ l, x < n) ∧ ∀ x y, y ∈ l → q x y = true → bef l x y = true
  | [] => ⟨fun _ => ⟨List.nodup_nil, fun x h => (List.not_mem_nil h).elim, fun x y h => (List.not_mem_nil h).elim⟩, fun _ => trivial⟩
  | i :: l => by
    have ih := Ok_iff (n := n) (q := q) (l := l)
    constructor
    · intro h
      refine ⟨h.nodup, h.lt, fun x y hy hq => ?_⟩
      simp only [bef, Bool.or_eq_true, Bool.and_eq_true, decide_eq_true_eq]
      rcases List.mem_cons.1 hy with rfl | hy
      · exact .inl ⟨rfl, h.2.2.2 x hq⟩
      · exact .inr ((ih.1 h.1).2.2 x y hy hq)
    · rintro ⟨h1, h2, h3⟩
      obtain ⟨g1, g2⟩ := List.nodup_cons.1 h1
      refine ⟨ih.2 ⟨g2, fun x hx => h2 x (List.mem_cons_of_mem _ hx), fun x y hy hq => ?_⟩, h2 i (List.mem_cons_self ..), g1, fun y hq => ?_⟩
      · have := h3 x y (List.mem_cons_of_mem _ hy) hq
        simp only [bef, Bool.or_eq_true, Bool.and_eq_true, decide_eq_true_eq] at this
        rcases this with ⟨rfl, _⟩ | h
        · exact (g1 hy).elim
        · exact h
      · have := h3 y i (List.mem_cons_self ..) hq
        simp only [bef, Bool.or_eq_true, Bool.and_eq_true, decide_eq_true_eq] at this
        rcases this with ⟨_, h⟩ | h
        · exact h
        · exact (g1 (bef_mem h).2).elim
def mask : List Nat → Nat
  | [] => 0
  | i :: l => mask l ||| 2 ^ i
theorem mask_bit {l : List Nat} {j : Nat} : (mask l).testBit j = decide (j ∈ l) := by
  induction l with
  | nil => simp [mask]
  | cons i l ih =>
    simp only [mask, Nat.testBit_or, ih, Nat.testBit_two_pow, List.mem_cons]
    by_cases e : j = i
    · subst e; simp
    · have e' : ¬ i = j := fun h => e h.symm
      simp [e, e']
theorem mem_enum {n : Nat} {q : Nat → Nat → Bool} (hq : ∀ i j, q i j = true → i < n ∧ j < n) : ∀ s l, l ∈ enum n q s ↔ Ok n q l ∧ mask l = s := by
  intro s
  induction s using Nat.strongRecOn with
  | _ s ih =>
    intro l
    by_cases hs : s = 0
    · subst hs
      rw [enum, if_pos rfl, List.mem_singleton]
      constructor
      · rintro rfl; exact ⟨trivial, rfl⟩
      · rintro ⟨h1, h2⟩
        cases l with
        | nil => rfl
        | cons i l =>
          have h3 := mask_bit (l := i :: l) (j := i)
          rw [h2] at h3; simp at h3
    · rw [enum, if_neg hs, List.mem_flatMap]
      constructor
      · rintro ⟨i, hi, h⟩
        by_cases hb : s.testBit i = true
        · rw [dif_pos hb] at h
          by_cases hp : pre n q (s ^^^ 2 ^ i) i = true
          · rw [if_pos hp] at h
            obtain ⟨l', hl', rfl⟩ := List.mem_map.1 h
            have hsb := sub_bit hb
            have hpos : 0 < 2 ^ i := Nat.pow_pos (by decide)
            obtain ⟨g1, g2⟩ := (ih (s ^^^ 2 ^ i) (by omega) l').1 hl'
            have hm : ∀ j, (s ^^^ 2 ^ i).testBit j = decide (j ∈ l') := fun j => by rw [← g2, mask_bit]
            refine ⟨⟨g1, List.mem_range.1 hi, fun hil => ?_, fun y hy => ?_⟩, ?_⟩
            · have := hm i; rw [hsb.2] at this; simp [hil] at this
            · have := (pre_iff hq).1 hp y hy
              rw [hm] at this; simpa using this
            · simp only [mask, g2]
              rw [add_bit hsb.2, hsb.1]
          · rw [if_neg hp] at h; exact (List.not_mem_nil h).elim
        · rw [dif_neg hb] at h; exact (List.not_mem_nil h).elim
      · rintro ⟨h1, h2⟩
        cases l with
        | nil => exact (hs h2.symm).elim
        | cons i l =>
          obtain ⟨g1, g2, g3, g4⟩ := h1
          have hb : s.testBit i = true := by rw [← h2, mask_bit]; simp
          have hsb := sub_bit hb
          have hpos : 0 < 2 ^ i := Nat.pow_pos (by decide)
          have hx : s ^^^ 2 ^ i = mask l := by
            apply Nat.eq_of_testBit_eq
            intro j
            rw [xor_bit, ← h2, mask_bit, mask_bit]
            by_cases e : i = j
            · subst e; simp [g3]
            · have e' : ¬ j = i := fun h => e h.symm
              simp [e, e']
          refine ⟨i, List.mem_range.2 g2, ?_⟩
          rw [dif_pos hb, if_pos ((pre_iff hq).2 fun y hy => by rw [hx, mask_bit]; simpa using g4 y hy)]
          exact List.mem_map.2 ⟨l, (ih _ (by omega) l).2 ⟨g1, hx.symm⟩, rfl⟩
theorem enum_nodup (n : Nat) (q : Nat → Nat → Bool) : ∀ s, (enum n q s).Nodup := by
  intro s
  induction s using Nat.strongRecOn with
  | _ s ih =>
    by_cases hs : s = 0
    · subst hs; rw [enum, if_pos rfl]; simp
    · rw [enum, if_neg hs]
      unfold List.Nodup
      rw [List.pairwise_flatMap]
      refine ⟨fun i hi => ?_, ?_⟩
      · by_cases hb : s.testBit i = true
        · rw [dif_pos hb]
          split
          · have hsb := sub_bit hb
            have hpos : 0 < 2 ^ i := Nat.pow_pos (by decide)
            rw [List.pairwise_map]
            exact (ih _ (by omega)).imp fun {a b} h e => h (List.cons.inj e).2
          · exact List.Pairwise.nil
        · rw [dif_neg hb]; exact List.Pairwise.nil
      · refine (List.nodup_range (n := n)).imp fun {a b} hab x hx y hy e => ?_
        have hd : ∀ {i : Nat} {x : List Nat}, x ∈ (if h : s.testBit i = true then (if pre n q (s ^^^ 2 ^ i) i = true then (enum n q (s ^^^ 2 ^ i)).map (i :: ·) else []) else []) → x.head? = some i := by
          intro i x hx
          split at hx
          · split at hx
            · obtain ⟨l, _, rfl⟩ := List.mem_map.1 hx; rfl
            · exact (List.not_mem_nil hx).elim
          · exact (List.not_mem_nil hx).elim
        have h1 := hd hx; have h2 := hd hy
        rw [e, h2] at h1
        exact hab (Option.some.inj h1).symm
/-- An order of all. -/
def Lin (n : Nat) (q : Nat → Nat → Bool) (l : List Nat) : Prop := l.Nodup ∧ (∀ j, j ∈ l ↔ j < n) ∧ ∀ x y, q x y = true → bef l x y = true
theorem mem_full {n : Nat} {q : Nat → Nat → Bool} (hq : ∀ i j, q i j = true → i < n ∧ j < n) (l : List Nat) : l ∈ enum n q (2 ^ n - 1) ↔ Lin n q l := by
  rw [mem_enum hq, Ok_iff]
  constructor
  · rintro ⟨⟨h1, h2, h3⟩, h4⟩
    have hm : ∀ j, j ∈ l ↔ j < n := by
      intro j
      refine ⟨h2 j, fun hj => ?_⟩
      have := mask_bit (l := l) (j := j)
      rw [h4, Nat.testBit_two_pow_sub_one] at this
      simpa [hj] using this
    exact ⟨h1, hm, fun x y h => h3 x y ((hm y).2 (hq x y h).2) h⟩
  · rintro ⟨h1, h2, h3⟩
    refine ⟨⟨h1, fun x hx => (h2 x).1 hx, fun x y _ h => h3 x y h⟩, ?_⟩
    apply Nat.eq_of_testBit_eq
    intro j
    rw [mask_bit, Nat.testBit_two_pow_sub_one]
    exact decide_eq_decide.2 (h2 j)
theorem perm_len {a b : List (List Nat)} (ha : a.Nodup) (hb : b.Nodup) (h : ∀ x, x ∈ a ↔ x ∈ b) : a.length = b.length := ((List.perm_ext_iff_of_nodup ha hb).2 h).length_eq
/-- What is in the closed one if that is in it. -/
theorem lin_cl {r : Rel} {n : Nat} (V : RelV r n) {l : List Nat} : Lin n (cl r n) l ↔ l.Nodup ∧ (∀ j, j ∈ l ↔ j < n) ∧ ∀ x y, pOf r x y = true → bef l x y = true := by
  constructor
  · rintro ⟨h1, h2, h3⟩
    exact ⟨h1, h2, fun x y h => h3 x y (war_up (Nat.zero_le n) h)⟩
  · rintro ⟨h1, h2, h3⟩
    exact ⟨h1, h2, fun x y h => war_least h3 (fun i m j _ a b => bef_tr h1 a b) n (Nat.le_refl _) x y h⟩
/-- One pair more. -/
structure Plus (r a : Rel) (i j : Nat) : Prop where
  n : a.n = r.n
  p : ∀ x y, pOf a x y = (pOf r x y || (decide (x = i) && decide (y = j)))
  u : RelU a
theorem plus_of {r : Rel} {n i j : Nat} (V : RelV r n) (hi : i < n) (hj : j < n) : Plus r ⟨r.n, setA 12 0 r.after (i : Int) (borI .u16 (r.after.getD i 0) (shlI .u16 1 (j : Int)))⟩ i j := by
  have hle := V.le
  have row : ∀ x, x < 12 → Row ((setA 12 0 r.after (i : Int) (borI .u16 (r.after.getD i 0) (shlI .u16 1 (j : Int)))).getD x 0) fun y => pOf r x y || (decide (x = i) && decide (y = j)) := by
    intro x hx
    rw [setA_get hx, Int.toNat_natCast]
    by_cases e : x = i
    · subst e
      rw [if_pos rfl]
      refine ((V.u.row hx).or (.one (j := j) (by omega))).cong fun y => ?_
      simp only [decide_true, Bool.true_and]
      congr 1
      exact decide_eq_decide.2 ⟨Eq.symm, Eq.symm⟩
    · rw [if_neg e]
      exact (V.u.row hx).cong fun y => by simp [e]
  have hu : RelU ⟨r.n, setA 12 0 r.after (i : Int) (borI .u16 (r.after.getD i 0) (shlI .u16 1 (j : Int)))⟩ := fun x hx => (row x hx).rng
  refine ⟨rfl, fun x y => ?_, hu⟩
  by_cases hx : x < 12
  · exact (hu.row hx).uniq (row x hx) y
  · have h1 : pOf r x y = false := by unfold pOf; simp [hx]
    have h2 : x ≠ i := by omega
    rw [h1]
    unfold pOf
    simp [hx, h2]
theorem Plus.v {r a : Rel} {n i j : Nat} (V : RelV r n) (hi : i < n) (hj : j < n) (P : Plus r a i j) : RelV a n := by
  refine ⟨P.u, by rw [P.n]; exact V.is, V.le, fun x y h => ?_⟩
  rw [P.p] at h
  simp only [Bool.or_eq_true, Bool.and_eq_true, decide_eq_true_eq] at h
  rcases h with h | ⟨rfl, rfl⟩
  · exact V.inn x y h
  · exact ⟨hi, hj⟩
theorem Plus.lin {r a : Rel} {n i j : Nat} (V : RelV r n) (hi : i < n) (hj : j < n) (P : Plus r a i j) {l : List Nat} : Lin n (cl a n) l ↔ Lin n (cl r n) l ∧ bef l i j = true := by
  rw [lin_cl (P.v V hi hj), lin_cl V]
  constructor
  · rintro ⟨h1, h2, h3⟩
    exact ⟨⟨h1, h2, fun x y h => h3 x y (by rw [P.p, h]; rfl)⟩, h3 i j (by rw [P.p]; simp)⟩
  · rintro ⟨⟨h1, h2, h3⟩, h4⟩
    refine ⟨h1, h2, fun x y h => ?_⟩
    rw [P.p] at h
    simp only [Bool.or_eq_true, Bool.and_eq_true, decide_eq_true_eq] at h
    rcases h with h | ⟨rfl, rfl⟩
    · exact h3 x y h
    · exact h4
theorem Plus.count {r a : Rel} {n i j : Nat} (V : RelV r n) (hi : i < n) (hj : j < n) (P : Plus r a i j) : fN n (cl a n) (2 ^ n - 1) = (enum n (cl r n) (2 ^ n - 1)).countP fun l => bef l i j := by
  unfold fN
  rw [List.countP_eq_length_filter]
  refine perm_len (enum_nodup ..) ((enum_nodup ..).filter _) fun l => ?_
  rw [mem_full (war_in (P.v V hi hj).inn n), P.lin V hi hj, List.mem_filter, mem_full (war_in V.inn n)]
theorem fN_split {r a b : Rel} {n i j : Nat} (V : RelV r n) (hi : i < n) (hj : j < n) (hij : i ≠ j) (P : Plus r a i j) (P2 : Plus r b j i) : fN n (cl a n) (2 ^ n - 1) + fN n (cl b n) (2 ^ n - 1) = fN n (cl r n) (2 ^ n - 1) := by
  rw [P.count V hi hj, P2.count V hj hi]
  unfold fN
  rw [List.length_eq_countP_add_countP (fun l => bef l i j)]
  congr 1
  refine List.countP_congr fun l hl => ?_
  obtain ⟨h1, h2, _⟩ := (mem_full (war_in V.inn n) l).1 hl
  rw [bef_not h1 ((h2 i).2 hi) ((h2 j).2 hj) hij]
  cases bef l i j <;> simp
theorem fN_none {r : Rel} {n : Nat} (V : RelV r n) (h : ∃ i, i < n ∧ cl r n i i = true) : fN n (cl r n) (2 ^ n - 1) = 0 := by
  obtain ⟨i, _, hi⟩ := h
  unfold fN
  rw [List.length_eq_zero_iff]
  cases he : enum n (cl r n) (2 ^ n - 1) with
  | nil => rfl
  | cons l t =>
    obtain ⟨h1, _, h3⟩ := (mem_full (war_in V.inn n) l).1 (by rw [he]; exact List.mem_cons_self ..)
    have := h3 i i hi
    rw [bef_irr h1] at this; cases this
/-- What Count tells of a relation. -/
theorem count_all {N : Nat} (hN : 5000 < N) {r : Rel} {n : Nat} (V : RelV r n) : ∃ e : Int, order_Count N r = some (((fN n (cl r n) (2 ^ n - 1) : Nat) : Int), e) ∧ ((e = 0 ∧ ∀ i, cl r n i i = false) ∨ (e = 4 ∧ fN n (cl r n) (2 ^ n - 1) = 0 ∧ ∃ i, i < n ∧ cl r n i i = true)) := by
  rcases acyclic (N := N) (by omega) V.u with ⟨n', A', W, hA', hno', hc', ha'⟩ | ⟨n', A', W, hA', hcy, hc', ha'⟩ | ⟨e, he, hv, hc', ha'⟩
  · obtain rfl := V.uniq W
    exact ⟨0, count_wp hN (CR.of V hA') ha', .inl ⟨rfl, hno'⟩⟩
  · obtain rfl := V.uniq W
    have h0 := fN_none V hcy
    refine ⟨4, ?_, .inr ⟨rfl, h0, hcy⟩⟩
    rw [count_err (by decide) ha', h0]; rfl
  · exact (hv n V).elim
/-- OrderSplits, plainly. -/
theorem splitsLaw {N : Nat} (hN : 5000 < N) (hl : alibkeep_orderLives N = some true) {r : Rel} (hu : RelU r) (i j : Int) : alibkeep_OrderSplits N r i j = some true := by
  refine Wp.eq ?_
  unfold alibkeep_OrderSplits
  rcases acyclic (N := N) (by omega) hu with ⟨n, A, V, hA, hno, hc, ha⟩ | ⟨n, A, V, hA, hcy, hc, ha⟩ | ⟨e, he, hv, hc, ha⟩
  · obtain ⟨e, h1, h2⟩ := count_all hN V
    refine .bdO h1 (.bdO hl ?_)
    have hn := V.is
    have hle := V.le
    refine .cond (fun _ => .bdO hl (.one rfl)) fun hc => ?_
    simp only [Bool.or_eq_false_iff, Bool.not_eq_false', decide_eq_true_eq, decide_eq_false_iff_not] at hc
    obtain ⟨⟨⟨⟨⟨⟨_, c1⟩, c2⟩, c3⟩, c4⟩, c5⟩, c6⟩ := hc
    obtain ⟨x, rfl⟩ : ∃ x : Nat, i = x := ⟨i.toNat, by omega⟩
    obtain ⟨y, rfl⟩ : ∃ y : Nat, j = y := ⟨j.toNat, by omega⟩
    have hx : x < n := by omega
    have hy : y < n := by omega
    have P := plus_of V hx hy
    have P2 := plus_of V hy hx
    obtain ⟨e1, a1, a2⟩ := count_all hN (P.v V hx hy)
    obtain ⟨e2, b1, b2⟩ := count_all hN (P2.v V hy hx)
    have hs := fN_split V hx hy (fun h => c6 (by rw [h])) P P2
    have g1 := fN_big hle (q := cl r n) (2 ^ n - 1)
    refine .bdO rfl ?_
    refine .axN (by omega) (.ck (by simp) (.axN (by omega) (.axN (by omega) (.ck (by simp) (.axN (by omega) (.bdO a1 (.bdO b1 ?_)))))))
    have h1 : (decide (e1 = 0) || (decide (e1 = 4) && decide (((fN n (cl ⟨r.n, setA 12 0 r.after (x : Int) (borI .u16 (r.after.getD x 0) (shlI .u16 1 (y : Int)))⟩ n) (2 ^ n - 1) : Nat) : Int) = 0))) = true := by
      rcases a2 with ⟨rfl, _⟩ | ⟨rfl, h, _⟩
      · rfl
      · rw [h]; rfl
    have h2 : (decide (e2 = 0) || (decide (e2 = 4) && decide (((fN n (cl ⟨r.n, setA 12 0 r.after (y : Int) (borI .u16 (r.after.getD y 0) (shlI .u16 1 (x : Int)))⟩ n) (2 ^ n - 1) : Nat) : Int) = 0))) = true := by
      rcases b2 with ⟨rfl, _⟩ | ⟨rfl, h, _⟩
      · rfl
      · rw [h]; rfl
    refine .ck (by rw [ok64_of (by omega)]; simp) (.one ?_)
    rw [h1, h2]
    simp only [Bool.and_self, Bool.true_and, decide_eq_true_eq]
    omega
  · refine .bdO (count_err (by decide) ha) (.bdO hl (.condT (by simp) (.bdO hl (.one rfl))))
  · refine .bdO (count_err he ha) (.bdO hl (.condT (by simp [he]) (.bdO hl (.one rfl))))
end Rl

end Go.Proofs.Ytemckhkicfpgeaa
