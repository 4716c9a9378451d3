/- The widest; OrderProduct. -/
import Derived.Test.YtemckhkicfpgeaaO7
set_option linter.unusedVariables false
set_option linter.unusedSimpArgs false
set_option linter.unusedSectionVars false
set_option maxRecDepth 100000
namespace Go.Proofs.Ytemckhkicfpgeaa
open Go.RowKit
namespace Rl
/-- The items of a set. -/
def its (s : Nat) : List Nat := (List.range 12).filter fun i => s.testBit i
theorem its_nodup (s : Nat) : (its s).Nodup := List.nodup_range.filter _
theorem mem_its {s i : Nat} (hs : s < 4096) : i ∈ its s ↔ s.testBit i = true := by
  unfold its
  rw [List.mem_filter, List.mem_range]
  refine ⟨fun h => h.2, fun h => ⟨?_, h⟩⟩
  apply Classical.byContradiction
  intro hi
  have := Nat.ge_two_pow_of_testBit h
  have h2 : 2 ^ 12 ≤ 2 ^ i := Nat.pow_le_pow_right (by decide) (by omega)
  have e12 : 2 ^ 12 = 4096 := by decide
  omega
theorem its_len (s : Nat) : (its s).length ≤ 12 := by
  unfold its
  have := List.length_filter_le (fun i => s.testBit i) (List.range 12)
  simpa using this
def tab : ByteArray := ⟨#[0, 1, 1, 2, 1, 2, 2, 3, 1, 2, 2, 3, 2, 3, 3, 4, 1, 2, 2, 3, 2, 3, 3, 4, 2, 3, 3, 4, 3, 4, 4, 5, 1, 2, 2, 3, 2, 3, 3, 4, 2, 3, 3, 4, 3, 4, 4, 5, 2, 3, 3, 4, 3, 4, 4, 5, 3, 4, 4, 5, 4, 5, 5, 6, 1, 2, 2, 3, 2, 3, 3, 4, 2, 3, 3, 4, 3, 4, 4, 5, 2, 3, 3, 4, 3, 4, 4, 5, 3, 4, 4, 5, 4, 5, 5, 6, 2, 3, 3, 4, 3, 4, 4, 5, 3, 4, 4, 5, 4, 5, 5, 6, 3, 4, 4, 5, 4, 5, 5, 6, 4, 5, 5, 6, 5, 6, 6, 7, 1, 2, 2, 3, 2, 3, 3, 4, 2, 3, 3, 4, 3, 4, 4, 5, 2, 3, 3, 4, 3, 4, 4, 5, 3, 4, 4, 5, 4, 5, 5, 6, 2, 3, 3, 4, 3, 4, 4, 5, 3, 4, 4, 5, 4, 5, 5, 6, 3, 4, 4, 5, 4, 5, 5, 6, 4, 5, 5, 6, 5, 6, 6, 7, 2, 3, 3, 4, 3, 4, 4, 5, 3, 4, 4, 5, 4, 5, 5, 6, 3, 4, 4, 5, 4, 5, 5, 6, 4, 5, 5, 6, 5, 6, 6, 7, 3, 4, 4, 5, 4, 5, 5, 6, 4, 5, 5, 6, 5, 6, 6, 7, 4, 5, 5, 6, 5, 6, 6, 7, 5, 6, 6, 7, 6, 7, 7, 8]⟩
def pc (k b : Nat) : Nat := ((List.range k).filter fun i => b.testBit i).length
theorem tab_all : ((List.range 256).all fun b => decide (sx tab (b : Int) = some ((pc 8 b : Nat) : Int))) = true := by kernel_rfl
theorem tab_ok {b : Nat} (hb : b < 256) : sx tab (b : Int) = some ((pc 8 b : Nat) : Int) := of_decide_eq_true (List.all_eq_true.1 tab_all b (List.mem_range.2 hb))
theorem pc_le (k b : Nat) : pc k b ≤ k := by
  unfold pc
  have := List.length_filter_le (fun i => b.testBit i) (List.range k)
  simpa using this
theorem pc_split (s : Nat) : pc 12 s = pc 8 (s &&& 255) + pc 4 (s >>> 8) := by
  unfold pc
  have e : List.range 12 = List.range 8 ++ (List.range 4).map (· + 8) := by decide
  rw [e, List.filter_append, List.length_append]
  congr 1
  · congr 1
    refine List.filter_congr fun i hi => ?_
    have h8 := List.mem_range.1 hi
    rw [Nat.testBit_and, show (255 : Nat) = 2 ^ 8 - 1 from rfl, Nat.testBit_two_pow_sub_one]
    simp [h8]
  · rw [List.filter_map, List.length_map]
    congr 1
theorem pc_four {b : Nat} (hb : b < 16) : pc 4 b = pc 8 b := by
  have : ((List.range 16).all fun b => decide (pc 4 b = pc 8 b)) = true := by kernel_rfl
  exact of_decide_eq_true (List.all_eq_true.1 this b (List.mem_range.2 hb))
theorem ones_ok (N : Nat) {s : Nat} (hs : s < 4096) : math_bits_OnesCount16 N (s : Int) = some ((its s).length : Int) := by
  have h1 : shrI .u16 (s : Int) 8 = ((s >>> 8 : Nat) : Int) := shr16 (a := s) (j := 8) (by omega)
  have h2 : bandI .u16 (s : Int) 255 = ((s &&& 255 : Nat) : Int) := band16 (a := s) (b := 255) (by omega) (by decide)
  have h3 : s >>> 8 < 16 := by rw [Nat.shiftRight_eq_div_pow]; omega
  have h4 : s &&& 255 ≤ 255 := Nat.and_le_right
  have e : math_bits_OnesCount16 N (s : Int) = bd (sx tab (shrI .u16 (s : Int) 8)) fun x2 => bd (sx tab (bandI .u16 (s : Int) 255)) fun x3 => some (IntKind.i64.wrap (IntKind.u8.wrap (x2 + x3))) := rfl
  rw [e, h1, h2, tab_ok (by omega), tab_ok (by omega), bd_some, bd_some]
  have h5 := pc_le 8 (s >>> 8); have h6 := pc_le 8 (s &&& 255)
  have h7 : IntKind.u8.wrap (((pc 8 (s >>> 8) : Nat) : Int) + ((pc 8 (s &&& 255) : Nat) : Int)) = ((pc 8 (s >>> 8) : Nat) : Int) + ((pc 8 (s &&& 255) : Nat) : Int) := by
    unfold IntKind.wrap
    simp only [IntKind.bits, IntKind.signed, Bool.false_and, Bool.false_eq_true, if_false]
    exact Int.emod_eq_of_lt (by omega) (by show _ < (2 : Int) ^ 8; omega)
  rw [h7, wrapI64 (by omega) (by omega)]
  have h8 : (its s).length = pc 12 s := rfl
  rw [h8, pc_split, pc_four h3]
  congr 1
  omega
theorem bitRow {s : Nat} (hs : s < 4096) : Row (s : Int) fun j => s.testBit j := ⟨s, rfl, by omega, fun _ => rfl⟩
theorem items_wp {N : Nat} (hN : 5000 < N) {s : Nat} (hs : s < 4096) : order_items N (s : Int) = some (ints_ (its s)) := by
  refine Wp.eq ?_
  unfold order_items
  refine .seq (P := fun o => o = ints_ (its s)) ?_ fun o _ ho => .one ho
  refine .iter 12 (fun k st => st.2 = (k : Int) ∧ st.1 = ints_ ((List.range k).filter fun i => s.testBit i)) (by omega) ⟨rfl, rfl⟩ ?_ ?_
  · rintro k ⟨o, v⟩ hk ⟨hv, ho⟩
    simp only at hv ho
    subst hv; subst ho
    simp only [order_items_L3]
    have hlen : (ints_ ((List.range k).filter fun i => s.testBit i)).length ≤ k := by
      have := List.length_filter_le (fun i => s.testBit i) (List.range k)
      simpa [ints_] using this
    refine .condT (decide_eq_true (by omega)) ?_
    rw [wrapU64 (by omega) (by omega), (bitRow hs).test]
    refine .cond (fun h => .ck (limB_of (by simp only [List.length_append, List.length_cons, List.length_nil]; unfold maxLen; omega)) (.ck64 (by omega) (.one ⟨by simp, ?_⟩))) fun h => .ck64 (by omega) (.one ⟨by simp, ?_⟩)
    · simp only [List.range_succ, List.filter_append, List.filter_cons, h, if_true, List.filter_nil, ints_, List.map_append, List.map_cons, List.map_nil]
    · simp only [List.range_succ, List.filter_append, List.filter_cons, h, List.filter_nil, ints_, List.map_append]
      simp
  · rintro ⟨o, v⟩ ⟨hv, ho⟩
    simp only at hv ho
    subst hv; subst ho
    simp only [order_items_L3]
    exact .condF rfl (.one rfl)
/-- Items apart from each other. -/
def Apt (q : Nat → Nat → Bool) (s : Nat) : Prop := ∀ i j, s.testBit i = true → s.testBit j = true → q i j = false
theorem apart_wp {N : Nat} (hN : 5000 < N) {n : Nat} {A : List Int} {q : Nat → Nat → Bool} (C : CR ⟨n, A⟩ n q) {s : Nat} (hs : s < 4096) : Wp (order_apart N ⟨n, A⟩ (s : Int)) fun b => b = true ↔ Apt q s := by
  unfold order_apart
  have hlen := its_len s
  have hil : (ints_ (its s)).length = (its s).length := by simp [ints_]
  refine .bd (.bdO (items_wp hN hs) ?_)
  have good : ∀ i, i < 12 → (decide (bandI .u16 (A.getD i 0) (s : Int) = 0) = true ↔ ∀ j, s.testBit j = true → q i j = false) := by
    intro i hi
    have hrow : Row (A.getD i 0) (q i) := C.row i hi
    rw [decide_eq_true_eq, (hrow.and (bitRow hs)).empty]
    constructor
    · intro h j hj
      have := h j
      simpa [hj] using this
    · intro h j
      cases hj : s.testBit j with
      | false => simp
      | true => simp [h j hj]
  have key := iter_find (body := order_apart_L3 N (ints_ (its s)) ⟨n, A⟩ (s : Int)) (fun k => (k : Int)) (fun k => !decide (bandI .u16 (A.getD ((its s).getD k 0) 0) (s : Int) = 0)) (fun _ => .inr false) (.inl ()) (its s).length (s := 0) rfl (fun k hk hb => ?_) (fun k hk hb => ?_) ?_ (N := N) (by omega)
  · have lt12 : ∀ k, k < (its s).length → (its s).getD k 0 < 12 := fun k hk => by
      have : (its s).getD k 0 ∈ its s := by rw [getD_of hk]; exact List.getElem_mem hk
      exact List.mem_range.1 (List.mem_filter.1 this).1
    rcases key with ⟨k, h1, h2, _, h4⟩ | ⟨h1, h2⟩
    · refine ⟨_, h4, .one ⟨fun h => (by cases h), fun h => ?_⟩⟩
      have hm : (its s).getD k 0 ∈ its s := by rw [getD_of h1]; exact List.getElem_mem h1
      have := (good _ (lt12 k h1)).2 fun j hj => h _ j ((mem_its hs).1 hm) hj
      rw [this] at h2; cases h2
    · refine ⟨_, h2, .one ⟨fun _ i j hi hj => ?_, fun _ => rfl⟩⟩
      obtain ⟨k, hk, e⟩ := List.getElem_of_mem ((mem_its hs).2 hi)
      have := h1 k hk
      rw [Bool.not_eq_false'] at this
      have h3 := (good _ (lt12 k hk)).1 this j hj
      rw [getD_of hk, e] at h3
      exact h3
  all_goals have hl2 : (ints_ (its s)).length = (its s).length := hil
  · have hm : (its s).getD k 0 < 12 := by
      have : (its s).getD k 0 ∈ its s := by rw [getD_of hk]; exact List.getElem_mem hk
      exact List.mem_range.1 (List.mem_filter.1 this).1
    refine Wp.eq ?_
    simp only [order_apart_L3]
    refine .condT (decide_eq_true (by omega)) (.ixD 0 (by omega) (by omega) ?_)
    rw [Int.toNat_natCast, ints_at hk]
    refine .axN hm (.condF hb (.ck64 (by omega) (.one (by simp))))
  · have hm : (its s).getD k 0 < 12 := by
      have : (its s).getD k 0 ∈ its s := by rw [getD_of hk]; exact List.getElem_mem hk
      exact List.mem_range.1 (List.mem_filter.1 this).1
    refine Wp.eq ?_
    simp only [order_apart_L3]
    refine .condT (decide_eq_true (by omega)) (.ixD 0 (by omega) (by omega) ?_)
    rw [Int.toNat_natCast, ints_at hk]
    exact .axN hm (.condT hb (.one rfl))
  · refine Wp.eq ?_
    simp only [order_apart_L3]
    exact .condF (decide_eq_false (by omega)) (.one rfl)
theorem compare_wp {N : Nat} (hN : 5000 < N) {a b : List Int} (ha : a.length ≤ 100) : Wp (slices_Compare_int_int N a b) fun _ => True := by
  unfold slices_Compare_int_int
  refine .elim (P := fun _ => True) ?_ (fun _ _ _ => .cond (fun _ => .one trivial) fun _ => .one trivial) fun _ _ _ => .one trivial
  refine .iter a.length (fun k v => v = (k : Int)) (by omega) rfl ?_ ?_
  · rintro k v hk rfl
    simp only [slices_Compare_int_int_L3]
    refine .condT (decide_eq_true (by omega)) (.ixD 0 (by omega) (by omega) (.cond (fun _ => .one trivial) fun h => ?_))
    have h : ¬ (b.length : Int) ≤ k := of_decide_eq_false h
    refine .ixD 0 (by omega) (by omega) (.seq (P := fun _ => True) ?_ fun c _ _ => .cond (fun _ => .one trivial) fun _ => .ck64 (by omega) (.one (by simp)))
    unfold cmp_Compare_int cmp_isNaN_int
    refine .bdO rfl (.bdO rfl (.cond (fun _ => .cond (fun _ => .one trivial) fun _ => .one trivial) fun _ => .cond (fun _ => .one trivial) fun _ => .cond (fun _ => .one trivial) fun _ => .cond (fun _ => .one trivial) fun _ => .one trivial))
  · rintro v rfl
    simp only [slices_Compare_int_int_L3]
    exact .condF (decide_eq_false (by omega)) (.one trivial)
/-- The most items that are apart. -/
theorem widest_wp {N : Nat} (hN : 5000 < N) {n : Nat} {A : List Int} {q : Nat → Nat → Bool} (C : CR ⟨n, A⟩ n q) : ∃ t, t < 2 ^ n ∧ order_widest N ⟨n, A⟩ = some (ints_ (its t)) ∧ Apt q t ∧ ∀ s, s < 2 ^ n → Apt q s → (its s).length ≤ (its t).length := by
  have hle := C.le
  have h12 : 2 ^ n ≤ 2 ^ 12 := Nat.pow_le_pow_right (by decide) hle
  have e12 : 2 ^ 12 = 4096 := by decide
  have hpos : 0 < 2 ^ n := Nat.pow_pos (by decide)
  have hsh : shlI .i64 1 (IntKind.u64.wrap (n : Int)) = ((2 ^ n : Nat) : Int) := by rw [wrapU64 (by omega) (by omega), shl64 (by omega)]
  have key : Wp (order_widest N ⟨n, A⟩) fun o => ∃ t, t < 2 ^ n ∧ o = ints_ (its t) ∧ Apt q t ∧ ∀ s, s < 2 ^ n → Apt q s → (its s).length ≤ (its t).length := by
    unfold order_widest
    refine .seq (P := fun o => ∃ t, t < 2 ^ n ∧ o = ints_ (its t) ∧ Apt q t ∧ ∀ s, s < 2 ^ n → Apt q s → (its s).length ≤ (its t).length) ?_ fun o _ ho => .one ho
    refine .iter (2 ^ n) (fun k st => st.2 = (k : Int) ∧ ∃ t, t < 2 ^ n ∧ st.1 = ints_ (its t) ∧ Apt q t ∧ ∀ s, s < k → Apt q s → (its s).length ≤ (its t).length) (by omega) ⟨rfl, 0, hpos, rfl, fun i j h => by simp at h, fun s h => absurd h (Nat.not_lt_zero _)⟩ ?_ ?_
    · rintro k ⟨o, v⟩ hk ⟨hv, t, ht, ho, h1, h2⟩
      simp only at hv ho
      subst hv; subst ho
      simp only [order_widest_L3, hsh]
      have hwr : IntKind.u16.wrap (k : Int) = k := wrapU16 (by omega)
      rw [hwr]
      have hit : ∀ s, (ints_ (its s)).length = (its s).length := fun s => by simp [ints_]
      have hkl := its_len k; have htl := its_len t
      refine .condT (decide_eq_true (by exact_mod_cast hk)) (.bdO (ones_ok N (by omega)) ?_)
      rw [hit]
      obtain ⟨b, hb1, hb2⟩ := apart_wp hN C (s := k) (by omega)
      refine .gd b (fun _ => hb1) fun b' hb' => ?_
      have more : ∀ t', (its k).length ≤ (its t').length ∨ ¬ Apt q k → (its t).length ≤ (its t').length → ∀ s, s < k + 1 → Apt q s → (its s).length ≤ (its t').length := by
        intro t' h3 h4 s hs has
        by_cases e : s = k
        · subst e
          rcases h3 with h3 | h3
          · exact h3
          · exact (h3 has).elim
        · have := h2 s (by omega) has; omega
      refine .cond (fun h => .ck64 (by omega) (.one ⟨by simp, t, ht, rfl, h1, more t ?_ (Nat.le_refl _)⟩)) fun h => ?_
      · by_cases hc : ((its k).length : Int) < (its t).length
        · exact .inl (by omega)
        · have hd : decide (((its k).length : Int) < (its t).length) = false := decide_eq_false hc
          rw [hd] at h hb'
          have := hb' rfl
          rw [this] at h
          refine .inr fun ha => ?_
          rw [hb2.2 ha] at h; cases h
      · rw [Bool.or_eq_false_iff] at h
        obtain ⟨g1, g2⟩ := h
        rw [g1] at hb'
        have := hb' rfl
        rw [this] at g2
        have hap : Apt q k := hb2.1 (by simpa using g2)
        have hge : ¬ ((its k).length : Int) < (its t).length := of_decide_eq_false g1
        refine .bdO (items_wp hN (by omega)) ?_
        rw [hit]
        obtain ⟨c, hc1, _⟩ := compare_wp hN (a := ints_ (its k)) (b := ints_ (its t)) (by rw [hit]; omega)
        refine .gd c (fun _ => hc1) fun c' _ => ?_
        refine .cond (fun _ => .ck64 (by omega) (.one ⟨by simp, k, hk, rfl, hap, more k (.inl (Nat.le_refl _)) (by omega)⟩)) fun h => .ck64 (by omega) (.one ⟨by simp, t, ht, rfl, h1, more t (.inl ?_) (Nat.le_refl _)⟩)
        rw [Bool.or_eq_false_iff] at h
        have := of_decide_eq_false h.1
        omega
    · rintro ⟨o, v⟩ ⟨hv, t, ht, ho, h1, h2⟩
      simp only at hv ho
      subst hv; subst ho
      simp only [order_widest_L3, hsh]
      exact .condF (decide_eq_false (by omega)) (.one ⟨t, ht, rfl, h1, h2⟩)
  obtain ⟨o, h1, t, h2, rfl, h3⟩ := key
  exact ⟨t, h2, h1, h3⟩
/-- Items apart, as a list. -/
theorem apt_list {n : Nat} (hle : n ≤ 12) {q : Nat → Nat → Bool} {t : Nat} (hm : ∀ s, s < 2 ^ n → Apt q s → (its s).length ≤ (its t).length) {l : List Nat} (hn : l.Nodup) (hlt : ∀ x ∈ l, x < n) (hap : ∀ x ∈ l, ∀ y ∈ l, q x y = false) : l.length ≤ (its t).length := by
  have h12 : 2 ^ n ≤ 2 ^ 12 := Nat.pow_le_pow_right (by decide) hle
  have e12 : 2 ^ 12 = 4096 := by decide
  have hmk : mask l < 2 ^ n := by
    apply Classical.byContradiction
    intro h
    obtain ⟨i, hi, hb⟩ := Nat.exists_ge_and_testBit_of_ge_two_pow (x := mask l) (n := n) (by omega)
    rw [mask_bit] at hb
    have := hlt i (by simpa using hb)
    omega
  have h1 := hm (mask l) hmk fun i j hi hj => by
    rw [mask_bit] at hi hj
    exact hap i (by simpa using hi) j (by simpa using hj)
  have h2 := pig (l := l) (m := its (mask l)) hn fun x hx => (mem_its (by omega)).2 (by rw [mask_bit]; simpa using hx)
  omega
/-- So many levels, of so many at most. -/
theorem levels {n W : Nat} (f : Nat → Nat) (h0 : ∀ x, x < n → 1 ≤ f x) (hW : ∀ v, ((List.range n).filter fun x => f x == v).length ≤ W) : ∀ M, ((List.range n).filter fun x => decide (f x ≤ M)).length ≤ M * W
  | 0 => by
    rw [List.filter_eq_nil_iff.2 fun x hx => ?_]
    · simp
    · have := h0 x (List.mem_range.1 hx)
      simp; omega
  | M + 1 => by
    have ih := levels f h0 hW M
    have h2 := hW (M + 1)
    have e : ∀ l : List Nat, (l.filter fun x => decide (f x ≤ M + 1)).length = (l.filter fun x => decide (f x ≤ M)).length + (l.filter fun x => f x == M + 1).length := by
      intro l
      induction l with
      | nil => rfl
      | cons a l ih =>
        simp only [List.filter_cons]
        by_cases h1 : f a ≤ M
        · have h2 : f a ≤ M + 1 := by omega
          have h3 : ¬ f a = M + 1 := by omega
          simp [h1, h2, h3, ih]; omega
        · by_cases h3 : f a = M + 1
          · have h4 : ¬ M + 1 ≤ M := by omega
            simp [h3, h4, ih]; omega
          · have h2 : ¬ f a ≤ M + 1 := by omega
            simp [h1, h2, h3, ih]
    rw [e, Nat.add_mul]; omega
theorem apart_ok {N : Nat} (hN : 5000 < N) {r : Rel} {n : Nat} {A : List Int} {q : Nat → Nat → Bool} (C : CR ⟨n, A⟩ n q) (ha : order_acyclic N r = some ((n : Int), A, 0)) : ∃ t, t < 2 ^ n ∧ order_Apart N r = some (ints_ (its t), 0) ∧ Apt q t ∧ ∀ s, s < 2 ^ n → Apt q s → (its s).length ≤ (its t).length := by
  obtain ⟨t, h1, h2, h3⟩ := widest_wp hN C
  refine ⟨t, h1, ?_, h3⟩
  unfold order_Apart
  rw [bd_of ha]
  simp only
  rw [bd_of h2]; rfl
theorem apart_err {N : Nat} {r : Rel} {e : Int} (he : e ≠ 0) (ha : order_acyclic N r = some (0, [], e)) : order_Apart N r = some ([], e) := by
  unfold order_Apart
  rw [bd_of ha]
  exact cond_of (by simpa using he)
theorem ok2_bad {N : Nat} (hN : 1000 < N) {e : Int} (he : e ≠ 0) (f : Int) : alibkeep_ok N [e, f] = some false := by
  obtain ⟨M, rfl⟩ : ∃ M, N = M + 4 := ⟨N - 4, by omega⟩
  refine Wp.eq ?_
  unfold alibkeep_ok
  refine .elim (P := fun t => t = .inr false) ?_ (fun a _ h => by cases h) fun a _ h => .one (by cases h; rfl)
  refine ⟨.inr false, ?_, rfl⟩
  have : alibkeep_ok_L3 (M + 4) [e, f] 0 = some (.inr (.inr false)) := by
    refine Wp.eq ?_
    unfold alibkeep_ok_L3
    exact .condT (by simp) (.ix (k := 0) (by simp) (.condT (by simpa using he) (.one rfl)))
  simp only [iter, this]
/-- OrderProduct, plainly. -/
theorem productLaw {N : Nat} (hN : 5000 < N) (hl : alibkeep_orderLives N = some true) {r : Rel} (hu : RelU r) : alibkeep_OrderProduct N r = some true := by
  refine Wp.eq ?_
  unfold alibkeep_OrderProduct
  rcases acyclic (N := N) (by omega) hu with ⟨n, A, V, hA, hno, hc, ha⟩ | ⟨n, A, V, hA, hcy, hc, ha⟩ | ⟨e, he, hv, hc, ha⟩
  · have hn := V.is
    have hle := V.le
    have C := CR.of V hA
    have H := acy_of V hno
    obtain ⟨k, M, o, c1, K, c2, c3, c4, c5, c6⟩ := chain_wp hN C H ha
    obtain ⟨t, t1, t2, t3, t4⟩ := apart_ok hN C ha
    have hlo : (ints_ o).length = o.length := by simp [ints_]
    have hli : (ints_ (its t)).length = (its t).length := by simp [ints_]
    have htl := its_len t
    have hlev := levels (n := n) (W := (its t).length) (fun x => (at_ k x).toNat) (fun x hx => by have := (K.rg x hx).1; omega) (fun v => ?_) M
    · rw [List.filter_eq_self.2 fun x hx => ?_] at hlev
      · simp only [List.length_range] at hlev
        have hmul : M * (its t).length ≤ 12 * 12 := Nat.mul_le_mul (by omega) htl
        have e1 : ((o.length : Int) * ((its t).length : Int)) = ((M * (its t).length : Nat) : Int) := by rw [c6, Int.natCast_mul]
        refine .bdO c1 (.bdO t2 (.bd (.bdO hl (.condT rfl (.bdO (ok2 (by omega)) (.one ?_))))))
        refine .condF rfl ?_
        rw [hlo, hli, e1]
        exact .ck64 (by omega) (.one (decide_eq_true (by omega)))
      · have := c3 x (List.mem_range.1 hx)
        exact decide_eq_true (by omega)
    · refine apt_list hle t4 (List.nodup_range.filter _) (fun x hx => List.mem_range.1 (List.mem_filter.1 hx).1) fun x hx y hy => ?_
      have h1 := (List.mem_filter.1 hx); have h2 := (List.mem_filter.1 hy)
      have g1 := List.mem_range.1 h1.1
      have g3 : (at_ k x).toNat = v := by simpa using h1.2
      have g4 : (at_ k y).toNat = v := by simpa using h2.2
      cases hq : cl r n x y with
      | false => rfl
      | true =>
        have := K.less x y hq
        have := (K.rg y (H.inn x y hq).2).1
        omega
  · refine .bdO (chain_err (by decide) ha) (.bdO (apart_err (by decide) ha) (.bd (.bdO hl (.condT rfl (.bdO (ok2_bad (by omega) (by decide) _) (.one ?_))))))
    exact .condT rfl (.bdO hl (.one rfl))
  · refine .bdO (chain_err he ha) (.bdO (apart_err he ha) (.bd (.bdO hl (.condT rfl (.bdO (ok2_bad (by omega) he _) (.one ?_))))))
    exact .condT rfl (.bdO hl (.one (by simp)))
end Rl

end Go.Proofs.Ytemckhkicfpgeaa
