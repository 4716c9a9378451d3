/- Bits; closed relations; orders of all. -/
import Derived.Test.YtemckhkicfpgeaaO1
set_option linter.unusedVariables false
set_option linter.unusedSimpArgs false
set_option linter.unusedSectionVars false
set_option maxRecDepth 100000
namespace Go.Proofs.Ytemckhkicfpgeaa
open Go.RowKit
/-! Bits of small numbers. -/
theorem add_bit {t i : Nat} (h : t.testBit i = false) : t ||| 2 ^ i = t + 2 ^ i := by
  have hw : ∃ w, t + 2 ^ i < 2 ^ w := ⟨_, Nat.lt_two_pow_self⟩
  obtain ⟨w, hw⟩ := hw
  have hp : 0 < 2 ^ i := Nat.pow_pos (by decide)
  have hw1 : t < 2 ^ w := by omega
  have hw2 : 2 ^ i < 2 ^ w := by omega
  have h1 : (BitVec.ofNat w t) &&& (BitVec.ofNat w (2 ^ i)) = 0#w := by
    apply BitVec.eq_of_toNat_eq
    rw [BitVec.toNat_and, BitVec.toNat_ofNat, BitVec.toNat_ofNat, Nat.mod_eq_of_lt hw1, Nat.mod_eq_of_lt hw2]
    simp only [BitVec.toNat_ofNat, Nat.zero_mod]
    apply Nat.eq_of_testBit_eq
    intro j
    rw [Nat.testBit_and, Nat.testBit_two_pow, Nat.zero_testBit]
    by_cases e : i = j
    · subst e; simp [h]
    · simp [e]
  have h2 := congrArg BitVec.toNat (BitVec.add_eq_or_of_and_eq_zero _ _ h1)
  rw [BitVec.toNat_add, BitVec.toNat_or, BitVec.toNat_ofNat, BitVec.toNat_ofNat, Nat.mod_eq_of_lt hw1, Nat.mod_eq_of_lt hw2, Nat.mod_eq_of_lt hw] at h2
  exact h2.symm
theorem sub_bit {s i : Nat} (h : s.testBit i = true) : (s ^^^ 2 ^ i) + 2 ^ i = s ∧ (s ^^^ 2 ^ i).testBit i = false := by
  have h0 : (s ^^^ 2 ^ i).testBit i = false := by rw [Nat.testBit_xor, h, Nat.testBit_two_pow]; simp
  refine ⟨?_, h0⟩
  rw [← add_bit h0]
  apply Nat.eq_of_testBit_eq
  intro j
  rw [Nat.testBit_or, Nat.testBit_xor, Nat.testBit_two_pow]
  by_cases e : i = j
  · subst e; simp [h]
  · simp [e]
theorem xor_bit (s i j : Nat) : (s ^^^ 2 ^ i).testBit j = (s.testBit j ^^ decide (i = j)) := by rw [Nat.testBit_xor, Nat.testBit_two_pow]
theorem wrapI64 {z : Int} (h0 : 0 ≤ z) (h : z < 9223372036854775808) : IntKind.i64.wrap z = z := by
  have e : z % 2 ^ 64 = z := Int.emod_eq_of_lt h0 (by show z < 2 ^ 64; omega)
  unfold IntKind.wrap
  simp only [IntKind.bits, IntKind.signed, Bool.true_and, e]
  exact if_neg (by simp; omega)
theorem bvI64 {n : Nat} (h : n < 9223372036854775808) : (BitVec.ofInt 64 (n : Int)).toNat = n := by
  rw [BitVec.toNat_ofInt]
  show ((n : Int) % 18446744073709551616).toNat = n
  omega
theorem band64 {a b : Nat} (ha : a < 9223372036854775808) (hb : b < 9223372036854775808) : bandI .i64 (a : Int) (b : Int) = ((a &&& b : Nat) : Int) := by
  unfold bandI
  have e : (BitVec.ofInt IntKind.i64.bits (a : Int) &&& BitVec.ofInt IntKind.i64.bits (b : Int)).toNat = a &&& b := by
    rw [BitVec.toNat_and]
    show (BitVec.ofInt 64 (a : Int)).toNat &&& (BitVec.ofInt 64 (b : Int)).toNat = _
    rw [bvI64 ha, bvI64 hb]
  rw [e]
  have : a &&& b ≤ a := Nat.and_le_left
  exact wrapI64 (by omega) (by omega)
theorem bor64 {a b : Nat} (ha : a < 4611686018427387904) (hb : b < 4611686018427387904) : borI .i64 (a : Int) (b : Int) = ((a ||| b : Nat) : Int) := by
  unfold borI
  have e : (BitVec.ofInt IntKind.i64.bits (a : Int) ||| BitVec.ofInt IntKind.i64.bits (b : Int)).toNat = a ||| b := by
    rw [BitVec.toNat_or]
    show (BitVec.ofInt 64 (a : Int)).toNat ||| (BitVec.ofInt 64 (b : Int)).toNat = _
    rw [bvI64 (by omega), bvI64 (by omega)]
  rw [e]
  have := Nat.or_lt_two_pow (n := 62) ha hb
  exact wrapI64 (by omega) (by have h62 : 2 ^ 62 = 4611686018427387904 := by decide
                               omega)
theorem shr64 {a j : Nat} (hj : j ≤ 63) : shrI .i64 (a : Int) (j : Int) = ((a >>> j : Nat) : Int) := by
  unfold shrI
  simp only [Int.toNat_natCast]
  show (a : Int).fdiv (2 ^ (min j 64)) = _
  rw [Nat.min_eq_left (by omega), Nat.shiftRight_eq_div_pow, Int.fdiv_eq_ediv_of_nonneg _ (Int.le_of_lt (Int.pow_pos (by decide)))]
  simp
theorem shl64 {j : Nat} (h : j < 62) : shlI .i64 1 (j : Int) = ((2 ^ j : Nat) : Int) := by
  unfold shlI
  simp only [Int.toNat_natCast, Int.one_mul]
  show IntKind.i64.wrap ((2 : Int) ^ (min j 64)) = _
  have hp : 2 ^ j < 2 ^ 62 := Nat.pow_lt_pow_right (by decide) h
  have h62 : 2 ^ 62 = 4611686018427387904 := by decide
  rw [Nat.min_eq_left (by omega), show ((2 : Int) ^ j) = ((2 ^ j : Nat) : Int) by simp]
  have hp2 : ((2 ^ j : Nat) : Int) < ((2 ^ 62 : Nat) : Int) := Int.ofNat_lt.2 hp
  rw [h62] at hp2
  exact wrapI64 (Int.natCast_nonneg _) (Int.lt_trans hp2 (by decide))
theorem test64 {a j : Nat} (ha : a < 9223372036854775808) (hj : j ≤ 63) : decide (bandI .i64 (shrI .i64 (a : Int) (IntKind.u64.wrap (j : Int))) 1 = 0) = !a.testBit j := by
  have hle : a >>> j ≤ a := by rw [Nat.shiftRight_eq_div_pow]; exact Nat.div_le_self _ _
  rw [wrapU64 (by omega) (by omega), shr64 hj, show (1 : Int) = ((1 : Nat) : Int) from rfl, band64 (by omega) (by decide)]
  rw [Nat.testBit]
  simp only [Nat.and_comm 1]
  have hx : (a >>> j) &&& 1 = (a >>> j) % 2 := Nat.and_one_is_mod _
  rw [hx]
  rcases Nat.mod_two_eq_zero_or_one (a >>> j) with h | h <;> rw [h] <;> rfl
theorem Row.clr {x y : Int} {p q : Nat → Bool} (h : Row x p) (h2 : Row y q) : Row (bclrI .u16 x y) fun j => p j && !q j := by
  obtain ⟨a, rfl, h1, ha⟩ := h
  obtain ⟨b, rfl, h2, hb⟩ := h2
  have e : (BitVec.ofInt IntKind.u16.bits (a : Int) &&& ~~~(BitVec.ofInt IntKind.u16.bits (b : Int))) = (BitVec.ofNat 16 a &&& ~~~(BitVec.ofNat 16 b)) := by
    show (BitVec.ofInt 16 (a : Int) &&& ~~~(BitVec.ofInt 16 (b : Int))) = _
    rw [BitVec.ofInt_natCast, BitVec.ofInt_natCast]
  refine ⟨(BitVec.ofNat 16 a &&& ~~~(BitVec.ofNat 16 b)).toNat, ?_, BitVec.isLt _, fun j => ?_⟩
  · unfold bclrI
    rw [e]
    exact wrapU16 (BitVec.isLt _)
  · rw [BitVec.toNat_and, Nat.testBit_and, BitVec.toNat_ofNat, Nat.mod_eq_of_lt h1, ha]
    by_cases hj : j < 16
    · congr 1
      show (~~~(BitVec.ofNat 16 b)).getLsbD j = _
      rw [BitVec.getLsbD_not, BitVec.getLsbD_ofNat, hb]
      simp [hj]
    · have : p j = false := by rw [← ha]; exact Nat.testBit_lt_two_pow (Nat.lt_of_lt_of_le h1 (Nat.pow_le_pow_right (n := 2) (by decide) (i := 16) (by omega)))
      simp [this]
namespace Rl
/-- A relation that is q, of n items. -/
structure CR (c : Rel) (n : Nat) (q : Nat → Nat → Bool) : Prop where
  is : c.n = n
  le : n ≤ 12
  row : ∀ i, i < 12 → Row (c.after.getD i 0) (q i)
  inn : ∀ i j, q i j = true → i < n ∧ j < n
/-- The closed one. -/
abbrev cl (r : Rel) (n : Nat) : Nat → Nat → Bool := war (pOf r) n
theorem CR.of {r : Rel} {n : Nat} {A : List Int} (V : RelV r n) (h : Closed r n A) : CR ⟨n, A⟩ n (cl r n) := ⟨rfl, V.le, h, war_in V.inn n⟩
theorem cl_tr {r : Rel} {n : Nat} (V : RelV r n) {i m j : Nat} (h1 : cl r n i m = true) (h2 : cl r n m j = true) : cl r n i j = true := war_trans (war_in V.inn n i m h1).2 h1 h2
/-- What Close and the like tell. -/
theorem acyclic {N : Nat} {r : Rel} (hN : 300 < N) (hu : RelU r) :
    (∃ n A, RelV r n ∧ Closed r n A ∧ (∀ i, cl r n i i = false) ∧ order_Close N r = some ((n : Int), A, false, 0) ∧ order_acyclic N r = some ((n : Int), A, 0)) ∨
    (∃ n A, RelV r n ∧ Closed r n A ∧ (∃ i, i < n ∧ cl r n i i = true) ∧ order_Close N r = some ((n : Int), A, true, 0) ∧ order_acyclic N r = some (0, [], 4)) ∨
    (∃ e, e ≠ 0 ∧ (∀ n, ¬ RelV r n) ∧ order_Close N r = some (0, [], false, e) ∧ order_acyclic N r = some (0, [], e)) := by
  obtain ⟨⟨a, A, b, e⟩, hc, h⟩ := ordClose_wp (r := r) hN hu
  rcases h with ⟨n, V, h1, h2, h3, h4⟩ | ⟨h1, h2, h3, h4, h5⟩
  · simp only at h1 h2 h3 h4
    have hn := V.is
    subst h2
    rw [hn] at h1
    subst h1
    cases b with
    | true =>
      refine .inr (.inl ⟨n, A, V, h3, h4.1 rfl, hc, ?_⟩)
      unfold order_acyclic
      rw [bd_of hc]; rfl
    | false =>
      refine .inl ⟨n, A, V, h3, fun i => ?_, hc, ?_⟩
      · cases hw : cl r n i i with
        | false => rfl
        | true => exact absurd (h4.2 ⟨i, (war_in V.inn n i i hw).1, hw⟩) (by decide)
      · unfold order_acyclic
        rw [bd_of hc]; rfl
  · simp only at h2 h3 h4 h5
    subst h3; subst h4; subst h5
    refine .inr (.inr ⟨e, h2, h1, hc, ?_⟩)
    unfold order_acyclic
    rw [bd_of hc]
    exact cond_of (by simpa using h2)
theorem has_ok {N : Nat} {c : Rel} {n : Nat} {q : Nat → Nat → Bool} (C : CR c n q) {i j : Nat} (hi : i < 12) (hj : j < 64) : order_has N c (i : Int) (j : Int) = some (q i j) := by
  unfold order_has
  rw [bd_of (ax_nat' hi), wrapU64 (by omega) (by omega), (C.row i hi).test]
theorem before_wp {N : Nat} (hN : 300 < N) {c : Rel} {n : Nat} {q : Nat → Nat → Bool} (C : CR c n q) {j : Nat} (hj : j < 64) : Wp (order_before N c (j : Int)) fun x => Row x fun i => q i j := by
  have hn := C.is; have hle := C.le
  unfold order_before
  refine .seq (.iter n (fun k st => st.2 = (k : Int) ∧ Row st.1 fun i => decide (i < k) && q i j) (Q := fun x => Row x fun i => q i j) (by omega) ⟨rfl, Row.zero.cong fun i => by simp⟩ ?_ ?_) fun A _ hA => .one hA
  · rintro k ⟨x, v⟩ hk ⟨hv, hx⟩
    simp only at hv hx
    subst hv
    simp only [order_before_L3]
    refine .condT (decide_eq_true (by omega)) (.bdO (has_ok C (by omega) hj) (.cond (fun h => .ck64 (by omega) (.one ⟨by simp, ?_⟩)) fun h => .ck64 (by omega) (.one ⟨by simp, ?_⟩)))
    · refine (hx.set (j := k) (by omega)).cong fun i => ?_
      by_cases e : k = i
      · subst e; simp [h]
      · simp only [e, decide_false, Bool.or_false]
        congr 1
        exact decide_eq_decide.2 (by omega)
    · refine hx.cong fun i => ?_
      by_cases e : k = i
      · subst e; simp [h]
      · congr 1
        exact decide_eq_decide.2 (by omega)
  · rintro ⟨x, v⟩ ⟨hv, hx⟩
    simp only at hv hx
    subst hv
    simp only [order_before_L3]
    refine .condF (decide_eq_false (by omega)) (.one (hx.cong fun i => ?_))
    cases h : q i j with
    | false => simp
    | true => simp [(C.inn i j h).1]
theorem before_ok {N : Nat} (hN : 300 < N) {c : Rel} {n : Nat} {q : Nat → Nat → Bool} (C : CR c n q) {j : Nat} (hj : j < 64) : ∃ x, order_before N c (j : Int) = some x ∧ Row x fun i => q i j := before_wp hN C hj
/-! Sums -/
def sumN (f : Nat → Nat) : Nat → Nat
  | 0 => 0
  | n + 1 => sumN f n + f n
theorem sumN_cong {f g : Nat → Nat} : ∀ {n : Nat}, (∀ i, i < n → f i = g i) → sumN f n = sumN g n
  | 0, _ => rfl
  | n + 1, h => by unfold sumN; rw [sumN_cong fun i hi => h i (by omega), h n (by omega)]
theorem sumN_le {f : Nat → Nat} {b : Nat} : ∀ {n : Nat}, (∀ i, i < n → f i ≤ b) → sumN f n ≤ n * b
  | 0, _ => by simp [sumN]
  | n + 1, h => by
    unfold sumN
    have h1 := sumN_le (n := n) fun i hi => h i (by omega)
    have h2 := h n (by omega)
    rw [Nat.add_mul]; omega
theorem sumN_mono {f g : Nat → Nat} : ∀ {n : Nat}, (∀ i, i < n → f i ≤ g i) → sumN f n ≤ sumN g n
  | 0, _ => Nat.le_refl _
  | n + 1, h => by
    unfold sumN
    have h1 := sumN_mono (n := n) fun i hi => h i (by omega)
    have h2 := h n (by omega)
    omega
theorem sumN_one {f g : Nat → Nat} {k d : Nat} : ∀ {n : Nat}, k < n → (∀ i, i < n → i ≠ k → f i = g i) → f k = g k + d → sumN f n = sumN g n + d
  | 0, h, _, _ => absurd h (Nat.not_lt_zero _)
  | n + 1, h, h1, h2 => by
    unfold sumN
    by_cases e : k = n
    · subst e
      rw [sumN_cong fun i hi => h1 i (by omega) (by omega), h2]; omega
    · rw [sumN_one (by omega) (fun i hi => h1 i (by omega)) h2, h1 n (by omega) fun e' => e e'.symm]; omega
/-! Orders of all -/
/-- May item i come, when those of s are there? -/
def pre (n : Nat) (q : Nat → Nat → Bool) (s i : Nat) : Bool := (List.range n).all fun y => !(q y i) || s.testBit y
theorem pre_iff {n : Nat} {q : Nat → Nat → Bool} (hq : ∀ i j, q i j = true → i < n ∧ j < n) {s i : Nat} : pre n q s i = true ↔ ∀ y, q y i = true → s.testBit y = true := by
  unfold pre
  rw [List.all_eq_true]
  constructor
  · intro h y hy
    have := h y (List.mem_range.2 (hq y i hy).1)
    simpa [hy] using this
  · intro h y _
    cases hy : q y i with
    | false => rfl
    | true => simp [h y hy]
/-- The orders of those in s, the last one ahead. -/
def enum (n : Nat) (q : Nat → Nat → Bool) (s : Nat) : List (List Nat) :=
  if s = 0 then [[]] else (List.range n).flatMap fun i => if h : s.testBit i = true then (if pre n q (s ^^^ 2 ^ i) i = true then (enum n q (s ^^^ 2 ^ i)).map (i :: ·) else []) else []
termination_by s
decreasing_by
  have h1 := (sub_bit h).1
  have h2 : 0 < 2 ^ i := Nat.pow_pos (by decide)
  omega
def fN (n : Nat) (q : Nat → Nat → Bool) (s : Nat) : Nat := (enum n q s).length
theorem len_flat {n : Nat} {g : Nat → List (List Nat)} : ((List.range n).flatMap g).length = sumN (fun i => (g i).length) n := by
  induction n with
  | zero => rfl
  | succ n ih => rw [List.range_succ, List.flatMap_append, List.length_append, ih]; simp [sumN]
/-- One step back. -/
def bk (n : Nat) (q : Nat → Nat → Bool) (s k i : Nat) : Nat := if s.testBit i = true ∧ pre n q (s ^^^ 2 ^ i) i = true ∧ s ^^^ 2 ^ i < k then fN n q (s ^^^ 2 ^ i) else 0
theorem fN_zero (n : Nat) (q : Nat → Nat → Bool) : fN n q 0 = 1 := by unfold fN enum; rfl
theorem fN_step {n : Nat} {q : Nat → Nat → Bool} {s k : Nat} (hs : s ≠ 0) (hk : s ≤ k) : fN n q s = sumN (bk n q s k) n := by
  unfold fN
  rw [enum, if_neg hs, len_flat]
  refine sumN_cong fun i hi => ?_
  unfold bk
  by_cases h : s.testBit i = true
  · have h1 := (sub_bit h).1
    have h2 : 0 < 2 ^ i := Nat.pow_pos (by decide)
    rw [dif_pos h]
    by_cases h3 : pre n q (s ^^^ 2 ^ i) i = true
    · rw [if_pos h3, if_pos ⟨h, h3, by omega⟩]; simp [fN]
    · rw [if_neg h3, if_neg fun h' => h3 h'.2.1]; rfl
  · rw [dif_neg h, if_neg fun h' => h h'.1]; rfl
end Rl

end Go.Proofs.Ytemckhkicfpgeaa
