/- What the code of causal computes, plainly. -/
import Derived.Test.YtpakplmpihhmbaaW7
set_option linter.unusedVariables false
set_option linter.unusedSimpArgs false
set_option linter.unusedSectionVars false
set_option maxRecDepth 100000
namespace Go.Proofs.Ytpakplmpihhmbaa
open Go.RowKit
/-! Relations of twelve items. -/
namespace Rl
/-- Ways that pass below k. -/
def war (p : Nat → Nat → Bool) : Nat → Nat → Nat → Bool
  | 0, i, j => p i j
  | k + 1, i, j => war p k i j || (war p k i k && war p k k j)
theorem war_self (p : Nat → Nat → Bool) (k i : Nat) : war p (k + 1) i k = war p k i k := by
  simp only [war]
  cases war p k i k <;> simp
theorem war_self' (p : Nat → Nat → Bool) (k j : Nat) : war p (k + 1) k j = war p k k j := by
  simp only [war]
  cases war p k k j <;> simp
theorem war_up {p : Nat → Nat → Bool} {i j : Nat} : ∀ {k m : Nat}, k ≤ m → war p k i j = true → war p m i j = true := by
  intro k m hkm h
  induction m with
  | zero => obtain rfl : k = 0 := by omega
            exact h
  | succ m ih =>
    rcases Nat.lt_or_ge m k with h1 | h1
    · obtain rfl : k = m + 1 := by omega
      exact h
    · simp only [war, ih h1, Bool.true_or]
/-- The closed one is closed: by whatever below. -/
theorem war_trans {p : Nat → Nat → Bool} : ∀ {k i m j : Nat}, m < k → war p k i m = true → war p k m j = true → war p k i j = true := by
  intro k
  induction k with
  | zero => intro i m j h; omega
  | succ k ih =>
    intro i m j hm h1 h2
    rcases Nat.lt_or_ge m k with h | h
    · simp only [war, Bool.or_eq_true, Bool.and_eq_true] at h1 h2 ⊢
      rcases h1 with a | ⟨a, b⟩ <;> rcases h2 with c | ⟨c, d⟩
      · exact .inl (ih h a c)
      · exact .inr ⟨ih h a c, d⟩
      · exact .inr ⟨a, ih h b c⟩
      · exact .inr ⟨a, d⟩
    · obtain rfl : m = k := by omega
      rw [war_self] at h1
      rw [war_self'] at h2
      simp only [war, h1, h2, Bool.and_self, Bool.or_true]
/-- What is closed stays. -/
theorem war_same {p : Nat → Nat → Bool} {n : Nat} (h : ∀ i m j, m < n → p i m = true → p m j = true → p i j = true) : ∀ k, k ≤ n → ∀ i j, war p k i j = p i j := by
  intro k
  induction k with
  | zero => intro _ i j; rfl
  | succ k ih =>
    intro hk i j
    simp only [war, ih (by omega)]
    cases hp : p i j with
    | true => rfl
    | false =>
      cases h1 : p i k with
      | false => rfl
      | true =>
        cases h2 : p k j with
        | false => rfl
        | true => rw [h i k j (by omega) h1 h2] at hp; cases hp
theorem war_in {p : Nat → Nat → Bool} {n : Nat} (h : ∀ i j, p i j = true → i < n ∧ j < n) : ∀ k i j, war p k i j = true → i < n ∧ j < n := by
  intro k
  induction k with
  | zero => exact h
  | succ k ih =>
    intro i j hw
    simp only [war, Bool.or_eq_true, Bool.and_eq_true] at hw
    rcases hw with a | ⟨a, b⟩
    · exact ih i j a
    · exact ⟨(ih i k a).1, (ih k j b).2⟩
/-- What is in any closed one that has it all. -/
theorem war_least {p q : Nat → Nat → Bool} {n : Nat} (h : ∀ i j, p i j = true → q i j = true) (hq : ∀ i m j, m < n → q i m = true → q m j = true → q i j = true) : ∀ k, k ≤ n → ∀ i j, war p k i j = true → q i j = true := by
  intro k
  induction k with
  | zero => intro _; exact h
  | succ k ih =>
    intro hk i j hw
    simp only [war, Bool.or_eq_true, Bool.and_eq_true] at hw
    rcases hw with a | ⟨a, b⟩
    · exact ih (by omega) i j a
    · exact hq i k j (by omega) (ih (by omega) i k a) (ih (by omega) k j b)
/-- The pairs of a relation. -/
def pOf (r : Rel) (i j : Nat) : Bool := decide (i < 12) && (r.after.getD i 0).toNat.testBit j
/-- A relation's rows are numbers of 16 bits. -/
def RelU (r : Rel) : Prop := ∀ i, i < 12 → 0 ≤ r.after.getD i 0 ∧ r.after.getD i 0 < 65536
theorem RelU.row {r : Rel} (h : RelU r) {i : Nat} (hi : i < 12) : Row (r.after.getD i 0) (pOf r i) := (Row.is (h i hi).1 (h i hi).2).cong fun j => by unfold pOf; rw [decide_eq_true hi, Bool.true_and]
/-- A relation of so many items. -/
structure RelV (r : Rel) (n : Nat) : Prop where
  u : RelU r
  is : r.n = n
  le : n ≤ 12
  inn : ∀ i j, pOf r i j = true → i < n ∧ j < n
theorem pOf_lt {r : Rel} {i j : Nat} (h : pOf r i j = true) : i < 12 := by
  simp only [pOf, Bool.and_eq_true, decide_eq_true_eq] at h
  exact h.1
theorem ordCheck_wp {N : Nat} {r : Rel} (hN : 300 < N) (hu : RelU r) : Wp (order_Check N r) fun e => (e = 0 ∧ ∃ n, RelV r n) ∨ (e ≠ 0 ∧ ∀ n, ¬ RelV r n) := by
  unfold order_Check
  refine .cond (fun h => .one (.inr ⟨by simp, fun n hv => ?_⟩)) (fun h => ?_)
  · have h1 := hv.is; have h2 := hv.le
    simp only [Bool.or_eq_true, Bool.and_eq_true, Bool.not_eq_true', Bool.not_eq_false', Bool.or_eq_false_iff, Bool.and_eq_false_imp, decide_eq_true_eq, decide_eq_false_iff_not, beq_iff_eq, not_or, Int.not_lt, Int.not_le, Bool.false_eq_true, not_false_eq_true, not_true_eq_false, Decidable.not_not] at *
    omega
  · simp only [Bool.or_eq_true, Bool.and_eq_true, Bool.not_eq_true', Bool.not_eq_false', Bool.or_eq_false_iff, Bool.and_eq_false_imp, decide_eq_true_eq, decide_eq_false_iff_not, beq_iff_eq, not_or, Int.not_lt, Int.not_le, Bool.false_eq_true, not_false_eq_true, not_true_eq_false, Decidable.not_not] at *
    obtain ⟨n, hn⟩ : ∃ n : Nat, r.n = n := ⟨r.n.toNat, by omega⟩
    refine .elim (P := fun t => match t with | .inl _ => ∀ i, i < 12 → ∀ j, pOf r i j = true → i < n ∧ j < n | .inr e => e ≠ 0 ∧ ∃ i j, i < 12 ∧ pOf r i j = true ∧ ¬ (i < n ∧ j < n))
      (.iter 12 (fun k v => v = (k : Int) ∧ ∀ i, i < k → ∀ j, pOf r i j = true → i < n ∧ j < n) (by omega) ⟨rfl, fun i h => absurd h (Nat.not_lt_zero _)⟩ ?_ ?_) (fun _ _ h => .one (.inl ⟨rfl, n, hu, hn, by omega, fun i j hp => h i (pOf_lt hp) j hp⟩)) (fun e _ h => .one (.inr ⟨h.1, fun m hv => ?_⟩))
    · rintro k v hk ⟨rfl, hr⟩
      simp only [order_Check_L3]
      have hrow := hu.row hk
      have e1 : r.after.getD k 0 = 0 ↔ ∀ j, pOf r k j = false := hrow.empty
      have e2 : shrI .u16 (r.after.getD k 0) (IntKind.u64.wrap r.n) = 0 ↔ ∀ j, pOf r k (n + j) = false := by
        rw [hn, wrapU64 (by omega) (by omega)]
        exact (hrow.shr n).empty
      refine .condT (decide_eq_true (by omega)) (.axN hk (.cond (fun h => .one ⟨by simp, ?_⟩) (fun h => .ck64 (by omega) (.one ⟨by simp, fun i hi j hp => ?_⟩))))
      · rw [hn] at h
        simp only [Bool.or_eq_true, Bool.and_eq_true, decide_eq_true_eq, Bool.not_eq_true', decide_eq_false_iff_not] at h
        rcases h with ⟨h1, h2⟩ | h2
        · rw [e1] at h2
          simp only [Classical.not_forall, Bool.not_eq_false] at h2
          obtain ⟨j, hj⟩ := h2
          exact ⟨k, j, hk, hj, by omega⟩
        · rw [← hn, e2] at h2
          simp only [Classical.not_forall, Bool.not_eq_false] at h2
          obtain ⟨j, hj⟩ := h2
          exact ⟨k, n + j, hk, hj, by omega⟩
      · rcases Nat.lt_or_ge i k with h1 | h1
        · exact hr i h1 j hp
        · obtain rfl : i = k := by omega
          rw [Bool.or_eq_false_iff, Bool.and_eq_false_imp] at h
          have h2 : ∀ j, pOf r i (n + j) = false := e2.1 (by have := h.2; simpa using this)
          have h3 : i < n := by
            rcases Nat.lt_or_ge i n with h4 | h4
            · exact h4
            · have h5 := h.1 (decide_eq_true (by omega))
              have h6 := e1.1 (by simpa using h5) j
              rw [hp] at h6; cases h6
          refine ⟨h3, ?_⟩
          rcases Nat.lt_or_ge j n with h4 | h4
          · exact h4
          · have := h2 (j - n)
            rw [show n + (j - n) = j by omega, hp] at this
            cases this
    · rintro v ⟨rfl, hr⟩
      simp only [order_Check_L3]
      exact .condF (decide_eq_false (by omega)) (.one hr)
    · have h : e ≠ 0 ∧ ∃ i j, i < 12 ∧ pOf r i j = true ∧ ¬ (i < n ∧ j < n) := h
      obtain ⟨_, i, j, hi, hp, hn'⟩ := h
      have h1 := hv.is
      obtain rfl : n = m := by omega
      exact hn' (hv.inn i j hp)
/-- The closed relation's rows. -/
def Closed (r : Rel) (n : Nat) (A : List Int) : Prop := ∀ i, i < 12 → Row (A.getD i 0) (war (pOf r) n i)
theorem ordClosed_wp {N : Nat} {r : Rel} {n : Nat} (hN : 300 < N) (V : RelV r n) : Wp (order_closed N r) (Closed r n) := by
  have hn := V.is
  have hle := V.le
  unfold order_closed
  refine .seq (.iter n (fun k st => st.2 = (k : Int) ∧ ∀ i, i < 12 → Row (st.1.getD i 0) (war (pOf r) k i)) (Q := Closed r n) (by omega) ⟨rfl, fun i hi => V.u.row hi⟩ ?_ ?_) fun A _ hA => .one hA
  · rintro k ⟨A, v⟩ hk ⟨hv, hA⟩
    simp only at hv hA
    subst hv
    simp only [order_closed_L25]
    refine .condT (decide_eq_true (by omega)) ?_
    refine .seq (P := fun A' => ∀ i, i < 12 → Row (A'.getD i 0) (war (pOf r) (k + 1) i)) ?_ fun A' _ hA' => .ck64 (by omega) (.one ⟨by simp, hA'⟩)
    refine .iter n (fun q st => st.2 = (q : Int) ∧ ∀ i, i < 12 → Row (st.1.getD i 0) fun j => if i < q then war (pOf r) (k + 1) i j else war (pOf r) k i j) (by omega) ⟨rfl, fun i hi => (hA i hi).cong fun j => by rw [if_neg (by omega)]⟩ ?_ ?_
    · rintro q ⟨B, v⟩ hq ⟨hv, hB⟩
      simp only at hv hB
      subst hv
      simp only [order_closed_L27]
      have hrk : Row (B.getD k 0) (war (pOf r) k k) := (hB k (by omega)).cong fun j => by
        split
        · exact war_self' _ _ _
        · rfl
      have hrq : Row (B.getD q 0) (war (pOf r) k q) := (hB q (by omega)).cong fun j => by rw [if_neg (by omega)]
      refine .condT (decide_eq_true (by omega)) (.axN (by omega) ?_)
      rw [wrapU64 (z := (k : Int)) (by omega) (by omega), hrq.test k]
      refine .cond (fun hb => .axN (by omega) (.axN (by omega) (.axN (by omega) (.ck64 (by omega) (.one ⟨by simp, fun i hi => ?_⟩))))) (fun hb => .ck64 (by omega) (.one ⟨by simp, fun i hi => ?_⟩))
      · simp only
        rw [setA_get hi]
        simp only [Int.toNat_natCast]
        by_cases h : i = q
        · subst h
          rw [if_pos rfl]
          exact (hrq.or hrk).cong fun j => by rw [if_pos (by omega)]; simp only [war, hb, Bool.true_and]
        · rw [if_neg h]
          exact (hB i hi).cong fun j => by
            by_cases h2 : i < q
            · rw [if_pos h2, if_pos (by omega)]
            · rw [if_neg h2, if_neg (by omega)]
      · refine (hB i hi).cong fun j => ?_
        by_cases h : i = q
        · subst h
          rw [if_neg (by omega), if_pos (by omega)]
          simp only [war, hb, Bool.false_and, Bool.or_false]
        · by_cases h2 : i < q
          · rw [if_pos h2, if_pos (by omega)]
          · rw [if_neg h2, if_neg (by omega)]
    · rintro ⟨B, v⟩ ⟨hv, hB⟩
      simp only at hv hB
      subst hv
      simp only [order_closed_L27]
      refine .condF (decide_eq_false (by omega)) (.one fun i hi => (hB i hi).cong fun j => ?_)
      by_cases h : i < n
      · rw [if_pos h]
      · rw [if_neg h]
        have hw : ∀ m, war (pOf r) m i j = false := fun m => by
          cases hw : war (pOf r) m i j with
          | false => rfl
          | true => exact absurd (war_in V.inn m i j hw).1 h
        rw [hw, hw]
  · rintro ⟨B, v⟩ ⟨hv, hB⟩
    simp only at hv hB
    subst hv
    simp only [order_closed_L25]
    exact .condF (decide_eq_false (by omega)) (.one hB)
/-- What Close tells. -/
def CloseR (r : Rel) (c : Int × List Int × Bool × Int) : Prop :=
  (∃ n, RelV r n ∧ c.1 = r.n ∧ c.2.2.2 = 0 ∧ Closed r n c.2.1 ∧ (c.2.2.1 = true ↔ ∃ i, i < n ∧ war (pOf r) n i i = true)) ∨ ((∀ n, ¬ RelV r n) ∧ c.2.2.2 ≠ 0 ∧ c.1 = 0 ∧ c.2.1 = [] ∧ c.2.2.1 = false)
theorem ordClose_wp {N : Nat} {r : Rel} (hN : 300 < N) (hu : RelU r) : Wp (order_Close N r) (CloseR r) := by
  unfold order_Close
  refine .seq (ordCheck_wp hN hu) fun e _ he => ?_
  rcases he with ⟨rfl, n, V⟩ | ⟨he, hv⟩
  · have hn := V.is
    have hle := V.le
    refine .condF rfl (.seq (ordClosed_wp hN V) fun A _ hA => ?_)
    refine .elim (P := fun t => match t with | .inl _ => ∀ i, i < n → war (pOf r) n i i = false | .inr c => c = (r.n, A, true, 0) ∧ ∃ i, i < n ∧ war (pOf r) n i i = true)
      (.iter n (fun k v => v = (k : Int) ∧ ∀ i, i < k → war (pOf r) n i i = false) (by omega) ⟨rfl, fun i h => absurd h (Nat.not_lt_zero _)⟩ ?_ ?_) (fun _ _ h => .one (.inl ⟨n, V, rfl, rfl, hA, ?_⟩)) (fun c _ h => .one ?_)
    · rintro k v hk ⟨rfl, hr⟩
      simp only [order_Close_L3]
      refine .condT (decide_eq_true (by omega)) (.axN (by omega) ?_)
      rw [wrapU64 (by omega) (by omega), (hA k (by omega)).test k]
      refine .cond (fun h => .one ⟨rfl, k, hk, h⟩) (fun h => .ck64 (by omega) (.one ⟨by simp, fun i hi => ?_⟩))
      rcases Nat.lt_or_ge i k with h1 | h1
      · exact hr i h1
      · obtain rfl : i = k := by omega
        exact h
    · rintro v ⟨rfl, hr⟩
      simp only [order_Close_L3]
      exact .condF (decide_eq_false (by omega)) (.one hr)
    · have h : ∀ i, i < n → war (pOf r) n i i = false := h
      refine ⟨fun h => (by cases h), fun ⟨i, hi, hw⟩ => ?_⟩
      rw [h i hi] at hw
      cases hw
    · have h : c = (r.n, A, true, 0) ∧ ∃ i, i < n ∧ war (pOf r) n i i = true := h
      obtain ⟨rfl, h2⟩ := h
      exact .inl ⟨n, V, rfl, rfl, hA, fun _ => h2, fun _ => rfl⟩
  · exact .condT (by simpa using he) (.one (.inr ⟨hv, he, rfl, rfl, rfl⟩))
theorem eqA_of {n : Nat} {xs ys : List Int} (h : ∀ i, i < n → xs.getD i 0 = ys.getD i 0) : eqA n xs ys = true := by
  unfold eqA
  rw [List.all_eq_true]
  intro i hi
  exact decide_eq_true (h i (List.mem_range.1 hi))
theorem of_eqA {n : Nat} {xs ys : List Int} (h : eqA n xs ys = true) : ∀ i, i < n → xs.getD i 0 = ys.getD i 0 := by
  unfold eqA at h
  rw [List.all_eq_true] at h
  exact fun i hi => of_decide_eq_true (h i (List.mem_range.2 hi))
theorem RelV.uniq {r : Rel} {n m : Nat} (h : RelV r n) (h2 : RelV r m) : n = m := by
  have := h.is; have := h2.is; omega
end Rl
theorem add_bit {t i : Nat} (h : t.testBit i = false) : t ||| 2 ^ i = t + 2 ^ i := by
  have hw : ∃ w, t + 2 ^ i < 2 ^ w := ⟨_, Nat.lt_two_pow_self⟩
  obtain ⟨w, hw⟩ := hw
  have hp : 0 < 2 ^ i := Nat.pow_pos (by decide)
  have hw1 : t < 2 ^ w := by omega
  have hw2 : 2 ^ i < 2 ^ w := by omega
  have h1 : (BitVec.ofNat w t) &&& (BitVec.ofNat w (2 ^ i)) = 0#w := by
    apply BitVec.eq_of_toNat_eq
    rw [BitVec.toNat_and, BitVec.toNat_ofNat, BitVec.toNat_ofNat, Nat.mod_eq_of_lt hw1, Nat.mod_eq_of_lt hw2]
    simp only [BitVec.toNat_ofNat, Nat.zero_mod]
    apply Nat.eq_of_testBit_eq
    intro j
    rw [Nat.testBit_and, Nat.testBit_two_pow, Nat.zero_testBit]
    by_cases e : i = j
    · subst e; simp [h]
    · simp [e]
  have h2 := congrArg BitVec.toNat (BitVec.add_eq_or_of_and_eq_zero _ _ h1)
  rw [BitVec.toNat_add, BitVec.toNat_or, BitVec.toNat_ofNat, BitVec.toNat_ofNat, Nat.mod_eq_of_lt hw1, Nat.mod_eq_of_lt hw2, Nat.mod_eq_of_lt hw] at h2
  exact h2.symm
theorem Row.at0 {x : Int} {p : Nat → Bool} (h : Row x p) {j : Nat} (hj : j < 16) : decide (bandI .u16 x (shlI .u16 1 (IntKind.u64.wrap (j : Int))) = 0) = !p j := by
  rw [wrapU64 (by omega) (by omega)]
  have e := (h.and (Row.one hj)).empty
  cases hp : p j with
  | true => exact decide_eq_false fun h0 => by have := e.1 h0 j; simp [hp] at this
  | false =>
    refine decide_eq_true (e.2 fun i => ?_)
    by_cases hi : j = i
    · subst hi; simp [hp]
    · simp [hi]
theorem Row.set_lt {x : Int} {p : Nat → Bool} (h : Row x p) {j : Nat} (hj : j < 16) (hp : p j = false) : x < borI .u16 x (shlI .u16 1 (IntKind.u64.wrap (j : Int))) := by
  obtain ⟨a, rfl, h1, ha⟩ := h
  have h2 : 2 ^ j < 2 ^ 16 := Nat.pow_lt_pow_right (by decide) hj
  have h3 : 2 ^ 16 = 65536 := by decide
  have h4 : 0 < 2 ^ j := Nat.pow_pos (by decide)
  rw [wrapU64 (by omega) (by omega), shl16 hj, bor16 h1 (by omega), add_bit (by rw [ha]; exact hp)]
  omega
/-- A row of bits, told one by one, onto what is there. -/
theorem mat_on {N n k : Nat} {b0 bf : Nat → Nat → Bool} {body : (List Int × Int) → Option ((List Int × Int) ⊕ List Int)} {A : List Int} (hN : n < N) (hn : n ≤ 12) (hk : k < 12)
    (hA : ∀ i, i < 12 → Row (A.getD i 0) fun j => b0 i j || (decide (i < k) && bf i j)) (hb : ∀ j, bf k j = true → j < n)
    (h : ∀ (B : List Int) (j : Nat), j < n → body (B, (j : Int)) = some (.inl (cond (bf k j) (setA 12 0 B (k : Int) (borI .u16 (B.getD k 0) (shlI .u16 1 (IntKind.u64.wrap (j : Int))))) B, (j : Int) + 1)))
    (he : ∀ B : List Int, body (B, (n : Int)) = some (.inr B)) : Wp (iter body N (A, 0)) fun A' => ∀ i, i < 12 → Row (A'.getD i 0) fun j => b0 i j || (decide (i < k + 1) && bf i j) := by
  refine .iter n (fun q st => st.2 = (q : Int) ∧ ∀ i, i < 12 → Row (st.1.getD i 0) fun j => b0 i j || ((decide (i < k) || (decide (i = k) && decide (j < q))) && bf i j)) hN ⟨rfl, fun i hi => (hA i hi).cong fun j => by simp⟩ ?_ ?_
  · rintro q ⟨B, v⟩ hq ⟨hv, hB⟩
    simp only at hv hB
    subst hv
    refine .of (h B q hq) ⟨by simp, fun i hi => ?_⟩
    have other : ∀ (i j : Nat), ¬ (i = k ∧ j = q ∧ bf k q = true) → (b0 i j || ((decide (i < k) || (decide (i = k) && decide (j < q))) && bf i j)) = (b0 i j || ((decide (i < k) || (decide (i = k) && decide (j < q + 1))) && bf i j)) := by
      intro i j h
      by_cases hi : i = k
      · subst hi
        by_cases hj : j = q
        · subst hj
          have : bf i j = false := by cases hb : bf i j with
            | false => rfl
            | true => exact absurd ⟨rfl, rfl, hb⟩ h
          simp [this]
        · rw [decide_eq_decide.2 (show j < q ↔ j < q + 1 by omega)]
      · simp [hi]
    cases hbq : bf k q with
    | false => exact (hB i hi).cong fun j => other i j fun h => by rw [hbq] at h; simp at h
    | true =>
      simp only [cond_true]
      rw [setA_get hi]
      simp only [Int.toNat_natCast]
      by_cases h : i = k
      · subst h
        rw [if_pos rfl]
        refine ((hB i hi).set (j := q) (by omega)).cong fun j => ?_
        by_cases hj : j = q
        · subst hj; simp [hbq]
        · rw [← other i j (fun h => hj h.2.1), show decide (q = j) = false from decide_eq_false (fun e => hj e.symm), Bool.or_false]
      · rw [if_neg h]
        exact (hB i hi).cong fun j => other i j fun hh => h hh.1
  · rintro ⟨B, v⟩ ⟨hv, hB⟩
    simp only at hv hB
    subst hv
    refine .of (he B) fun i hi => (hB i hi).cong fun j => ?_
    congr 1
    by_cases hbf : bf i j = true
    · rw [hbf, Bool.and_true, Bool.and_true]
      by_cases h : i = k
      · subst h
        simp [hb j hbf]
      · rw [decide_eq_false h, Bool.false_and, Bool.or_false]
        exact decide_eq_decide.2 (by omega)
    · have hbf : bf i j = false := by simpa using hbf
      rw [hbf, Bool.and_false, Bool.and_false]
namespace Ca
open Rl Hs
def prB (c : List Call) (i j : Nat) : Bool := decide (i < c.length ∧ j < c.length ∧ (c.getD i Call.z).who = (c.getD j Call.z).who ∧ (c.getD i Call.z).from_ < (c.getD j Call.z).from_)
def rdB (c : List Call) (i j : Nat) : Bool := decide (i < c.length ∧ j < c.length ∧ (c.getD i Call.z).kind = 1 ∧ (c.getD j Call.z).kind = 2 ∧ (c.getD i Call.z).thing = (c.getD j Call.z).thing ∧ (c.getD i Call.z).arg = (c.getD j Call.z).res)
def caB (c : List Call) (i j : Nat) : Bool := prB c i j || rdB c i j
theorem programs_wp {N : Nat} {c : List Call} (hN : 300 < N) (h12 : c.length ≤ 12) : Wp (causal_programs N c) fun A => ∀ i, i < 12 → Row (A.getD i 0) (prB c i) := by
  unfold causal_programs
  refine .seq (P := fun A => ∀ i, i < 12 → Row (A.getD i 0) (prB c i)) (.iter c.length (fun k st => st.2 = (k : Int) ∧ ∀ i, i < 12 → Row (st.1.getD i 0) fun j => decide (i < k) && prB c i j) (by omega) ⟨rfl, fun i _ => Row.zero.cong fun j => by simp⟩ ?_ ?_) fun A _ hA => .one hA
  · rintro k ⟨A, v⟩ hk ⟨hv, hA⟩
    simp only at hv hA
    subst hv
    simp only [causal_programs_L25]
    refine .condT (decide_eq_true (by omega)) ?_
    refine .seq (P := fun A' => ∀ i, i < 12 → Row (A'.getD i 0) fun j => decide (i < k + 1) && prB c i j) (.bd (.ixV hk ?_)) fun A' _ hA' => .ck64 (by omega) (.one ⟨by simp, hA'⟩)
    refine mat_in (by omega) h12 (by omega) hA (fun j h => (of_decide_eq_true h).2.1) (fun B j hj => ?_) (fun B => ?_)
    · simp only [causal_programs_L27]
      refine Wp.eq (.condT (decide_eq_true (by omega)) (.ix hj ?_))
      have e : ((decide (c[k].who = c[j].who)) && (decide (c[k].from_ < c[j].from_))) = prB c k j := by
        unfold prB
        rw [getD_of hk, getD_of hj, Bool.eq_iff_iff]
        simp only [Bool.and_eq_true, decide_eq_true_eq]
        exact ⟨fun h => ⟨hk, hj, h.1, h.2⟩, fun h => h.2.2⟩
      rw [e]
      exact .cond (fun hb => .axN (by omega) (.axN (by omega) (.ck64 (by omega) (.one (by rw [hb]; rfl))))) (fun hb => .ck64 (by omega) (.one (by rw [hb]; rfl)))
    · simp only [causal_programs_L27]
      exact Wp.eq (.condF (by simp) (.one rfl))
  · rintro ⟨B, v⟩ ⟨hv, hB⟩
    simp only at hv hB
    subst hv
    simp only [causal_programs_L25]
    refine .condF (by simp) (.one fun i hi => (hB i hi).cong fun j => ?_)
    by_cases h : i < c.length
    · simp [h]
    · have : prB c i j = false := decide_eq_false (fun hh => h hh.1)
      simp [this]
theorem caB_in {c : List Call} (i j : Nat) (h : caB c i j = true) : i < c.length ∧ j < c.length := by
  unfold caB at h
  rw [Bool.or_eq_true] at h
  rcases h with h | h
  · have := of_decide_eq_true h; exact ⟨this.1, this.2.1⟩
  · have := of_decide_eq_true h; exact ⟨this.1, this.2.1⟩
theorem causes_wp {N : Nat} {c : List Call} (hN : 300 < N) (h12 : c.length ≤ 12) : Wp (causal_causes N c) fun r => r.1 = (c.length : Int) ∧ (∀ i, i < 12 → Row (r.2.1.getD i 0) (war (caB c) c.length i)) ∧ (r.2.2 = true ↔ ∃ i, i < c.length ∧ war (caB c) c.length i i = true) := by
  unfold causal_causes
  refine .seq (programs_wp hN h12) fun A0 _ hA0 => ?_
  refine .seq (P := fun A => ∀ i, i < 12 → Row (A.getD i 0) (caB c i)) (.iter c.length (fun k st => st.2 = (k : Int) ∧ ∀ i, i < 12 → Row (st.1.getD i 0) fun j => prB c i j || (decide (i < k) && rdB c i j)) (by omega) ⟨rfl, fun i hi => (hA0 i hi).cong fun j => by simp⟩ ?_ ?_) fun A _ hA => ?_
  · rintro k ⟨A, v⟩ hk ⟨hv, hA⟩
    simp only at hv hA
    subst hv
    simp only [causal_causes_L25]
    refine .condT (decide_eq_true (by omega)) ?_
    refine .seq (P := fun A' => ∀ i, i < 12 → Row (A'.getD i 0) fun j => prB c i j || (decide (i < k + 1) && rdB c i j)) (.bd (.ixV hk ?_)) fun A' _ hA' => .ck64 (by omega) (.one ⟨by simp, hA'⟩)
    refine mat_on (by omega) h12 (by omega) hA (fun j h => (of_decide_eq_true h).2.1) (fun B j hj => ?_) (fun B => ?_)
    · simp only [causal_causes_L27]
      refine Wp.eq (.condT (decide_eq_true (by omega)) (.ix hj ?_))
      have e : ((((decide (c[k].kind = 1)) && (decide (c[j].kind = 2))) && (decide (c[k].thing = c[j].thing))) && (decide (c[k].arg = c[j].res))) = rdB c k j := by
        unfold rdB
        rw [getD_of hk, getD_of hj, Bool.eq_iff_iff]
        simp only [Bool.and_eq_true, decide_eq_true_eq]
        exact ⟨fun h => ⟨hk, hj, h.1.1.1, h.1.1.2, h.1.2, h.2⟩, fun h => ⟨⟨⟨h.2.2.1, h.2.2.2.1⟩, h.2.2.2.2.1⟩, h.2.2.2.2.2⟩⟩
      rw [e]
      exact .cond (fun hb => .axN (by omega) (.axN (by omega) (.ck64 (by omega) (.one (by rw [hb]; rfl))))) (fun hb => .ck64 (by omega) (.one (by rw [hb]; rfl)))
    · simp only [causal_causes_L27]
      exact Wp.eq (.condF (by simp) (.one rfl))
  · rintro ⟨B, v⟩ ⟨hv, hB⟩
    simp only at hv hB
    subst hv
    simp only [causal_causes_L25]
    refine .condF (by simp) (.one fun i hi => (hB i hi).cong fun j => ?_)
    unfold caB
    by_cases h : i < c.length
    · simp [h]
    · have : rdB c i j = false := decide_eq_false (fun hh => h hh.1)
      simp [this]
  · have hu : RelU ⟨(c.length : Int), A⟩ := fun i hi => (hA i hi).rng
    have e : pOf ⟨(c.length : Int), A⟩ = caB c := by
      funext i j
      by_cases hi : i < 12
      · exact (hu.row hi).uniq (hA i hi) j
      · cases h1 : caB c i j with
        | false =>
          cases h2 : pOf ⟨(c.length : Int), A⟩ i j with
          | false => rfl
          | true => exact absurd (pOf_lt h2) hi
        | true => have := (caB_in i j h1).1; omega
    have V : RelV ⟨(c.length : Int), A⟩ c.length := ⟨hu, rfl, h12, fun i j h => caB_in i j (by rw [← e]; exact h)⟩
    refine .seq (ordClose_wp hN hu) fun r _ hr => .one ?_
    rcases hr with ⟨n, V', h1, h2, h3, h4⟩ | ⟨h1, _⟩
    · obtain rfl := V'.uniq V
      have h3 : ∀ i, i < 12 → Row (r.2.1.getD i 0) (war (pOf ⟨(c.length : Int), A⟩) c.length i) := h3
      rw [e] at h3 h4
      exact ⟨h1, h3, h4⟩
    · exact (h1 _ V).elim
/-! Views -/
def stV (x : Call) (v : Nat → Int) : Nat → Int := fun s => if x.kind = 1 ∧ s = x.thing.toNat then x.arg else v s
def vO (vs : List Int) : Nat → Int := fun t => if t < 4 then vs.getD t 0 else 0
/-- Those of nd can be placed, p being there. -/
inductive Fd (c : List Call) (q : Nat → Nat → Bool) (nd : Nat → Bool) : (Nat → Bool) → (Nat → Int) → Prop
  | done {p : Nat → Bool} {v : Nat → Int} : (∀ i, p i = nd i) → Fd c q nd p v
  | step {p : Nat → Bool} {v : Nat → Int} (i : Nat) : i < c.length → nd i = true → p i = false → (∀ j, q i j = true → p j = false) → ((c.getD i Call.z).kind = 2 → v (c.getD i Call.z).thing.toNat = (c.getD i Call.z).res) →
      Fd c q nd (fun j => p j || decide (i = j)) (stV (c.getD i Call.z) v) → Fd c q nd p v
theorem find_wp {N : Nat} (hN : 300 < N) {c : List Call} (hc : c.length ≤ 7) (hth : ∀ m, m < c.length → 0 ≤ (c.getD m Call.z).thing ∧ (c.getD m Call.z).thing < 4) {r : Rel} {q : Nat → Nat → Bool} (hq : ∀ i, i < 12 → Row (r.after.getD i 0) (q i)) {need : Int} {nd : Nat → Bool} (hn : Row need nd) :
    ∀ (M : Nat) (placed : Int) (p : Nat → Bool) (vals : List Int), Row placed p → 65536 - placed.toNat < M → Wp (causal_viewer_find N M c r need placed vals) fun t => (t.2.2 = true ∧ Fd c q nd p (vO vals)) ∨ (t.2.2 = false ∧ ¬ Fd c q nd p (vO vals) ∧ t.1 = placed ∧ vO t.2.1 = vO vals) := by
  intro M
  induction M with
  | zero => intro _ _ _ _ h; omega
  | succ M ih =>
    intro placed p vals hp hM
    show Wp (causal_viewer_find_B N (causal_viewer_find N M) c r need placed vals) _
    unfold causal_viewer_find_B
    refine .cond (fun h => .one (.inl ⟨rfl, .done fun i => ?_⟩)) fun h => ?_
    · obtain rfl : placed = need := of_decide_eq_true h
      exact hp.uniq hn i
    · have hne : placed ≠ need := of_decide_eq_false h
      refine .elim (P := fun t => match t with
        | .inl s => s.1 = placed ∧ vO s.2 = vO vals ∧ ∀ i, i < c.length → ¬ (nd i = true ∧ p i = false ∧ (∀ j, q i j = true → p j = false) ∧ ((c.getD i Call.z).kind = 2 → vO vals (c.getD i Call.z).thing.toNat = (c.getD i Call.z).res) ∧ Fd c q nd (fun j => p j || decide (i = j)) (stV (c.getD i Call.z) (vO vals)))
        | .inr t => t.2.2 = true ∧ Fd c q nd p (vO vals))
        (.iter c.length (fun k s => s.2.2 = (k : Int) ∧ s.1 = placed ∧ vO s.2.1 = vO vals ∧ ∀ i, i < k → ¬ (nd i = true ∧ p i = false ∧ (∀ j, q i j = true → p j = false) ∧ ((c.getD i Call.z).kind = 2 → vO vals (c.getD i Call.z).thing.toNat = (c.getD i Call.z).res) ∧ Fd c q nd (fun j => p j || decide (i = j)) (stV (c.getD i Call.z) (vO vals)))) (by omega) ⟨rfl, rfl, rfl, fun i h => absurd h (Nat.not_lt_zero _)⟩ ?_ ?_) (fun s _ h => .one (.inr ⟨rfl, ?_, h.1, h.2.1⟩)) (fun t _ h => .one (.inl h))
      · rintro k ⟨pl, vs, v⟩ hk ⟨hv, hpl, hvs, hno⟩
        simp only at hv hpl hvs hno
        subst hv
        subst hpl
        simp only [causal_viewer_find_L7]
        have ht := hth k hk
        refine .condT (decide_eq_true (by omega)) (.ixD Call.z (Int.natCast_nonneg k) (by omega) ?_)
        simp only [Int.toNat_natCast]
        rw [hn.at0 (by omega), hp.at0 (by omega)]
        have hrow := hq k (by omega)
        have hand := (hrow.and hp).empty
        have hval : vs.getD (c.getD k Call.z).thing.toNat 0 = vO vals (c.getD k Call.z).thing.toNat := by
          rw [← hvs]; unfold vO; rw [if_pos (by omega)]
        refine .gd (r.after.getD k 0) (fun _ => ax_nat' (by omega)) fun x17 h17 => .gd (vs.getD (c.getD k Call.z).thing.toNat 0) (fun _ => ax_int ht.1 ht.2) fun x18 h18 => .cond (fun hs => .ck64 (by omega) (.one ⟨by simp, rfl, hvs, fun i hi => ?_⟩)) fun hg => ?_
        · rcases Nat.lt_or_ge i k with h1 | h1
          · exact hno i h1
          · obtain rfl : i = k := by omega
            rintro ⟨a, b, cc, d, _⟩
            have e17 := h17 (by simp [a, b])
            have e0 : bandI .u16 (r.after.getD i 0) pl = 0 := hand.2 fun j => by
              cases hqj : q i j with
              | false => rfl
              | true => simp [cc j hqj]
            rw [e17, e0] at hs h18
            simp only [a, b, Bool.not_true, Bool.not_false, Bool.or_false, Bool.false_or, decide_true, Bool.and_eq_true, decide_eq_true_eq, Bool.not_eq_true', decide_eq_false_iff_not] at hs
            have e18 := h18 (by rw [a, b, decide_eq_true hs.1]; rfl)
            rw [e18, hval] at hs
            exact hs.2 (d hs.1)
        · simp only [Bool.or_eq_false_iff, Bool.not_eq_false', Bool.and_eq_false_iff, decide_eq_false_iff_not, decide_eq_true_eq, Bool.not_eq_true', Bool.not_eq_false] at hg
          obtain ⟨⟨⟨a, b⟩, cc⟩, d⟩ := hg
          have b : p k = false := by simpa using b
          have e17 := h17 (by simp [a, b])
          rw [e17] at cc
          have hc3 := hand.1 cc
          have cok : ∀ j, q k j = true → p j = false := fun j hj => by have := hc3 j; simpa [hj] using this
          have rok : (c.getD k Call.z).kind = 2 → vO vals (c.getD k Call.z).thing.toNat = (c.getD k Call.z).res := fun h2 => by
            have e18 := h18 (by rw [e17, cc, a, b, decide_eq_true h2]; rfl)
            rcases d with d | d
            · exact absurd h2 d
            · rw [← hval, ← e18]; exact d
          refine .ax ht.1 ht.2 ?_
          refine .seq (P := fun vs2 => vO vs2 = stV (c.getD k Call.z) (vO vals)) (.cond (fun h1 => .ax ht.1 ht.2 (.one ?_)) (fun h1 => .one ?_)) fun vs2 _ hvs2 => ?_
          · funext s
            have h1 := of_decide_eq_true h1
            unfold stV
            rw [← hvs]
            unfold vO
            by_cases hs : s < 4
            · rw [if_pos hs, if_pos hs, setA_get hs]
              by_cases e : s = (c.getD k Call.z).thing.toNat
              · rw [if_pos e, if_pos ⟨h1, e⟩]
              · rw [if_neg e, if_neg fun h => e h.2]
            · rw [if_neg hs, if_neg hs, if_neg (by omega)]
          · have h1 := of_decide_eq_false h1
            rw [hvs]
            funext s
            unfold stV
            rw [if_neg fun h => h1 h.1]
          · have hlt := hp.set_lt (j := k) (by omega) b
            have hrng := (hp.set (j := k) (by omega)).rng
            have hrng0 := hp.rng
            refine .seq (ih _ _ vs2 (hp.set (j := k) (by omega)) (by omega)) fun t _ ht2 => ?_
            rw [hvs2] at ht2
            refine .cond (fun hb => .one ⟨rfl, ?_⟩) fun hb => ?_
            · rcases ht2 with ⟨_, hf⟩ | ⟨hb2, _⟩
              · exact .step k hk a b cok rok hf
              · rw [hb] at hb2; cases hb2
            · rcases ht2 with ⟨hb2, _⟩ | ⟨_, hnf, e1, e2⟩
              · rw [hb] at hb2; cases hb2
              · refine .ax ht.1 ht.2 (.ck64 (by omega) (.one ⟨by simp, ?_, ?_, fun i hi => ?_⟩))
                · simp only
                  rw [e1]
                  have hone : Row (shlI .u16 1 (IntKind.u64.wrap (k : Int))) fun i => decide (k = i) := by rw [wrapU64 (by omega) (by omega)]; exact Row.one (by omega)
                  refine ((hp.set (j := k) (by omega)).clr hone).eq (hp.cong fun j => ?_)
                  by_cases e : k = j
                  · subst e; simp [b]
                  · simp [e]
                · simp only
                  funext s
                  by_cases hs : s < 4
                  · unfold vO
                    rw [if_pos hs, if_pos hs, setA_get hs]
                    by_cases e : s = (c.getD k Call.z).thing.toNat
                    · rw [if_pos e, e, hval]
                      unfold vO
                      rw [if_pos (by omega)]
                    · rw [if_neg e]
                      have h4 : (if s < 4 then t.2.1.getD s 0 else 0) = (if (c.getD k Call.z).kind = 1 ∧ s = (c.getD k Call.z).thing.toNat then (c.getD k Call.z).arg else (if s < 4 then vals.getD s 0 else 0)) := congrFun e2 s
                      rw [if_pos hs, if_neg (fun h => e h.2), if_pos hs] at h4
                      exact h4
                  · unfold vO; rw [if_neg hs, if_neg hs]
                · rcases Nat.lt_or_ge i k with h1 | h1
                  · exact hno i h1
                  · obtain rfl : i = k := by omega
                    rintro ⟨_, _, _, _, h5⟩
                    exact hnf h5
      · rintro ⟨pl, vs, v⟩ ⟨hv, hpl, hvs, hno⟩
        simp only at hv hpl hvs hno
        subst hv
        simp only [causal_viewer_find_L7]
        exact .condF (decide_eq_false (by omega)) (.one ⟨hpl, hvs, hno⟩)
      · intro hf
        cases hf with
        | done hd => exact hne (hp.eq (hn.cong fun i => (hd i).symm))
        | step i h1 h2 h3 h4 h5 h6 => exact h.2.2 i h1 ⟨h2, h3, h4, h5, h6⟩
def ndO (c : List Call) (w : Nat) (j : Nat) : Bool := decide (j < c.length) && (decide ((c.getD j Call.z).kind = 1) || decide ((c.getD j Call.z).who = (w : Int)))
def Vw (c : List Call) (q : Nat → Nat → Bool) : Prop := ∀ w, w < 8 → Fd c q (ndO c w) (fun _ => false) (fun _ => 0)
theorem need_wp {N : Nat} (hN : 300 < N) {c : List Call} (hc : c.length ≤ 7) (w : Nat) : Wp (iter (causal_views_L51 N c (w : Int)) N (0, 0)) fun x => Row x (ndO c w) := by
  refine .iter c.length (fun k s => s.2 = (k : Int) ∧ Row s.1 fun j => decide (j < k) && ndO c w j) (by omega) ⟨rfl, Row.zero.cong fun j => by simp⟩ ?_ ?_
  · rintro k ⟨x, v⟩ hk ⟨hv, hx⟩
    simp only at hv hx
    subst hv
    simp only [causal_views_L51]
    refine .condT (decide_eq_true (by omega)) (.ixD Call.z (Int.natCast_nonneg k) (by omega) ?_)
    simp only [Int.toNat_natCast]
    have e : ((decide ((c.getD k Call.z).kind = 1)) || (decide ((c.getD k Call.z).who = (w : Int)))) = ndO c w k := by unfold ndO; rw [decide_eq_true hk, Bool.true_and]
    rw [e]
    refine .cond (fun h => .ck64 (by omega) (.one ⟨by simp, ?_⟩)) (fun h => .ck64 (by omega) (.one ⟨by simp, ?_⟩))
    · refine (hx.set (j := k) (by omega)).cong fun j => ?_
      by_cases e : k = j
      · subst e; simp [h]
      · rw [decide_eq_false e, Bool.or_false, decide_eq_decide.2 (show j < k ↔ j < k + 1 by omega)]
    · refine hx.cong fun j => ?_
      by_cases e : j = k
      · subst e; simp [h]
      · rw [decide_eq_decide.2 (show j < k ↔ j < k + 1 by omega)]
  · rintro ⟨x, v⟩ ⟨hv, hx⟩
    simp only at hv hx
    subst hv
    simp only [causal_views_L51]
    refine .condF (decide_eq_false (by omega)) (.one (hx.cong fun j => ?_))
    by_cases h : j < c.length
    · simp [h]
    · unfold ndO; simp [h]
theorem views_wp {N : Nat} (hN : 70000 < N) {c : List Call} (hc : c.length ≤ 7) (hth : ∀ m, m < c.length → 0 ≤ (c.getD m Call.z).thing ∧ (c.getD m Call.z).thing < 4) {r : Rel} {q : Nat → Nat → Bool} (hq : ∀ i, i < 12 → Row (r.after.getD i 0) (q i)) :
    Wp (causal_views N c r) fun b => b = true ↔ Vw c q := by
  unfold causal_views
  have v0 : vO [] = fun _ => 0 := by funext s; unfold vO; simp
  refine .elim (P := fun t => match t with | .inl _ => Vw c q | .inr b => b = false ∧ ¬ Vw c q) (.iter 8 (fun k v => v = (k : Int) ∧ ∀ w, w < k → Fd c q (ndO c w) (fun _ => false) (fun _ => 0)) (by omega) ⟨rfl, fun i h => absurd h (Nat.not_lt_zero _)⟩ ?_ ?_) (fun _ _ h => .one ⟨fun _ => h, fun _ => rfl⟩) (fun b _ h => .one ⟨fun hb => ?_, fun hv => (h.2 hv).elim⟩)
  · rintro k v hk ⟨rfl, hr⟩
    simp only [causal_views_L47]
    refine .condT (decide_eq_true (by omega)) ?_
    refine .elim (P := fun t => match t with | .inl _ => Fd c q (ndO c k) (fun _ => false) (fun _ => 0) | .inr b => b = false ∧ ¬ Fd c q (ndO c k) (fun _ => false) (fun _ => 0))
      (.seq (need_wp (by omega) hc k) fun need _ hneed => .seq (find_wp (by omega) hc hth hq hneed N 0 (fun _ => false) [] Row.zero (by omega)) fun t _ ht => ?_) (fun _ _ h => .ck64 (by omega) (.one ⟨by simp, fun w hw => ?_⟩)) (fun b _ h => .one ⟨h.1, fun hv => h.2 (hv k hk)⟩)
    · rw [v0] at ht
      refine .cond (fun h => .one ⟨rfl, ?_⟩) fun h => .one ?_
      · rcases ht with ⟨ht, _⟩ | ⟨_, hn, _⟩
        · rw [ht] at h; cases h
        · exact hn
      · rcases ht with ⟨_, hf⟩ | ⟨ht, _⟩
        · exact hf
        · rw [ht] at h; cases h
    · rcases Nat.lt_or_ge w k with h1 | h1
      · exact hr w h1
      · obtain rfl : w = k := by omega
        exact h
  · rintro v ⟨rfl, hr⟩
    simp only [causal_views_L47]
    exact .condF (decide_eq_false (by omega)) (.one hr)
  · rw [h.1] at hb; cases hb
/-! Which histories are looked at -/
structure Few (types : List Int) (c : List Call) : Prop where
  ty : ∀ j, j < types.length → types.getD j 0 = 1
  to : ∀ m, m < c.length → (c.getD m Call.z).to_ ≠ -1
  wr : ∀ i j, j < i → i < c.length → ¬ ((c.getD i Call.z).kind = 1 ∧ (c.getD j Call.z).kind = 1 ∧ (c.getD i Call.z).thing = (c.getD j Call.z).thing ∧ (c.getD i Call.z).arg = (c.getD j Call.z).arg)
  le : c.length ≤ 7
theorem check_wp {N : Nat} {types : List Int} {l : List Event} (hN : 300 < N) : Wp (causal_check N types l) fun r => (r.2 = 0 ∧ history_Calls N types l = some (r.1, 0, 0) ∧ Few types r.1) ∨ (r.2 ≠ 0 ∧ ∀ c, history_Calls N types l = some (c, 0, 0) → ¬ Few types c) := by
  unfold causal_check
  refine .seq (calls_rn (types := types) (l := l) hN) fun h hh hc => ?_
  obtain ⟨c, z, e⟩ := h
  simp only at hc
  refine .cond (fun he => .one (.inr ⟨by simpa using he, fun c' hc' => ?_⟩)) fun he => ?_
  · rw [hh] at hc'
    cases hc'
    simp at he
  · have he : e = 0 := by simpa using he
    subst he
    obtain ⟨_, htl, hl, rfl, op, R⟩ := hc rfl
    have hcl := R.wf.len
    have same : ∀ c', history_Calls N types l = some (c', 0, 0) → c' = c := fun c' h => by rw [hh] at h; cases h; rfl
    refine .elim (P := fun t => match t with | .inl _ => ∀ j, j < types.length → types.getD j 0 = 1 | .inr r => r.2 ≠ 0 ∧ ∃ j, j < types.length ∧ types.getD j 0 ≠ 1) (.iter types.length (fun k v => v = (k : Int) ∧ ∀ j, j < k → types.getD j 0 = 1) (by omega) ⟨rfl, fun i h => absurd h (Nat.not_lt_zero _)⟩ ?_ ?_) (fun _ _ hty => ?_) (fun r _ h => .one (.inr ⟨h.1, fun c' _ F => ?_⟩))
    · rintro k v hk ⟨rfl, hr⟩
      simp only [causal_check_L17]
      refine .condT (decide_eq_true (by omega)) (.ixD 0 (Int.natCast_nonneg k) (by omega) ?_)
      simp only [Int.toNat_natCast]
      refine .cond (fun h => .one ⟨by simp, k, hk, by simpa using h⟩) (fun h => .ck64 (by omega) (.one ⟨by simp, fun j hj => ?_⟩))
      rcases Nat.lt_or_ge j k with h1 | h1
      · exact hr j h1
      · obtain rfl : j = k := by omega
        simpa using h
    · rintro v ⟨rfl, hr⟩
      simp only [causal_check_L17]
      exact .condF (decide_eq_false (by omega)) (.one hr)
    · have hty : ∀ j, j < types.length → types.getD j 0 = 1 := hty
      refine .elim (P := fun t => match t with | .inl _ => ∀ i, i < c.length → (c.getD i Call.z).to_ ≠ -1 ∧ ∀ j, j < i → ¬ ((c.getD i Call.z).kind = 1 ∧ (c.getD j Call.z).kind = 1 ∧ (c.getD i Call.z).thing = (c.getD j Call.z).thing ∧ (c.getD i Call.z).arg = (c.getD j Call.z).arg) | .inr r => r.2 ≠ 0 ∧ ¬ Few types c)
        (.iter c.length (fun k v => v = (k : Int) ∧ ∀ i, i < k → (c.getD i Call.z).to_ ≠ -1 ∧ ∀ j, j < i → ¬ ((c.getD i Call.z).kind = 1 ∧ (c.getD j Call.z).kind = 1 ∧ (c.getD i Call.z).thing = (c.getD j Call.z).thing ∧ (c.getD i Call.z).arg = (c.getD j Call.z).arg)) (by omega) ⟨rfl, fun i h => absurd h (Nat.not_lt_zero _)⟩ ?_ ?_) (fun _ _ hall => ?_) (fun r _ h => .one (.inr ⟨h.1, fun c' hc' F => h.2 (same c' hc' ▸ F)⟩))
      · rintro k v hk ⟨rfl, hr⟩
        simp only [causal_check_L29]
        refine .condT (decide_eq_true (by omega)) ?_
        refine .elim (P := fun t => match t with | .inl _ => (c.getD k Call.z).to_ ≠ -1 ∧ ∀ j, j < k → ¬ ((c.getD k Call.z).kind = 1 ∧ (c.getD j Call.z).kind = 1 ∧ (c.getD k Call.z).thing = (c.getD j Call.z).thing ∧ (c.getD k Call.z).arg = (c.getD j Call.z).arg) | .inr r => r.2 ≠ 0 ∧ ¬ Few types c)
          (.ixD Call.z (Int.natCast_nonneg k) (by omega) ?_) (fun _ _ h => .ck64 (by omega) (.one ⟨by simp, fun i hi => ?_⟩)) (fun r _ h => .one h)
        · simp only [Int.toNat_natCast]
          refine .cond (fun h => .one ⟨by simp, fun F => F.to k hk (by simpa using h)⟩) fun h => .ck (show slB _ _ _ = true by simp [slB]; omega) ?_
          have hto : (c.getD k Call.z).to_ ≠ -1 := by simpa using h
          refine .iter k (fun q v => v = (q : Int) ∧ ∀ j, j < q → ¬ ((c.getD k Call.z).kind = 1 ∧ (c.getD j Call.z).kind = 1 ∧ (c.getD k Call.z).thing = (c.getD j Call.z).thing ∧ (c.getD k Call.z).arg = (c.getD j Call.z).arg)) (by omega) ⟨rfl, fun i h => absurd h (Nat.not_lt_zero _)⟩ ?_ ?_
          · rintro q v hqk ⟨rfl, hr2⟩
            simp only [causal_check_L31]
            have htk : (c.take k).length = k := by rw [List.length_take]; omega
            have hg : (c.take k).getD q Call.z = c.getD q Call.z := by rw [List.getD_eq_getElem?_getD, List.getD_eq_getElem?_getD, List.getElem?_take, if_pos hqk]
            refine .condT (decide_eq_true (by simp only [Int.toNat_natCast]; omega)) (.ixD Call.z (Int.natCast_nonneg q) (by simp only [Int.toNat_natCast]; omega) ?_)
            simp only [Int.toNat_natCast, hg]
            refine .cond (fun h => .one ⟨by simp, fun F => ?_⟩) fun h => .ck64 (by omega) (.one ⟨by simp, fun j hj => ?_⟩)
            · simp only [Bool.and_eq_true, decide_eq_true_eq] at h
              exact F.wr k q hqk hk ⟨h.1.1.1, h.1.1.2, h.1.2, h.2⟩
            · rcases Nat.lt_or_ge j q with h1 | h1
              · exact hr2 j h1
              · obtain rfl : j = q := by omega
                rintro ⟨a1, a2, a3, a4⟩
                rw [decide_eq_true a1, decide_eq_true a2, decide_eq_true a3, decide_eq_true a4] at h
                cases h
          · rintro v ⟨rfl, hr2⟩
            simp only [causal_check_L31]
            exact .condF (decide_eq_false (by rw [List.length_take]; simp only [Int.toNat_natCast]; omega)) (.one ⟨hto, hr2⟩)
        · rcases Nat.lt_or_ge i k with h1 | h1
          · exact hr i h1
          · obtain rfl : i = k := by omega
            exact h
      · rintro v ⟨rfl, hr⟩
        simp only [causal_check_L29]
        exact .condF (decide_eq_false (by omega)) (.one hr)
      · have hall : ∀ i, i < c.length → (c.getD i Call.z).to_ ≠ -1 ∧ ∀ j, j < i → ¬ ((c.getD i Call.z).kind = 1 ∧ (c.getD j Call.z).kind = 1 ∧ (c.getD i Call.z).thing = (c.getD j Call.z).thing ∧ (c.getD i Call.z).arg = (c.getD j Call.z).arg) := hall
        have h7 : decide (7 < (c.length : Int)) = false → c.length ≤ 7 := fun h => by
          have h := of_decide_eq_false h
          omega
        refine .cond (fun h => .one (.inr ⟨by simp, fun c' hc' F => ?_⟩)) fun h => .one (.inl ⟨rfl, hh, (⟨hty, fun m hm => (hall m hm).1, fun i j hj hi => (hall i hi).2 j hj, h7 h⟩ : Few types c)⟩)
        have h : 7 < (c.length : Int) := of_decide_eq_true h
        have := same c' hc'
        subst this
        have := F.le
        omega
    · have h : r.2 ≠ 0 ∧ ∃ j, j < types.length ∧ types.getD j 0 ≠ 1 := h
      obtain ⟨_, j, hj, hne⟩ := h
      exact hne (F.ty j hj)
def Acy (c : List Call) : Prop := ¬ ∃ i, i < c.length ∧ war (caB c) c.length i i = true
theorem Check_wp {N : Nat} {types : List Int} {l : List Event} (hN : 70000 < N) : Wp (causal_Check N types l) fun r =>
    (r.2.2 = 0 ∧ ∃ c, history_Calls N types l = some (c, 0, 0) ∧ Few types c ∧ (r.1 = true ↔ Acy c ∧ Vw c (war (caB c) c.length)) ∧ (r.2.1 = true ↔ Vw c (prB c))) ∨ (r.2.2 ≠ 0 ∧ ∀ c, history_Calls N types l = some (c, 0, 0) → ¬ Few types c) := by
  unfold causal_Check
  refine .seq (check_wp (types := types) (l := l) (by omega)) fun r _ hr => ?_
  obtain ⟨c, e⟩ := r
  simp only at hr
  rcases hr with ⟨rfl, hc, F⟩ | ⟨he, hno⟩
  · refine .condF rfl ?_
    have hle := F.le
    have hth : ∀ m, m < c.length → 0 ≤ (c.getD m Call.z).thing ∧ (c.getD m Call.z).thing < 4 := fun m hm => by
      obtain ⟨r, hr, h2⟩ := calls_rn (types := types) (l := l) (N := N) (by omega)
      rw [hc] at hr
      cases hr
      obtain ⟨_, htl, _, _, op, R⟩ := h2 rfl
      have R : Rn N types l l.length c op := R
      have := (R.wf.one m hm).thing
      omega
    refine .seq (causes_wp (c := c) (by omega) (by omega)) fun r _ hr => ?_
    obtain ⟨n, A, b⟩ := r
    simp only at hr
    obtain ⟨rfl, hA, hb⟩ := hr
    simp only
    cases b with
    | true =>
      refine .gd true (fun h => by cases h) fun x _ => .seq (programs_wp (c := c) (by omega) (by omega)) fun P _ hP => .seq (views_wp hN hle hth (r := ⟨(c.length : Int), P⟩) hP) fun v _ hv => .one (.inl ⟨rfl, c, hc, F, ⟨fun h => by simp at h, fun h => (h.1 (hb.1 rfl)).elim⟩, hv⟩)
    | false =>
      obtain ⟨b1, h1, h2⟩ := views_wp hN hle hth (r := ⟨(c.length : Int), A⟩) hA
      refine .gd b1 (fun _ => h1) fun x hx => .seq (programs_wp (c := c) (by omega) (by omega)) fun P _ hP => .seq (views_wp hN hle hth (r := ⟨(c.length : Int), P⟩) hP) fun v _ hv => .one (.inl ⟨rfl, c, hc, F, ?_, hv⟩)
      rw [hx rfl]
      simp only [Bool.not_false, Bool.true_and]
      exact ⟨fun h => ⟨fun h0 => (by have := hb.2 h0; cases this), h2.1 h⟩, fun h => h2.2 h.2⟩
  · exact .condT (by simpa using he) (.one (.inr ⟨he, hno⟩))
end Ca

end Go.Proofs.Ytpakplmpihhmbaa
