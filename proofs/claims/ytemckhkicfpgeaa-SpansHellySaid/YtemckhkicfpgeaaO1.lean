/- Relations, plainly: Check and the closed one. -/
import Derived.Test.YtemckhkicfpgeaaR1
import Derived.Test.YtemckhkicfpgeaaBit
set_option linter.unusedVariables false
set_option linter.unusedSimpArgs false
set_option linter.unusedSectionVars false
set_option maxRecDepth 100000
namespace Go.Proofs.Ytemckhkicfpgeaa
open Go.RowKit
/-! Relations of twelve items. -/
namespace Rl
/-- Ways that pass below k. -/
def war (p : Nat → Nat → Bool) : Nat → Nat → Nat → Bool
  | 0, i, j => p i j
  | k + 1, i, j => war p k i j || (war p k i k && war p k k j)
theorem war_self (p : Nat → Nat → Bool) (k i : Nat) : war p (k + 1) i k = war p k i k := by
  simp only [war]
  cases war p k i k <;> simp
theorem war_self' (p : Nat → Nat → Bool) (k j : Nat) : war p (k + 1) k j = war p k k j := by
  simp only [war]
  cases war p k k j <;> simp
theorem war_up {p : Nat → Nat → Bool} {i j : Nat} : ∀ {k m : Nat}, k ≤ m → war p k i j = true → war p m i j = true := by
  intro k m hkm h
  induction m with
  | zero => obtain rfl : k = 0 := by omega
            exact h
  | succ m ih =>
    rcases Nat.lt_or_ge m k with h1 | h1
    · obtain rfl : k = m + 1 := by omega
      exact h
    · simp only [war, ih h1, Bool.true_or]
/-- The closed one is closed: by whatever below. -/
theorem war_trans {p : Nat → Nat → Bool} : ∀ {k i m j : Nat}, m < k → war p k i m = true → war p k m j = true → war p k i j = true := by
  intro k
  induction k with
  | zero => intro i m j h; omega
  | succ k ih =>
    intro i m j hm h1 h2
    rcases Nat.lt_or_ge m k with h | h
    · simp only [war, Bool.or_eq_true, Bool.and_eq_true] at h1 h2 ⊢
      rcases h1 with a | ⟨a, b⟩ <;> rcases h2 with c | ⟨c, d⟩
      · exact .inl (ih h a c)
      · exact .inr ⟨ih h a c, d⟩
      · exact .inr ⟨a, ih h b c⟩
      · exact .inr ⟨a, d⟩
    · obtain rfl : m = k := by omega
      rw [war_self] at h1
      rw [war_self'] at h2
      simp only [war, h1, h2, Bool.and_self, Bool.or_true]
/-- What is closed stays. -/
theorem war_same {p : Nat → Nat → Bool} {n : Nat} (h : ∀ i m j, m < n → p i m = true → p m j = true → p i j = true) : ∀ k, k ≤ n → ∀ i j, war p k i j = p i j := by
  intro k
  induction k with
  | zero => intro _ i j; rfl
  | succ k ih =>
    intro hk i j
    simp only [war, ih (by omega)]
    cases hp : p i j with
    | true => rfl
    | false =>
      cases h1 : p i k with
      | false => rfl
      | true =>
        cases h2 : p k j with
        | false => rfl
        | true => rw [h i k j (by omega) h1 h2] at hp; cases hp
theorem war_in {p : Nat → Nat → Bool} {n : Nat} (h : ∀ i j, p i j = true → i < n ∧ j < n) : ∀ k i j, war p k i j = true → i < n ∧ j < n := by
  intro k
  induction k with
  | zero => exact h
  | succ k ih =>
    intro i j hw
    simp only [war, Bool.or_eq_true, Bool.and_eq_true] at hw
    rcases hw with a | ⟨a, b⟩
    · exact ih i j a
    · exact ⟨(ih i k a).1, (ih k j b).2⟩
/-- What is in any closed one that has it all. -/
theorem war_least {p q : Nat → Nat → Bool} {n : Nat} (h : ∀ i j, p i j = true → q i j = true) (hq : ∀ i m j, m < n → q i m = true → q m j = true → q i j = true) : ∀ k, k ≤ n → ∀ i j, war p k i j = true → q i j = true := by
  intro k
  induction k with
  | zero => intro _; exact h
  | succ k ih =>
    intro hk i j hw
    simp only [war, Bool.or_eq_true, Bool.and_eq_true] at hw
    rcases hw with a | ⟨a, b⟩
    · exact ih (by omega) i j a
    · exact hq i k j (by omega) (ih (by omega) i k a) (ih (by omega) k j b)
/-- The pairs of a relation. -/
def pOf (r : Rel) (i j : Nat) : Bool := decide (i < 12) && (r.after.getD i 0).toNat.testBit j
/-- A relation's rows are numbers of 16 bits. -/
def RelU (r : Rel) : Prop := ∀ i, i < 12 → 0 ≤ r.after.getD i 0 ∧ r.after.getD i 0 < 65536
theorem RelU.row {r : Rel} (h : RelU r) {i : Nat} (hi : i < 12) : Row (r.after.getD i 0) (pOf r i) := (Row.is (h i hi).1 (h i hi).2).cong fun j => by unfold pOf; rw [decide_eq_true hi, Bool.true_and]
/-- A relation of so many items. -/
structure RelV (r : Rel) (n : Nat) : Prop where
  u : RelU r
  is : r.n = n
  le : n ≤ 12
  inn : ∀ i j, pOf r i j = true → i < n ∧ j < n
theorem pOf_lt {r : Rel} {i j : Nat} (h : pOf r i j = true) : i < 12 := by
  simp only [pOf, Bool.and_eq_true, decide_eq_true_eq] at h
  exact h.1
theorem ordCheck_wp {N : Nat} {r : Rel} (hN : 300 < N) (hu : RelU r) : Wp (order_Check N r) fun e => (e = 0 ∧ ∃ n, RelV r n) ∨ (e ≠ 0 ∧ ∀ n, ¬ RelV r n) := by
  unfold order_Check
  refine .cond (fun h => .one (.inr ⟨by simp, fun n hv => ?_⟩)) (fun h => ?_)
  · have h1 := hv.is; have h2 := hv.le
    simp only [Bool.or_eq_true, Bool.and_eq_true, Bool.not_eq_true', Bool.not_eq_false', Bool.or_eq_false_iff, Bool.and_eq_false_imp, decide_eq_true_eq, decide_eq_false_iff_not, beq_iff_eq, not_or, Int.not_lt, Int.not_le, Bool.false_eq_true, not_false_eq_true, not_true_eq_false, Decidable.not_not] at *
    omega
  · simp only [Bool.or_eq_true, Bool.and_eq_true, Bool.not_eq_true', Bool.not_eq_false', Bool.or_eq_false_iff, Bool.and_eq_false_imp, decide_eq_true_eq, decide_eq_false_iff_not, beq_iff_eq, not_or, Int.not_lt, Int.not_le, Bool.false_eq_true, not_false_eq_true, not_true_eq_false, Decidable.not_not] at *
    obtain ⟨n, hn⟩ : ∃ n : Nat, r.n = n := ⟨r.n.toNat, by omega⟩
    refine .elim (P := fun t => match t with | .inl _ => ∀ i, i < 12 → ∀ j, pOf r i j = true → i < n ∧ j < n | .inr e => e ≠ 0 ∧ ∃ i j, i < 12 ∧ pOf r i j = true ∧ ¬ (i < n ∧ j < n))
      (.iter 12 (fun k v => v = (k : Int) ∧ ∀ i, i < k → ∀ j, pOf r i j = true → i < n ∧ j < n) (by omega) ⟨rfl, fun i h => absurd h (Nat.not_lt_zero _)⟩ ?_ ?_) (fun _ _ h => .one (.inl ⟨rfl, n, hu, hn, by omega, fun i j hp => h i (pOf_lt hp) j hp⟩)) (fun e _ h => .one (.inr ⟨h.1, fun m hv => ?_⟩))
    · rintro k v hk ⟨rfl, hr⟩
      simp only [order_Check_L3]
      have hrow := hu.row hk
      have e1 : r.after.getD k 0 = 0 ↔ ∀ j, pOf r k j = false := hrow.empty
      have e2 : shrI .u16 (r.after.getD k 0) (IntKind.u64.wrap r.n) = 0 ↔ ∀ j, pOf r k (n + j) = false := by
        rw [hn, wrapU64 (by omega) (by omega)]
        exact (hrow.shr n).empty
      refine .condT (decide_eq_true (by omega)) (.axN hk (.cond (fun h => .one ⟨by simp, ?_⟩) (fun h => .ck64 (by omega) (.one ⟨by simp, fun i hi j hp => ?_⟩))))
      · rw [hn] at h
        simp only [Bool.or_eq_true, Bool.and_eq_true, decide_eq_true_eq, Bool.not_eq_true', decide_eq_false_iff_not] at h
        rcases h with ⟨h1, h2⟩ | h2
        · rw [e1] at h2
          simp only [Classical.not_forall, Bool.not_eq_false] at h2
          obtain ⟨j, hj⟩ := h2
          exact ⟨k, j, hk, hj, by omega⟩
        · rw [← hn, e2] at h2
          simp only [Classical.not_forall, Bool.not_eq_false] at h2
          obtain ⟨j, hj⟩ := h2
          exact ⟨k, n + j, hk, hj, by omega⟩
      · rcases Nat.lt_or_ge i k with h1 | h1
        · exact hr i h1 j hp
        · obtain rfl : i = k := by omega
          rw [Bool.or_eq_false_iff, Bool.and_eq_false_imp] at h
          have h2 : ∀ j, pOf r i (n + j) = false := e2.1 (by have := h.2; simpa using this)
          have h3 : i < n := by
            rcases Nat.lt_or_ge i n with h4 | h4
            · exact h4
            · have h5 := h.1 (decide_eq_true (by omega))
              have h6 := e1.1 (by simpa using h5) j
              rw [hp] at h6; cases h6
          refine ⟨h3, ?_⟩
          rcases Nat.lt_or_ge j n with h4 | h4
          · exact h4
          · have := h2 (j - n)
            rw [show n + (j - n) = j by omega, hp] at this
            cases this
    · rintro v ⟨rfl, hr⟩
      simp only [order_Check_L3]
      exact .condF (decide_eq_false (by omega)) (.one hr)
    · have h : e ≠ 0 ∧ ∃ i j, i < 12 ∧ pOf r i j = true ∧ ¬ (i < n ∧ j < n) := h
      obtain ⟨_, i, j, hi, hp, hn'⟩ := h
      have h1 := hv.is
      obtain rfl : n = m := by omega
      exact hn' (hv.inn i j hp)
/-- The closed relation's rows. -/
def Closed (r : Rel) (n : Nat) (A : List Int) : Prop := ∀ i, i < 12 → Row (A.getD i 0) (war (pOf r) n i)
theorem ordClosed_wp {N : Nat} {r : Rel} {n : Nat} (hN : 300 < N) (V : RelV r n) : Wp (order_closed N r) (Closed r n) := by
  have hn := V.is
  have hle := V.le
  unfold order_closed
  refine .seq (.iter n (fun k st => st.2 = (k : Int) ∧ ∀ i, i < 12 → Row (st.1.getD i 0) (war (pOf r) k i)) (Q := Closed r n) (by omega) ⟨rfl, fun i hi => V.u.row hi⟩ ?_ ?_) fun A _ hA => .one hA
  · rintro k ⟨A, v⟩ hk ⟨hv, hA⟩
    simp only at hv hA
    subst hv
    simp only [order_closed_L25]
    refine .condT (decide_eq_true (by omega)) ?_
    refine .seq (P := fun A' => ∀ i, i < 12 → Row (A'.getD i 0) (war (pOf r) (k + 1) i)) ?_ fun A' _ hA' => .ck64 (by omega) (.one ⟨by simp, hA'⟩)
    refine .iter n (fun q st => st.2 = (q : Int) ∧ ∀ i, i < 12 → Row (st.1.getD i 0) fun j => if i < q then war (pOf r) (k + 1) i j else war (pOf r) k i j) (by omega) ⟨rfl, fun i hi => (hA i hi).cong fun j => by rw [if_neg (by omega)]⟩ ?_ ?_
    · rintro q ⟨B, v⟩ hq ⟨hv, hB⟩
      simp only at hv hB
      subst hv
      simp only [order_closed_L27]
      have hrk : Row (B.getD k 0) (war (pOf r) k k) := (hB k (by omega)).cong fun j => by
        split
        · exact war_self' _ _ _
        · rfl
      have hrq : Row (B.getD q 0) (war (pOf r) k q) := (hB q (by omega)).cong fun j => by rw [if_neg (by omega)]
      refine .condT (decide_eq_true (by omega)) (.axN (by omega) ?_)
      rw [wrapU64 (z := (k : Int)) (by omega) (by omega), hrq.test k]
      refine .cond (fun hb => .axN (by omega) (.axN (by omega) (.axN (by omega) (.ck64 (by omega) (.one ⟨by simp, fun i hi => ?_⟩))))) (fun hb => .ck64 (by omega) (.one ⟨by simp, fun i hi => ?_⟩))
      · simp only
        rw [setA_get hi]
        simp only [Int.toNat_natCast]
        by_cases h : i = q
        · subst h
          rw [if_pos rfl]
          exact (hrq.or hrk).cong fun j => by rw [if_pos (by omega)]; simp only [war, hb, Bool.true_and]
        · rw [if_neg h]
          exact (hB i hi).cong fun j => by
            by_cases h2 : i < q
            · rw [if_pos h2, if_pos (by omega)]
            · rw [if_neg h2, if_neg (by omega)]
      · refine (hB i hi).cong fun j => ?_
        by_cases h : i = q
        · subst h
          rw [if_neg (by omega), if_pos (by omega)]
          simp only [war, hb, Bool.false_and, Bool.or_false]
        · by_cases h2 : i < q
          · rw [if_pos h2, if_pos (by omega)]
          · rw [if_neg h2, if_neg (by omega)]
    · rintro ⟨B, v⟩ ⟨hv, hB⟩
      simp only at hv hB
      subst hv
      simp only [order_closed_L27]
      refine .condF (decide_eq_false (by omega)) (.one fun i hi => (hB i hi).cong fun j => ?_)
      by_cases h : i < n
      · rw [if_pos h]
      · rw [if_neg h]
        have hw : ∀ m, war (pOf r) m i j = false := fun m => by
          cases hw : war (pOf r) m i j with
          | false => rfl
          | true => exact absurd (war_in V.inn m i j hw).1 h
        rw [hw, hw]
  · rintro ⟨B, v⟩ ⟨hv, hB⟩
    simp only at hv hB
    subst hv
    simp only [order_closed_L25]
    exact .condF (decide_eq_false (by omega)) (.one hB)
/-- What Close tells. -/
def CloseR (r : Rel) (c : Int × List Int × Bool × Int) : Prop :=
  (∃ n, RelV r n ∧ c.1 = r.n ∧ c.2.2.2 = 0 ∧ Closed r n c.2.1 ∧ (c.2.2.1 = true ↔ ∃ i, i < n ∧ war (pOf r) n i i = true)) ∨ ((∀ n, ¬ RelV r n) ∧ c.2.2.2 ≠ 0 ∧ c.1 = 0 ∧ c.2.1 = [] ∧ c.2.2.1 = false)
theorem ordClose_wp {N : Nat} {r : Rel} (hN : 300 < N) (hu : RelU r) : Wp (order_Close N r) (CloseR r) := by
  unfold order_Close
  refine .seq (ordCheck_wp hN hu) fun e _ he => ?_
  rcases he with ⟨rfl, n, V⟩ | ⟨he, hv⟩
  · have hn := V.is
    have hle := V.le
    refine .condF rfl (.seq (ordClosed_wp hN V) fun A _ hA => ?_)
    refine .elim (P := fun t => match t with | .inl _ => ∀ i, i < n → war (pOf r) n i i = false | .inr c => c = (r.n, A, true, 0) ∧ ∃ i, i < n ∧ war (pOf r) n i i = true)
      (.iter n (fun k v => v = (k : Int) ∧ ∀ i, i < k → war (pOf r) n i i = false) (by omega) ⟨rfl, fun i h => absurd h (Nat.not_lt_zero _)⟩ ?_ ?_) (fun _ _ h => .one (.inl ⟨n, V, rfl, rfl, hA, ?_⟩)) (fun c _ h => .one ?_)
    · rintro k v hk ⟨rfl, hr⟩
      simp only [order_Close_L3]
      refine .condT (decide_eq_true (by omega)) (.axN (by omega) ?_)
      rw [wrapU64 (by omega) (by omega), (hA k (by omega)).test k]
      refine .cond (fun h => .one ⟨rfl, k, hk, h⟩) (fun h => .ck64 (by omega) (.one ⟨by simp, fun i hi => ?_⟩))
      rcases Nat.lt_or_ge i k with h1 | h1
      · exact hr i h1
      · obtain rfl : i = k := by omega
        exact h
    · rintro v ⟨rfl, hr⟩
      simp only [order_Close_L3]
      exact .condF (decide_eq_false (by omega)) (.one hr)
    · have h : ∀ i, i < n → war (pOf r) n i i = false := h
      refine ⟨fun h => (by cases h), fun ⟨i, hi, hw⟩ => ?_⟩
      rw [h i hi] at hw
      cases hw
    · have h : c = (r.n, A, true, 0) ∧ ∃ i, i < n ∧ war (pOf r) n i i = true := h
      obtain ⟨rfl, h2⟩ := h
      exact .inl ⟨n, V, rfl, rfl, hA, fun _ => h2, fun _ => rfl⟩
  · exact .condT (by simpa using he) (.one (.inr ⟨hv, he, rfl, rfl, rfl⟩))
theorem eqA_of {n : Nat} {xs ys : List Int} (h : ∀ i, i < n → xs.getD i 0 = ys.getD i 0) : eqA n xs ys = true := by
  unfold eqA
  rw [List.all_eq_true]
  intro i hi
  exact decide_eq_true (h i (List.mem_range.1 hi))
theorem of_eqA {n : Nat} {xs ys : List Int} (h : eqA n xs ys = true) : ∀ i, i < n → xs.getD i 0 = ys.getD i 0 := by
  unfold eqA at h
  rw [List.all_eq_true] at h
  exact fun i hi => of_decide_eq_true (h i (List.mem_range.2 hi))
theorem RelV.uniq {r : Rel} {n m : Nat} (h : RelV r n) (h2 : RelV r m) : n = m := by
  have := h.is; have := h2.is; omega
end Rl

end Go.Proofs.Ytemckhkicfpgeaa
