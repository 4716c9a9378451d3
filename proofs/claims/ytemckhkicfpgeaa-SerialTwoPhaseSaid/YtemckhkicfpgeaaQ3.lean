/- Serial, plainly; SerialSwap. -/
import Derived.Test.YtemckhkicfpgeaaQ2
import Derived.Test.YtemckhkicfpgeaaBit
set_option linter.unusedVariables false
set_option linter.unusedSimpArgs false
set_option linter.unusedSectionVars false
set_option maxRecDepth 100000
namespace Go.Proofs.Ytemckhkicfpgeaa
open Go.RowKit
/-! Relations of twelve items. -/
namespace Rl
/-- Ways that pass below k. -/
def war (p : Nat → Nat → Bool) : Nat → Nat → Nat → Bool
  | 0, i, j => p i j
  | k + 1, i, j => war p k i j || (war p k i k && war p k k j)
theorem war_self (p : Nat → Nat → Bool) (k i : Nat) : war p (k + 1) i k = war p k i k := by
  simp only [war]
  cases war p k i k <;> simp
theorem war_self' (p : Nat → Nat → Bool) (k j : Nat) : war p (k + 1) k j = war p k k j := by
  simp only [war]
  cases war p k k j <;> simp
theorem war_up {p : Nat → Nat → Bool} {i j : Nat} : ∀ {k m : Nat}, k ≤ m → war p k i j = true → war p m i j = true := by
  intro k m hkm h
  induction m with
  | zero => obtain rfl : k = 0 := by omega
            exact h
  | succ m ih =>
    rcases Nat.lt_or_ge m k with h1 | h1
    · obtain rfl : k = m + 1 := by omega
      exact h
    · simp only [war, ih h1, Bool.true_or]
/-- The closed one is closed: by whatever below. -/
theorem war_trans {p : Nat → Nat → Bool} : ∀ {k i m j : Nat}, m < k → war p k i m = true → war p k m j = true → war p k i j = true := by
  intro k
  induction k with
  | zero => intro i m j h; omega
  | succ k ih =>
    intro i m j hm h1 h2
    rcases Nat.lt_or_ge m k with h | h
    · simp only [war, Bool.or_eq_true, Bool.and_eq_true] at h1 h2 ⊢
      rcases h1 with a | ⟨a, b⟩ <;> rcases h2 with c | ⟨c, d⟩
      · exact .inl (ih h a c)
      · exact .inr ⟨ih h a c, d⟩
      · exact .inr ⟨a, ih h b c⟩
      · exact .inr ⟨a, d⟩
    · obtain rfl : m = k := by omega
      rw [war_self] at h1
      rw [war_self'] at h2
      simp only [war, h1, h2, Bool.and_self, Bool.or_true]
/-- What is closed stays. -/
theorem war_same {p : Nat → Nat → Bool} {n : Nat} (h : ∀ i m j, m < n → p i m = true → p m j = true → p i j = true) : ∀ k, k ≤ n → ∀ i j, war p k i j = p i j := by
  intro k
  induction k with
  | zero => intro _ i j; rfl
  | succ k ih =>
    intro hk i j
    simp only [war, ih (by omega)]
    cases hp : p i j with
    | true => rfl
    | false =>
      cases h1 : p i k with
      | false => rfl
      | true =>
        cases h2 : p k j with
        | false => rfl
        | true => rw [h i k j (by omega) h1 h2] at hp; cases hp
theorem war_in {p : Nat → Nat → Bool} {n : Nat} (h : ∀ i j, p i j = true → i < n ∧ j < n) : ∀ k i j, war p k i j = true → i < n ∧ j < n := by
  intro k
  induction k with
  | zero => exact h
  | succ k ih =>
    intro i j hw
    simp only [war, Bool.or_eq_true, Bool.and_eq_true] at hw
    rcases hw with a | ⟨a, b⟩
    · exact ih i j a
    · exact ⟨(ih i k a).1, (ih k j b).2⟩
/-- What is in any closed one that has it all. -/
theorem war_least {p q : Nat → Nat → Bool} {n : Nat} (h : ∀ i j, p i j = true → q i j = true) (hq : ∀ i m j, m < n → q i m = true → q m j = true → q i j = true) : ∀ k, k ≤ n → ∀ i j, war p k i j = true → q i j = true := by
  intro k
  induction k with
  | zero => intro _; exact h
  | succ k ih =>
    intro hk i j hw
    simp only [war, Bool.or_eq_true, Bool.and_eq_true] at hw
    rcases hw with a | ⟨a, b⟩
    · exact ih (by omega) i j a
    · exact hq i k j (by omega) (ih (by omega) i k a) (ih (by omega) k j b)
/-- The pairs of a relation. -/
def pOf (r : Rel) (i j : Nat) : Bool := decide (i < 12) && (r.after.getD i 0).toNat.testBit j
/-- A relation's rows are numbers of 16 bits. -/
def RelU (r : Rel) : Prop := ∀ i, i < 12 → 0 ≤ r.after.getD i 0 ∧ r.after.getD i 0 < 65536
theorem RelU.row {r : Rel} (h : RelU r) {i : Nat} (hi : i < 12) : Row (r.after.getD i 0) (pOf r i) := (Row.is (h i hi).1 (h i hi).2).cong fun j => by unfold pOf; rw [decide_eq_true hi, Bool.true_and]
/-- A relation of so many items. -/
structure RelV (r : Rel) (n : Nat) : Prop where
  u : RelU r
  is : r.n = n
  le : n ≤ 12
  inn : ∀ i j, pOf r i j = true → i < n ∧ j < n
theorem pOf_lt {r : Rel} {i j : Nat} (h : pOf r i j = true) : i < 12 := by
  simp only [pOf, Bool.and_eq_true, decide_eq_true_eq] at h
  exact h.1
theorem ordCheck_wp {N : Nat} {r : Rel} (hN : 300 < N) (hu : RelU r) : Wp (order_Check N r) fun e => (e = 0 ∧ ∃ n, RelV r n) ∨ (e ≠ 0 ∧ ∀ n, ¬ RelV r n) := by
  unfold order_Check
  refine .cond (fun h => .one (.inr ⟨by simp, fun n hv => ?_⟩)) (fun h => ?_)
  · have h1 := hv.is; have h2 := hv.le
    simp only [Bool.or_eq_true, Bool.and_eq_true, Bool.not_eq_true', Bool.not_eq_false', Bool.or_eq_false_iff, Bool.and_eq_false_imp, decide_eq_true_eq, decide_eq_false_iff_not, beq_iff_eq, not_or, Int.not_lt, Int.not_le, Bool.false_eq_true, not_false_eq_true, not_true_eq_false, Decidable.not_not] at *
    omega
  · simp only [Bool.or_eq_true, Bool.and_eq_true, Bool.not_eq_true', Bool.not_eq_false', Bool.or_eq_false_iff, Bool.and_eq_false_imp, decide_eq_true_eq, decide_eq_false_iff_not, beq_iff_eq, not_or, Int.not_lt, Int.not_le, Bool.false_eq_true, not_false_eq_true, not_true_eq_false, Decidable.not_not] at *
    obtain ⟨n, hn⟩ : ∃ n : Nat, r.n = n := ⟨r.n.toNat, by omega⟩
    refine .elim (P := fun t => match t with | .inl _ => ∀ i, i < 12 → ∀ j, pOf r i j = true → i < n ∧ j < n | .inr e => e ≠ 0 ∧ ∃ i j, i < 12 ∧ pOf r i j = true ∧ ¬ (i < n ∧ j < n))
      (.iter 12 (fun k v => v = (k : Int) ∧ ∀ i, i < k → ∀ j, pOf r i j = true → i < n ∧ j < n) (by omega) ⟨rfl, fun i h => absurd h (Nat.not_lt_zero _)⟩ ?_ ?_) (fun _ _ h => .one (.inl ⟨rfl, n, hu, hn, by omega, fun i j hp => h i (pOf_lt hp) j hp⟩)) (fun e _ h => .one (.inr ⟨h.1, fun m hv => ?_⟩))
    · rintro k v hk ⟨rfl, hr⟩
      simp only [order_Check_L3]
      have hrow := hu.row hk
      have e1 : r.after.getD k 0 = 0 ↔ ∀ j, pOf r k j = false := hrow.empty
      have e2 : shrI .u16 (r.after.getD k 0) (IntKind.u64.wrap r.n) = 0 ↔ ∀ j, pOf r k (n + j) = false := by
        rw [hn, wrapU64 (by omega) (by omega)]
        exact (hrow.shr n).empty
      refine .condT (decide_eq_true (by omega)) (.axN hk (.cond (fun h => .one ⟨by simp, ?_⟩) (fun h => .ck64 (by omega) (.one ⟨by simp, fun i hi j hp => ?_⟩))))
      · rw [hn] at h
        simp only [Bool.or_eq_true, Bool.and_eq_true, decide_eq_true_eq, Bool.not_eq_true', decide_eq_false_iff_not] at h
        rcases h with ⟨h1, h2⟩ | h2
        · rw [e1] at h2
          simp only [Classical.not_forall, Bool.not_eq_false] at h2
          obtain ⟨j, hj⟩ := h2
          exact ⟨k, j, hk, hj, by omega⟩
        · rw [← hn, e2] at h2
          simp only [Classical.not_forall, Bool.not_eq_false] at h2
          obtain ⟨j, hj⟩ := h2
          exact ⟨k, n + j, hk, hj, by omega⟩
      · rcases Nat.lt_or_ge i k with h1 | h1
        · exact hr i h1 j hp
        · obtain rfl : i = k := by omega
          rw [Bool.or_eq_false_iff, Bool.and_eq_false_imp] at h
          have h2 : ∀ j, pOf r i (n + j) = false := e2.1 (by have := h.2; simpa using this)
          have h3 : i < n := by
            rcases Nat.lt_or_ge i n with h4 | h4
            · exact h4
            · have h5 := h.1 (decide_eq_true (by omega))
              have h6 := e1.1 (by simpa using h5) j
              rw [hp] at h6; cases h6
          refine ⟨h3, ?_⟩
          rcases Nat.lt_or_ge j n with h4 | h4
          · exact h4
          · have := h2 (j - n)
            rw [show n + (j - n) = j by omega, hp] at this
            cases this
    · rintro v ⟨rfl, hr⟩
      simp only [order_Check_L3]
      exact .condF (decide_eq_false (by omega)) (.one hr)
    · have h : e ≠ 0 ∧ ∃ i j, i < 12 ∧ pOf r i j = true ∧ ¬ (i < n ∧ j < n) := h
      obtain ⟨_, i, j, hi, hp, hn'⟩ := h
      have h1 := hv.is
      obtain rfl : n = m := by omega
      exact hn' (hv.inn i j hp)
/-- The closed relation's rows. -/
def Closed (r : Rel) (n : Nat) (A : List Int) : Prop := ∀ i, i < 12 → Row (A.getD i 0) (war (pOf r) n i)
theorem ordClosed_wp {N : Nat} {r : Rel} {n : Nat} (hN : 300 < N) (V : RelV r n) : Wp (order_closed N r) (Closed r n) := by
  have hn := V.is
  have hle := V.le
  unfold order_closed
  refine .seq (.iter n (fun k st => st.2 = (k : Int) ∧ ∀ i, i < 12 → Row (st.1.getD i 0) (war (pOf r) k i)) (Q := Closed r n) (by omega) ⟨rfl, fun i hi => V.u.row hi⟩ ?_ ?_) fun A _ hA => .one hA
  · rintro k ⟨A, v⟩ hk ⟨hv, hA⟩
    simp only at hv hA
    subst hv
    simp only [order_closed_L25]
    refine .condT (decide_eq_true (by omega)) ?_
    refine .seq (P := fun A' => ∀ i, i < 12 → Row (A'.getD i 0) (war (pOf r) (k + 1) i)) ?_ fun A' _ hA' => .ck64 (by omega) (.one ⟨by simp, hA'⟩)
    refine .iter n (fun q st => st.2 = (q : Int) ∧ ∀ i, i < 12 → Row (st.1.getD i 0) fun j => if i < q then war (pOf r) (k + 1) i j else war (pOf r) k i j) (by omega) ⟨rfl, fun i hi => (hA i hi).cong fun j => by rw [if_neg (by omega)]⟩ ?_ ?_
    · rintro q ⟨B, v⟩ hq ⟨hv, hB⟩
      simp only at hv hB
      subst hv
      simp only [order_closed_L27]
      have hrk : Row (B.getD k 0) (war (pOf r) k k) := (hB k (by omega)).cong fun j => by
        split
        · exact war_self' _ _ _
        · rfl
      have hrq : Row (B.getD q 0) (war (pOf r) k q) := (hB q (by omega)).cong fun j => by rw [if_neg (by omega)]
      refine .condT (decide_eq_true (by omega)) (.axN (by omega) ?_)
      rw [wrapU64 (z := (k : Int)) (by omega) (by omega), hrq.test k]
      refine .cond (fun hb => .axN (by omega) (.axN (by omega) (.axN (by omega) (.ck64 (by omega) (.one ⟨by simp, fun i hi => ?_⟩))))) (fun hb => .ck64 (by omega) (.one ⟨by simp, fun i hi => ?_⟩))
      · simp only
        rw [setA_get hi]
        simp only [Int.toNat_natCast]
        by_cases h : i = q
        · subst h
          rw [if_pos rfl]
          exact (hrq.or hrk).cong fun j => by rw [if_pos (by omega)]; simp only [war, hb, Bool.true_and]
        · rw [if_neg h]
          exact (hB i hi).cong fun j => by
            by_cases h2 : i < q
            · rw [if_pos h2, if_pos (by omega)]
            · rw [if_neg h2, if_neg (by omega)]
      · refine (hB i hi).cong fun j => ?_
        by_cases h : i = q
        · subst h
          rw [if_neg (by omega), if_pos (by omega)]
          simp only [war, hb, Bool.false_and, Bool.or_false]
        · by_cases h2 : i < q
          · rw [if_pos h2, if_pos (by omega)]
          · rw [if_neg h2, if_neg (by omega)]
    · rintro ⟨B, v⟩ ⟨hv, hB⟩
      simp only at hv hB
      subst hv
      simp only [order_closed_L27]
      refine .condF (decide_eq_false (by omega)) (.one fun i hi => (hB i hi).cong fun j => ?_)
      by_cases h : i < n
      · rw [if_pos h]
      · rw [if_neg h]
        have hw : ∀ m, war (pOf r) m i j = false := fun m => by
          cases hw : war (pOf r) m i j with
          | false => rfl
          | true => exact absurd (war_in V.inn m i j hw).1 h
        rw [hw, hw]
  · rintro ⟨B, v⟩ ⟨hv, hB⟩
    simp only at hv hB
    subst hv
    simp only [order_closed_L25]
    exact .condF (decide_eq_false (by omega)) (.one hB)
/-- What Close tells. -/
def CloseR (r : Rel) (c : Int × List Int × Bool × Int) : Prop :=
  (∃ n, RelV r n ∧ c.1 = r.n ∧ c.2.2.2 = 0 ∧ Closed r n c.2.1 ∧ (c.2.2.1 = true ↔ ∃ i, i < n ∧ war (pOf r) n i i = true)) ∨ ((∀ n, ¬ RelV r n) ∧ c.2.2.2 ≠ 0 ∧ c.1 = 0 ∧ c.2.1 = [] ∧ c.2.2.1 = false)
theorem ordClose_wp {N : Nat} {r : Rel} (hN : 300 < N) (hu : RelU r) : Wp (order_Close N r) (CloseR r) := by
  unfold order_Close
  refine .seq (ordCheck_wp hN hu) fun e _ he => ?_
  rcases he with ⟨rfl, n, V⟩ | ⟨he, hv⟩
  · have hn := V.is
    have hle := V.le
    refine .condF rfl (.seq (ordClosed_wp hN V) fun A _ hA => ?_)
    refine .elim (P := fun t => match t with | .inl _ => ∀ i, i < n → war (pOf r) n i i = false | .inr c => c = (r.n, A, true, 0) ∧ ∃ i, i < n ∧ war (pOf r) n i i = true)
      (.iter n (fun k v => v = (k : Int) ∧ ∀ i, i < k → war (pOf r) n i i = false) (by omega) ⟨rfl, fun i h => absurd h (Nat.not_lt_zero _)⟩ ?_ ?_) (fun _ _ h => .one (.inl ⟨n, V, rfl, rfl, hA, ?_⟩)) (fun c _ h => .one ?_)
    · rintro k v hk ⟨rfl, hr⟩
      simp only [order_Close_L3]
      refine .condT (decide_eq_true (by omega)) (.axN (by omega) ?_)
      rw [wrapU64 (by omega) (by omega), (hA k (by omega)).test k]
      refine .cond (fun h => .one ⟨rfl, k, hk, h⟩) (fun h => .ck64 (by omega) (.one ⟨by simp, fun i hi => ?_⟩))
      rcases Nat.lt_or_ge i k with h1 | h1
      · exact hr i h1
      · obtain rfl : i = k := by omega
        exact h
    · rintro v ⟨rfl, hr⟩
      simp only [order_Close_L3]
      exact .condF (decide_eq_false (by omega)) (.one hr)
    · have h : ∀ i, i < n → war (pOf r) n i i = false := h
      refine ⟨fun h => (by cases h), fun ⟨i, hi, hw⟩ => ?_⟩
      rw [h i hi] at hw
      cases hw
    · have h : c = (r.n, A, true, 0) ∧ ∃ i, i < n ∧ war (pOf r) n i i = true := h
      obtain ⟨rfl, h2⟩ := h
      exact .inl ⟨n, V, rfl, rfl, hA, fun _ => h2, fun _ => rfl⟩
  · exact .condT (by simpa using he) (.one (.inr ⟨hv, he, rfl, rfl, rfl⟩))
theorem eqA_of {n : Nat} {xs ys : List Int} (h : ∀ i, i < n → xs.getD i 0 = ys.getD i 0) : eqA n xs ys = true := by
  unfold eqA
  rw [List.all_eq_true]
  intro i hi
  exact decide_eq_true (h i (List.mem_range.1 hi))
theorem of_eqA {n : Nat} {xs ys : List Int} (h : eqA n xs ys = true) : ∀ i, i < n → xs.getD i 0 = ys.getD i 0 := by
  unfold eqA at h
  rw [List.all_eq_true] at h
  exact fun i hi => of_decide_eq_true (h i (List.mem_range.2 hi))
theorem RelV.uniq {r : Rel} {n m : Nat} (h : RelV r n) (h2 : RelV r m) : n = m := by
  have := h.is; have := h2.is; omega
end Rl

theorem Row.clr {x y : Int} {p q : Nat → Bool} (h : Row x p) (h2 : Row y q) : Row (bclrI .u16 x y) fun j => p j && !q j := by
  obtain ⟨a, rfl, h1, ha⟩ := h
  obtain ⟨b, rfl, h2, hb⟩ := h2
  have e : (BitVec.ofInt IntKind.u16.bits (a : Int) &&& ~~~(BitVec.ofInt IntKind.u16.bits (b : Int))) = (BitVec.ofNat 16 a &&& ~~~(BitVec.ofNat 16 b)) := by
    show (BitVec.ofInt 16 (a : Int) &&& ~~~(BitVec.ofInt 16 (b : Int))) = _
    rw [BitVec.ofInt_natCast, BitVec.ofInt_natCast]
  refine ⟨(BitVec.ofNat 16 a &&& ~~~(BitVec.ofNat 16 b)).toNat, ?_, BitVec.isLt _, fun j => ?_⟩
  · unfold bclrI
    rw [e]
    exact wrapU16 (BitVec.isLt _)
  · rw [BitVec.toNat_and, Nat.testBit_and, BitVec.toNat_ofNat, Nat.mod_eq_of_lt h1, ha]
    by_cases hj : j < 16
    · congr 1
      show (~~~(BitVec.ofNat 16 b)).getLsbD j = _
      rw [BitVec.getLsbD_not, BitVec.getLsbD_ofNat, hb]
      simp [hj]
    · have : p j = false := by rw [← ha]; exact Nat.testBit_lt_two_pow (Nat.lt_of_lt_of_le h1 (Nat.pow_le_pow_right (n := 2) (by decide) (i := 16) (by omega)))
      simp [this]

open Rl
namespace Se
theorem serLives : alibkeep_serialLives 18446744073709551616 = some true := by kernel_rfl
def OkD (x : Deed) : Prop := 0 ≤ x.who ∧ x.who < 6 ∧ 0 ≤ x.kind ∧ x.kind ≤ 4 ∧ 0 ≤ x.item ∧ x.item < 6
def Dd (l : List Deed) : Prop := l.length ≤ 60 ∧ ∀ i, i < l.length → OkD (l.getD i Deed.z)
theorem check_wp {N : Nat} {l : List Deed} (hN : 300 < N) : Wp (serial_Check N l) fun r => (r.2 = 0 ∧ Dd l) ∨ (r.2 ≠ 0 ∧ ¬ Dd l) := by
  unfold serial_Check
  refine .cond (fun h => .one (.inr ⟨by simp, fun D => ?_⟩)) fun h => ?_
  · have h := of_decide_eq_true h
    have := D.1
    omega
  · have h := of_decide_eq_false h
    refine .elim (P := fun t => match t with | .inl _ => Dd l | .inr r => r.2 ≠ 0 ∧ ¬ Dd l) (.iter l.length (fun k v => v = (k : Int) ∧ ∀ i, i < k → OkD (l.getD i Deed.z)) (by omega) ⟨rfl, fun i h => absurd h (Nat.not_lt_zero _)⟩ ?_ ?_) (fun _ _ h => .one (.inl ⟨rfl, h⟩)) (fun r _ h => .one (.inr h))
    · rintro k v hk ⟨rfl, hr⟩
      simp only [serial_Check_L3]
      refine .condT (decide_eq_true (by omega)) (.ixD Deed.z (Int.natCast_nonneg k) (by omega) ?_)
      simp only [Int.toNat_natCast]
      refine .cond (fun h => .one ⟨by simp, fun D => ?_⟩) (fun h => .ck64 (by omega) (.one ⟨by simp, fun i hi => ?_⟩))
      · have := D.2 k hk
        simp only [Bool.or_eq_true, decide_eq_true_eq] at h
        unfold OkD at this
        omega
      · rcases Nat.lt_or_ge i k with h1 | h1
        · exact hr i h1
        · obtain rfl : i = k := by omega
          simp only [Bool.or_eq_false_iff, decide_eq_false_iff_not] at h
          unfold OkD
          omega
    · rintro v ⟨rfl, hr⟩
      simp only [serial_Check_L3]
      exact .condF (decide_eq_false (by omega)) (.one ⟨by omega, hr⟩)
def conf (a b : Deed) : Bool := cond ((((decide (a.who = b.who)) || (!(decide (a.item = b.item)))) || (decide (1 < a.kind))) || (decide (1 < b.kind))) false ((decide (a.kind = 1)) || (decide (b.kind = 1)))
theorem conflict_eq (N : Nat) (a b : Deed) : serial_conflict N a b = some (conf a b) := by
  unfold serial_conflict conf
  cases ((((decide (a.who = b.who)) || (!(decide (a.item = b.item)))) || (decide (1 < a.kind))) || (decide (1 < b.kind))) <;> rfl
/-- Deed q fights deed k, of whom and whom. -/
def cf (l : List Deed) (k q i j : Nat) : Bool := decide (k < q) && conf (l.getD k Deed.z) (l.getD q Deed.z) && decide ((l.getD k Deed.z).who = (i : Int)) && decide ((l.getD q Deed.z).who = (j : Int))
def gin (l : List Deed) (k m i j : Nat) : Bool := (List.range m).any fun q => cf l k q i j
def gr (l : List Deed) (n i j : Nat) : Bool := (List.range n).any fun p => gin l p l.length i j
theorem gin_succ (l : List Deed) (k m i j : Nat) : gin l k (m + 1) i j = (gin l k m i j || cf l k m i j) := by
  unfold gin; rw [List.range_succ, List.any_append]; simp
theorem gr_succ (l : List Deed) (n i j : Nat) : gr l (n + 1) i j = (gr l n i j || gin l n l.length i j) := by
  unfold gr; rw [List.range_succ, List.any_append]; simp
theorem gin_low (l : List Deed) (k i j : Nat) : ∀ m, m ≤ k + 1 → gin l k m i j = false := by
  intro m hm
  unfold gin
  rw [List.any_eq_false]
  intro q hq
  have := List.mem_range.1 hq
  unfold cf
  rw [decide_eq_false (by omega)]
  simp
theorem gr_iff {l : List Deed} {i j : Nat} : gr l l.length i j = true ↔ ∃ p q, q < l.length ∧ cf l p q i j = true := by
  unfold gr gin
  rw [List.any_eq_true]
  constructor
  · rintro ⟨p, hp, h⟩
    rw [List.any_eq_true] at h
    obtain ⟨q, hq, h⟩ := h
    exact ⟨p, q, List.mem_range.1 hq, h⟩
  · rintro ⟨p, q, hq, h⟩
    have hpq : p < q := by unfold cf at h; simp only [Bool.and_eq_true, decide_eq_true_eq] at h; exact h.1.1.1
    exact ⟨p, List.mem_range.2 (by omega), List.any_eq_true.2 ⟨q, List.mem_range.2 hq, h⟩⟩
theorem graph_wp {N : Nat} {l : List Deed} (hN : 300 < N) : Wp (serial_Graph N l) fun r => (Dd l ∧ r.1 = 6 ∧ r.2.2 = 0 ∧ ∀ i, i < 12 → Row (r.2.1.getD i 0) (gr l l.length i)) ∨ (¬ Dd l ∧ r.2.2 ≠ 0) := by
  unfold serial_Graph
  refine .seq (check_wp hN) fun r _ hr => .cond (fun h => .one (.inr ?_)) fun h => ?_
  · rcases hr with ⟨h0, _⟩ | ⟨h0, hn⟩
    · rw [h0] at h; cases h
    · exact ⟨hn, h0⟩
  · obtain ⟨h0, D⟩ : r.2 = 0 ∧ Dd l := by
      rcases hr with h0 | ⟨h0, hn⟩
      · exact h0
      · simp [h0] at h
    have hlen := D.1
    refine .seq (P := fun A => ∀ i, i < 12 → Row (A.getD i 0) (gr l l.length i)) (.iter l.length (fun k st => st.2 = (k : Int) ∧ ∀ i, i < 12 → Row (st.1.getD i 0) (gr l k i)) (by omega) ⟨rfl, fun i _ => Row.zero.cong fun j => by simp [gr]⟩ ?_ ?_) fun A _ hA => .one (.inl ⟨D, rfl, rfl, hA⟩)
    · rintro k ⟨A, v⟩ hk ⟨hv, hA⟩
      simp only at hv hA
      subst hv
      simp only [serial_Graph_L25]
      have ok := D.2 k hk
      refine .condT (decide_eq_true (by omega)) ?_
      refine .seq (P := fun A' => ∀ i, i < 12 → Row (A'.getD i 0) (gr l (k + 1) i)) (.ixD Deed.z (Int.natCast_nonneg k) (by omega) (.ck64 (by omega) (.ck (show slB _ _ _ = true by simp [slB]; omega) ?_))) fun A' _ hA' => .ck64 (by omega) (.one ⟨by simp, hA'⟩)
      simp only [Int.toNat_natCast]
      have hdl : (l.drop ((k : Int) + 1).toNat).length = l.length - (k + 1) := by rw [List.length_drop]; omega
      refine .iter (l.length - (k + 1)) (fun m st => st.2 = (m : Int) ∧ ∀ i, i < 12 → Row (st.1.getD i 0) fun j => gr l k i j || gin l k (k + 1 + m) i j) (by omega) ⟨rfl, fun i hi => (hA i hi).cong fun j => by rw [gin_low l k i j _ (by omega), Bool.or_false]⟩ ?_ ?_
      · rintro m ⟨B, v⟩ hm ⟨hv, hB⟩
        simp only at hv hB
        subst hv
        simp only [serial_Graph_L27]
        have okq := D.2 (k + 1 + m) (by omega)
        have hg : (l.drop ((k : Int) + 1).toNat).getD m Deed.z = l.getD (k + 1 + m) Deed.z := by
          rw [List.getD_eq_getElem?_getD, List.getD_eq_getElem?_getD, List.getElem?_drop, show ((k : Int) + 1).toNat + m = k + 1 + m by omega]
        refine .condT (decide_eq_true (by omega)) (.ixD Deed.z (Int.natCast_nonneg m) (by omega) ?_)
        simp only [Int.toNat_natCast, hg]
        refine .bdO (conflict_eq ..) ?_
        unfold OkD at ok okq
        obtain ⟨a, ha⟩ : ∃ a : Nat, (l.getD k Deed.z).who = a := ⟨(l.getD k Deed.z).who.toNat, by omega⟩
        obtain ⟨b, hb⟩ : ∃ b : Nat, (l.getD (k + 1 + m) Deed.z).who = b := ⟨(l.getD (k + 1 + m) Deed.z).who.toNat, by omega⟩
        have hcf : ∀ i j, cf l k (k + 1 + m) i j = (conf (l.getD k Deed.z) (l.getD (k + 1 + m) Deed.z) && decide (a = i) && decide (b = j)) := fun i j => by
          unfold cf
          rw [decide_eq_true (by omega), Bool.true_and, ha, hb, decide_eq_decide.2 (show (a : Int) = (i : Int) ↔ a = i by omega), decide_eq_decide.2 (show (b : Int) = (j : Int) ↔ b = j by omega)]
        refine .cond (fun h => ?_) (fun h => .ck64 (by omega) (.one ⟨by simp, fun i hi => (hB i hi).cong fun j => ?_⟩))
        · rw [ha, hb]
          refine .axN (by omega) (.axN (by omega) (.ck64 (by omega) (.one ⟨by simp, fun i hi => ?_⟩)))
          simp only
          rw [setA_get hi]
          simp only [Int.toNat_natCast]
          by_cases e : i = a
          · subst e
            rw [if_pos rfl]
            refine ((hB i hi).set (j := b) (by omega)).cong fun j => ?_
            rw [← Nat.add_assoc, gin_succ, hcf, h]
            simp [Bool.or_assoc]
          · rw [if_neg e]
            refine (hB i hi).cong fun j => ?_
            rw [← Nat.add_assoc, gin_succ, hcf, decide_eq_false fun e' => e e'.symm]
            simp
        · rw [← Nat.add_assoc, gin_succ, hcf, h]
          simp
      · rintro ⟨B, v⟩ ⟨hv, hB⟩
        simp only at hv hB
        subst hv
        simp only [serial_Graph_L27]
        refine .condF (decide_eq_false (by omega)) (.one fun i hi => (hB i hi).cong fun j => ?_)
        rw [gr_succ, show k + 1 + (l.length - (k + 1)) = l.length by omega]
    · rintro ⟨B, v⟩ ⟨hv, hB⟩
      simp only at hv hB
      subst hv
      simp only [serial_Graph_L25]
      exact .condF (by simp) (.one hB)
/-! Two deeds change places. -/
def sw (p i : Nat) : Nat := if i = p then p + 1 else if i = p + 1 then p else i
theorem sw_inv (p i : Nat) : sw p (sw p i) = i := by
  unfold sw
  by_cases h : i = p
  · subst h; simp
  · by_cases h2 : i = p + 1
    · subst h2; simp
    · simp [h, h2]
theorem sw_lt {k i n : Nat} (hk : k + 1 < n) (hi : i < n) : sw k i < n := by
  unfold sw
  by_cases h : i = k
  · rw [if_pos h]; omega
  · rw [if_neg h]
    by_cases h2 : i = k + 1
    · rw [if_pos h2]; omega
    · rw [if_neg h2]; exact hi
theorem sw_mono {k p q : Nat} (h : p < q) (hn : ¬ (p = k ∧ q = k + 1)) : sw k p < sw k q := by
  unfold sw
  by_cases h1 : p = k
  · rw [if_pos h1, if_neg (show ¬ q = k by omega), if_neg (show ¬ q = k + 1 from fun e => hn ⟨h1, e⟩)]; omega
  · rw [if_neg h1]
    by_cases h2 : p = k + 1
    · rw [if_pos h2, if_neg (show ¬ q = k by omega), if_neg (show ¬ q = k + 1 by omega)]; omega
    · rw [if_neg h2]
      by_cases h3 : q = k
      · rw [if_pos h3]; omega
      · rw [if_neg h3]
        by_cases h4 : q = k + 1
        · rw [if_pos h4]; omega
        · rw [if_neg h4]; exact h
def swap (l : List Deed) (k : Nat) : List Deed := (l.set k (l.getD (k + 1) Deed.z)).set (k + 1) (l.getD k Deed.z)
theorem getD_set2 {α : Type} {l : List α} {i j : Nat} {v d : α} (h : i < l.length) : (l.set i v).getD j d = if j = i then v else l.getD j d := by
  simp only [List.getD_eq_getElem?_getD, List.getElem?_set, h, if_true]
  by_cases hj : i = j
  · subst hj; simp
  · rw [if_neg hj, if_neg (fun e => hj e.symm)]
theorem swap_get {l : List Deed} {k j : Nat} (hk : k + 1 < l.length) : (swap l k).getD j Deed.z = l.getD (sw k j) Deed.z := by
  unfold swap sw
  rw [getD_set2 (by simpa using hk), getD_set2 (by omega)]
  by_cases h1 : j = k + 1
  · subst h1; simp
  · by_cases h2 : j = k
    · subst h2; simp
    · simp [h1, h2]
theorem swap_swap {l : List Deed} {k : Nat} (hk : k + 1 < l.length) : swap (swap l k) k = l := by
  have hl : (swap l k).length = l.length := by simp [swap]
  have hl2 : (swap (swap l k) k).length = l.length := by simp [swap]
  apply List.ext_getElem hl2
  intro i h1 h2
  have a1 := swap_get (l := swap l k) (k := k) (j := i) (by omega)
  have a2 := swap_get (l := l) (k := k) (j := sw k i) hk
  rw [a2, sw_inv] at a1
  rw [getD_of h1, getD_of h2] at a1
  exact a1
theorem gr_swap {l : List Deed} {k : Nat} (hk : k + 1 < l.length) (hc : conf (l.getD k Deed.z) (l.getD (k + 1) Deed.z) = false) {i j : Nat} (h : gr l l.length i j = true) : gr (swap l k) (swap l k).length i j = true := by
  have hl : (swap l k).length = l.length := by simp [swap]
  rw [gr_iff] at h ⊢
  obtain ⟨p, q, hq, h⟩ := h
  unfold cf at h
  simp only [Bool.and_eq_true, decide_eq_true_eq] at h
  obtain ⟨⟨⟨h1, h2⟩, h3⟩, h4⟩ := h
  have hn : ¬ (p = k ∧ q = k + 1) := by
    rintro ⟨rfl, rfl⟩
    rw [hc] at h2; cases h2
  have inv := sw_inv k
  refine ⟨sw k p, sw k q, by rw [hl]; exact sw_lt hk hq, ?_⟩
  unfold cf
  rw [swap_get hk, swap_get hk, inv, inv, h2, decide_eq_true h3, decide_eq_true h4, decide_eq_true]
  · rfl
  · exact sw_mono h1 hn
theorem conf_symm (a b : Deed) : conf a b = conf b a := by
  unfold conf
  rw [decide_eq_decide.2 (show a.who = b.who ↔ b.who = a.who from eq_comm), decide_eq_decide.2 (show a.item = b.item ↔ b.item = a.item from eq_comm)]
  cases decide (b.who = a.who) <;> cases decide (b.item = a.item) <;> cases decide (1 < a.kind) <;> cases decide (1 < b.kind) <;> cases decide (a.kind = 1) <;> cases decide (b.kind = 1) <;> rfl
theorem gr_swap_eq {l : List Deed} {k : Nat} (hk : k + 1 < l.length) (hc : conf (l.getD k Deed.z) (l.getD (k + 1) Deed.z) = false) (i j : Nat) : gr (swap l k) (swap l k).length i j = gr l l.length i j := by
  have hl : (swap l k).length = l.length := by simp [swap]
  rw [Bool.eq_iff_iff]
  refine ⟨fun h => ?_, gr_swap hk hc⟩
  have h2 := gr_swap (l := swap l k) (k := k) (by omega) (by rw [swap_get hk, swap_get hk]; simp only [sw, if_true, if_neg (show ¬ k + 1 = k by omega)]; rw [conf_symm]; exact hc) h
  rwa [swap_swap hk] at h2
theorem dd_swap {l : List Deed} {k : Nat} (hk : k + 1 < l.length) (D : Dd l) : Dd (swap l k) := by
  have hl : (swap l k).length = l.length := by simp [swap]
  refine ⟨by rw [hl]; exact D.1, fun i hi => ?_⟩
  rw [swap_get hk]
  exact D.2 _ (sw_lt hk (by omega))
theorem swapLaw {N : Nat} (hN : 300 < N) (hL : alibkeep_serialLives N = some true) (l : List Deed) (k : Int) : alibkeep_SerialSwap N l k = some true := by
  refine Wp.eq ?_
  unfold alibkeep_SerialSwap
  refine .seq (graph_wp (l := l) hN) fun r _ hr => .bdO hL ?_
  rcases hr with ⟨D, hn, he, hA⟩ | ⟨_, he⟩
  · have hlen := D.1
    rw [decide_eq_true he]
    refine .ck (by rw [ok64_of (by omega)]; simp) ?_
    by_cases hk : 0 ≤ k ∧ k < (l.length : Int) - 1
    · obtain ⟨hk0, hk1⟩ := hk
      obtain ⟨k, rfl⟩ : ∃ n : Nat, k = n := ⟨k.toNat, by omega⟩
      rw [decide_eq_false (show ¬ ((k : Int) < 0) by omega), decide_eq_false (show ¬ ((l.length : Int) - 1 ≤ (k : Int)) by omega)]
      refine .gd (l.getD k Deed.z) (fun _ => ?_) fun x11 h11 => .ck (by rw [ok64_of (by omega)]; simp) (.gd (l.getD (k + 1) Deed.z) (fun _ => ?_) fun x13 h13 => ?_)
      · rw [ix_of (show k < l.length by omega), getD_of]
      · rw [show (k : Int) + 1 = ((k + 1 : Nat) : Int) by omega, ix_of (show k + 1 < l.length by omega), getD_of]
      rw [h11 rfl, h13 rfl]
      refine .cond (fun _ => .bdO hL (.one rfl)) fun h => ?_
      have hne : (l.getD k Deed.z).who ≠ (l.getD (k + 1) Deed.z).who := by
        intro e
        rw [decide_eq_true e] at h
        cases h
      have hk2 : k + 1 < l.length := by omega
      refine .bdO (a := ((l.getD k Deed.z).who, (l.getD k Deed.z).kind, (l.getD k Deed.z).item, (l.getD (k + 1) Deed.z).who, (l.getD (k + 1) Deed.z).kind, (l.getD (k + 1) Deed.z).item)) (Wp.eq (.ixD Deed.z (by omega) (by omega) (.ck64 (by omega) (.ixD Deed.z (by omega) (by omega) (.one ?_))))) ?_
      · simp only [show ((k : Int) + 1).toNat = k + 1 by omega, Int.toNat_natCast]
      simp only
      refine .cond (fun _ => .one rfl) fun hcf => .ck (limB_of ⟨Nat.le_trans (m := 2000) (by omega) (by decide), by omega⟩) (.ck64 (by omega) (.ixD Deed.z (by omega) (by omega) (.ixD Deed.z (by omega) (by rw [List.length_set]; omega) ?_)))
      have hc : conf (l.getD k Deed.z) (l.getD (k + 1) Deed.z) = false := by
        unfold conf
        by_cases g : ((((decide ((l.getD k Deed.z).who = (l.getD (k + 1) Deed.z).who)) || (!(decide ((l.getD k Deed.z).item = (l.getD (k + 1) Deed.z).item)))) || (decide (1 < (l.getD k Deed.z).kind))) || (decide (1 < (l.getD (k + 1) Deed.z).kind))) = true
        · rw [g]; rfl
        · have g : _ = false := Bool.eq_false_iff.2 g
          rw [g]
          simp only [Bool.or_eq_false_iff, decide_eq_false_iff_not, Bool.not_eq_false', decide_eq_true_eq] at g
          rw [decide_eq_true g.1.1.2, decide_eq_true (show (l.getD k Deed.z).kind ≤ 1 by omega), decide_eq_true (show (l.getD (k + 1) Deed.z).kind ≤ 1 by omega)] at hcf
          simpa using hcf
      simp only [show ((k : Int) + 1).toNat = k + 1 by omega, Int.toNat_natCast]
      refine .seq (graph_wp (l := swap l k) hN) fun r2 _ hr2 => .one ?_
      rcases hr2 with ⟨_, hn2, he2, hA2⟩ | ⟨hno, _⟩
      · rw [decide_eq_true he2, hn2, hn, decide_eq_true rfl, eqA_of fun i hi => ((hA2 i hi).cong fun j => gr_swap_eq hk2 hc i j).eq (hA i hi)]
        rfl
      · exact (hno (dd_swap hk2 D)).elim
    · have hg : (((((!true) || (!true)) || (decide (k < 0))) || (decide (((l.length : Int) - 1) ≤ k)))) = true := by
        simp only [Bool.not_true, Bool.false_or, Bool.or_eq_true, decide_eq_true_eq]; omega
      rw [hg]
      exact .gd Deed.z (fun h => by cases h) fun x11 _ => .ck rfl (.gd Deed.z (fun h => by cases h) fun x13 _ => .condT rfl (.bdO hL (.one rfl)))
  · rw [decide_eq_false he]
    refine .ck (by simp) (.gd Deed.z (fun h => by simp at h) fun x11 _ => .ck (by simp) (.gd Deed.z (fun h => by simp at h) fun x13 _ => .condT (by simp) (.bdO hL (.one rfl))))
end Se

end Go.Proofs.Ytemckhkicfpgeaa
