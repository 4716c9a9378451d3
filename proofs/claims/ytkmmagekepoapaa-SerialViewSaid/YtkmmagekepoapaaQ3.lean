/- Relations; schedules, plainly. -/
import Derived.Test.YtkmmagekepoapaaQ2
import Derived.Test.YtkmmagekepoapaaBit
set_option linter.unusedVariables false
set_option linter.unusedSimpArgs false
set_option linter.unusedSectionVars false
set_option maxRecDepth 100000
namespace Go.Proofs.Ytkmmagekepoapaa
open Go.RowKit
/-! Relations of twelve items. -/
namespace Rl
/-- Ways that pass below k. -/
def war (p : Nat → Nat → Bool) : Nat → Nat → Nat → Bool
  | 0, i, j => p i j
  | k + 1, i, j => war p k i j || (war p k i k && war p k k j)
theorem war_self (p : Nat → Nat → Bool) (k i : Nat) : war p (k + 1) i k = war p k i k := by
  simp only [war]
  cases war p k i k <;> simp
theorem war_self' (p : Nat → Nat → Bool) (k j : Nat) : war p (k + 1) k j = war p k k j := by
  simp only [war]
  cases war p k k j <;> simp
theorem war_up {p : Nat → Nat → Bool} {i j : Nat} : ∀ {k m : Nat}, k ≤ m → war p k i j = true → war p m i j = true := by
  intro k m hkm h
  induction m with
  | zero => obtain rfl : k = 0 := by omega
            exact h
  | succ m ih =>
    rcases Nat.lt_or_ge m k with h1 | h1
    · obtain rfl : k = m + 1 := by omega
      exact h
    · simp only [war, ih h1, Bool.true_or]
/-- The closed one is closed: by whatever below. -/
theorem war_trans {p : Nat → Nat → Bool} : ∀ {k i m j : Nat}, m < k → war p k i m = true → war p k m j = true → war p k i j = true := by
  intro k
  induction k with
  | zero => intro i m j h; omega
  | succ k ih =>
    intro i m j hm h1 h2
    rcases Nat.lt_or_ge m k with h | h
    · simp only [war, Bool.or_eq_true, Bool.and_eq_true] at h1 h2 ⊢
      rcases h1 with a | ⟨a, b⟩ <;> rcases h2 with c | ⟨c, d⟩
      · exact .inl (ih h a c)
      · exact .inr ⟨ih h a c, d⟩
      · exact .inr ⟨a, ih h b c⟩
      · exact .inr ⟨a, d⟩
    · obtain rfl : m = k := by omega
      rw [war_self] at h1
      rw [war_self'] at h2
      simp only [war, h1, h2, Bool.and_self, Bool.or_true]
/-- What is closed stays. -/
theorem war_same {p : Nat → Nat → Bool} {n : Nat} (h : ∀ i m j, m < n → p i m = true → p m j = true → p i j = true) : ∀ k, k ≤ n → ∀ i j, war p k i j = p i j := by
  intro k
  induction k with
  | zero => intro _ i j; rfl
  | succ k ih =>
    intro hk i j
    simp only [war, ih (by omega)]
    cases hp : p i j with
    | true => rfl
    | false =>
      cases h1 : p i k with
      | false => rfl
      | true =>
        cases h2 : p k j with
        | false => rfl
        | true => rw [h i k j (by omega) h1 h2] at hp; cases hp
theorem war_in {p : Nat → Nat → Bool} {n : Nat} (h : ∀ i j, p i j = true → i < n ∧ j < n) : ∀ k i j, war p k i j = true → i < n ∧ j < n := by
  intro k
  induction k with
  | zero => exact h
  | succ k ih =>
    intro i j hw
    simp only [war, Bool.or_eq_true, Bool.and_eq_true] at hw
    rcases hw with a | ⟨a, b⟩
    · exact ih i j a
    · exact ⟨(ih i k a).1, (ih k j b).2⟩
/-- What is in any closed one that has it all. -/
theorem war_least {p q : Nat → Nat → Bool} {n : Nat} (h : ∀ i j, p i j = true → q i j = true) (hq : ∀ i m j, m < n → q i m = true → q m j = true → q i j = true) : ∀ k, k ≤ n → ∀ i j, war p k i j = true → q i j = true := by
  intro k
  induction k with
  | zero => intro _; exact h
  | succ k ih =>
    intro hk i j hw
    simp only [war, Bool.or_eq_true, Bool.and_eq_true] at hw
    rcases hw with a | ⟨a, b⟩
    · exact ih (by omega) i j a
    · exact hq i k j (by omega) (ih (by omega) i k a) (ih (by omega) k j b)
/-- The pairs of a relation. -/
def pOf (r : Rel) (i j : Nat) : Bool := decide (i < 12) && (r.after.getD i 0).toNat.testBit j
/-- A relation's rows are numbers of 16 bits. -/
def RelU (r : Rel) : Prop := ∀ i, i < 12 → 0 ≤ r.after.getD i 0 ∧ r.after.getD i 0 < 65536
theorem RelU.row {r : Rel} (h : RelU r) {i : Nat} (hi : i < 12) : Row (r.after.getD i 0) (pOf r i) := (Row.is (h i hi).1 (h i hi).2).cong fun j => by unfold pOf; rw [decide_eq_true hi, Bool.true_and]
/-- A relation of so many items. -/
structure RelV (r : Rel) (n : Nat) : Prop where
  u : RelU r
  is : r.n = n
  le : n ≤ 12
  inn : ∀ i j, pOf r i j = true → i < n ∧ j < n
theorem pOf_lt {r : Rel} {i j : Nat} (h : pOf r i j = true) : i < 12 := by
  simp only [pOf, Bool.and_eq_true, decide_eq_true_eq] at h
  exact h.1
theorem ordCheck_wp {N : Nat} {r : Rel} (hN : 300 < N) (hu : RelU r) : Wp (order_Check N r) fun e => (e = 0 ∧ ∃ n, RelV r n) ∨ (e ≠ 0 ∧ ∀ n, ¬ RelV r n) := by
  unfold order_Check
  refine .cond (fun h => .one (.inr ⟨by simp, fun n hv => ?_⟩)) (fun h => ?_)
  · have h1 := hv.is; have h2 := hv.le
    simp only [Bool.or_eq_true, Bool.and_eq_true, Bool.not_eq_true', Bool.not_eq_false', Bool.or_eq_false_iff, Bool.and_eq_false_imp, decide_eq_true_eq, decide_eq_false_iff_not, beq_iff_eq, not_or, Int.not_lt, Int.not_le, Bool.false_eq_true, not_false_eq_true, not_true_eq_false, Decidable.not_not] at *
    omega
  · simp only [Bool.or_eq_true, Bool.and_eq_true, Bool.not_eq_true', Bool.not_eq_false', Bool.or_eq_false_iff, Bool.and_eq_false_imp, decide_eq_true_eq, decide_eq_false_iff_not, beq_iff_eq, not_or, Int.not_lt, Int.not_le, Bool.false_eq_true, not_false_eq_true, not_true_eq_false, Decidable.not_not] at *
    obtain ⟨n, hn⟩ : ∃ n : Nat, r.n = n := ⟨r.n.toNat, by omega⟩
    refine .elim (P := fun t => match t with | .inl _ => ∀ i, i < 12 → ∀ j, pOf r i j = true → i < n ∧ j < n | .inr e => e ≠ 0 ∧ ∃ i j, i < 12 ∧ pOf r i j = true ∧ ¬ (i < n ∧ j < n))
      (.iter 12 (fun k v => v = (k : Int) ∧ ∀ i, i < k → ∀ j, pOf r i j = true → i < n ∧ j < n) (by omega) ⟨rfl, fun i h => absurd h (Nat.not_lt_zero _)⟩ ?_ ?_) (fun _ _ h => .one (.inl ⟨rfl, n, hu, hn, by omega, fun i j hp => h i (pOf_lt hp) j hp⟩)) (fun e _ h => .one (.inr ⟨h.1, fun m hv => ?_⟩))
    · rintro k v hk ⟨rfl, hr⟩
      simp only [order_Check_L3]
      have hrow := hu.row hk
      have e1 : r.after.getD k 0 = 0 ↔ ∀ j, pOf r k j = false := hrow.empty
      have e2 : shrI .u16 (r.after.getD k 0) (IntKind.u64.wrap r.n) = 0 ↔ ∀ j, pOf r k (n + j) = false := by
        rw [hn, wrapU64 (by omega) (by omega)]
        exact (hrow.shr n).empty
      refine .condT (decide_eq_true (by omega)) (.axN hk (.cond (fun h => .one ⟨by simp, ?_⟩) (fun h => .ck64 (by omega) (.one ⟨by simp, fun i hi j hp => ?_⟩))))
      · rw [hn] at h
        simp only [Bool.or_eq_true, Bool.and_eq_true, decide_eq_true_eq, Bool.not_eq_true', decide_eq_false_iff_not] at h
        rcases h with ⟨h1, h2⟩ | h2
        · rw [e1] at h2
          simp only [Classical.not_forall, Bool.not_eq_false] at h2
          obtain ⟨j, hj⟩ := h2
          exact ⟨k, j, hk, hj, by omega⟩
        · rw [← hn, e2] at h2
          simp only [Classical.not_forall, Bool.not_eq_false] at h2
          obtain ⟨j, hj⟩ := h2
          exact ⟨k, n + j, hk, hj, by omega⟩
      · rcases Nat.lt_or_ge i k with h1 | h1
        · exact hr i h1 j hp
        · obtain rfl : i = k := by omega
          rw [Bool.or_eq_false_iff, Bool.and_eq_false_imp] at h
          have h2 : ∀ j, pOf r i (n + j) = false := e2.1 (by have := h.2; simpa using this)
          have h3 : i < n := by
            rcases Nat.lt_or_ge i n with h4 | h4
            · exact h4
            · have h5 := h.1 (decide_eq_true (by omega))
              have h6 := e1.1 (by simpa using h5) j
              rw [hp] at h6; cases h6
          refine ⟨h3, ?_⟩
          rcases Nat.lt_or_ge j n with h4 | h4
          · exact h4
          · have := h2 (j - n)
            rw [show n + (j - n) = j by omega, hp] at this
            cases this
    · rintro v ⟨rfl, hr⟩
      simp only [order_Check_L3]
      exact .condF (decide_eq_false (by omega)) (.one hr)
    · have h : e ≠ 0 ∧ ∃ i j, i < 12 ∧ pOf r i j = true ∧ ¬ (i < n ∧ j < n) := h
      obtain ⟨_, i, j, hi, hp, hn'⟩ := h
      have h1 := hv.is
      obtain rfl : n = m := by omega
      exact hn' (hv.inn i j hp)
/-- The closed relation's rows. -/
def Closed (r : Rel) (n : Nat) (A : List Int) : Prop := ∀ i, i < 12 → Row (A.getD i 0) (war (pOf r) n i)
theorem ordClosed_wp {N : Nat} {r : Rel} {n : Nat} (hN : 300 < N) (V : RelV r n) : Wp (order_closed N r) (Closed r n) := by
  have hn := V.is
  have hle := V.le
  unfold order_closed
  refine .seq (.iter n (fun k st => st.2 = (k : Int) ∧ ∀ i, i < 12 → Row (st.1.getD i 0) (war (pOf r) k i)) (Q := Closed r n) (by omega) ⟨rfl, fun i hi => V.u.row hi⟩ ?_ ?_) fun A _ hA => .one hA
  · rintro k ⟨A, v⟩ hk ⟨hv, hA⟩
    simp only at hv hA
    subst hv
    simp only [order_closed_L25]
    refine .condT (decide_eq_true (by omega)) ?_
    refine .seq (P := fun A' => ∀ i, i < 12 → Row (A'.getD i 0) (war (pOf r) (k + 1) i)) ?_ fun A' _ hA' => .ck64 (by omega) (.one ⟨by simp, hA'⟩)
    refine .iter n (fun q st => st.2 = (q : Int) ∧ ∀ i, i < 12 → Row (st.1.getD i 0) fun j => if i < q then war (pOf r) (k + 1) i j else war (pOf r) k i j) (by omega) ⟨rfl, fun i hi => (hA i hi).cong fun j => by rw [if_neg (by omega)]⟩ ?_ ?_
    · rintro q ⟨B, v⟩ hq ⟨hv, hB⟩
      simp only at hv hB
      subst hv
      simp only [order_closed_L27]
      have hrk : Row (B.getD k 0) (war (pOf r) k k) := (hB k (by omega)).cong fun j => by
        split
        · exact war_self' _ _ _
        · rfl
      have hrq : Row (B.getD q 0) (war (pOf r) k q) := (hB q (by omega)).cong fun j => by rw [if_neg (by omega)]
      refine .condT (decide_eq_true (by omega)) (.axN (by omega) ?_)
      rw [wrapU64 (z := (k : Int)) (by omega) (by omega), hrq.test k]
      refine .cond (fun hb => .axN (by omega) (.axN (by omega) (.axN (by omega) (.ck64 (by omega) (.one ⟨by simp, fun i hi => ?_⟩))))) (fun hb => .ck64 (by omega) (.one ⟨by simp, fun i hi => ?_⟩))
      · simp only
        rw [setA_get hi]
        simp only [Int.toNat_natCast]
        by_cases h : i = q
        · subst h
          rw [if_pos rfl]
          exact (hrq.or hrk).cong fun j => by rw [if_pos (by omega)]; simp only [war, hb, Bool.true_and]
        · rw [if_neg h]
          exact (hB i hi).cong fun j => by
            by_cases h2 : i < q
            · rw [if_pos h2, if_pos (by omega)]
            · rw [if_neg h2, if_neg (by omega)]
      · refine (hB i hi).cong fun j => ?_
        by_cases h : i = q
        · subst h
          rw [if_neg (by omega), if_pos (by omega)]
          simp only [war, hb, Bool.false_and, Bool.or_false]
        · by_cases h2 : i < q
          · rw [if_pos h2, if_pos (by omega)]
          · rw [if_neg h2, if_neg (by omega)]
    · rintro ⟨B, v⟩ ⟨hv, hB⟩
      simp only at hv hB
      subst hv
      simp only [order_closed_L27]
      refine .condF (decide_eq_false (by omega)) (.one fun i hi => (hB i hi).cong fun j => ?_)
      by_cases h : i < n
      · rw [if_pos h]
      · rw [if_neg h]
        have hw : ∀ m, war (pOf r) m i j = false := fun m => by
          cases hw : war (pOf r) m i j with
          | false => rfl
          | true => exact absurd (war_in V.inn m i j hw).1 h
        rw [hw, hw]
  · rintro ⟨B, v⟩ ⟨hv, hB⟩
    simp only at hv hB
    subst hv
    simp only [order_closed_L25]
    exact .condF (decide_eq_false (by omega)) (.one hB)
/-- What Close tells. -/
def CloseR (r : Rel) (c : Int × List Int × Bool × Int) : Prop :=
  (∃ n, RelV r n ∧ c.1 = r.n ∧ c.2.2.2 = 0 ∧ Closed r n c.2.1 ∧ (c.2.2.1 = true ↔ ∃ i, i < n ∧ war (pOf r) n i i = true)) ∨ ((∀ n, ¬ RelV r n) ∧ c.2.2.2 ≠ 0 ∧ c.1 = 0 ∧ c.2.1 = [] ∧ c.2.2.1 = false)
theorem ordClose_wp {N : Nat} {r : Rel} (hN : 300 < N) (hu : RelU r) : Wp (order_Close N r) (CloseR r) := by
  unfold order_Close
  refine .seq (ordCheck_wp hN hu) fun e _ he => ?_
  rcases he with ⟨rfl, n, V⟩ | ⟨he, hv⟩
  · have hn := V.is
    have hle := V.le
    refine .condF rfl (.seq (ordClosed_wp hN V) fun A _ hA => ?_)
    refine .elim (P := fun t => match t with | .inl _ => ∀ i, i < n → war (pOf r) n i i = false | .inr c => c = (r.n, A, true, 0) ∧ ∃ i, i < n ∧ war (pOf r) n i i = true)
      (.iter n (fun k v => v = (k : Int) ∧ ∀ i, i < k → war (pOf r) n i i = false) (by omega) ⟨rfl, fun i h => absurd h (Nat.not_lt_zero _)⟩ ?_ ?_) (fun _ _ h => .one (.inl ⟨n, V, rfl, rfl, hA, ?_⟩)) (fun c _ h => .one ?_)
    · rintro k v hk ⟨rfl, hr⟩
      simp only [order_Close_L3]
      refine .condT (decide_eq_true (by omega)) (.axN (by omega) ?_)
      rw [wrapU64 (by omega) (by omega), (hA k (by omega)).test k]
      refine .cond (fun h => .one ⟨rfl, k, hk, h⟩) (fun h => .ck64 (by omega) (.one ⟨by simp, fun i hi => ?_⟩))
      rcases Nat.lt_or_ge i k with h1 | h1
      · exact hr i h1
      · obtain rfl : i = k := by omega
        exact h
    · rintro v ⟨rfl, hr⟩
      simp only [order_Close_L3]
      exact .condF (decide_eq_false (by omega)) (.one hr)
    · have h : ∀ i, i < n → war (pOf r) n i i = false := h
      refine ⟨fun h => (by cases h), fun ⟨i, hi, hw⟩ => ?_⟩
      rw [h i hi] at hw
      cases hw
    · have h : c = (r.n, A, true, 0) ∧ ∃ i, i < n ∧ war (pOf r) n i i = true := h
      obtain ⟨rfl, h2⟩ := h
      exact .inl ⟨n, V, rfl, rfl, hA, fun _ => h2, fun _ => rfl⟩
  · exact .condT (by simpa using he) (.one (.inr ⟨hv, he, rfl, rfl, rfl⟩))
theorem eqA_of {n : Nat} {xs ys : List Int} (h : ∀ i, i < n → xs.getD i 0 = ys.getD i 0) : eqA n xs ys = true := by
  unfold eqA
  rw [List.all_eq_true]
  intro i hi
  exact decide_eq_true (h i (List.mem_range.1 hi))
theorem of_eqA {n : Nat} {xs ys : List Int} (h : eqA n xs ys = true) : ∀ i, i < n → xs.getD i 0 = ys.getD i 0 := by
  unfold eqA at h
  rw [List.all_eq_true] at h
  exact fun i hi => of_decide_eq_true (h i (List.mem_range.2 hi))
theorem RelV.uniq {r : Rel} {n m : Nat} (h : RelV r n) (h2 : RelV r m) : n = m := by
  have := h.is; have := h2.is; omega
end Rl
theorem Row.clr {x y : Int} {p q : Nat → Bool} (h : Row x p) (h2 : Row y q) : Row (bclrI .u16 x y) fun j => p j && !q j := by
  obtain ⟨a, rfl, h1, ha⟩ := h
  obtain ⟨b, rfl, h2, hb⟩ := h2
  have e : (BitVec.ofInt IntKind.u16.bits (a : Int) &&& ~~~(BitVec.ofInt IntKind.u16.bits (b : Int))) = (BitVec.ofNat 16 a &&& ~~~(BitVec.ofNat 16 b)) := by
    show (BitVec.ofInt 16 (a : Int) &&& ~~~(BitVec.ofInt 16 (b : Int))) = _
    rw [BitVec.ofInt_natCast, BitVec.ofInt_natCast]
  refine ⟨(BitVec.ofNat 16 a &&& ~~~(BitVec.ofNat 16 b)).toNat, ?_, BitVec.isLt _, fun j => ?_⟩
  · unfold bclrI
    rw [e]
    exact wrapU16 (BitVec.isLt _)
  · rw [BitVec.toNat_and, Nat.testBit_and, BitVec.toNat_ofNat, Nat.mod_eq_of_lt h1, ha]
    by_cases hj : j < 16
    · congr 1
      show (~~~(BitVec.ofNat 16 b)).getLsbD j = _
      rw [BitVec.getLsbD_not, BitVec.getLsbD_ofNat, hb]
      simp [hj]
    · have : p j = false := by rw [← ha]; exact Nat.testBit_lt_two_pow (Nat.lt_of_lt_of_le h1 (Nat.pow_le_pow_right (n := 2) (by decide) (i := 16) (by omega)))
      simp [this]
open Rl
namespace Se
theorem serLives : alibkeep_serialLives 18446744073709551616 = some true := by kernel_rfl
def OkD (x : Deed) : Prop := 0 ≤ x.who ∧ x.who < 6 ∧ 0 ≤ x.kind ∧ x.kind ≤ 4 ∧ 0 ≤ x.item ∧ x.item < 6
def Dd (l : List Deed) : Prop := l.length ≤ 60 ∧ ∀ i, i < l.length → OkD (l.getD i Deed.z)
theorem check_wp {N : Nat} {l : List Deed} (hN : 300 < N) : Wp (serial_Check N l) fun r => (r.2 = 0 ∧ Dd l) ∨ (r.2 ≠ 0 ∧ ¬ Dd l) := by
  unfold serial_Check
  refine .cond (fun h => .one (.inr ⟨by simp, fun D => ?_⟩)) fun h => ?_
  · have h := of_decide_eq_true h
    have := D.1
    omega
  · have h := of_decide_eq_false h
    refine .elim (P := fun t => match t with | .inl _ => Dd l | .inr r => r.2 ≠ 0 ∧ ¬ Dd l) (.iter l.length (fun k v => v = (k : Int) ∧ ∀ i, i < k → OkD (l.getD i Deed.z)) (by omega) ⟨rfl, fun i h => absurd h (Nat.not_lt_zero _)⟩ ?_ ?_) (fun _ _ h => .one (.inl ⟨rfl, h⟩)) (fun r _ h => .one (.inr h))
    · rintro k v hk ⟨rfl, hr⟩
      simp only [serial_Check_L3]
      refine .condT (decide_eq_true (by omega)) (.ixD Deed.z (Int.natCast_nonneg k) (by omega) ?_)
      simp only [Int.toNat_natCast]
      refine .cond (fun h => .one ⟨by simp, fun D => ?_⟩) (fun h => .ck64 (by omega) (.one ⟨by simp, fun i hi => ?_⟩))
      · have := D.2 k hk
        simp only [Bool.or_eq_true, decide_eq_true_eq] at h
        unfold OkD at this
        omega
      · rcases Nat.lt_or_ge i k with h1 | h1
        · exact hr i h1
        · obtain rfl : i = k := by omega
          simp only [Bool.or_eq_false_iff, decide_eq_false_iff_not] at h
          unfold OkD
          omega
    · rintro v ⟨rfl, hr⟩
      simp only [serial_Check_L3]
      exact .condF (decide_eq_false (by omega)) (.one ⟨by omega, hr⟩)
def conf (a b : Deed) : Bool := cond ((((decide (a.who = b.who)) || (!(decide (a.item = b.item)))) || (decide (1 < a.kind))) || (decide (1 < b.kind))) false ((decide (a.kind = 1)) || (decide (b.kind = 1)))
theorem conflict_eq (N : Nat) (a b : Deed) : serial_conflict N a b = some (conf a b) := by
  unfold serial_conflict conf
  cases ((((decide (a.who = b.who)) || (!(decide (a.item = b.item)))) || (decide (1 < a.kind))) || (decide (1 < b.kind))) <;> rfl
/-- Deed q fights deed k, of whom and whom. -/
def cf (l : List Deed) (k q i j : Nat) : Bool := decide (k < q) && conf (l.getD k Deed.z) (l.getD q Deed.z) && decide ((l.getD k Deed.z).who = (i : Int)) && decide ((l.getD q Deed.z).who = (j : Int))
def gin (l : List Deed) (k m i j : Nat) : Bool := (List.range m).any fun q => cf l k q i j
def gr (l : List Deed) (n i j : Nat) : Bool := (List.range n).any fun p => gin l p l.length i j
theorem gin_succ (l : List Deed) (k m i j : Nat) : gin l k (m + 1) i j = (gin l k m i j || cf l k m i j) := by
  unfold gin; rw [List.range_succ, List.any_append]; simp
theorem gr_succ (l : List Deed) (n i j : Nat) : gr l (n + 1) i j = (gr l n i j || gin l n l.length i j) := by
  unfold gr; rw [List.range_succ, List.any_append]; simp
theorem gin_low (l : List Deed) (k i j : Nat) : ∀ m, m ≤ k + 1 → gin l k m i j = false := by
  intro m hm
  unfold gin
  rw [List.any_eq_false]
  intro q hq
  have := List.mem_range.1 hq
  unfold cf
  rw [decide_eq_false (by omega)]
  simp
theorem gr_iff {l : List Deed} {i j : Nat} : gr l l.length i j = true ↔ ∃ p q, q < l.length ∧ cf l p q i j = true := by
  unfold gr gin
  rw [List.any_eq_true]
  constructor
  · rintro ⟨p, hp, h⟩
    rw [List.any_eq_true] at h
    obtain ⟨q, hq, h⟩ := h
    exact ⟨p, q, List.mem_range.1 hq, h⟩
  · rintro ⟨p, q, hq, h⟩
    have hpq : p < q := by unfold cf at h; simp only [Bool.and_eq_true, decide_eq_true_eq] at h; exact h.1.1.1
    exact ⟨p, List.mem_range.2 (by omega), List.any_eq_true.2 ⟨q, List.mem_range.2 hq, h⟩⟩
theorem graph_wp {N : Nat} {l : List Deed} (hN : 300 < N) : Wp (serial_Graph N l) fun r => (Dd l ∧ r.1 = 6 ∧ r.2.2 = 0 ∧ ∀ i, i < 12 → Row (r.2.1.getD i 0) (gr l l.length i)) ∨ (¬ Dd l ∧ r.2.2 ≠ 0) := by
  unfold serial_Graph
  refine .seq (check_wp hN) fun r _ hr => .cond (fun h => .one (.inr ?_)) fun h => ?_
  · rcases hr with ⟨h0, _⟩ | ⟨h0, hn⟩
    · rw [h0] at h; cases h
    · exact ⟨hn, h0⟩
  · obtain ⟨h0, D⟩ : r.2 = 0 ∧ Dd l := by
      rcases hr with h0 | ⟨h0, hn⟩
      · exact h0
      · simp [h0] at h
    have hlen := D.1
    refine .seq (P := fun A => ∀ i, i < 12 → Row (A.getD i 0) (gr l l.length i)) (.iter l.length (fun k st => st.2 = (k : Int) ∧ ∀ i, i < 12 → Row (st.1.getD i 0) (gr l k i)) (by omega) ⟨rfl, fun i _ => Row.zero.cong fun j => by simp [gr]⟩ ?_ ?_) fun A _ hA => .one (.inl ⟨D, rfl, rfl, hA⟩)
    · rintro k ⟨A, v⟩ hk ⟨hv, hA⟩
      simp only at hv hA
      subst hv
      simp only [serial_Graph_L25]
      have ok := D.2 k hk
      refine .condT (decide_eq_true (by omega)) ?_
      refine .seq (P := fun A' => ∀ i, i < 12 → Row (A'.getD i 0) (gr l (k + 1) i)) (.ixD Deed.z (Int.natCast_nonneg k) (by omega) (.ck64 (by omega) (.ck (show slB _ _ _ = true by simp [slB]; omega) ?_))) fun A' _ hA' => .ck64 (by omega) (.one ⟨by simp, hA'⟩)
      simp only [Int.toNat_natCast]
      have hdl : (l.drop ((k : Int) + 1).toNat).length = l.length - (k + 1) := by rw [List.length_drop]; omega
      refine .iter (l.length - (k + 1)) (fun m st => st.2 = (m : Int) ∧ ∀ i, i < 12 → Row (st.1.getD i 0) fun j => gr l k i j || gin l k (k + 1 + m) i j) (by omega) ⟨rfl, fun i hi => (hA i hi).cong fun j => by rw [gin_low l k i j _ (by omega), Bool.or_false]⟩ ?_ ?_
      · rintro m ⟨B, v⟩ hm ⟨hv, hB⟩
        simp only at hv hB
        subst hv
        simp only [serial_Graph_L27]
        have okq := D.2 (k + 1 + m) (by omega)
        have hg : (l.drop ((k : Int) + 1).toNat).getD m Deed.z = l.getD (k + 1 + m) Deed.z := by
          rw [List.getD_eq_getElem?_getD, List.getD_eq_getElem?_getD, List.getElem?_drop, show ((k : Int) + 1).toNat + m = k + 1 + m by omega]
        refine .condT (decide_eq_true (by omega)) (.ixD Deed.z (Int.natCast_nonneg m) (by omega) ?_)
        simp only [Int.toNat_natCast, hg]
        refine .bdO (conflict_eq ..) ?_
        unfold OkD at ok okq
        obtain ⟨a, ha⟩ : ∃ a : Nat, (l.getD k Deed.z).who = a := ⟨(l.getD k Deed.z).who.toNat, by omega⟩
        obtain ⟨b, hb⟩ : ∃ b : Nat, (l.getD (k + 1 + m) Deed.z).who = b := ⟨(l.getD (k + 1 + m) Deed.z).who.toNat, by omega⟩
        have hcf : ∀ i j, cf l k (k + 1 + m) i j = (conf (l.getD k Deed.z) (l.getD (k + 1 + m) Deed.z) && decide (a = i) && decide (b = j)) := fun i j => by
          unfold cf
          rw [decide_eq_true (by omega), Bool.true_and, ha, hb, decide_eq_decide.2 (show (a : Int) = (i : Int) ↔ a = i by omega), decide_eq_decide.2 (show (b : Int) = (j : Int) ↔ b = j by omega)]
        refine .cond (fun h => ?_) (fun h => .ck64 (by omega) (.one ⟨by simp, fun i hi => (hB i hi).cong fun j => ?_⟩))
        · rw [ha, hb]
          refine .axN (by omega) (.axN (by omega) (.ck64 (by omega) (.one ⟨by simp, fun i hi => ?_⟩)))
          simp only
          rw [setA_get hi]
          simp only [Int.toNat_natCast]
          by_cases e : i = a
          · subst e
            rw [if_pos rfl]
            refine ((hB i hi).set (j := b) (by omega)).cong fun j => ?_
            rw [← Nat.add_assoc, gin_succ, hcf, h]
            simp [Bool.or_assoc]
          · rw [if_neg e]
            refine (hB i hi).cong fun j => ?_
            rw [← Nat.add_assoc, gin_succ, hcf, decide_eq_false fun e' => e e'.symm]
            simp
        · rw [← Nat.add_assoc, gin_succ, hcf, h]
          simp
      · rintro ⟨B, v⟩ ⟨hv, hB⟩
        simp only at hv hB
        subst hv
        simp only [serial_Graph_L27]
        refine .condF (decide_eq_false (by omega)) (.one fun i hi => (hB i hi).cong fun j => ?_)
        rw [gr_succ, show k + 1 + (l.length - (k + 1)) = l.length by omega]
    · rintro ⟨B, v⟩ ⟨hv, hB⟩
      simp only at hv hB
      subst hv
      simp only [serial_Graph_L25]
      exact .condF (by simp) (.one hB)
end Se

namespace Rl
structure CR (c : Rel) (n : Nat) (q : Nat → Nat → Bool) : Prop where
  is : c.n = n
  le : n ≤ 12
  row : ∀ i, i < 12 → Row (c.after.getD i 0) (q i)
  inn : ∀ i j, q i j = true → i < n ∧ j < n
/-- The closed one. -/
abbrev cl (r : Rel) (n : Nat) : Nat → Nat → Bool := war (pOf r) n
theorem CR.of {r : Rel} {n : Nat} {A : List Int} (V : RelV r n) (h : Closed r n A) : CR ⟨n, A⟩ n (cl r n) := ⟨rfl, V.le, h, war_in V.inn n⟩
theorem cl_tr {r : Rel} {n : Nat} (V : RelV r n) {i m j : Nat} (h1 : cl r n i m = true) (h2 : cl r n m j = true) : cl r n i j = true := war_trans (war_in V.inn n i m h1).2 h1 h2
/-- What Close and the like tell. -/
theorem acyclic {N : Nat} {r : Rel} (hN : 300 < N) (hu : RelU r) :
    (∃ n A, RelV r n ∧ Closed r n A ∧ (∀ i, cl r n i i = false) ∧ order_Close N r = some ((n : Int), A, false, 0) ∧ order_acyclic N r = some ((n : Int), A, 0)) ∨
    (∃ n A, RelV r n ∧ Closed r n A ∧ (∃ i, i < n ∧ cl r n i i = true) ∧ order_Close N r = some ((n : Int), A, true, 0) ∧ order_acyclic N r = some (0, [], 4)) ∨
    (∃ e, e ≠ 0 ∧ (∀ n, ¬ RelV r n) ∧ order_Close N r = some (0, [], false, e) ∧ order_acyclic N r = some (0, [], e)) := by
  obtain ⟨⟨a, A, b, e⟩, hc, h⟩ := ordClose_wp (r := r) hN hu
  rcases h with ⟨n, V, h1, h2, h3, h4⟩ | ⟨h1, h2, h3, h4, h5⟩
  · simp only at h1 h2 h3 h4
    have hn := V.is
    subst h2
    rw [hn] at h1
    subst h1
    cases b with
    | true =>
      refine .inr (.inl ⟨n, A, V, h3, h4.1 rfl, hc, ?_⟩)
      unfold order_acyclic
      rw [bd_of hc]; rfl
    | false =>
      refine .inl ⟨n, A, V, h3, fun i => ?_, hc, ?_⟩
      · cases hw : cl r n i i with
        | false => rfl
        | true => exact absurd (h4.2 ⟨i, (war_in V.inn n i i hw).1, hw⟩) (by decide)
      · unfold order_acyclic
        rw [bd_of hc]; rfl
  · simp only at h2 h3 h4 h5
    subst h3; subst h4; subst h5
    refine .inr (.inr ⟨e, h2, h1, hc, ?_⟩)
    unfold order_acyclic
    rw [bd_of hc]
    exact cond_of (by simpa using h2)
theorem has_ok {N : Nat} {c : Rel} {n : Nat} {q : Nat → Nat → Bool} (C : CR c n q) {i j : Nat} (hi : i < 12) (hj : j < 64) : order_has N c (i : Int) (j : Int) = some (q i j) := by
  unfold order_has
  rw [bd_of (ax_nat' hi), wrapU64 (by omega) (by omega), (C.row i hi).test]
theorem before_wp {N : Nat} (hN : 300 < N) {c : Rel} {n : Nat} {q : Nat → Nat → Bool} (C : CR c n q) {j : Nat} (hj : j < 64) : Wp (order_before N c (j : Int)) fun x => Row x fun i => q i j := by
  have hn := C.is; have hle := C.le
  unfold order_before
  refine .seq (.iter n (fun k st => st.2 = (k : Int) ∧ Row st.1 fun i => decide (i < k) && q i j) (Q := fun x => Row x fun i => q i j) (by omega) ⟨rfl, Row.zero.cong fun i => by simp⟩ ?_ ?_) fun A _ hA => .one hA
  · rintro k ⟨x, v⟩ hk ⟨hv, hx⟩
    simp only at hv hx
    subst hv
    simp only [order_before_L3]
    refine .condT (decide_eq_true (by omega)) (.bdO (has_ok C (by omega) hj) (.cond (fun h => .ck64 (by omega) (.one ⟨by simp, ?_⟩)) fun h => .ck64 (by omega) (.one ⟨by simp, ?_⟩)))
    · refine (hx.set (j := k) (by omega)).cong fun i => ?_
      by_cases e : k = i
      · subst e; simp [h]
      · simp only [e, decide_false, Bool.or_false]
        congr 1
        exact decide_eq_decide.2 (by omega)
    · refine hx.cong fun i => ?_
      by_cases e : k = i
      · subst e; simp [h]
      · congr 1
        exact decide_eq_decide.2 (by omega)
  · rintro ⟨x, v⟩ ⟨hv, hx⟩
    simp only at hv hx
    subst hv
    simp only [order_before_L3]
    refine .condF (decide_eq_false (by omega)) (.one (hx.cong fun i => ?_))
    cases h : q i j with
    | false => simp
    | true => simp [(C.inn i j h).1]
theorem before_ok {N : Nat} (hN : 300 < N) {c : Rel} {n : Nat} {q : Nat → Nat → Bool} (C : CR c n q) {j : Nat} (hj : j < 64) : ∃ x, order_before N c (j : Int) = some x ∧ Row x fun i => q i j := before_wp hN C hj
/-! Sums -/
theorem pig {l m : List Nat} (h : l.Nodup) (hs : ∀ x ∈ l, x ∈ m) : l.length ≤ m.length := by
  induction l generalizing m with
  | nil => exact Nat.zero_le _
  | cons a l ih =>
    have ha := hs a (List.mem_cons_self ..)
    obtain ⟨h1, h2⟩ := List.nodup_cons.1 h
    have := ih (m := m.erase a) h2 fun x hx => (List.mem_erase_of_ne (fun e : x = a => h1 (e ▸ hx))).2 (hs x (List.mem_cons_of_mem _ hx))
    rw [List.length_erase_of_mem ha] at this
    have : 0 < m.length := List.length_pos_of_mem ha
    simp only [List.length_cons]; omega
theorem pig_lt {l : List Nat} {n : Nat} (h : l.Nodup) (hs : ∀ x ∈ l, x < n) : l.length ≤ n := by
  have := pig (m := List.range n) h fun x hx => List.mem_range.2 (hs x hx)
  simpa using this
theorem pig_all {l : List Nat} {n : Nat} (h : l.Nodup) (hs : ∀ x ∈ l, x < n) (hl : n ≤ l.length) {j : Nat} (hj : j < n) : j ∈ l := by
  apply Classical.byContradiction
  intro hn
  have := pig_lt (l := j :: l) (n := n) (List.nodup_cons.2 ⟨hn, h⟩) fun x hx => by
    rcases List.mem_cons.1 hx with rfl | hx
    · exact hj
    · exact hs x hx
  simp only [List.length_cons] at this; omega
theorem pig_ex {l : List Nat} {n : Nat} (hl : l.length < n) : ∃ j, j < n ∧ j ∉ l := by
  apply Classical.byContradiction
  intro hn
  have := pig (l := List.range n) (m := l) List.nodup_range fun x hx => by
    apply Classical.byContradiction
    intro h
    exact hn ⟨x, List.mem_range.1 hx, h⟩
  simp at this; omega
/-! Who is ahead of whom in a list that is told backwards. -/
def bef : List Nat → Nat → Nat → Bool
  | [], _, _ => false
  | i :: l, x, y => (decide (y = i) && decide (x ∈ l)) || bef l x y
theorem bef_mem {l : List Nat} {x y : Nat} (h : bef l x y = true) : x ∈ l ∧ y ∈ l := by
  induction l with
  | nil => cases h
  | cons i l ih =>
    simp only [bef, Bool.or_eq_true, Bool.and_eq_true, decide_eq_true_eq] at h
    rcases h with ⟨rfl, h⟩ | h
    · exact ⟨List.mem_cons_of_mem _ h, List.mem_cons_self ..⟩
    · exact ⟨List.mem_cons_of_mem _ (ih h).1, List.mem_cons_of_mem _ (ih h).2⟩
theorem bef_irr {l : List Nat} (hn : l.Nodup) (x : Nat) : bef l x x = false := by
  induction l with
  | nil => rfl
  | cons i l ih =>
    obtain ⟨h1, h2⟩ := List.nodup_cons.1 hn
    simp only [bef, ih h2, Bool.or_false, Bool.and_eq_false_imp, decide_eq_true_eq, decide_eq_false_iff_not]
    rintro rfl; exact h1
theorem bef_tr {l : List Nat} (hn : l.Nodup) {x y z : Nat} (h1 : bef l x y = true) (h2 : bef l y z = true) : bef l x z = true := by
  induction l with
  | nil => cases h1
  | cons i l ih =>
    obtain ⟨g1, g2⟩ := List.nodup_cons.1 hn
    simp only [bef, Bool.or_eq_true, Bool.and_eq_true, decide_eq_true_eq] at h1 h2 ⊢
    rcases h2 with ⟨rfl, h2⟩ | h2
    · rcases h1 with ⟨rfl, h1⟩ | h1
      · exact (g1 h2).elim
      · exact .inl ⟨rfl, (bef_mem h1).1⟩
    · rcases h1 with ⟨rfl, h1⟩ | h1
      · exact (g1 (bef_mem h2).1).elim
      · exact .inr (ih g2 h1 h2)
theorem bef_or {l : List Nat} {x y : Nat} (hx : x ∈ l) (hy : y ∈ l) (hxy : x ≠ y) : bef l x y = true ∨ bef l y x = true := by
  induction l with
  | nil => cases hx
  | cons i l ih =>
    simp only [bef, Bool.or_eq_true, Bool.and_eq_true, decide_eq_true_eq]
    rcases List.mem_cons.1 hx with rfl | hx <;> rcases List.mem_cons.1 hy with h | hy
    · exact (hxy h.symm).elim
    · exact .inr (.inl ⟨rfl, hy⟩)
    · exact .inl (.inl ⟨h, hx⟩)
    · rcases ih hx hy with h | h
      · exact .inl (.inr h)
      · exact .inr (.inr h)
theorem bef_not {l : List Nat} (hn : l.Nodup) {x y : Nat} (hx : x ∈ l) (hy : y ∈ l) (hxy : x ≠ y) : bef l y x = !bef l x y := by
  cases h : bef l x y with
  | true =>
    cases h2 : bef l y x with
    | false => rfl
    | true => have := bef_tr hn h h2; rw [bef_irr hn] at this; cases this
  | false =>
    rcases bef_or hx hy hxy with h2 | h2
    · rw [h] at h2; cases h2
    · rw [h2]; rfl
/-- An order that is told backwards. -/
def Ok (n : Nat) (q : Nat → Nat → Bool) : List Nat → Prop
  | [] => True
  | i :: l => Ok n q l ∧ i < n ∧ i ∉ l ∧ ∀ y, q y i = true → y ∈ l
theorem Ok.nodup {n : Nat} {q : Nat → Nat → Bool} : ∀ {l}, Ok n q l → l.Nodup
  | [], _ => List.nodup_nil
  | i :: l, h => List.nodup_cons.2 ⟨h.2.2.1, Ok.nodup h.1⟩
theorem Ok.lt {n : Nat} {q : Nat → Nat → Bool} : ∀ {l}, Ok n q l → ∀ x ∈ l, x < n
  | [], _, _, hx => (List.not_mem_nil hx).elim
  | i :: l, h, x, hx => by
    rcases List.mem_cons.1 hx with rfl | hx
    · exact h.2.1
    · exact Ok.lt h.1 x hx
theorem Ok_iff {n : Nat} {q : Nat → Nat → Bool} : ∀ {l : List Nat}, Ok n q l ↔ l.Nodup ∧ (∀ x ∈ l, x < n) ∧ ∀ x y, y ∈ l → q x y = true → bef l x y = true
  | [] => ⟨fun _ => ⟨List.nodup_nil, fun x h => (List.not_mem_nil h).elim, fun x y h => (List.not_mem_nil h).elim⟩, fun _ => trivial⟩
  | i :: l => by
    have ih := Ok_iff (n := n) (q := q) (l := l)
    constructor
    · intro h
      refine ⟨h.nodup, h.lt, fun x y hy hq => ?_⟩
      simp only [bef, Bool.or_eq_true, Bool.and_eq_true, decide_eq_true_eq]
      rcases List.mem_cons.1 hy with rfl | hy
      · exact .inl ⟨rfl, h.2.2.2 x hq⟩
      · exact .inr ((ih.1 h.1).2.2 x y hy hq)
    · rintro ⟨h1, h2, h3⟩
      obtain ⟨g1, g2⟩ := List.nodup_cons.1 h1
      refine ⟨ih.2 ⟨g2, fun x hx => h2 x (List.mem_cons_of_mem _ hx), fun x y hy hq => ?_⟩, h2 i (List.mem_cons_self ..), g1, fun y hq => ?_⟩
      · have := h3 x y (List.mem_cons_of_mem _ hy) hq
        simp only [bef, Bool.or_eq_true, Bool.and_eq_true, decide_eq_true_eq] at this
        rcases this with ⟨rfl, _⟩ | h
        · exact (g1 hy).elim
        · exact h
      · have := h3 y i (List.mem_cons_self ..) hq
        simp only [bef, Bool.or_eq_true, Bool.and_eq_true, decide_eq_true_eq] at this
        rcases this with ⟨_, h⟩ | h
        · exact h
        · exact (g1 (bef_mem h).2).elim
def Lin (n : Nat) (q : Nat → Nat → Bool) (l : List Nat) : Prop := l.Nodup ∧ (∀ j, j ∈ l ↔ j < n) ∧ ∀ x y, q x y = true → bef l x y = true
end Rl
theorem Row.test0 {x : Int} {p : Nat → Bool} (h : Row x p) (j : Nat) : decide (bandI .u16 (shrI .u16 x (j : Int)) 1 = 0) = !p j := by
  obtain ⟨a, rfl, h2, ha⟩ := h
  rw [shr16 h2, show (1 : Int) = ((1 : Nat) : Int) from rfl, band16 (Nat.lt_of_le_of_lt (by rw [Nat.shiftRight_eq_div_pow]; exact Nat.div_le_self _ _) h2) (by decide), ← ha]
  rw [Nat.testBit]
  simp only [Nat.and_comm 1]
  have hx : (a >>> j) &&& 1 = (a >>> j) % 2 := Nat.and_one_is_mod _
  rw [hx]
  rcases Nat.mod_two_eq_zero_or_one (a >>> j) with h | h <;> rw [h] <;> rfl
namespace Rl
theorem leastBy (P : Nat → Prop) (f : Nat → Nat) : ∀ m, (∃ i, P i ∧ f i ≤ m) → ∃ i, P i ∧ ∀ j, P j → f i ≤ f j
  | 0, ⟨i, h1, h2⟩ => ⟨i, h1, fun j _ => by omega⟩
  | m + 1, ⟨i, h1, h2⟩ => by
    by_cases h : ∃ j, P j ∧ f j ≤ m
    · exact leastBy P f m h
    · exact ⟨i, h1, fun j hj => by
        have : ¬ f j ≤ m := fun h' => h ⟨j, hj, h'⟩
        omega⟩
/-- How many stand ahead. -/
def cnt (n : Nat) (q : Nat → Nat → Bool) (i : Nat) : Nat := ((List.range n).filter fun y => q y i).length
structure Acy (n : Nat) (q : Nat → Nat → Bool) : Prop where
  inn : ∀ i j, q i j = true → i < n ∧ j < n
  tr : ∀ {i m j}, q i m = true → q m j = true → q i j = true
  irr : ∀ i, q i i = false
theorem cnt_lt {n : Nat} {q : Nat → Nat → Bool} (H : Acy n q) {y i : Nat} (h : q y i = true) : cnt n q y < cnt n q i := by
  unfold cnt
  have := pig (l := y :: (List.range n).filter fun z => q z y) (m := (List.range n).filter fun z => q z i) ?_ fun x hx => ?_
  · simp only [List.length_cons] at this; omega
  · refine List.nodup_cons.2 ⟨fun hm => ?_, List.nodup_range.filter _⟩
    have := (List.mem_filter.1 hm).2
    rw [H.irr] at this; cases this
  · rw [List.mem_filter, List.mem_range]
    rcases List.mem_cons.1 hx with rfl | hx
    · exact ⟨(H.inn _ _ h).1, h⟩
    · have := (List.mem_filter.1 hx).2
      exact ⟨(H.inn _ _ this).1, H.tr this h⟩
theorem cnt_le (n : Nat) (q : Nat → Nat → Bool) (i : Nat) : cnt n q i ≤ n := by
  unfold cnt
  have := List.length_filter_le (fun y => q y i) (List.range n)
  simpa using this
/-- Something can come next. -/
theorem next_ex {n : Nat} {q : Nat → Nat → Bool} (H : Acy n q) {l : List Nat} (hl : l.length < n) : ∃ i, i < n ∧ i ∉ l ∧ ∀ y, q y i = true → y ∈ l := by
  obtain ⟨j, hj, hjl⟩ := pig_ex hl
  obtain ⟨i, ⟨hi, hil⟩, hmin⟩ := leastBy (fun i => i < n ∧ i ∉ l) (cnt n q) _ ⟨j, ⟨hj, hjl⟩, Nat.le_refl _⟩
  refine ⟨i, hi, hil, fun y hy => ?_⟩
  apply Classical.byContradiction
  intro hyl
  have h1 := hmin y ⟨(H.inn _ _ hy).1, hyl⟩
  have h2 := cnt_lt H hy
  omega
theorem lin_ex {n : Nat} {q : Nat → Nat → Bool} (H : Acy n q) : ∀ k, k ≤ n → ∃ l, Ok n q l ∧ l.length = k
  | 0, _ => ⟨[], trivial, rfl⟩
  | k + 1, h => by
    obtain ⟨l, h1, h2⟩ := lin_ex H k (by omega)
    obtain ⟨i, g1, g2, g3⟩ := next_ex H (l := l) (by omega)
    exact ⟨i :: l, ⟨h1, g1, g2, g3⟩, by simp [h2]⟩
theorem ok_lin {n : Nat} {q : Nat → Nat → Bool} (H : Acy n q) {l : List Nat} (h : Ok n q l) (hl : l.length = n) : Lin n q l := by
  obtain ⟨h1, h2, h3⟩ := Ok_iff.1 h
  have hm : ∀ j, j ∈ l ↔ j < n := fun j => ⟨h2 j, pig_all h1 h2 (by omega)⟩
  exact ⟨h1, hm, fun x y hq => h3 x y ((hm y).2 (H.inn _ _ hq).2) hq⟩
theorem acy_of {r : Rel} {n : Nat} (V : RelV r n) (hno : ∀ i, cl r n i i = false) : Acy n (cl r n) := ⟨war_in V.inn n, fun h1 h2 => cl_tr V h1 h2, hno⟩
abbrev fwd (l : List Nat) : List Int := l.reverse.map fun (x : Nat) => (x : Int)
theorem least_in {N : Nat} (hN : 5000 < N) {n : Nat} {A : List Int} {q : Nat → Nat → Bool} (C : CR ⟨n, A⟩ n q) (H : Acy n q) {l : List Nat} (hl : Ok n q l) (hlen : l.length < n) {d : Int} (hd : Row d fun j => decide (j ∈ l)) :
    Wp (iter (order_Least_L15 N ((n : Int), A, 0) d (fwd l)) N 0) fun st => ∃ i, Ok n q (i :: l) ∧ st.1 = fwd (i :: l) ∧ Row st.2 fun j => decide (j ∈ i :: l) := by
  have hle := C.le
  obtain ⟨i0, g1, g2, g3⟩ := next_ex H hlen
  refine .iter n (fun k v => v = (k : Int) ∧ ∀ i, i < k → i ∉ l → ¬ ∀ y, q y i = true → y ∈ l) (by omega) ⟨rfl, fun i h => absurd h (Nat.not_lt_zero _)⟩ ?_ ?_
  · rintro k v hk ⟨rfl, hI⟩
    simp only [order_Least_L15]
    refine .condT (decide_eq_true (by omega)) ?_
    rw [wrapU64 (by omega) (by omega), hd.test0 k]
    obtain ⟨x, hx, hrow⟩ := before_ok (N := N) (by omega) C (j := k) (by omega)
    refine .gd x (fun _ => hx) fun b hb => ?_
    refine .cond (fun h => ?_) fun h => .ck64 (by omega) (.one ⟨by simp, fun i hi hil => ?_⟩)
    · simp only [Bool.and_eq_true, Bool.not_eq_true', decide_eq_false_iff_not, decide_eq_true_eq] at h
      obtain ⟨h1, h2⟩ := h
      rw [hb (by simp [h1])] at h2
      have h3 := (hrow.clr hd).empty.1 h2
      have hlen2 : (fwd l).length = l.length := by simp [fwd]
      have h4 : ∀ y, q y k = true → y ∈ l := fun y hy => by
        have := h3 y
        simpa [hy] using this
      refine .ck (limB_of (by simp only [List.length_append, hlen2, List.length_cons, List.length_nil]; unfold maxLen; omega)) (.one ⟨k, ⟨hl, hk, h1, h4⟩, by simp [fwd], ?_⟩)
      have h5 := hd.or (Row.one (j := k) (by omega))
      refine h5.cong fun j => ?_
      simp only [List.mem_cons]
      by_cases e : k = j
      · subst e; simp
      · have e' : ¬ j = k := fun h => e h.symm
        simp [e, e']
    · by_cases e : i = k
      · subst e
        intro hall
        have h1 : (!decide (i ∈ l)) = true := by simp [hil]
        rw [h1, hb (by rw [h1]; rfl), (hrow.clr hd).empty.2 fun y => ?_] at h
        · cases h
        · cases hy : q y i with
          | false => rfl
          | true => simp [hall y hy]
      · exact hI i (by omega) hil
  · rintro v ⟨rfl, hI⟩
    exact (hI i0 g1 g2 g3).elim
theorem least_wp {N : Nat} (hN : 5000 < N) {r : Rel} {n : Nat} {A : List Int} {q : Nat → Nat → Bool} (C : CR ⟨n, A⟩ n q) (H : Acy n q) (ha : order_acyclic N r = some ((n : Int), A, 0)) : ∃ l, order_Least N r = some (fwd l, 0) ∧ Lin n q l := by
  have hle := C.le
  have key : Wp (order_Least N r) fun x => x.2 = 0 ∧ ∃ l, x.1 = fwd l ∧ Lin n q l := by
    unfold order_Least
    refine .bdO ha (.condF rfl (.seq (P := fun o => ∃ l, o = fwd l ∧ Lin n q l) ?_ fun o _ ho => .one ⟨rfl, ho⟩))
    refine .iter n (fun k st => ∃ l, Ok n q l ∧ l.length = k ∧ st.1 = fwd l ∧ Row st.2 fun j => decide (j ∈ l)) (by omega) ⟨[], trivial, rfl, rfl, Row.zero.cong fun j => by simp⟩ ?_ ?_
    · rintro k ⟨o, d⟩ hk ⟨l, h1, h2, h3, h4⟩
      simp only at h3 h4
      subst h3
      simp only [order_Least_L14]
      refine .condT (decide_eq_true (by simp [fwd]; omega)) (.seq (least_in hN C H h1 (by omega) h4) fun st _ hst => .one ?_)
      obtain ⟨i, g1, g2, g3⟩ := hst
      exact ⟨i :: l, g1, by simp [h2], g2, g3⟩
    · rintro ⟨o, d⟩ ⟨l, h1, h2, h3, h4⟩
      simp only at h3 h4
      subst h3
      simp only [order_Least_L14]
      exact .condF (decide_eq_false (by simp [fwd]; omega)) (.one ⟨l, rfl, ok_lin H h1 h2⟩)
  obtain ⟨⟨o, e⟩, h1, h2, l, h3, h4⟩ := key
  simp only at h2 h3
  subst h2; subst h3
  exact ⟨l, h1, h4⟩
theorem least_err {N : Nat} {r : Rel} {e : Int} (he : e ≠ 0) (ha : order_acyclic N r = some (0, [], e)) : order_Least N r = some ([], e) := by
  unfold order_Least
  rw [bd_of ha]
  exact cond_of (by simpa using he)
end Rl
namespace Se
open Rl
theorem relV_of {l : List Deed} (D : Dd l) {n : Int} {A : List Int} (hn : n = 6) (hA : ∀ i, i < 12 → Row (A.getD i 0) (gr l l.length i)) : RelV ⟨n, A⟩ 6 ∧ ∀ i j, pOf ⟨n, A⟩ i j = true → gr l l.length i j = true := by
  have hu : RelU ⟨n, A⟩ := fun i hi => (hA i hi).rng
  have key : ∀ i j, pOf ⟨n, A⟩ i j = true → gr l l.length i j = true := fun i j hp => by
    have hi := pOf_lt hp
    rw [← (hu.row hi).uniq (hA i hi) j]; exact hp
  refine ⟨⟨hu, hn, by decide, fun i j hp => ?_⟩, key⟩
  obtain ⟨p, q, hq, h⟩ := gr_iff.1 (key i j hp)
  unfold cf at h
  simp only [Bool.and_eq_true, decide_eq_true_eq] at h
  have d1 := D.2 p (by omega)
  have d2 := D.2 q hq
  unfold OkD at d1 d2
  omega
theorem lin_len {n : Nat} {q : Nat → Nat → Bool} {l : List Nat} (h : Lin n q l) : l.length = n := by
  have h1 := pig_lt h.1 fun x hx => (h.2.1 x).1 hx
  have h2 := pig (l := List.range n) (m := l) List.nodup_range fun x hx => (h.2.1 x).2 (List.mem_range.1 hx)
  simp at h2; omega
theorem eq_wp {N : Nat} {s t : List Int} (hN : 300 < N) (hl : s.length ≤ 200) : Wp (slices_Equal_int_int N s t) fun b => b = decide (s = t) := by
  unfold slices_Equal_int_int
  refine .cond (fun h => .one ?_) fun h => ?_
  · have h : (s.length : Int) ≠ t.length := by simpa using h
    rw [decide_eq_false]
    rintro rfl
    exact h rfl
  · have h : s.length = t.length := by
      have h : (s.length : Int) = t.length := by simpa using h
      omega
    refine .elim (P := fun r => match r with | .inl _ => s = t | .inr b => b = false ∧ s ≠ t) (.iter s.length (fun k v => v = (k : Int) ∧ ∀ j, j < k → s.getD j 0 = t.getD j 0) (by omega) ⟨rfl, fun j h => absurd h (Nat.not_lt_zero _)⟩ ?_ ?_) (fun _ _ h => .one (decide_eq_true h).symm) (fun b _ h => .one (by rw [h.1]; exact (decide_eq_false h.2).symm))
    · rintro k v hk ⟨rfl, hr⟩
      simp only [slices_Equal_int_int_L3]
      refine .condT (decide_eq_true (by omega)) (.ixD 0 (by omega) (by omega) (.ixD 0 (by omega) (by omega) ?_))
      simp only [Int.toNat_natCast]
      refine .cond (fun h2 => .one ⟨rfl, fun e => ?_⟩) fun h2 => .ck64 (by omega) (.one ⟨by simp, fun j hj => ?_⟩)
      · rw [e] at h2
        simp at h2
      · rcases Nat.lt_or_ge j k with h1 | h1
        · exact hr j h1
        · obtain rfl : j = k := by omega
          simpa using h2
    · rintro v ⟨rfl, hr⟩
      simp only [slices_Equal_int_int_L3]
      refine .condF (decide_eq_false (by omega)) (.one (List.ext_getElem h fun j h1 h2 => ?_))
      have := hr j h1
      rwa [getD_of h1, getD_of h2] at this
theorem eq_ok {N : Nat} {s t : List Int} (hN : 300 < N) (hl : s.length ≤ 200) : slices_Equal_int_int N s t = some (decide (s = t)) := Wp.eq (eq_wp hN hl)
end Se

end Go.Proofs.Ytkmmagekepoapaa
