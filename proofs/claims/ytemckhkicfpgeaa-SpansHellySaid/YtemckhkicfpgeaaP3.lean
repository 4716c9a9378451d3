/- Spans, plainly. -/
import Derived.Test.YtemckhkicfpgeaaP2
import Derived.Test.YtemckhkicfpgeaaO8
set_option linter.unusedVariables false
set_option linter.unusedSimpArgs false
set_option linter.unusedSectionVars false
set_option maxRecDepth 100000
namespace Go.Proofs.Ytemckhkicfpgeaa
open Go.RowKit
namespace Hs
open Rl
def bfS (s : List Span) (i j : Nat) : Bool := decide (i < s.length ∧ j < s.length ∧ (s.getD i Span.z).to_ < (s.getD j Span.z).from_)
/-- Right spans. -/
def SpOk (s : List Span) : Prop := s.length ≤ 12 ∧ ∀ x ∈ s, 0 ≤ x.from_ ∧ x.from_ ≤ x.to_ ∧ x.to_ ≤ 1000000
theorem spCheck_wp {N : Nat} {s : List Span} (hN : 300 < N) : Wp (spans_Check N s) fun e => (e = 0 ∧ SpOk s) ∨ (e ≠ 0 ∧ ¬ SpOk s) := by
  unfold spans_Check
  refine .cond (fun h => .one (.inr ⟨by simp, fun h2 => ?_⟩)) (fun h => ?_)
  · have := h2.1; simp only [Bool.or_eq_true, Bool.and_eq_true, Bool.not_eq_true', Bool.not_eq_false', Bool.or_eq_false_iff, Bool.and_eq_false_imp, decide_eq_true_eq, decide_eq_false_iff_not, beq_iff_eq, not_or, Int.not_lt, Int.not_le, Bool.false_eq_true, not_false_eq_true, not_true_eq_false, Decidable.not_not] at *; omega
  · simp only [Bool.or_eq_true, Bool.and_eq_true, Bool.not_eq_true', Bool.not_eq_false', Bool.or_eq_false_iff, Bool.and_eq_false_imp, decide_eq_true_eq, decide_eq_false_iff_not, beq_iff_eq, not_or, Int.not_lt, Int.not_le, Bool.false_eq_true, not_false_eq_true, not_true_eq_false, Decidable.not_not] at *
    refine .elim (P := fun t => match t with | .inl _ => SpOk s | .inr e => e ≠ 0 ∧ ¬ SpOk s) (.iter s.length (fun k v => v = (k : Int) ∧ ∀ j, (hj : j < s.length) → j < k → 0 ≤ s[j].from_ ∧ s[j].from_ ≤ s[j].to_ ∧ s[j].to_ ≤ 1000000) (by omega) ⟨rfl, fun j _ h => absurd h (Nat.not_lt_zero _)⟩ ?_ ?_) (fun _ _ h => .one (.inl ⟨rfl, h⟩)) (fun e _ h => .one (.inr h))
    · rintro k v hk ⟨rfl, hr⟩
      simp only [spans_Check_L3]
      refine .condT (decide_eq_true (by omega)) (.ix hk (.cond (fun h => .one ⟨by simp, fun h2 => ?_⟩) (fun h => .ck64 (by omega) (.one ⟨by simp, fun j hj hjk => ?_⟩))))
      · have := h2.2 _ (List.getElem_mem hk)
        simp only [Bool.or_eq_true, Bool.and_eq_true, Bool.not_eq_true', Bool.not_eq_false', Bool.or_eq_false_iff, Bool.and_eq_false_imp, decide_eq_true_eq, decide_eq_false_iff_not, beq_iff_eq, not_or, Int.not_lt, Int.not_le, Bool.false_eq_true, not_false_eq_true, not_true_eq_false, Decidable.not_not] at *
        omega
      · rcases Nat.lt_or_ge j k with h1 | h1
        · exact hr j hj h1
        · obtain rfl : j = k := by omega
          simp only [Bool.or_eq_true, Bool.and_eq_true, Bool.not_eq_true', Bool.not_eq_false', Bool.or_eq_false_iff, Bool.and_eq_false_imp, decide_eq_true_eq, decide_eq_false_iff_not, beq_iff_eq, not_or, Int.not_lt, Int.not_le, Bool.false_eq_true, not_false_eq_true, not_true_eq_false, Decidable.not_not] at *
          omega
    · rintro v ⟨rfl, hr⟩
      simp only [spans_Check_L3]
      refine .condF (decide_eq_false (by omega)) (.one ⟨by omega, fun x hx => ?_⟩)
      obtain ⟨j, hj, rfl⟩ := List.mem_iff_getElem.1 hx
      exact hr j hj hj
theorem spOf_wp {N : Nat} {s : List Span} (hN : 300 < N) (h12 : s.length ≤ 12) : Wp (spans_of N s) fun A => ∀ i, i < 12 → Row (A.getD i 0) (bfS s i) := by
  unfold spans_of
  refine .seq (P := fun A => ∀ i, i < 12 → Row (A.getD i 0) (bfS s i)) (.iter s.length (fun k st => st.2 = (k : Int) ∧ ∀ i, i < 12 → Row (st.1.getD i 0) fun j => decide (i < k) && bfS s i j) (by omega) ⟨rfl, fun i _ => Row.zero.cong fun j => by simp⟩ ?_ ?_) fun A _ hA => .one hA
  · rintro k ⟨A, v⟩ hk ⟨hv, hA⟩
    simp only at hv hA
    subst hv
    simp only [spans_of_L25]
    refine .condT (decide_eq_true (by omega)) ?_
    refine .seq (P := fun A' => ∀ i, i < 12 → Row (A'.getD i 0) fun j => decide (i < k + 1) && bfS s i j) (.bd (.ixV hk ?_)) fun A' _ hA' => .ck64 (by omega) (.one ⟨by simp, hA'⟩)
    refine mat_in (by omega) h12 (by omega) hA (fun j h => (of_decide_eq_true h).2.1) (fun B j hj => ?_) (fun B => ?_)
    · simp only [spans_of_L27]
      refine Wp.eq (.condT (decide_eq_true (by omega)) (.ix hj ?_))
      have e : (decide (s[k].to_ < s[j].from_)) = bfS s k j := by
        unfold bfS
        rw [getD_of hk, getD_of hj]
        exact decide_eq_decide.2 ⟨fun h => ⟨hk, hj, h⟩, fun h => h.2.2⟩
      rw [e]
      exact .cond (fun hb => .axN (by omega) (.axN (by omega) (.ck64 (by omega) (.one (by rw [hb]; rfl))))) (fun hb => .ck64 (by omega) (.one (by rw [hb]; rfl)))
    · simp only [spans_of_L27]
      exact Wp.eq (.condF (by simp) (.one rfl))
  · rintro ⟨B, v⟩ ⟨hv, hB⟩
    simp only at hv hB
    subst hv
    simp only [spans_of_L25]
    refine .condF (by simp) (.one fun i hi => (hB i hi).cong fun j => ?_)
    by_cases h : i < s.length
    · simp [h]
    · have : bfS s i j = false := decide_eq_false (fun hh => h hh.1)
      simp [this]
theorem spansOf_wp {N : Nat} {s : List Span} (hN : 300 < N) : Wp (spans_Of N s) fun r => (SpOk s ∧ r.1 = s.length ∧ r.2.2 = 0 ∧ ∀ i, i < 12 → Row (r.2.1.getD i 0) (bfS s i)) ∨ (¬ SpOk s ∧ r.1 = 0 ∧ r.2.1 = [] ∧ r.2.2 ≠ 0) := by
  unfold spans_Of
  refine .seq (spCheck_wp hN) fun e _ he => ?_
  rcases he with ⟨rfl, h⟩ | ⟨h0, h⟩
  · exact .condF rfl (.seq (spOf_wp hN h.1) fun A _ hA => .one (.inl ⟨h, rfl, rfl, hA⟩))
  · exact .condT (by simpa using h0) (.one (.inr ⟨h, rfl, rfl, h0⟩))
end Hs

end Go.Proofs.Ytemckhkicfpgeaa
