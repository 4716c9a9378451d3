/- SpansHelly, plainly: as many as meet. -/
import Derived.Test.YtemckhkicfpgeaaP4
set_option linter.unusedVariables false
set_option linter.unusedSimpArgs false
set_option linter.unusedSectionVars false
set_option maxRecDepth 100000
namespace Go.Proofs.Ytemckhkicfpgeaa
open Go.RowKit
namespace Sp
open Rl Hs
theorem ok_wp {N : Nat} {l : List Int} (hN : l.length < N) (hl : l.length ≤ 1000) : Wp (alibkeep_ok N l) fun r => r = true ↔ ∀ x ∈ l, x = 0 := by
  unfold alibkeep_ok
  refine .elim (P := fun t => match t with | .inl _ => ∀ x ∈ l, x = 0 | .inr r => r = false ∧ ∃ x ∈ l, x ≠ 0) (.iter l.length (fun k v => v = (k : Int) ∧ ∀ j, (h : j < l.length) → j < k → l[j] = 0) hN ⟨rfl, fun j _ h => absurd h (Nat.not_lt_zero _)⟩ ?_ ?_) (fun _ _ h => .one ⟨fun _ => h, fun _ => rfl⟩) (fun r _ h => .one ?_)
  · rintro k v hk ⟨rfl, hr⟩
    simp only [alibkeep_ok_L3]
    refine .condT (decide_eq_true (by omega)) (.ix hk (.cond (fun h => .one ⟨rfl, l[k], List.getElem_mem hk, by simpa using h⟩) (fun h => .ck64 (by omega) (.one ⟨by simp, fun j hj hjk => ?_⟩))))
    rcases Nat.lt_or_ge j k with h1 | h1
    · exact hr j hj h1
    · obtain rfl : j = k := by omega
      simpa using h
  · rintro v ⟨rfl, hr⟩
    simp only [alibkeep_ok_L3]
    refine .condF (decide_eq_false (by omega)) (.one fun x hx => ?_)
    obtain ⟨j, hj, rfl⟩ := List.mem_iff_getElem.1 hx
    exact hr j hj hj
  · have h : r = false ∧ ∃ x ∈ l, x ≠ 0 := h
    obtain ⟨rfl, x, hx, hn⟩ := h
    exact ⟨fun h => (by cases h), fun h => absurd (h x hx) hn⟩
/-- The time of span i's begin lies in span j. -/
def cov (l : List Span) (i j : Nat) : Bool := decide ((l.getD j Span.z).from_ ≤ (l.getD i Span.z).from_) && decide ((l.getD i Span.z).from_ ≤ (l.getD j Span.z).to_)
def cnt (l : List Span) (i k : Nat) : Nat := ((List.range k).filter fun j => cov l i j).length
theorem cnt_succ (l : List Span) (i k : Nat) : cnt l i (k + 1) = cnt l i k + (if cov l i k = true then 1 else 0) := by
  unfold cnt
  rw [List.range_succ, List.filter_append, List.length_append]
  by_cases h : cov l i k = true
  · simp [h]
  · simp [h]
theorem cnt_le (l : List Span) (i k : Nat) : cnt l i k ≤ k := by
  unfold cnt
  have := List.length_filter_le (fun j => cov l i j) (List.range k)
  simpa using this
theorem meets_in {N : Nat} (hN : 300 < N) {l : List Span} (h12 : l.length ≤ 12) {i : Nat} : Wp (iter (spans_Meets_L51 N l (l.getD i Span.z)) N (0, 0)) fun n => n = ((cnt l i l.length : Nat) : Int) := by
  refine .iter l.length (fun k st => st.2 = (k : Int) ∧ st.1 = ((cnt l i k : Nat) : Int)) (by omega) ⟨rfl, rfl⟩ ?_ ?_
  · rintro k ⟨n, v⟩ hk ⟨hv, hn⟩
    simp only at hv hn
    subst hv; subst hn
    simp only [spans_Meets_L51]
    have hle := cnt_le l i k
    refine .condT (decide_eq_true (by omega)) (.ixD Span.z (Int.natCast_nonneg k) (by omega) ?_)
    simp only [Int.toNat_natCast]
    have e : ((decide ((l.getD k Span.z).from_ ≤ (l.getD i Span.z).from_)) && (decide ((l.getD i Span.z).from_ ≤ (l.getD k Span.z).to_))) = cov l i k := rfl
    rw [e]
    refine .cond (fun h => .ck64 (by omega) (.ck64 (by omega) (.one ⟨by simp, ?_⟩))) fun h => .ck64 (by omega) (.one ⟨by simp, ?_⟩)
    · rw [cnt_succ, if_pos h]; simp
    · rw [cnt_succ, if_neg (by simp [h])]; simp
  · rintro ⟨n, v⟩ ⟨hv, hn⟩
    simp only at hv hn
    subst hv
    simp only [spans_Meets_L51]
    exact .condF (decide_eq_false (by omega)) (.one hn)
/-- As many as meet at one time. -/
structure Mst (l : List Span) (k : Nat) (m : Int) : Prop where
  up : ∀ i, i < k → ((cnt l i l.length : Nat) : Int) ≤ m
  is : m = 0 ∨ ∃ i, i < k ∧ m = ((cnt l i l.length : Nat) : Int)
theorem meets_wp {N : Nat} (hN : 300 < N) {l : List Span} : Wp (spans_Meets N l) fun r => (SpOk l ∧ r.2.2 = 0 ∧ Mst l l.length r.2.1) ∨ (¬ SpOk l ∧ r.2.2 ≠ 0 ∧ spans_Check N l = some r.2.2) := by
  unfold spans_Meets
  refine .seq (spCheck_wp hN) fun e hce he => .cond (fun h => .one (.inr ?_)) fun h => ?_
  · rcases he with ⟨rfl, _⟩ | ⟨he, hn⟩
    · simp at h
    · exact ⟨hn, he, hce⟩
  · obtain ⟨rfl, S⟩ : e = 0 ∧ SpOk l := by
      rcases he with h0 | ⟨h0, _⟩
      · exact h0
      · simp [h0] at h
    have h12 := S.1
    refine .seq (P := fun s => Mst l l.length s.2) (.iter l.length (fun k s => s.2.2 = (k : Int) ∧ Mst l k s.2.1) (by omega) ⟨rfl, ⟨fun i h => absurd h (Nat.not_lt_zero _), .inl rfl⟩⟩ ?_ ?_) fun s _ hs => .one (.inl ⟨S, rfl, hs⟩)
    · rintro k ⟨a, m, v⟩ hk ⟨hv, hm⟩
      simp only at hv hm
      subst hv
      simp only [spans_Meets_L47]
      refine .condT (decide_eq_true (by omega)) (.seq (P := fun s => Mst l (k + 1) s.2) (.ixD Span.z (Int.natCast_nonneg k) (by omega) ?_) fun s _ hs => .ck64 (by omega) (.one ⟨by simp, hs⟩))
      simp only [Int.toNat_natCast]
      refine .seq (meets_in hN h12) fun n _ hn => ?_
      subst hn
      refine .cond (fun h => .one ⟨fun i hi => ?_, .inr ⟨k, by omega, rfl⟩⟩) fun h => .one ⟨fun i hi => ?_, ?_⟩
      · simp only [Bool.or_eq_true, Bool.and_eq_true, decide_eq_true_eq] at h
        rcases Nat.lt_or_ge i k with h1 | h1
        · have := hm.up i h1
          simp only
          omega
        · obtain rfl : i = k := by omega
          exact Int.le_refl _
      · simp only [Bool.or_eq_false_iff, decide_eq_false_iff_not] at h
        rcases Nat.lt_or_ge i k with h1 | h1
        · exact hm.up i h1
        · obtain rfl : i = k := by omega
          simp only
          omega
      · rcases hm.is with h0 | ⟨i, hi, h0⟩
        · exact .inl h0
        · exact .inr ⟨i, by omega, h0⟩
    · rintro ⟨a, m, v⟩ ⟨hv, hm⟩
      simp only at hv hm
      subst hv
      simp only [spans_Meets_L47]
      exact .condF (decide_eq_false (by omega)) (.one hm)
/-- A set of those that are so. -/
theorem mask (p : Nat → Bool) : ∀ n, ∃ s, s < 2 ^ n ∧ ∀ i, s.testBit i = (decide (i < n) && p i)
  | 0 => ⟨0, by decide, fun i => by simp⟩
  | n + 1 => by
    obtain ⟨s, h1, h2⟩ := mask p n
    have hp : 2 ^ n < 2 ^ (n + 1) := Nat.pow_lt_pow_right (by decide) (Nat.lt_succ_self n)
    cases hn : p n with
    | false =>
      refine ⟨s, by omega, fun i => ?_⟩
      rw [h2]
      by_cases e : i = n
      · subst e; simp [hn]
      · rw [decide_eq_decide.2 (show i < n ↔ i < n + 1 by omega)]
    | true =>
      refine ⟨s ||| 2 ^ n, Nat.or_lt_two_pow (by omega) hp, fun i => ?_⟩
      rw [Nat.testBit_or, Nat.testBit_two_pow, h2]
      by_cases e : i = n
      · subst e; simp [hn]
      · rw [decide_eq_decide.2 (show i < n ↔ i < n + 1 by omega), decide_eq_false (show ¬ n = i from fun h => e h.symm), Bool.or_false]
theorem its_mask {n s : Nat} {p : Nat → Bool} (hn : n ≤ 12) (h : ∀ i, s.testBit i = (decide (i < n) && p i)) : (its s).length = ((List.range n).filter p).length := by
  unfold its
  have e : List.range 12 = List.range n ++ (List.range (12 - n)).map (n + ·) := by rw [← List.range_add, show n + (12 - n) = 12 by omega]
  rw [e, List.filter_append, List.length_append]
  have h1 : (List.range n).filter (fun i => s.testBit i) = (List.range n).filter p := List.filter_congr fun i hi => by rw [h, decide_eq_true (List.mem_range.1 hi), Bool.true_and]
  have h2 : ((List.range (12 - n)).map (n + ·)).filter (fun i => s.testBit i) = [] := by
    rw [List.filter_eq_nil_iff]
    intro i hi
    obtain ⟨x, _, rfl⟩ := List.mem_map.1 hi
    rw [h, decide_eq_false (by omega)]
    simp
  rw [h1, h2]
  simp
end Sp

end Go.Proofs.Ytemckhkicfpgeaa
