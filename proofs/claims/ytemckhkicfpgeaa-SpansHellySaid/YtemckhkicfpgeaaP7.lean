/- SpansHelly, plainly. -/
import Derived.Test.YtemckhkicfpgeaaP6
import Derived.Test.YtemckhkicfpgeaaO8
set_option linter.unusedVariables false
set_option linter.unusedSimpArgs false
set_option linter.unusedSectionVars false
set_option maxRecDepth 100000
namespace Go.Proofs.Ytemckhkicfpgeaa
open Go.RowKit
namespace Sp
open Rl Hs
def mt (l : List Span) (i j : Nat) : Prop := (l.getD i Span.z).from_ ≤ (l.getD j Span.z).to_ ∧ (l.getD j Span.z).from_ ≤ (l.getD i Span.z).to_
theorem all_wp {N : Nat} (hN : 300 < N) {l : List Span} (h12 : l.length ≤ 12) : Wp (iter (alibkeep_SpansHelly_L25 N l) N (true, 0)) fun b => b = true → ∀ i j, i < l.length → j < l.length → mt l i j := by
  refine .iter l.length (fun k st => st.2 = (k : Int) ∧ (st.1 = true → ∀ i j, i < k → j < l.length → mt l i j)) (by omega) ⟨rfl, fun _ i j h => absurd h (Nat.not_lt_zero _)⟩ ?_ ?_
  · rintro k ⟨a, v⟩ hk ⟨hv, ha⟩
    simp only at hv ha
    subst hv
    simp only [alibkeep_SpansHelly_L25]
    refine .condT (decide_eq_true (by omega)) (.seq (P := fun b => b = true → ∀ i j, i < k + 1 → j < l.length → mt l i j) (.ixD Span.z (Int.natCast_nonneg k) (by omega) ?_) fun b _ hb => .ck64 (by omega) (.one ⟨by simp, hb⟩))
    simp only [Int.toNat_natCast]
    refine .iter l.length (fun q st => st.2 = (q : Int) ∧ (st.1 = true → (∀ i j, i < k → j < l.length → mt l i j) ∧ ∀ j, j < q → mt l k j)) (by omega) ⟨rfl, fun h => ⟨ha h, fun j h => absurd h (Nat.not_lt_zero _)⟩⟩ ?_ ?_
    · rintro q ⟨b, v⟩ hq ⟨hv, hb⟩
      simp only at hv hb
      subst hv
      simp only [alibkeep_SpansHelly_L27]
      refine .condT (decide_eq_true (by omega)) (.ixD Span.z (Int.natCast_nonneg q) (by omega) ?_)
      simp only [Int.toNat_natCast]
      refine .ck64 (by omega) (.one ⟨by simp, fun h => ?_⟩)
      simp only [Bool.and_eq_true, decide_eq_true_eq] at h
      refine ⟨(hb h.1.1).1, fun j hj => ?_⟩
      rcases Nat.lt_or_ge j q with h1 | h1
      · exact (hb h.1.1).2 j h1
      · obtain rfl : j = q := by omega
        exact ⟨h.1.2, h.2⟩
    · rintro ⟨b, v⟩ ⟨hv, hb⟩
      simp only at hv hb
      subst hv
      simp only [alibkeep_SpansHelly_L27]
      refine .condF (decide_eq_false (by omega)) (.one fun h i j hi hj => ?_)
      rcases Nat.lt_or_ge i k with h1 | h1
      · exact (hb h).1 i j h1 hj
      · obtain rfl : i = k := by omega
        exact (hb h).2 j hj
  · rintro ⟨a, v⟩ ⟨hv, ha⟩
    simp only at hv ha
    subst hv
    simp only [alibkeep_SpansHelly_L25]
    exact .condF (decide_eq_false (by omega)) (.one ha)
theorem topmost (f : Nat → Int) (p : Nat → Bool) : ∀ k, (∀ i, i < k → p i = false) ∨ ∃ i, i < k ∧ p i = true ∧ ∀ j, j < k → p j = true → f j ≤ f i
  | 0 => .inl fun i h => absurd h (Nat.not_lt_zero _)
  | k + 1 => by
    rcases topmost f p k with h | ⟨i, hi, hp, hm⟩
    · cases hk : p k with
      | false =>
        refine .inl fun i hi => ?_
        rcases Nat.lt_or_ge i k with h1 | h1
        · exact h i h1
        · obtain rfl : i = k := by omega
          exact hk
      | true =>
        refine .inr ⟨k, by omega, hk, fun j hj hpj => ?_⟩
        rcases Nat.lt_or_ge j k with h1 | h1
        · rw [h j h1] at hpj; cases hpj
        · obtain rfl : j = k := by omega
          exact Int.le_refl _
    · by_cases hk : p k = true ∧ f i < f k
      · refine .inr ⟨k, by omega, hk.1, fun j hj hpj => ?_⟩
        rcases Nat.lt_or_ge j k with h1 | h1
        · have := hm j h1 hpj; omega
        · obtain rfl : j = k := by omega
          exact Int.le_refl _
      · refine .inr ⟨i, by omega, hp, fun j hj hpj => ?_⟩
        rcases Nat.lt_or_ge j k with h1 | h1
        · exact hm j h1 hpj
        · obtain rfl : j = k := by omega
          have : ¬ f i < f j := fun h => hk ⟨hpj, h⟩
          omega
theorem bfS_tr {l : List Span} (S : SpOk l) {i m j : Nat} (h1 : bfS l i m = true) (h2 : bfS l m j = true) : bfS l i j = true := by
  have h1 := of_decide_eq_true h1
  have h2 := of_decide_eq_true h2
  have := sp_at S h1.2.1
  exact decide_eq_true ⟨h1.1, h2.2.1, by omega⟩
theorem filter_up {p q : Nat → Bool} {l : List Nat} (h : ∀ x, x ∈ l → p x = true → q x = true) : (l.filter p).length ≤ (l.filter q).length := by
  rw [← List.countP_eq_length_filter, ← List.countP_eq_length_filter]
  exact List.countP_mono_left h
/-- The widest is as wide as many meet. -/
theorem wide {l : List Span} (S : SpOk l) {m : Int} (M : Mst l l.length m) {t : Nat} (ht : t < 2 ^ l.length) (ha : Apt (bfS l) t) (hm : ∀ s, s < 2 ^ l.length → Apt (bfS l) s → (its s).length ≤ (its t).length) : ((its t).length : Int) = m := by
  have h12 := S.1
  have hbit : ∀ i, t.testBit i = true → i < l.length := fun i hi => by
    apply Classical.byContradiction
    intro hn
    have h1 := Nat.ge_two_pow_of_testBit hi
    have h2 : 2 ^ l.length ≤ 2 ^ i := Nat.pow_le_pow_right (by decide) (by omega)
    omega
  have low : m ≤ ((its t).length : Int) := by
    rcases M.is with h0 | ⟨i, hi, h0⟩
    · omega
    · obtain ⟨s, hs, hb⟩ := mask (cov l i) l.length
      have h1 := its_mask (n := l.length) h12 hb
      have h2 := hm s hs fun a b h3 h4 => by
        rw [hb, Bool.and_eq_true] at h3 h4
        have h5 := h3.2
        have h6 := h4.2
        unfold cov at h5 h6
        simp only [Bool.and_eq_true, decide_eq_true_eq] at h5 h6
        exact decide_eq_false fun h7 => by omega
      have h3 : (its s).length = cnt l i l.length := h1
      omega
  have up : ((its t).length : Int) ≤ m := by
    rcases topmost (fun i => (l.getD i Span.z).from_) (fun i => t.testBit i) l.length with h | ⟨i, hi, hp, hmx⟩
    · have e : its t = [] := by
        unfold its
        rw [List.filter_eq_nil_iff]
        intro x _ hx
        rw [h x (hbit x hx)] at hx
        cases hx
      rw [e]
      rcases M.is with h0 | ⟨i, hi, h0⟩ <;> simp <;> omega
    · obtain ⟨s, hs, hb⟩ := mask (cov l i) l.length
      have h1 : (its s).length = cnt l i l.length := its_mask (n := l.length) h12 hb
      have h2 : (its t).length ≤ (its s).length := filter_up fun x _ hx => by
        have hxl := hbit x hx
        have h3 : (l.getD x Span.z).from_ ≤ (l.getD i Span.z).from_ := hmx x hxl hx
        have h4 := of_decide_eq_false (ha x i hx hp)
        have h5 : ¬ (l.getD x Span.z).to_ < (l.getD i Span.z).from_ := fun h => h4 ⟨hxl, hi, h⟩
        rw [hb, decide_eq_true hxl, Bool.true_and]
        unfold cov
        rw [decide_eq_true h3, decide_eq_true (show (l.getD i Span.z).from_ ≤ (l.getD x Span.z).to_ by omega)]
        rfl
      have := M.up i hi
      omega
  omega
theorem hellyLaw {N : Nat} (hN : 5000 < N) (hL : alibkeep_spansLives N = some true) (l : List Span) : alibkeep_SpansHelly N l = some true := by
  refine Wp.eq ?_
  unfold alibkeep_SpansHelly
  refine .seq (meets_wp (l := l) (by omega)) fun r _ hr => .seq (spansOf_wp (s := l) (by omega)) fun s hse hs => ?_
  rcases hr with ⟨S, he, M⟩ | ⟨hno, he, hck⟩
  · obtain ⟨hn, he2, hA⟩ : s.1 = l.length ∧ s.2.2 = 0 ∧ ∀ i, i < 12 → Row (s.2.1.getD i 0) (bfS l i) := by
      rcases hs with ⟨_, b, c, d⟩ | ⟨hno, _⟩
      · exact ⟨b, c, d⟩
      · exact (hno S).elim
    have h12 := S.1
    refine .seq (P := fun b => b = false) (.bdO hL (.condT rfl (.seq (ok_wp (by simp; omega) (by simp)) fun o _ ho => .one ?_))) fun b _ hb => .condF hb ?_
    · rw [ho.2 (by simp [he, he2])]; rfl
    refine .seq (all_wp (by omega) h12) fun a _ ha => .condF ?_ ?_
    · cases a with
      | false => rfl
      | true =>
        have hall := ha rfl
        have : r.2.1 = (l.length : Int) := by
          rcases topmost (fun i => (l.getD i Span.z).from_) (fun _ => true) l.length with h | ⟨i, hi, _, hmx⟩
          · have h0 : l.length = 0 := by
              apply Classical.byContradiction
              intro hne
              have := h 0 (by omega)
              cases this
            rcases M.is with h1 | ⟨i, hi, _⟩
            · omega
            · omega
          · have hc : cnt l i l.length = l.length := by
              unfold cnt
              rw [List.filter_eq_self.2, List.length_range]
              intro j hj
              have hj := List.mem_range.1 hj
              have h1 : (l.getD j Span.z).from_ ≤ (l.getD i Span.z).from_ := hmx j hj rfl
              have h2 := hall i j hi hj
              unfold cov
              rw [decide_eq_true h1, decide_eq_true h2.1]; rfl
            have h1 := M.up i hi
            rcases M.is with h2 | ⟨j, hj, h2⟩
            · omega
            · have := cnt_le l j l.length
              omega
        rw [decide_eq_true this]; rfl
    · obtain ⟨n', A, e'⟩ := s
      simp only at hn he2 hA
      subst hn; subst he2
      have hu : RelU ⟨(l.length : Int), A⟩ := fun i hi => (hA i hi).rng
      have bin : ∀ i j, bfS l i j = true → i < l.length ∧ j < l.length := fun i j h => ⟨(of_decide_eq_true h).1, (of_decide_eq_true h).2.1⟩
      have e : pOf ⟨(l.length : Int), A⟩ = bfS l := by
        funext i j
        by_cases hi : i < 12
        · exact (hu.row hi).uniq (hA i hi) j
        · cases h1 : bfS l i j with
          | false =>
            cases h2 : pOf ⟨(l.length : Int), A⟩ i j with
            | false => rfl
            | true => exact absurd (pOf_lt h2) hi
          | true => have := (bin i j h1).1; omega
      have V : RelV ⟨(l.length : Int), A⟩ l.length := ⟨hu, rfl, h12, fun i j h => bin i j (by rw [← e]; exact h)⟩
      have ecl : cl ⟨(l.length : Int), A⟩ l.length = bfS l := by
        unfold cl
        rw [e]
        funext i j
        exact war_same (p := bfS l) (fun i m j _ h1 h2 => bfS_tr S h1 h2) l.length (Nat.le_refl _) i j
      rcases acyclic (N := N) (by omega) hu with ⟨n, A', V', hA', _, _, hac⟩ | ⟨n, A', V', _, ⟨i, hi, hcy⟩, _, _⟩ | ⟨_, _, hv, _⟩
      · obtain rfl := V.uniq V'
        have C := CR.of V hA'
        rw [ecl] at C
        obtain ⟨t, ht, hap, hapt, hmax⟩ := apart_ok hN C hac
        refine .bdO hap (.one ?_)
        have := wide S M ht hapt hmax
        have hl : (ints_ (its t)).length = (its t).length := by simp [ints_]
        rw [hl, decide_eq_true this]
        rfl
      · obtain rfl := V.uniq V'
        rw [ecl] at hcy
        have h1 := of_decide_eq_true hcy
        have := sp_at S h1.1
        omega
      · exact (hv _ V).elim
  · obtain ⟨h1, h2, h3⟩ : s.1 = 0 ∧ s.2.1 = [] ∧ s.2.2 ≠ 0 := by
      rcases hs with ⟨S, _⟩ | ⟨_, h⟩
      · exact (hno S).elim
      · exact h
    have h4 : s.2.2 = r.2.2 := by
      unfold spans_Of at hse
      rw [bd_of hck, cond_of (by simpa using he)] at hse
      cases hse
      rfl
    refine .seq (P := fun b => b = true) (.bdO hL (.condT rfl (.seq (ok_wp (by simp; omega) (by simp)) fun o _ ho => .one ?_))) fun b _ hb => .condT hb (.bdO hL (.one (by rw [h4]; simp)))
    cases o with
    | false => rfl
    | true => exact (he (ho.1 rfl _ (by simp))).elim
end Sp

end Go.Proofs.Ytemckhkicfpgeaa
