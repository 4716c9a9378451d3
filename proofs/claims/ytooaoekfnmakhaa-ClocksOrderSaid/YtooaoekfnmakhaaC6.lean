/- Cuts: the code. -/
import Derived.Test.YtooaoekfnmakhaaC5
set_option linter.unusedVariables false
set_option linter.unusedSimpArgs false
set_option linter.unusedSectionVars false
set_option maxRecDepth 100000
namespace Go.Proofs.Ytooaoekfnmakhaa
open Go.RowKit
namespace Ck
theorem cut_wp {N : Nat} {l : List Mark} {S : List (Int × Int) × Int × Int} {out : List (List Int)} {e : List Int} (hN : 300 < N) (G : Gd N l S out) :
    Wp (clocks_Cut N l e) fun r => (r.1 = true ∧ r.2 = 0) ↔ (e.length = 8 ∧ CutOk l.length (wF l) (oF out) fun k => e.getD k 0) := by
  obtain ⟨a, hc⟩ := G.chk
  have hle := G.le
  have hlen := G.len
  have K := G.kn
  unfold clocks_Cut
  refine .bdO hc (.condF rfl ?_)
  refine .seq (P := fun c => ∀ k, k < 8 → c.getD k 0 = pvo (wF l) (oF out) l.length k k) (.iter l.length (fun k st => st.2 = (k : Int) ∧ ∀ c, c < 8 → st.1.getD c 0 = pvo (wF l) (oF out) k c c) (by omega) ⟨rfl, fun c _ => rfl⟩ ?_ ?_) fun count _ hcnt => ?_
  · rintro k ⟨ct, v⟩ hk ⟨hv, hct⟩
    simp only at hv hct
    subst hv
    simp only [clocks_Cut_L19]
    have hw := gd_who G hk
    refine .condT (decide_eq_true (by omega)) (.ix hk ?_)
    simp only [hw.1]
    have ho := K.own hk
    have hn := K.nonneg k hk _ hw.2
    have h1 := hct _ hw.2
    refine .axN hw.2 (.ck64 (by omega) (.axN hw.2 (.ck64 (by omega) (.one ⟨by simp, fun c hc => ?_⟩))))
    simp only
    rw [setA_get hc, pvo_next]
    simp only [Int.toNat_natCast]
    by_cases h : c = wF l k
    · subst h; rw [if_pos rfl, if_pos rfl]; omega
    · rw [if_neg h, if_neg (fun e => h e.symm), hct c hc]
  · rintro ⟨ct, v⟩ ⟨hv, hct⟩
    simp only at hv hct
    subst hv
    simp only [clocks_Cut_L19]
    exact .condF (by simp) (.one hct)
  refine .cond (fun h => .one ?_) (fun h => ?_)
  · simp only [Bool.or_eq_true, Bool.and_eq_true, Bool.not_eq_true', Bool.not_eq_false', Bool.or_eq_false_iff, Bool.and_eq_false_imp, decide_eq_true_eq, decide_eq_false_iff_not, beq_iff_eq, not_or, Int.not_lt, Int.not_le, Bool.false_eq_true, not_false_eq_true, not_true_eq_false, Decidable.not_not] at *
    exact ⟨fun h => by simp at h, fun h' => by omega⟩
  simp only [Bool.or_eq_true, Bool.and_eq_true, Bool.not_eq_true', Bool.not_eq_false', Bool.or_eq_false_iff, Bool.and_eq_false_imp, decide_eq_true_eq, decide_eq_false_iff_not, beq_iff_eq, not_or, Int.not_lt, Int.not_le, Bool.false_eq_true, not_false_eq_true, not_true_eq_false, Decidable.not_not] at *
  have he : e.length = 8 := by omega
  refine .elim (P := fun t => match t with | .inl _ => ∀ k, k < 8 → 0 ≤ e.getD k 0 ∧ e.getD k 0 ≤ pvo (wF l) (oF out) l.length k k | .inr r => r.1 = false ∧ ∃ k, k < 8 ∧ ¬ (0 ≤ e.getD k 0 ∧ e.getD k 0 ≤ pvo (wF l) (oF out) l.length k k))
    (.iter 8 (fun k v => v = (k : Int) ∧ ∀ j, j < k → 0 ≤ e.getD j 0 ∧ e.getD j 0 ≤ pvo (wF l) (oF out) l.length j j) (by omega) ⟨rfl, fun j h => absurd h (Nat.not_lt_zero _)⟩ ?_ ?_) (fun _ _ hrng => ?_) (fun r _ hr => .one ?_)
  · rintro k v hk ⟨rfl, hr⟩
    simp only [clocks_Cut_L21]
    refine .condT (decide_eq_true (by omega)) (.ix (by omega) ?_)
    have e1 : e.getD k 0 = e[k] := getD_of (by omega)
    have e2 := hcnt k hk
    refine .seq (P := fun x => ¬ e[k] < 0 → x = count.getD k 0) (.cond (fun _ => .axVN hk fun _ => rfl) (fun h => .one fun h2 => ?_)) fun x _ hx => ?_
    · simp [h2] at h
    refine .cond (fun h => .one ⟨rfl, k, hk, ?_⟩) (fun h => .ck64 (by omega) (.one ⟨by simp, fun j hj => ?_⟩))
    · simp only [Bool.or_eq_true, Bool.and_eq_true, Bool.not_eq_true', Bool.not_eq_false', Bool.or_eq_false_iff, Bool.and_eq_false_imp, decide_eq_true_eq, decide_eq_false_iff_not, beq_iff_eq, not_or, Int.not_lt, Int.not_le, Bool.false_eq_true, not_false_eq_true, not_true_eq_false, Decidable.not_not] at *
      rw [e1]
      by_cases h2 : e[k] < 0
      · omega
      · have := hx (by omega); omega
    · simp only [Bool.or_eq_true, Bool.and_eq_true, Bool.not_eq_true', Bool.not_eq_false', Bool.or_eq_false_iff, Bool.and_eq_false_imp, decide_eq_true_eq, decide_eq_false_iff_not, beq_iff_eq, not_or, Int.not_lt, Int.not_le, Bool.false_eq_true, not_false_eq_true, not_true_eq_false, Decidable.not_not] at *
      rcases Nat.lt_or_ge j k with h1 | h1
      · exact hr j h1
      · obtain rfl : j = k := by omega
        have := hx (by omega)
        omega
  · rintro v ⟨rfl, hr⟩
    simp only [clocks_Cut_L21]
    exact .condF (decide_eq_false (by omega)) (.one hr)
  · refine .bdO G.know ?_
    refine .elim (P := fun t => match t with | .inl _ => ∀ i, i < l.length → oF out i (wF l i) ≤ e.getD (wF l i) 0 → ∀ k, k < 8 → oF out i k ≤ e.getD k 0 | .inr r => r = (false, 0) ∧ ¬ CutOk l.length (wF l) (oF out) fun k => e.getD k 0)
      (.iter l.length (fun q v => v = (q : Int) ∧ ∀ i, i < q → oF out i (wF l i) ≤ e.getD (wF l i) 0 → ∀ k, k < 8 → oF out i k ≤ e.getD k 0) (by omega) ⟨rfl, fun j h => absurd h (Nat.not_lt_zero _)⟩ ?_ ?_) (fun _ _ hall => .one ?_) (fun r _ hr => .one ?_)
    · rintro k v hk ⟨rfl, hr⟩
      simp only [clocks_Cut_L33]
      refine .condT (decide_eq_true (by omega)) ?_
      have hw := gd_who G hk
      have eo : oF out k = fun x => out[k].getD x 0 := by funext x; unfold oF; rw [show out.getD k [] = out[k] from getD_of (by omega)]
      have next : (oF out k (wF l k) ≤ e.getD (wF l k) 0 → ∀ x, x < 8 → oF out k x ≤ e.getD x 0) → ∀ i, i < k + 1 → oF out i (wF l i) ≤ e.getD (wF l i) 0 → ∀ k, k < 8 → oF out i k ≤ e.getD k 0 := by
        intro h i hi
        rcases Nat.lt_or_ge i k with h1 | h1
        · exact hr i h1
        · obtain rfl : i = k := by omega
          exact h
      refine .elim (P := fun t => match t with | .inl _ => oF out k (wF l k) ≤ e.getD (wF l k) 0 → ∀ x, x < 8 → oF out k x ≤ e.getD x 0 | .inr r => r = (false, 0) ∧ oF out k (wF l k) ≤ e.getD (wF l k) 0 ∧ ∃ x, x < 8 ∧ ¬ oF out k x ≤ e.getD x 0) ?_ (fun _ _ h => .ck64 (by omega) (.one ⟨by simp, next h⟩)) (fun r _ h => .one ⟨h.1, fun C => ?_⟩)
      · refine .bd (.ixV hk (.bd (.ixV (by omega) ?_)))
        simp only [hw.1]
        refine .axN hw.2 (.ix (by omega) ?_)
        have e1 : e.getD (wF l k) 0 = e[wF l k] := getD_of (by omega)
        refine .cond (fun h => .one fun h2 => ?_) (fun h => .ix (by omega) ?_)
        · simp only [Bool.or_eq_true, Bool.and_eq_true, Bool.not_eq_true', Bool.not_eq_false', Bool.or_eq_false_iff, Bool.and_eq_false_imp, decide_eq_true_eq, decide_eq_false_iff_not, beq_iff_eq, not_or, Int.not_lt, Int.not_le, Bool.false_eq_true, not_false_eq_true, not_true_eq_false, Decidable.not_not] at *; rw [eo] at h2; simp only [e1] at h2; omega
        · simp only [Bool.or_eq_true, Bool.and_eq_true, Bool.not_eq_true', Bool.not_eq_false', Bool.or_eq_false_iff, Bool.and_eq_false_imp, decide_eq_true_eq, decide_eq_false_iff_not, beq_iff_eq, not_or, Int.not_lt, Int.not_le, Bool.false_eq_true, not_false_eq_true, not_true_eq_false, Decidable.not_not] at *
          refine .iter 8 (fun q v => v = (q : Int) ∧ ∀ x, x < q → oF out k x ≤ e.getD x 0) (by omega) ⟨rfl, fun j h => absurd h (Nat.not_lt_zero _)⟩ ?_ ?_
          · rintro q v hq ⟨rfl, hx⟩
            simp only [clocks_Cut_L35]
            have e2 : e.getD q 0 = e[q] := getD_of (by omega)
            refine .condT (decide_eq_true (by omega)) (.axN hq (.ix (by omega) (.cond (fun h2 => .one ⟨rfl, ?_, q, hq, ?_⟩) (fun h2 => .ck64 (by omega) (.one ⟨by simp, fun x hxq => ?_⟩)))))
            · rw [eo]; simp only [e1]; omega
            · simp only [Bool.or_eq_true, Bool.and_eq_true, Bool.not_eq_true', Bool.not_eq_false', Bool.or_eq_false_iff, Bool.and_eq_false_imp, decide_eq_true_eq, decide_eq_false_iff_not, beq_iff_eq, not_or, Int.not_lt, Int.not_le, Bool.false_eq_true, not_false_eq_true, not_true_eq_false, Decidable.not_not] at *; rw [eo]; simp only [e2]; omega
            · simp only [Bool.or_eq_true, Bool.and_eq_true, Bool.not_eq_true', Bool.not_eq_false', Bool.or_eq_false_iff, Bool.and_eq_false_imp, decide_eq_true_eq, decide_eq_false_iff_not, beq_iff_eq, not_or, Int.not_lt, Int.not_le, Bool.false_eq_true, not_false_eq_true, not_true_eq_false, Decidable.not_not] at *
              rcases Nat.lt_or_ge x q with h1 | h1
              · exact hx x h1
              · obtain rfl : x = q := by omega
                rw [eo]; simp only [e2]; omega
          · rintro v ⟨rfl, hx⟩
            simp only [clocks_Cut_L35]
            exact .condF (decide_eq_false (by omega)) (.one fun _ => hx)
      · obtain ⟨x, hx, hn⟩ := h.2.2
        exact hn (C.all k hk h.2.1 x hx)
    · rintro v ⟨rfl, hr⟩
      simp only [clocks_Cut_L33]
      exact .condF (by simp) (.one hr)
    · exact ⟨fun _ => ⟨he, hrng, hall⟩, fun _ => ⟨rfl, rfl⟩⟩
    · have hr : r = (false, 0) ∧ ¬ CutOk l.length (wF l) (oF out) fun k => e.getD k 0 := hr
      exact ⟨fun h => by rw [hr.1] at h; simp at h, fun h => absurd h.2 hr.2⟩
  · have hr : r.1 = false ∧ ∃ k, k < 8 ∧ ¬ (0 ≤ e.getD k 0 ∧ e.getD k 0 ≤ pvo (wF l) (oF out) l.length k k) := hr
    obtain ⟨h0, k, hk, hn⟩ := hr
    exact ⟨fun h => by rw [h0] at h; simp at h, fun h => absurd (h.2.rng k hk) hn⟩
theorem cut_bad {N : Nat} {l : List Mark} {a x : Int} {e : List Int} (hc : clocks_Check N l = some (a, x)) (hx : x ≠ 0) : clocks_Cut N l e = some (false, x) := by
  unfold clocks_Cut
  rw [bd_of hc]
  exact cond_of (by simpa using hx)
end Ck

end Go.Proofs.Ytooaoekfnmakhaa
