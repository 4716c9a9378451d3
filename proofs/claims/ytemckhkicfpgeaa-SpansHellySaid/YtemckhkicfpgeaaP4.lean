/- SpansLong, plainly. -/
import Derived.Test.YtemckhkicfpgeaaP3
set_option linter.unusedVariables false
set_option linter.unusedSimpArgs false
set_option linter.unusedSectionVars false
set_option maxRecDepth 100000
namespace Go.Proofs.Ytemckhkicfpgeaa
open Go.RowKit
namespace Sp
open Rl Hs
theorem spLives : alibkeep_spansLives 18446744073709551616 = some true := by kernel_rfl
theorem getD_set2 {α : Type} {l : List α} {i j : Nat} {v d : α} (h : i < l.length) : (l.set i v).getD j d = if j = i then v else l.getD j d := by
  simp only [List.getD_eq_getElem?_getD, List.getElem?_set, h, if_true]
  by_cases hj : i = j
  · subst hj; simp
  · rw [if_neg hj, if_neg (fun e => hj e.symm)]
theorem sp_at {s : List Span} (h : SpOk s) {i : Nat} (hi : i < s.length) : 0 ≤ (s.getD i Span.z).from_ ∧ (s.getD i Span.z).from_ ≤ (s.getD i Span.z).to_ ∧ (s.getD i Span.z).to_ ≤ 1000000 := by
  rw [getD_of hi]
  exact h.2 _ (List.getElem_mem hi)
theorem later_wp {N : Nat} (hN : 300 < N) {l : List Span} (h : SpOk l) {z : Int} (h0 : 0 ≤ z) (h1 : z ≤ 1000000) :
    Wp (iter (alibkeep_SpansLong_L5 N l z) N (l, 0)) fun n => n.length = l.length ∧ ∀ i, i < l.length → n.getD i Span.z = ⟨(l.getD i Span.z).from_ + z, (l.getD i Span.z).to_ + z⟩ := by
  have hl := h.1
  refine .iter l.length (fun k st => st.2 = (k : Int) ∧ st.1.length = l.length ∧ ∀ i, i < l.length → st.1.getD i Span.z = if i < k then ⟨(l.getD i Span.z).from_ + z, (l.getD i Span.z).to_ + z⟩ else l.getD i Span.z) (by omega) ⟨rfl, rfl, fun i _ => by simp⟩ ?_ ?_
  · rintro k ⟨A, v⟩ hk ⟨hv, hA, hr⟩
    simp only at hv hA hr
    subst hv
    simp only [alibkeep_SpansLong_L5]
    have hx := hr k hk
    rw [if_neg (Nat.lt_irrefl k)] at hx
    have ok := sp_at h hk
    refine .condT (decide_eq_true (by simp; omega)) (.ixD Span.z (Int.natCast_nonneg k) (by omega) ?_)
    simp only [Int.toNat_natCast, hx]
    refine .ck64 (by omega) (.ixD Span.z (Int.natCast_nonneg k) (by omega) ?_)
    simp only [Int.toNat_natCast, hx]
    refine .ixD Span.z (Int.natCast_nonneg k) (by rw [List.length_set]; omega) (.ck64 (by omega) (.ixD Span.z (Int.natCast_nonneg k) (by rw [List.length_set]; omega) (.ck64 (by omega) (.one ⟨by simp, by simp [hA], fun i hi => ?_⟩))))
    simp only
    rw [getD_set2 (by omega)]
    by_cases e : i = k
    · subst e; rw [if_pos rfl, if_pos (by omega)]
    · rw [if_neg e, hr i hi]
      by_cases h2 : i < k
      · rw [if_pos h2, if_pos (by omega)]
      · rw [if_neg h2, if_neg (by omega)]
  · rintro ⟨A, v⟩ ⟨hv, hA, hr⟩
    simp only at hv hA hr
    subst hv
    simp only [alibkeep_SpansLong_L5]
    exact .condF (decide_eq_false (by simp)) (.one ⟨hA, fun i hi => by rw [hr i hi, if_pos hi]⟩)
theorem longLaw {N : Nat} (hN : 300 < N) (hL : alibkeep_spansLives N = some true) (l : List Span) (k more later : Int) : alibkeep_SpansLong N l k more later = some true := by
  refine Wp.eq ?_
  unfold alibkeep_SpansLong
  refine .seq (spansOf_wp (s := l) hN) fun r _ hr => .bdO hL (.cond (fun _ => .bdO hL (.one rfl)) fun h => ?_)
  simp only [Bool.or_eq_false_iff, decide_eq_false_iff_not, Bool.not_eq_false', decide_eq_true_eq] at h
  obtain ⟨⟨⟨⟨⟨⟨⟨_, he⟩, k0⟩, k1⟩, m0⟩, l0⟩, m1⟩, l1⟩ := h
  obtain ⟨hS, hn, hA⟩ : SpOk l ∧ r.1 = l.length ∧ ∀ i, i < 12 → Row (r.2.1.getD i 0) (bfS l i) := by
    rcases hr with ⟨a, b, _, d⟩ | ⟨_, _, _, h⟩
    · exact ⟨a, b, d⟩
    · exact (h he).elim
  have hl := hS.1
  obtain ⟨k, rfl⟩ : ∃ n : Nat, k = n := ⟨k.toNat, by omega⟩
  have hk : k < l.length := by omega
  have ok := sp_at hS hk
  have lb : limB 16 ((([] : List Span)).length + (l).length) = true := limB_of ⟨by simp only [List.length_nil, Nat.zero_add]; exact Nat.le_trans (m := 2000) (by omega) (by decide), by simp only [List.length_nil]; omega⟩
  refine .ck lb (.ck lb ?_)
  simp only [List.nil_append]
  refine .ixD Span.z (by omega) (by omega) ?_
  simp only [Int.toNat_natCast]
  refine .ck64 (by omega) (.ixD Span.z (by omega) (by omega) ?_)
  simp only [Int.toNat_natCast]
  refine .seq (later_wp hN hS (by omega) (by omega)) fun n _ hns => ?_
  obtain ⟨hnl, hn2⟩ := hns
  refine .seq (spansOf_wp (s := l.set k ⟨(l.getD k Span.z).from_, (l.getD k Span.z).to_ + more⟩) hN) fun r34 _ hr34 => .seq (spansOf_wp (s := n) hN) fun r36 _ hr36 => .condF ?_ ?_
  · rcases hr36 with ⟨_, b, c, d⟩ | ⟨_, _, _, h⟩
    · rw [b, hn, hnl, decide_eq_true rfl, eqA_of fun i hi => ((d i hi).cong fun j => ?_).eq (hA i hi)]
      · simp
      · unfold bfS
        refine decide_eq_decide.2 ?_
        rw [hnl]
        by_cases hij : i < l.length ∧ j < l.length
        · rw [hn2 i hij.1, hn2 j hij.2]
          simp only
          constructor
          · rintro ⟨a1, a2, a3⟩; exact ⟨a1, a2, by omega⟩
          · rintro ⟨a1, a2, a3⟩; exact ⟨a1, a2, by omega⟩
        · exact ⟨fun h => (hij ⟨h.1, h.2.1⟩).elim, fun h => (hij ⟨h.1, h.2.1⟩).elim⟩
    · rw [decide_eq_false h]; rfl
  · refine .elim (P := fun t => t = .inl ()) (.iter 12 (fun k v => v = (k : Int)) (by omega) rfl ?_ ?_) (fun _ _ _ => .one rfl) (fun _ _ h => by cases h)
    · rintro q v hq rfl
      simp only [alibkeep_SpansLong_L7]
      refine .condT (decide_eq_true (by omega)) (.gd (r34.2.1.getD q 0) (fun _ => ax_nat' hq) fun x39 h39 => .gd (r.2.1.getD q 0) (fun _ => ax_nat' hq) fun x40 h40 => .condF ?_ (.ck64 (by omega) (.one (by simp))))
      rcases hr34 with ⟨_, _, c, d⟩ | ⟨_, _, _, h⟩
      · rw [decide_eq_true c] at h39 h40 ⊢
        rw [h39 rfl, h40 rfl, ((d q hq).clr (hA q hq)).empty.2 fun j => ?_]
        · rfl
        · cases hb : bfS (l.set k ⟨(l.getD k Span.z).from_, (l.getD k Span.z).to_ + more⟩) q j with
          | false => rfl
          | true =>
            have hb := of_decide_eq_true hb
            rw [List.length_set, getD_set2 hk, getD_set2 hk] at hb
            have : bfS l q j = true := by
              unfold bfS
              refine decide_eq_true ⟨hb.1, hb.2.1, ?_⟩
              have h3 := hb.2.2
              by_cases e1 : q = k <;> by_cases e2 : j = k <;> simp only [e1, e2, if_true, if_false] at h3 ⊢ <;> omega
            rw [this]; rfl
      · rw [decide_eq_false h]; rfl
    · rintro v rfl
      simp only [alibkeep_SpansLong_L7]
      exact .condF (decide_eq_false (by omega)) (.one rfl)
end Sp

end Go.Proofs.Ytemckhkicfpgeaa
