/- ClocksKnown, ClocksLattice, plainly. -/
import Derived.Test.YtooaoekfnmakhaaC6
set_option linter.unusedVariables false
set_option linter.unusedSimpArgs false
set_option linter.unusedSectionVars false
set_option maxRecDepth 100000
namespace Go.Proofs.Ytooaoekfnmakhaa
open Go.RowKit
namespace Ck
theorem ok_wp {N : Nat} {l : List Int} (hN : l.length < N) (hl : l.length ≤ 1000) : Wp (alibkeep_ok N l) fun r => r = true ↔ ∀ x ∈ l, x = 0 := by
  unfold alibkeep_ok
  refine .elim (P := fun t => match t with | .inl _ => ∀ x ∈ l, x = 0 | .inr r => r = false ∧ ∃ x ∈ l, x ≠ 0) (.iter l.length (fun k v => v = (k : Int) ∧ ∀ j, (h : j < l.length) → j < k → l[j] = 0) hN ⟨rfl, fun j _ h => absurd h (Nat.not_lt_zero _)⟩ ?_ ?_) (fun _ _ h => .one ⟨fun _ => h, fun _ => rfl⟩) (fun r _ h => .one ?_)
  · rintro k v hk ⟨rfl, hr⟩
    simp only [alibkeep_ok_L3]
    refine .condT (decide_eq_true (by omega)) (.ix hk (.cond (fun h => .one ⟨rfl, l[k], List.getElem_mem hk, by simpa using h⟩) (fun h => .ck64 (by omega) (.one ⟨by simp, fun j hj hjk => ?_⟩))))
    rcases Nat.lt_or_ge j k with h1 | h1
    · exact hr j hj h1
    · obtain rfl : j = k := by omega
      simpa using h
  · rintro v ⟨rfl, hr⟩
    simp only [alibkeep_ok_L3]
    refine .condF (decide_eq_false (by omega)) (.one fun x hx => ?_)
    obtain ⟨j, hj, rfl⟩ := List.mem_iff_getElem.1 hx
    exact hr j hj hj
  · have h : r = false ∧ ∃ x ∈ l, x ≠ 0 := h
    obtain ⟨rfl, x, hx, hn⟩ := h
    exact ⟨fun h => (by cases h), fun h => absurd (h x hx) hn⟩
theorem lives : alibkeep_clocksLives 18446744073709551616 = some true := by kernel_rfl
theorem CutOk.cong {n : Nat} {w : Nat → Nat} {o : Nat → Nat → Int} {e f : Nat → Int} (h8 : ∀ i, i < n → w i < 8) (h : ∀ k, k < 8 → e k = f k) (C : CutOk n w o e) : CutOk n w o f := by
  refine ⟨fun k hk => ?_, fun i hi hw k hk => ?_⟩
  · rw [← h k hk]; exact C.rng k hk
  · rw [← h k hk]; exact C.all i hi (by rw [h _ (h8 i hi)]; exact hw) k hk
theorem known {N : Nat} (hN : 300 < N) (hL : alibkeep_clocksLives N = some true) (l : List Mark) (j : Int) (e : List Int) : alibkeep_ClocksKnown N l j e = some true := by
  refine Wp.eq ?_
  unfold alibkeep_ClocksKnown
  refine .seq (knowsAll_wp hN) fun r _ hr => .bdO hL (.cond (fun h => .bdO hL (.one rfl)) (fun h => ?_))
  simp only [Bool.or_eq_true, Bool.and_eq_true, Bool.not_eq_true', Bool.not_eq_false', Bool.or_eq_false_iff, Bool.and_eq_false_imp, decide_eq_true_eq, decide_eq_false_iff_not, beq_iff_eq, not_or, Int.not_lt, Int.not_le, Bool.false_eq_true, not_false_eq_true, not_true_eq_false, Decidable.not_not] at *
  obtain ⟨⟨⟨-, h0⟩, hj0⟩, hj⟩ := h
  obtain ⟨S, out, G, hr1⟩ := hr.1 h0
  have hle := G.le
  have hlen := G.len
  have K := G.kn
  rw [hr1] at hj ⊢
  simp only [List.length_map] at hj
  obtain ⟨q, rfl⟩ : ∃ q : Nat, j = q := ⟨j.toNat, by omega⟩
  have hq : q < l.length := by omega
  have hw := gd_who G hq
  have hrow : (out.map (arrL 8 0))[q]'(by simp; omega) = arrL 8 0 (out.getD q []) := by rw [List.getElem_map, getD_of]
  have hrow' : (out.map (arrL 8 0)).getD q [] = arrL 8 0 (out.getD q []) := by rw [← hrow]; exact getD_of (by simp; omega)
  have hrk : ∀ k, k < 8 → (arrL 8 0 (out.getD q [])).getD k 0 = oF out q k := fun k hk => arrL_get hk 0
  refine .ix (by simp; omega) (.seq (cut_wp hN G) fun c1 _ hc1 => ?_)
  have hok := hc1.2 ⟨by rw [hrow, lenL], by rw [hrow]; exact (CutOk.knows K hq).cong K.w8 fun k hk => (hrk k hk).symm⟩
  refine .condF (by simp [hok.1, hok.2]) (.seq (cut_wp hN G) fun c2 _ hc2 => .ix hq ?_)
  simp only [hw.1]
  have gix : ∀ {b : Bool}, ((c2.2 = 0 ∧ c2.1 = true) ∧ (wF l q : Int) < e.length) → e.length = 8 ∧ CutOk l.length (wF l) (oF out) fun k => e.getD k 0 := fun h => hc2.1 ⟨h.1.2, h.1.1⟩
  refine .gix 0 (fun hb => ?_) fun x1 hx1 => .gix [] (fun hb => ?_) fun x2 hx2 => .gix 0 (fun hb => ?_) fun x3 hx3 => ?_
  · simp only [Bool.or_eq_true, Bool.and_eq_true, Bool.not_eq_true', Bool.not_eq_false', Bool.or_eq_false_iff, Bool.and_eq_false_imp, decide_eq_true_eq, decide_eq_false_iff_not, beq_iff_eq, not_or, Int.not_lt, Int.not_le, Bool.false_eq_true, not_false_eq_true, not_true_eq_false, Decidable.not_not] at *; omega
  · simp only [Bool.or_eq_true, Bool.and_eq_true, Bool.not_eq_true', Bool.not_eq_false', Bool.or_eq_false_iff, Bool.and_eq_false_imp, decide_eq_true_eq, decide_eq_false_iff_not, beq_iff_eq, not_or, Int.not_lt, Int.not_le, Bool.false_eq_true, not_false_eq_true, not_true_eq_false, Decidable.not_not] at *; simp only [List.length_map]; omega
  · rw [hx2 hb, Int.toNat_natCast, hrow', lenL]; omega
  refine .cond (fun _ => .one rfl) (fun hb => ?_)
  have hg : ((((!(decide (c2.2 = 0))) || (!c2.1)) || (decide ((e.length : Int) ≤ (wF l q : Int)))) == false) = true := by simp only [Bool.or_eq_true, Bool.and_eq_true, Bool.not_eq_true', Bool.not_eq_false', Bool.or_eq_false_iff, Bool.and_eq_false_imp, decide_eq_true_eq, decide_eq_false_iff_not, beq_iff_eq, not_or, Int.not_lt, Int.not_le, Bool.false_eq_true, not_false_eq_true, not_true_eq_false, Decidable.not_not] at *; simp_all
  have e1 := hx1 hg
  have e2 := hx2 hg
  have e3 := hx3 hg
  rw [e2, Int.toNat_natCast, hrow', Int.toNat_natCast, hrk _ hw.2] at e3
  rw [Int.toNat_natCast] at e1
  simp only [Bool.or_eq_true, Bool.and_eq_true, Bool.not_eq_true', Bool.not_eq_false', Bool.or_eq_false_iff, Bool.and_eq_false_imp, decide_eq_true_eq, decide_eq_false_iff_not, beq_iff_eq, not_or, Int.not_lt, Int.not_le, Bool.false_eq_true, not_false_eq_true, not_true_eq_false, Decidable.not_not] at *
  have C := hc2.1 ⟨hb.1.1.2, hb.1.1.1⟩
  have hall := C.2.all q hq (by omega)
  refine .elim (P := fun t => t = .inl ()) (.bd (.ixV (by simp; omega) ?_)) (fun _ _ _ => .one rfl) (fun _ _ h => by cases h)
  rw [hrow]
  refine .iter 8 (fun k v => v = (k : Int)) (by omega) rfl ?_ ?_
  · rintro k v hk rfl
    simp only [alibkeep_ClocksKnown_L3]
    refine .condT (by rw [lenL]; exact decide_eq_true (by omega)) (.ix (by rw [lenL]; omega) (.ix (by omega) (.condF ?_ (.ck64 (by omega) (.one (by simp))))))
    have h1 := hall k hk
    have h2 := hrk k hk
    rw [getD_of (by rw [lenL]; omega)] at h2
    simp only [getD_of (show k < e.length by omega)] at h1
    rw [h2]
    exact decide_eq_false (by omega)
  · rintro v rfl
    simp only [alibkeep_ClocksKnown_L3]
    exact .condF (by rw [lenL]; exact decide_eq_false (by omega)) (.one rfl)
theorem lattice {N : Nat} (hN : 300 < N) (hL : alibkeep_clocksLives N = some true) (l : List Mark) (a b : List Int) : alibkeep_ClocksLattice N l a b = some true := by
  refine Wp.eq ?_
  unfold alibkeep_ClocksLattice
  rcases two l hN with ⟨S, out, G⟩ | ⟨x, y, hc, hy⟩
  · have K := G.kn
    refine .seq (cut_wp hN G) fun r1 _ h1 => .seq (cut_wp hN G) fun r2 _ h2 => ?_
    refine .seq (P := fun v => v = false → (r1.1 = true ∧ r1.2 = 0) ∧ r2.1 = true ∧ r2.2 = 0) (.bdO hL (.condT rfl (.seq (ok_wp (by simp; omega) (by simp)) fun t _ ht => .one fun h => ?_))) fun v _ hv => .cond (fun _ => .bdO hL (.one rfl)) fun h => ?_
    · simp only [Bool.or_eq_true, Bool.and_eq_true, Bool.not_eq_true', Bool.not_eq_false', Bool.or_eq_false_iff, Bool.and_eq_false_imp, decide_eq_true_eq, decide_eq_false_iff_not, beq_iff_eq, not_or, Int.not_lt, Int.not_le, Bool.false_eq_true, not_false_eq_true, not_true_eq_false, Decidable.not_not] at *
      have := ht.1 h.1.1.1.2
      simp only [List.mem_cons, List.not_mem_nil, or_false, forall_eq_or_imp, forall_eq] at this
      exact ⟨⟨h.1.1.2, this.1⟩, h.1.2, this.2⟩
    · have hh := hv h
      have C1 := h1.1 hh.1
      have C2 := h2.1 hh.2
      refine .ck (limB_of ⟨Nat.le_trans (m := 300) (by omega) (by decide), by omega⟩) (.ck (limB_of ⟨Nat.le_trans (m := 300) (by omega) (by decide), by omega⟩) ?_)
      refine .seq (P := fun r => (r.1.length = 8 ∧ r.2.length = 8) ∧ ∀ k, k < 8 → r.1.getD k 0 = min (a.getD k 0) (b.getD k 0) ∧ r.2.getD k 0 = max (a.getD k 0) (b.getD k 0))
        (.iter 8 (fun k st => st.2.2 = (k : Int) ∧ (st.1.length = 8 ∧ st.2.1.length = 8) ∧ ∀ j, j < k → st.1.getD j 0 = min (a.getD j 0) (b.getD j 0) ∧ st.2.1.getD j 0 = max (a.getD j 0) (b.getD j 0)) (by omega) ⟨rfl, ⟨C1.1, C1.1⟩, fun j h => absurd h (Nat.not_lt_zero _)⟩ ?_ ?_) ?_
      · rintro k ⟨lo, hi, v⟩ hk ⟨hv, hlen, hr⟩
        simp only at hv hlen hr
        subst hv
        simp only [alibkeep_ClocksLattice_L3]
        refine .condT (decide_eq_true (by omega)) (.ix (by omega) (.ix (by omega) (.ix (by omega) (.ix (by omega) (.ix (by omega) (.ix (by omega) (.ck64 (by omega) (.one ⟨by simp, by simpa using hlen, fun j hj => ?_⟩))))))))
        simp only [Int.toNat_natCast]
        rw [getD_set' (by omega), getD_set' (by omega)]
        by_cases h : j = k
        · subst h
          rw [if_pos rfl, if_pos rfl, getD_of (by omega), getD_of (by omega)]
          exact ⟨rfl, rfl⟩
        · rw [if_neg h, if_neg h]
          exact hr j (by omega)
      · rintro ⟨lo, hi, v⟩ ⟨hv, hlen, hr⟩
        simp only at hv hlen hr
        subst hv
        simp only [alibkeep_ClocksLattice_L3]
        exact .condF (decide_eq_false (by omega)) (.one ⟨hlen, hr⟩)
      · rintro ⟨lo, hi⟩ _ ⟨hlen, hr⟩
        simp only at hlen hr
        refine .seq (cut_wp hN G) fun r3 _ h3 => .seq (cut_wp hN G) fun r4 _ h4 => .seq (ok_wp (by simp; omega) (by simp)) fun t _ ht => .one ?_
        have e3 := h3.2 ⟨hlen.1, (CutOk.min C1.2 C2.2).cong K.w8 fun k hk => (hr k hk).1.symm⟩
        have e4 := h4.2 ⟨hlen.2, (CutOk.max C1.2 C2.2).cong K.w8 fun k hk => (hr k hk).2.symm⟩
        have := ht.2 (by simp [e3.2, e4.2])
        simp [this, e3.1, e4.1]
  · refine .bdO (cut_bad hc hy) (.bdO (cut_bad hc hy) (.seq (P := fun v => v = true) (.bdO hL (.condT rfl (.seq (ok_wp (by simp; omega) (by simp)) fun t _ ht => .one (by simp)))) fun v _ hv => .condT hv (.bdO hL (.one rfl))))
end Ck

end Go.Proofs.Ytooaoekfnmakhaa
