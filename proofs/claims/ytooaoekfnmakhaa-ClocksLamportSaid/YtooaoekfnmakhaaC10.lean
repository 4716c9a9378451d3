/- ClocksLamport, ClocksMattern, plainly. -/
import Derived.Test.YtooaoekfnmakhaaC9
set_option linter.unusedVariables false
set_option linter.unusedSimpArgs false
set_option linter.unusedSectionVars false
set_option maxRecDepth 100000
namespace Go.Proofs.Ytooaoekfnmakhaa
open Go.RowKit
namespace Ck
theorem lamport {N : Nat} (hN : 300 < N) (hL : alibkeep_clocksLives N = some true) (l : List Mark) : alibkeep_ClocksLamport N l = some true := by
  refine Wp.eq ?_
  unfold alibkeep_ClocksLamport
  rcases two l hN with ⟨S, out, G⟩ | ⟨a, x, hc, hx⟩
  · have K := G.kn
    refine .seq (times_wp hN G) fun r _ hr => ?_
    by_cases h12 : l.length ≤ 12
    · refine .seq (before_wp hN G h12) fun b _ hb => ?_
      refine .seq (P := fun v => v = false) (.bdO hL (.condT rfl (.seq (ok_wp (by simp; omega) (by simp)) fun t _ ht => .one ?_))) fun v _ hv => .condF hv ?_
      · have := ht.2 (by simp [hr.1, hb.2.1])
        simp [this, hr.2.1]
      refine .elim (P := fun t => t = .inl ()) (.iter l.length (fun k v => v = (k : Int)) (by omega) rfl ?_ ?_) (fun _ _ _ => .one rfl) (fun _ _ h => by cases h)
      · rintro i v hi rfl
        simp only [alibkeep_ClocksLamport_L25]
        refine .condT (decide_eq_true (by omega)) (.elim (P := fun t => t = .inl ()) ?_ (fun _ _ _ => .ck64 (by omega) (.one (by simp))) (fun _ _ h => by cases h))
        refine .iter l.length (fun k v => v = (k : Int)) (by omega) rfl ?_ ?_
        · rintro j v hj rfl
          simp only [alibkeep_ClocksLamport_L27]
          refine .condT (decide_eq_true (by omega)) (.axN (by omega) (.ck (decide_eq_true (by omega)) ?_))
          rw [(hb.2.2 i (by omega)).test j]
          refine .gix 0 (fun _ => by omega) fun x1 h1 => .gix 0 (fun _ => by omega) fun x2 h2 => .condF ?_ (.ck64 (by omega) (.one (by simp)))
          cases hB : bfB l out i j with
          | false => rfl
          | true =>
            have h3 := of_decide_eq_true hB
            have h4 := K.knows (t := fun i => tF r.1 i) hr.2.2.1 hr.2.2.2 j hj i hi h3.2.2.2
            have h5 : tF r.1 i < tF r.1 j := by
              rcases h4.2.2 with h | h
              · exact absurd h h3.2.2.1
              · exact h
            rw [h1 (by rw [hB]; rfl), h2 (by rw [hB]; rfl)]
            simp only [Int.toNat_natCast]
            exact decide_eq_false (by unfold tF at h5; omega)
        · rintro v rfl
          simp only [alibkeep_ClocksLamport_L27]
          exact .condF (by simp) (.one rfl)
      · rintro v rfl
        simp only [alibkeep_ClocksLamport_L25]
        exact .condF (by simp) (.one rfl)
    · refine .bdO (before_large G h12) ?_
      refine .seq (P := fun v => v = true) (.bdO hL (.condT rfl (.seq (ok_wp (by simp; omega) (by simp)) fun t _ ht => .one ?_))) fun v _ hv => .condT hv (.bdO hL (.one ?_))
      · have : t = false := by
          cases t with
          | false => rfl
          | true => have := ht.1 rfl 2 (by simp); cases this
        simp [this]
      · simp [hr.1]
  · refine .bdO (times_bad hc hx) (.bdO (before_bad hc hx) ?_)
    refine .seq (P := fun v => v = true) (.bdO hL (.condT rfl (.seq (ok_wp (by simp; omega) (by simp)) fun t _ ht => .one ?_))) fun v _ hv => .condT hv (.bdO hL (.one (by simp)))
    have : t = false := by
      cases t with
      | false => rfl
      | true => exact absurd (ht.1 rfl x (by simp)) hx
    simp [this]
theorem mattern {N : Nat} (hN : 300 < N) (hL : alibkeep_clocksLives N = some true) (l : List Mark) : alibkeep_ClocksMattern N l = some true := by
  refine Wp.eq ?_
  unfold alibkeep_ClocksMattern
  rcases two l hN with ⟨S, out, G⟩ | ⟨a, x, hc, hx⟩
  · have K := G.kn
    have hlen := G.len
    have hrow : ∀ i, i < l.length → (out.map (arrL 8 0)).getD i [] = arrL 8 0 (out.getD i []) := fun i hi => by rw [getD_of (by simp; omega), List.getElem_map, getD_of]
    have hrk : ∀ i k, k < 8 → (arrL 8 0 (out.getD i [])).getD k 0 = oF out i k := fun i k hk => arrL_get hk 0
    refine .bdO (knowsAll_good hN G) ?_
    by_cases h12 : l.length ≤ 12
    · refine .seq (before_wp hN G h12) fun b _ hb => ?_
      refine .seq (P := fun v => v = false) (.bdO hL (.condT rfl (.seq (ok_wp (by simp; omega) (by simp)) fun t _ ht => .one ?_))) fun v _ hv => .condF hv ?_
      · have := ht.2 (by simp [hb.2.1])
        simp [this, hlen]
      refine .elim (P := fun t => t = .inl ()) (.iter l.length (fun k v => v = (k : Int)) (by omega) rfl ?_ ?_) (fun _ _ _ => .one rfl) (fun _ _ h => by cases h)
      · rintro i v hi rfl
        simp only [alibkeep_ClocksMattern_L289]
        refine .condT (decide_eq_true (by omega)) (.elim (P := fun t => t = .inl ()) ?_ (fun _ _ _ => .ck64 (by omega) (.one (by simp))) (fun _ _ h => by cases h))
        refine .iter l.length (fun k v => v = (k : Int)) (by omega) rfl ?_ ?_
        · rintro j v hj rfl
          simp only [alibkeep_ClocksMattern_L311]
          refine .condT (decide_eq_true (by omega)) (.elim (P := fun t => t = .inl ()) ?_ (fun _ _ _ => .ck64 (by omega) (.one (by simp))) (fun _ _ h => by cases h))
          refine .seq (P := fun a => a = true ↔ i ≠ j ∧ ∀ t, t < 8 → oF out i t ≤ oF out j t) (.bd (.ixVD [] (by omega) (by simp; omega) ?_)) fun al _ hal => .axN (by omega) (.ck (decide_eq_true (by omega)) ?_)
          · rw [Int.toNat_natCast, hrow i hi]
            refine .iter 8 (fun k st => st.2 = (k : Int) ∧ (st.1 = true ↔ i ≠ j ∧ ∀ t, t < k → oF out i t ≤ oF out j t)) (by omega) ⟨rfl, by simp; omega⟩ ?_ ?_
            · rintro k ⟨al, v⟩ hk ⟨hv, hal⟩
              simp only at hv hal
              subst hv
              simp only [alibkeep_ClocksMattern_L315]
              refine .condT (by rw [lenL]; exact decide_eq_true (by omega)) ?_
              refine .gix [] (fun _ => by simp; omega) fun x1 h1 => ?_
              rw [Int.toNat_natCast, hrow j hj] at h1
              have hk1 : al = true → (k : Int) < x1.length := fun h => by rw [h1 (by simp [h]), lenL]; omega
              refine .gix [] (fun _ => by simp; omega) fun x2 h2 => .gix 0 (fun hb => ?_) fun x3 h3 => .gix [] (fun _ => by simp; omega) fun x4 h4 => .gix 0 (fun hb => ?_) fun x5 h5 => .ck64 (by omega) (.one ⟨by simp, ?_⟩)
              · rw [h2 hb, Int.toNat_natCast, hrow i hi, lenL]; omega
              · rw [h4 hb, Int.toNat_natCast, hrow j hj, lenL]; omega
              simp only
              cases al with
              | false =>
                simp only [Bool.false_and, Bool.false_eq_true, false_iff]
                intro h
                have := hal.2 ⟨h.1, fun t ht => h.2 t (by omega)⟩
                cases this
              | true =>
                have hg : ((true && (decide ((k : Int) < (x1.length : Int)))) == true) = true := by simpa using hk1 rfl
                have e3 := h3 hg
                have e5 := h5 hg
                rw [h2 hg, Int.toNat_natCast, hrow i hi, Int.toNat_natCast, hrk i k hk] at e3
                rw [h4 hg, Int.toNat_natCast, hrow j hj, Int.toNat_natCast, hrk j k hk] at e5
                rw [decide_eq_true (hk1 rfl), e3, e5]
                simp only [Bool.true_and, decide_eq_true_eq]
                have ha := hal.1 rfl
                refine ⟨fun h => ⟨ha.1, fun t ht => ?_⟩, fun h => h.2 k (by omega)⟩
                rcases Nat.lt_or_ge t k with h1 | h1
                · exact ha.2 t h1
                · obtain rfl : t = k := by omega
                  exact h
            · rintro ⟨al, v⟩ ⟨hv, hal⟩
              simp only at hv hal
              subst hv
              simp only [alibkeep_ClocksMattern_L315]
              exact .condF (by rw [lenL]; exact decide_eq_false (by omega)) (.one hal)
          · rw [(hb.2.2 i (by omega)).test j]
            refine .condF ?_ (.one rfl)
            have : al = bfB l out i j := by
              rw [Bool.eq_iff_iff, hal]
              unfold bfB
              rw [decide_eq_true_eq]
              exact ⟨fun h => ⟨hi, hj, h.1, h.2 _ (K.w8 i hi)⟩, fun h => ⟨h.2.2.1, (K.knows' hi hj h.2.2.2).1⟩⟩
            rw [this]
            simp
        · rintro v rfl
          simp only [alibkeep_ClocksMattern_L311]
          exact .condF (by simp) (.one rfl)
      · rintro v rfl
        simp only [alibkeep_ClocksMattern_L289]
        exact .condF (by simp) (.one rfl)
    · refine .bdO (before_large G h12) ?_
      refine .seq (P := fun v => v = true) (.bdO hL (.condT rfl (.seq (ok_wp (by simp; omega) (by simp)) fun t _ ht => .one ?_))) fun v _ hv => .condT hv (.bdO hL (.one ?_))
      · have : t = false := by
          cases t with
          | false => rfl
          | true => have := ht.1 rfl 2 (by simp); cases this
        simp [this]
      · simp
  · refine .bdO (knowsAll_bad hc hx) (.bdO (before_bad hc hx) ?_)
    refine .seq (P := fun v => v = true) (.bdO hL (.condT rfl (.seq (ok_wp (by simp; omega) (by simp)) fun t _ ht => .one ?_))) fun v _ hv => .condT hv (.bdO hL (.one (by simp)))
    have : t = false := by
      cases t with
      | false => rfl
      | true => exact absurd (ht.1 rfl x (by simp)) hx
    simp [this]
end Ck

end Go.Proofs.Ytooaoekfnmakhaa
