/- HistoryBack, plainly. -/
import Derived.Test.YtooaoekfnmakhaaS10
set_option linter.unusedVariables false
set_option linter.unusedSimpArgs false
set_option linter.unusedSectionVars false
set_option maxRecDepth 100000
namespace Go.Proofs.Ytooaoekfnmakhaa
open Go.RowKit
namespace Hs
theorem backLaw {N : Nat} (hN : 1000 < N) (hL : alibkeep_historyLives N = some true) (types : List Int) (l : List Event) (calls : List Call) : alibkeep_HistoryBack N types l calls = some true := by
  refine Wp.eq ?_
  unfold alibkeep_HistoryBack
  refine .seq (calls_wp (by omega)) fun r hr hc => .elim (P := fun t => t = .inl ()) (.cond (fun h0 => ?_) (fun _ => .one rfl)) (fun _ _ _ => ?_) (fun _ _ h => by cases h)
  · have h0 : r.2.2 = 0 := of_decide_eq_true h0
    obtain ⟨H, h1⟩ := hc h0
    have hr' : history_Calls N types l = some (r.1, 0, 0) := by
      rw [hr]
      rcases r with ⟨a, b, d⟩
      simp only at h0 h1
      subst h0 h1
      rfl
    refine .seq (events_wp types l hN) fun x _ hx => ?_
    have hx := hx.2 H hr'
    subst hx
    have he : slices_Equal_api_Event_api_Event N l l = some true := by
      obtain ⟨b, hb, h2⟩ := eqEvent_wp (a := l) (b := l) hN (by have := H.len; omega)
      rw [hb, h2.2 rfl]
    exact .bdO (cond_of rfl |>.trans he) (.condF (by simp [h1]) (.one rfl))
  · refine .seq (events_wp types l hN) fun x _ hx => .bdO hL (.cond (fun h => .bdO hL (.one ?_)) (fun h => ?_))
    · have : x.2 ≠ 0 := by simpa using h
      rw [hx.1.1 this]
      rfl
    · have h0 : x.2 = 0 := by simpa using h
      obtain ⟨T, H, hC⟩ := hx.1.2 h0
      obtain ⟨op, W⟩ := H.wf
      have hlc : calls.length ≤ 200 := by have := W.len; have := H.len; omega
      refine .seq (P := fun t => t.length = 4 ∧ (∀ j, j < 4 → 1 ≤ t.getD j 0 ∧ t.getD j 0 ≤ 5) ∧ ∀ m, m < calls.length → t.getD (calls.getD m Call.z).thing.toNat 0 = T.getD (calls.getD m Call.z).thing.toNat 0)
        (.iter calls.length (fun k s => s.2 = (k : Int) ∧ s.1.length = 4 ∧ (∀ j, j < 4 → 1 ≤ s.1.getD j 0 ∧ s.1.getD j 0 ≤ 5) ∧ ∀ m, m < k → s.1.getD (calls.getD m Call.z).thing.toNat 0 = T.getD (calls.getD m Call.z).thing.toNat 0) (by omega)
          ⟨rfl, rfl, fun j hj => ?_, fun m h => absurd h (Nat.not_lt_zero _)⟩ ?_ ?_) fun t _ ht => ?_
      · match j, hj with
        | 0, _ => decide
        | 1, _ => decide
        | 2, _ => decide
        | 3, _ => decide
      · rintro k ⟨t, v⟩ hk ⟨hv, h4, hr, hm⟩
        simp only at hv h4 hr hm
        subst hv
        simp only [alibkeep_HistoryBack_L25]
        have O := W.one k hk
        rw [getD_of hk] at O
        have hth := O.thing
        have hty := H.tys
        have hf : 1 ≤ tyF calls[k].kind ∧ tyF calls[k].kind ≤ 5 := by
          rw [O.fit.2, getD_of (by omega)]
          exact H.tys.2.2 _ (List.getElem_mem _)
        refine .condT (decide_eq_true (by omega)) (.seq (P := fun t' => t'.length = 4 ∧ ∀ j, t'.getD j 0 = if j = calls[k].thing.toNat then tyF calls[k].kind else t.getD j 0) (.bd (.ixV hk ?_)) fun t' _ ht' => .ck64 (by omega) (.one ⟨by simp, ht'.1, fun j hj => ?_, fun m hmk => ?_⟩))
        · refine .iter 5 (fun q s => s.2 = (q : Int) + 1 ∧ s.1.length = 4 ∧ ∀ j, s.1.getD j 0 = if j = calls[k].thing.toNat ∧ tyF calls[k].kind ≤ q then tyF calls[k].kind else t.getD j 0) (by omega) ⟨rfl, h4, fun j => by rw [if_neg (by omega)]⟩ ?_ ?_
          · rintro q ⟨s, v⟩ hq ⟨hv, hs4, hs⟩
            simp only at hv hs4 hs
            subst hv
            simp only [alibkeep_HistoryBack_L27, fits_eq]
            have hg : ((decide (0 ≤ calls[k].thing)) && (decide (calls[k].thing < 4))) = true := by simp; omega
            rw [hg]
            simp only [beq_self_eq_true, cond_true, Bool.true_and, bd]
            refine .condT (decide_eq_true (by omega)) (.cond (fun h => ?_) (fun h => .ck64 (by omega) (.one ⟨by simp, hs4, fun j => ?_⟩)))
            · have h := of_decide_eq_true h
              refine .ixD 0 (by omega) (by omega) (.ck64 (by omega) (.one ⟨by simp, by simpa using hs4, fun j => ?_⟩))
              simp only
              rw [getD_set2 (by omega), hs j]
              by_cases e : j = calls[k].thing.toNat
              · rw [if_pos e, if_pos ⟨e, by omega⟩]; omega
              · rw [if_neg e, if_neg (fun h => e h.1), if_neg (fun h => e h.1)]
            · have h := of_decide_eq_false h
              rw [hs j]
              by_cases e : j = calls[k].thing.toNat ∧ tyF calls[k].kind ≤ q
              · rw [if_pos e, if_pos ⟨e.1, by omega⟩]
              · rw [if_neg e, if_neg (by omega)]
          · rintro ⟨s, v⟩ ⟨hv, hs4, hs⟩
            simp only at hv hs4 hs
            subst hv
            simp only [alibkeep_HistoryBack_L27]
            refine .condF (by simp) (.one ⟨hs4, fun j => ?_⟩)
            rw [hs j]
            by_cases e : j = calls[k].thing.toNat
            · rw [if_pos e, if_pos ⟨e, by omega⟩]
            · rw [if_neg e, if_neg (fun h => e h.1)]
        · simp only
          rw [ht'.2]
          split
          · exact hf
          · exact hr j hj
        · simp only
          rw [ht'.2]
          split
          · rename_i e
            rw [e, ← O.fit.2]
          · rename_i e
            have : m ≠ k := by rintro rfl; rw [getD_of hk] at e; exact e rfl
            exact hm m (by omega)
      · rintro ⟨t, v⟩ ⟨hv, h4, hr, hm⟩
        simp only at hv h4 hr hm
        subst hv
        simp only [alibkeep_HistoryBack_L25]
        exact .condF (by simp) (.one ⟨h4, hr, hm⟩)
      · have hC2 := calls_cong (by omega) H hC (T2 := t) (by omega) (fun j hj => ht.2.1 j (by omega)) (fun m hm => ⟨by have := (W.one m hm).thing; have := H.tys; omega, ht.2.2 m hm⟩)
        have he : slices_Equal_api_Call_api_Call N calls calls = some true := by
          obtain ⟨b, hb, h2⟩ := eqCall_wp (a := calls) (b := calls) hN (by omega)
          rw [hb, h2.2 rfl]
        exact .bdO hC2 (.bdO (cond_of rfl |>.trans he) (.one rfl))
end Hs

end Go.Proofs.Ytooaoekfnmakhaa
