/- HistorySpans, plainly. -/
import Derived.Test.YtooaoekfnmakhaaS6
set_option linter.unusedVariables false
set_option linter.unusedSimpArgs false
set_option linter.unusedSectionVars false
set_option maxRecDepth 100000
namespace Go.Proofs.Ytooaoekfnmakhaa
open Go.RowKit
namespace Hs
open Rl
theorem ok_wp {N : Nat} {l : List Int} (hN : l.length < N) (hl : l.length ≤ 1000) : Wp (alibkeep_ok N l) fun r => r = true ↔ ∀ x ∈ l, x = 0 := by
  unfold alibkeep_ok
  refine .elim (P := fun t => match t with | .inl _ => ∀ x ∈ l, x = 0 | .inr r => r = false ∧ ∃ x ∈ l, x ≠ 0) (.iter l.length (fun k v => v = (k : Int) ∧ ∀ j, (h : j < l.length) → j < k → l[j] = 0) hN ⟨rfl, fun j _ h => absurd h (Nat.not_lt_zero _)⟩ ?_ ?_) (fun _ _ h => .one ⟨fun _ => h, fun _ => rfl⟩) (fun r _ h => .one ?_)
  · rintro k v hk ⟨rfl, hr⟩
    simp only [alibkeep_ok_L3]
    refine .condT (decide_eq_true (by omega)) (.ix hk (.cond (fun h => .one ⟨rfl, l[k], List.getElem_mem hk, by simpa using h⟩) (fun h => .ck64 (by omega) (.one ⟨by simp, fun j hj hjk => ?_⟩))))
    rcases Nat.lt_or_ge j k with h1 | h1
    · exact hr j hj h1
    · obtain rfl : j = k := by omega
      simpa using h
  · rintro v ⟨rfl, hr⟩
    simp only [alibkeep_ok_L3]
    refine .condF (decide_eq_false (by omega)) (.one fun x hx => ?_)
    obtain ⟨j, hj, rfl⟩ := List.mem_iff_getElem.1 hx
    exact hr j hj hj
  · have h : r = false ∧ ∃ x ∈ l, x ≠ 0 := h
    obtain ⟨rfl, x, hx, hn⟩ := h
    exact ⟨fun h => (by cases h), fun h => absurd (h x hx) hn⟩
theorem lives : alibkeep_historyLives 18446744073709551616 = some true := by kernel_rfl
def spanOf (n : Nat) (c : Call) : Span := ⟨c.from_, if c.to_ = -1 then (n : Int) else c.to_⟩
theorem spansLaw {N : Nat} (hN : 300 < N) (hL : alibkeep_historyLives N = some true) (types : List Int) (l : List Event) : alibkeep_HistorySpans N types l = some true := by
  refine Wp.eq ?_
  unfold alibkeep_HistorySpans
  refine .seq (calls_wp hN) fun c _ hc => ?_
  have hA : Wp (history_Ahead N c.1) fun r => r.2.2 = 0 → c.1.length ≤ 12 ∧ r.1 = c.1.length ∧ ∀ i, i < 12 → Row (r.2.1.getD i 0) (bfA c.1 i) := by
    by_cases h12 : c.1.length ≤ 12
    · exact (ahead_wp hN h12).mono fun r hr _ => ⟨h12, hr.1, hr.2.2⟩
    · exact .of (ahead_large h12) (by simp)
  refine .seq hA fun r _ hr => ?_
  refine .seq (P := fun v => v = false → c.2.2 = 0 ∧ r.2.2 = 0) (.bdO hL (.condT rfl (.seq (ok_wp (by simp; omega) (by simp)) fun t _ ht => .one fun h => ?_))) fun v _ hv => .cond (fun _ => .bdO hL (.one rfl)) fun h => ?_
  · have := ht.1 (by simpa using h)
    simp only [List.mem_cons, List.not_mem_nil, or_false, forall_eq_or_imp, forall_eq] at this
    exact this
  obtain ⟨h1, h2⟩ := hv h
  obtain ⟨H, -⟩ := hc h1
  obtain ⟨h12, hrn, hrow⟩ := hr h2
  obtain ⟨op, W⟩ := H.wf
  have hll := H.len
  refine .elim (P := fun t => t = .inl (c.1.map (spanOf l.length))) (.iter c.1.length (fun k st => st.2 = (k : Int) ∧ st.1 = (c.1.take k).map (spanOf l.length)) (by omega) ⟨rfl, rfl⟩ ?_ ?_) (fun s _ hs => ?_) (fun _ _ h => by cases h)
  · rintro k ⟨s, v⟩ hk ⟨hv, hs⟩
    simp only at hv hs
    subst hv
    simp only [alibkeep_HistorySpans_L25]
    refine .condT (decide_eq_true (by omega)) ?_
    refine .elim (P := fun t => t = .inl (s ++ [spanOf l.length c.1[k]])) (.bd (.ixV hk (.seq (P := fun x => x = if c.1[k].to_ = -1 then (l.length : Int) else c.1[k].to_) (.cond (fun h => .one (by rw [if_pos (of_decide_eq_true h)])) (fun h => .one (by rw [if_neg (of_decide_eq_false h)]))) fun x _ hx => ?_))) (fun s' _ hs' => ?_) (fun _ _ h => by cases h)
    · have hsl : s.length = k := by rw [hs]; simp; omega
      refine .ck (limB_of ?_) (.ck (by simp [slB]; omega) ?_)
      · simp only [List.length_singleton]; exact ⟨Nat.le_trans (m := 300) (by omega) (by decide), by omega⟩
      refine .iter k (fun q v => v = (q : Int)) (by omega) rfl ?_ ?_
      · rintro q v hq rfl
        simp only [alibkeep_HistorySpans_L27, Int.toNat_natCast]
        refine .condT (decide_eq_true (by simp; omega)) (.ix (by simp; omega) ?_)
        refine .gax (fun _ => by omega) fun y hy => .ck (by simp) (.condF ?_ (.ck64 (by omega) (.one (by simp))))
        rw [List.getElem_take] at hy ⊢
        by_cases hw : c.1[k].who = c.1[q].who
        · have e := hy (by simp [hw])
          rw [e, Int.toNat_natCast]
          have R := (hrow q (by omega)).test k
          have T := W.two q k hq hk
          have hb : bfA c.1 q k = true := by
            have h3 := T.own (by rw [getD_of (by omega), getD_of hk]; exact hw.symm)
            exact decide_eq_true ⟨by omega, hk, h3⟩
          rw [hb] at R
          rw [of_decide_eq_true R]
          simp
        · simp [hw]
      · rintro v rfl
        simp only [alibkeep_HistorySpans_L27, Int.toNat_natCast]
        refine .condF (decide_eq_false (by simp; omega)) (.one ?_)
        rw [hx]
        rfl
    · have hs' : Sum.inl s' = (Sum.inl (s ++ [spanOf l.length c.1[k]]) : List Span ⊕ Bool) := hs'
      cases hs'
      refine .ck64 (by omega) (.one ⟨by simp, ?_⟩)
      simp only
      rw [hs, List.take_succ_eq_append_getElem hk, List.map_append]
      rfl
  · rintro ⟨s, v⟩ ⟨hv, hs⟩
    simp only at hv hs
    subst hv
    simp only [alibkeep_HistorySpans_L25]
    exact .condF (by simp) (.one (by rw [hs, List.take_length]))
  · cases hs
    have hsg : ∀ i, i < c.1.length → (c.1.map (spanOf l.length)).getD i Span.z = spanOf l.length (c.1.getD i Call.z) := fun i hi => by rw [getD_of (by simpa using hi), List.getElem_map, getD_of hi]
    have hok : SpOk (c.1.map (spanOf l.length)) := by
      refine ⟨by simpa using h12, fun x hx => ?_⟩
      obtain ⟨y, hy, rfl⟩ := List.mem_map.1 hx
      obtain ⟨i, hi, rfl⟩ := List.mem_iff_getElem.1 hy
      have O := W.one i hi
      rw [getD_of hi] at O
      have h3 := O.fr
      unfold spanOf
      rcases O.to with h4 | h4
      · rw [if_pos h4.1]; simp only; omega
      · rw [if_neg (by omega)]; simp only; omega
    have hbf : ∀ i j, bfS (c.1.map (spanOf l.length)) i j = bfA c.1 i j := by
      intro i j
      unfold bfS bfA
      rw [Bool.eq_iff_iff, decide_eq_true_eq, decide_eq_true_eq, List.length_map]
      constructor
      · rintro ⟨hi, hj, h⟩
        rw [hsg i hi, hsg j hj] at h
        have O := W.one i hi
        have P := (W.one j hj).fr
        unfold spanOf at h
        simp only at h
        split at h
        · omega
        · exact ⟨hi, hj, by assumption, h⟩
      · rintro ⟨hi, hj, h3, h⟩
        rw [hsg i hi, hsg j hj]
        refine ⟨hi, hj, ?_⟩
        unfold spanOf
        rw [if_neg h3]
        exact h
    refine .seq (spansOf_wp hN) fun q _ hq => ?_
    rcases hq with ⟨-, q1, q2, q3⟩ | ⟨hn, _⟩
    · have hu : RelU ⟨r.1, r.2.1⟩ := fun i hi => (hrow i hi).rng
      have hp : ∀ i j, pOf ⟨r.1, r.2.1⟩ i j = true → bfA c.1 i j = true := fun i j h => by
        rw [← (hu.row (pOf_lt h)).uniq (hrow i (pOf_lt h)) j]; exact h
      have V : RelV ⟨r.1, r.2.1⟩ c.1.length := ⟨hu, hrn, h12, fun i j h => by have := of_decide_eq_true (hp i j h); exact ⟨this.1, this.2.1⟩⟩
      refine .seq (ordClose_wp hN hu) fun d _ hd => ?_
      rcases hd with ⟨n, V', d1, d2, d3, d4⟩ | ⟨hv, _⟩
      · obtain rfl := V.uniq V'
        have hround : d.2.2.1 = false := by
          cases h : d.2.2.1 with
          | false => rfl
          | true =>
            obtain ⟨i, hi, hw⟩ := d4.1 h
            have := war_least (n := c.1.length) (q := fun i j => decide ((c.1.getD i Call.z).from_ < (c.1.getD j Call.z).from_)) (fun i j h => ?_) (fun i m j _ h1 h2 => ?_) _ (Nat.le_refl _) i i hw
            · have := of_decide_eq_true this; omega
            · have h5 := of_decide_eq_true (hp i j h)
              have h6 := (W.one i h5.1).to
              exact decide_eq_true (by omega)
            · have := of_decide_eq_true h1; have := of_decide_eq_true h2; exact decide_eq_true (by omega)
        refine .seq (ok_wp (by simp; omega) (by simp)) fun t _ ht => .one ?_
        have ht := ht.2 (by simp [q2, d2])
        have heq : eqA 12 q.2.1 r.2.1 = true := eqA_of fun i hi => (q3 i hi).eq ((hrow i hi).cong fun j => (hbf i j).symm)
        simp [ht, heq, hround, q1, hrn]
      · exact absurd V (hv _)
    · exact absurd hok hn
end Hs

end Go.Proofs.Ytooaoekfnmakhaa
