/- SearchAlone, plainly. -/
import Derived.Test.YtpakplmpihhmbaaL8
set_option linter.unusedVariables false
set_option linter.unusedSimpArgs false
set_option linter.unusedSectionVars false
set_option maxRecDepth 100000
namespace Go.Proofs.Ytpakplmpihhmbaa
open Go.RowKit
namespace Sr
open Rl Hs
theorem Pl.take {types : List Int} {c : List Call} {q : Nat → Nat → Bool} : ∀ {t : List Step} {S : List (List Int)} {w : List Nat} (k : Nat), Pl types c q S w t → Pl types c q S w (t.take k)
  | [], _, _, k, _ => by rw [List.take_nil]; trivial
  | s :: t, _, _, 0, _ => trivial
  | s :: t, S, w, k + 1, ⟨i, n, h1, h2, h3, h4, h5, h6, h7⟩ => ⟨i, n, h1, h2, h3, h4, h5, h6, Pl.take k h7⟩
/-- All that were answered, one behind the other. -/
def aw (c : List Call) : Nat → List Step
  | 0 => []
  | k + 1 => if (c.getD k Call.z).to_ ≠ -1 then aw c k ++ [⟨(k : Int), (c.getD k Call.z).res⟩] else aw c k
theorem aw_len (c : List Call) : ∀ k, (aw c k).length ≤ k
  | 0 => Nat.le_refl _
  | k + 1 => by
    have := aw_len c k
    simp only [aw]
    split <;> simp <;> omega
theorem alone_num {c : List Call} {q : Nat → Nat → Bool} (hq : ∀ i j, i < j → j < c.length → q i j = true) : ∀ {t : List Step} {k : Nat} {w : List Nat}, (∀ j, j ∈ w ↔ j < k) → Ac c q w t → (∀ i ∈ nums t, ∀ j, j < i → j < k ∨ j ∈ nums t) → nums t = (List.range t.length).map (k + ·)
  | [], _, _, _, _, _ => rfl
  | s :: t, k, w, hw, ⟨i, h1, h2, h3, h4, h5, h6⟩, hd => by
    have e : nums (s :: t) = i :: nums t := by simp [nums, h1]
    rw [e] at hd ⊢
    have hik : i = k := by
      rcases Nat.lt_trichotomy i k with h | h | h
      · exact (h3 ((hw i).2 h)).elim
      · exact h
      · rcases hd i (.head _) k h with h7 | h7
        · omega
        · rcases List.mem_cons.1 h7 with h7 | h7
          · omega
          · have := Ac.free h6 k h7 i (by simp)
            rw [hq k i h h2] at this
            cases this
    subst hik
    have ih := alone_num hq (t := t) (k := i + 1) (w := w ++ [i]) (fun j => by rw [List.mem_append, List.mem_singleton, hw]; omega) h6 (fun x hx j hj => by
      rcases hd x (.tail _ hx) j hj with h7 | h7
      · exact .inl (by omega)
      · rcases List.mem_cons.1 h7 with h7 | h7
        · exact .inl (by omega)
        · exact .inr h7)
    rw [ih, List.length_cons, List.range_succ_eq_map, List.map_cons, List.map_map]
    simp only [Nat.add_zero, List.cons.injEq, true_and]
    apply List.map_congr_left
    intro a _
    simp only [Function.comp_apply]
    omega
theorem Ac.res {c : List Call} {q : Nat → Nat → Bool} : ∀ {t : List Step} {w : List Nat}, Ac c q w t → ∀ s ∈ t, (c.getD s.call.toNat Call.z).to_ ≠ -1 → s.res = (c.getD s.call.toNat Call.z).res
  | [], _, _, s, hs => by cases hs
  | a :: t, w, ⟨k, h1, h2, h3, h4, h5, h6⟩, s, hs => by
    rcases List.mem_cons.1 hs with rfl | hs
    · intro h
      rw [h1, Int.toNat_natCast] at h ⊢
      exact h5 h
    · exact Ac.res h6 s hs
theorem gd_alone {types : List Int} {c : List Call} (hone : ∀ i j, i < j → j < c.length → (c.getD i Call.z).to_ ≠ -1 ∧ (c.getD i Call.z).to_ < (c.getD j Call.z).from_) {S : List (List Int)} {x : List Step} (g : Gd types c (bfA c) S [] x) : Gd types c (bfA c) S [] (aw c c.length) := by
  have hq : ∀ i j, i < j → j < c.length → bfA c i j = true := fun i j hij hj => decide_eq_true ⟨by omega, hj, (hone i j hij hj).1, (hone i j hij hj).2⟩
  have hA := pl_ac g.1
  have hcm : ∀ i, i < c.length → (c.getD i Call.z).to_ ≠ -1 → i ∈ nums x := fun i hi ht => by have := g.2 i hi ht; simpa using this
  have hrng : ∀ i ∈ nums x, i < c.length := fun i hi => by
    obtain ⟨s, hs, rfl⟩ := List.mem_map.1 hi
    have := g.1.rng s hs
    omega
  have hn := alone_num hq (t := x) (k := 0) (w := []) (by simp) hA (fun i hi j hj => .inr (hcm j (by have := hrng i hi; omega) (hone j i hj (hrng i hi)).1))
  have hget : ∀ k (h : k < x.length), x[k].call = (k : Int) := by
    intro k hk
    have h1 : (nums x)[k]? = some x[k].call.toNat := by unfold nums; rw [List.getElem?_map, List.getElem?_eq_getElem hk]; rfl
    rw [hn] at h1
    rw [List.getElem?_map, List.getElem?_range hk] at h1
    have h2 : 0 + k = x[k].call.toNat := by simpa using h1
    have := g.1.rng x[k] (List.getElem_mem hk)
    omega
  have hxl : x.length ≤ c.length := hA.len
  have hmem : ∀ k, k < c.length → (c.getD k Call.z).to_ ≠ -1 → k < x.length := by
    intro k hk ht
    have := hcm k hk ht
    rw [hn] at this
    obtain ⟨a, ha, rfl⟩ := List.mem_map.1 this
    have := List.mem_range.1 ha
    omega
  have key : ∀ k, k ≤ c.length → (∀ i, i < k → (c.getD i Call.z).to_ ≠ -1) → aw c k = x.take k := by
    intro k
    induction k with
    | zero => intro _ _; rfl
    | succ k ih =>
      intro hk hall
      have ht := hall k (by omega)
      have hkx := hmem k (by omega) ht
      simp only [aw]
      rw [if_pos ht, ih (by omega) (fun i hi => hall i (by omega)), ← List.take_append_getElem hkx]
      have h1 := hget k hkx
      have h2 := hA.res x[k] (List.getElem_mem hkx)
      rw [h1, Int.toNat_natCast] at h2
      congr 1
      have h3 := h2 ht
      cases hx : x[k] with
      | mk a b =>
        rw [hx] at h1 h3
        simp only at h1 h3
        rw [h1, h3]
  have fin : ∃ k, k ≤ c.length ∧ aw c c.length = x.take k ∧ ∀ i, i < c.length → (c.getD i Call.z).to_ ≠ -1 → i < k := by
    rcases Nat.eq_zero_or_pos c.length with h | h
    · exact ⟨0, by omega, by rw [h]; rfl, fun i hi => by omega⟩
    · obtain ⟨m, hm⟩ : ∃ m, c.length = m + 1 := ⟨c.length - 1, by omega⟩
      have hlow : ∀ i, i < m → (c.getD i Call.z).to_ ≠ -1 := fun i hi => (hone i m hi (by omega)).1
      by_cases ht : (c.getD m Call.z).to_ ≠ -1
      · refine ⟨c.length, Nat.le_refl _, key _ (Nat.le_refl _) fun i hi => ?_, fun i hi _ => hi⟩
        rcases Nat.lt_or_ge i m with h1 | h1
        · exact hlow i h1
        · obtain rfl : i = m := by omega
          exact ht
      · refine ⟨m, by omega, ?_, fun i hi hti => ?_⟩
        · rw [hm]
          simp only [aw]
          rw [if_neg ht]
          exact key m (by omega) hlow
        · rcases Nat.lt_or_ge i m with h1 | h1
          · exact h1
          · obtain rfl : i = m := by omega
            exact (ht hti).elim
  obtain ⟨k, hk, e, hlt⟩ := fin
  rw [e]
  refine ⟨g.1.take k, fun i hi ht => ?_⟩
  have h1 := hlt i hi ht
  have h2 := hmem i hi ht
  rw [List.nil_append]
  refine List.mem_map.2 ⟨x[i], ?_, by rw [hget i h2]; simp⟩
  rw [List.mem_take_iff_getElem]
  exact ⟨i, by omega, rfl⟩
theorem aloneLaw {N : Nat} (hN : 5000 < N) (hL : alibkeep_searchLives N = some true) (types : List Int) (l : List Event) : alibkeep_SearchAlone N types l = some true := by
  refine Wp.eq ?_
  unfold alibkeep_SearchAlone
  obtain ⟨⟨c, e⟩, hc, hcs⟩ := calls9_wp (N := N) (by omega) types l
  refine .seq (find_wp (by omega) hc) fun r _ ⟨f1, f2, f3⟩ => ?_
  obtain ⟨rc, hrc, _⟩ := calls_wp (N := N) (types := types) (l := l) (by omega)
  refine .bdO hrc ?_
  rw [f1]
  refine .seq (P := fun v => v = !decide (e = 0 ∧ rc.2.2 = 0)) (.bdO hL (.condT rfl (.bdO (okd (by simp; omega) (by simp)) (.one ?_)))) fun v _ hv => ?_
  · rw [Bool.not_true, Bool.false_or]
    congr 1
    exact decide_eq_decide.2 ⟨fun h => ⟨h _ (by simp), h _ (by simp)⟩, fun h x hx => by
      rcases List.mem_cons.1 hx with rfl | hx
      · exact h.1
      · rw [List.mem_singleton.1 hx]; exact h.2⟩
  · subst hv
    refine .cond (fun _ => .bdO hL (.one rfl)) fun hg => ?_
    have h0 : e = 0 ∧ rc.2.2 = 0 := by simpa using hg
    obtain ⟨h0, _⟩ := h0
    rcases hcs with ⟨_, H, hcalls⟩ | ⟨h2, _⟩
    · rw [hcalls] at hrc
      cases hrc
      obtain ⟨t1, t2, op, R⟩ := rn_of (by omega) hcalls
      replace R : Rn N types l l.length c op := R
      have W := R.wf
      have hfew := H.few
      simp only at hfew
      refine .elim (P := fun t => match t with | .inl _ => ∀ i, i < l.length → (l.getD i Event.z).who = 0 | .inr b => b = true) (.iter l.length (fun k v => v = (k : Int) ∧ ∀ i, i < k → (l.getD i Event.z).who = 0) (by omega) ⟨rfl, fun i h => absurd h (Nat.not_lt_zero _)⟩ ?_ ?_) (fun _ _ hall => ?_) (fun b _ h => .one h)
      · rintro k v hk ⟨rfl, hr⟩
        simp only [alibkeep_SearchAlone_L5]
        refine .condT (decide_eq_true (by omega)) (.ix hk (.cond (fun _ => .one rfl) fun h => .ck64 (by omega) (.one ⟨by simp, fun i hi => ?_⟩)))
        rcases Nat.lt_or_ge i k with h1 | h1
        · exact hr i h1
        · obtain rfl : i = k := by omega
          rw [getD_of hk]
          simpa using h
      · rintro v ⟨rfl, hr⟩
        simp only [alibkeep_SearchAlone_L5]
        exact .condF (decide_eq_false (by omega)) (.one hr)
      · have hall : ∀ i, i < l.length → (l.getD i Event.z).who = 0 := hall
        have who0 : ∀ m, m < c.length → (c.getD m Call.z).who = 0 := fun m hm => by
          have o := W.one m hm
          have h1 := o.evf.1
          have h2 := o.fr
          have := hall (c.getD m Call.z).from_.toNat (by omega)
          rw [h1] at this
          exact this
        have hone : ∀ i j, i < j → j < c.length → (c.getD i Call.z).to_ ≠ -1 ∧ (c.getD i Call.z).to_ < (c.getD j Call.z).from_ := fun i j hij hj => (W.two i j hij hj).own (by rw [who0 i (by omega), who0 j hj])
        refine .seq (P := fun w => w = aw c c.length) (.iter c.length (fun k st => st.2 = (k : Int) ∧ st.1 = aw c k) (by omega) ⟨rfl, rfl⟩ ?_ ?_) fun w _ hw => ?_
        · rintro k ⟨w, v⟩ hk ⟨hv, hw⟩
          simp only at hv hw
          subst hv; subst hw
          simp only [alibkeep_SearchAlone_L7]
          have := aw_len c k
          refine .condT (decide_eq_true (by omega)) (.ixD Call.z (by omega) (by omega) ?_)
          simp only [Int.toNat_natCast]
          refine .cond (fun h => .ck (limB_of ⟨by unfold maxLen; simp; omega, by simp; omega⟩) (.ck64 (by omega) (.one ⟨by simp, ?_⟩))) fun h => .ck64 (by omega) (.one ⟨by simp, ?_⟩)
          · simp only [aw]
            rw [if_pos (by simpa using h)]
          · simp only [aw]
            rw [if_neg (by simpa using h)]
        · rintro ⟨w, v⟩ ⟨hv, hw⟩
          simp only at hv hw
          subst hv; subst hw
          simp only [alibkeep_SearchAlone_L7]
          exact .condF (decide_eq_false (by simp)) (.one rfl)
        · subst hw
          have := aw_len c c.length
          refine .seq (right_wp (by omega) hc (by omega)) fun r2 _ ⟨k1, _, k3⟩ => .one ?_
          have hF := f3 h0 H
          have hR := k3 h0 H
          rw [k1, h0]
          have : r2.1 = r.2.1 := by
            rcases hF with ⟨b1, gd, _⟩ | ⟨b1, _, hno⟩
            · rw [b1]; exact hR.2 (gd_alone hone gd)
            · rw [b1]
              cases h : r2.1 with
              | false => rfl
              | true => exact (hno _ (hR.1 h)).elim
          rw [this]
          simp
    · exact (h2 h0).elim
end Sr

end Go.Proofs.Ytpakplmpihhmbaa
