/- Plain laws of history: the parts. -/
import Derived.Test.YtooaoekfnmakhaaP1
set_option linter.unusedVariables false
set_option linter.unusedSimpArgs false
set_option linter.unusedSectionVars false
set_option maxRecDepth 100000
namespace Go.Proofs.Ytooaoekfnmakhaa
open Go.RowKit
def partF (l : List Ev) (k : Int) : List Ev := l.filter fun v => decide (v.thing = k)
/-- A reader of all, and one of the events of one thing alone. -/
structure Sim (k : Int) (r s : Rd) : Prop where
  ok : s.Ok
  y : ∀ w j : Nat, w < 8 → r.opn.getD w 0 = (j : Int) + 1 → (r.out.getD j cl0).thing = k → ∃ j' : Nat, s.opn.getD w 0 = (j' : Int) + 1 ∧ j' < s.out.length ∧ (s.out.getD j' cl0).thing = k ∧ (s.out.getD j' cl0).kind = (r.out.getD j cl0).kind
  n0 : ∀ w : Nat, w < 8 → r.opn.getD w 0 = 0 → s.opn.getD w 0 = 0
  n1 : ∀ w j : Nat, w < 8 → r.opn.getD w 0 = (j : Int) + 1 → (r.out.getD j cl0).thing ≠ k → s.opn.getD w 0 = 0
theorem sim_ok {ts : List Int} {k : Int} {r s : Rd} {i i' : Int} {v : Ev} (hr : r.Ok) (hs : Sim k r s) (hl : s.out.length < 1000) (h : (eventF ts r i v).1 = 0) :
    (v.thing = k → (eventF ts s i' v).1 = 0 ∧ Sim k (eventF ts r i v).2 (eventF ts s i' v).2) ∧ (v.thing ≠ k → Sim k (eventF ts r i v).2 s) := by
  obtain ⟨q, p, hq, hq8, hp, hpl, hc⟩ := event_cases hr h
  have hql : q < r.opn.length := by rw [hr.l8]; exact hq8
  have hqs : q < s.opn.length := by rw [hs.ok.l8]; exact hq8
  have h0 : ¬ (v.who < 0 ∨ 8 ≤ v.who ∨ v.thing < 0 ∨ (ts.length : Int) ≤ v.thing) := by omega
  have old : ∀ w j : Nat, w < 8 → r.opn.getD w 0 = (j : Int) + 1 → j < r.out.length := fun w j hw hj => by have := hr.ge w hw; omega
  rcases hc with ⟨hk, h1, h2, h3, he⟩ | ⟨hk, j, h1, h2, h3, h4, he⟩
  · have hs0 : s.opn.getD q 0 = 0 := hs.n0 q hq8 h3
    rw [he]
    refine ⟨fun hvk => ?_, fun hvk => ?_⟩
    · have hes : eventF ts s i' v = (0, ⟨s.out ++ [⟨q, p, v.kind, v.value, 0, i', -1⟩], s.opn.set q (s.out.length + 1)⟩) := by
        simp only [eventF, if_neg h0, if_pos hk]
        simp only [hq, hp, Int.toNat_natCast]
        rw [if_neg (by rw [h1, h2]; simp), if_neg (by omega)]
      have hinv := (event_inv (ts := ts) (i := i') (v := v) hs.ok (Nat.le_refl _) hl).1
      rw [hes] at hinv ⊢
      refine ⟨rfl, hinv, fun w j hw8 hj hjk => ?_, fun w hw8 hw0 => ?_, fun w j hw8 hj hjk => ?_⟩
      · simp only at hj hjk ⊢
        rw [getD_set hql] at hj
        rw [getD_set hqs]
        split at hj
        · rename_i hwq
          rw [if_pos hwq]
          refine ⟨s.out.length, rfl, by simp, ?_, ?_⟩
          · rw [gD_app, if_pos rfl]; exact hp ▸ hvk
          · rw [gD_app, if_pos rfl, gD_app, if_pos (by omega)]
        · rename_i hwq
          rw [if_neg hwq]
          have hjl := old w j hw8 hj
          rw [gD_app, if_neg (by omega)] at hjk ⊢
          obtain ⟨j', a1, a2, a3, a4⟩ := hs.y w j hw8 hj hjk
          exact ⟨j', a1, by simp; omega, by rw [gD_app, if_neg (by omega)]; exact a3, by rw [gD_app, if_neg (by omega)]; exact a4⟩
      · simp only at hw0 ⊢
        rw [getD_set hql] at hw0
        rw [getD_set hqs]
        split at hw0
        · omega
        · rename_i hwq; rw [if_neg hwq]; exact hs.n0 w hw8 hw0
      · simp only at hj hjk ⊢
        rw [getD_set hql] at hj
        rw [getD_set hqs]
        split at hj
        · rename_i hwq
          exfalso
          rw [gD_app, if_pos (by omega)] at hjk
          exact hjk (hp ▸ hvk)
        · rename_i hwq
          rw [if_neg hwq]
          have hjl := old w j hw8 hj
          rw [gD_app, if_neg (by omega)] at hjk
          exact hs.n1 w j hw8 hj hjk
    · refine ⟨hs.ok, fun w j hw8 hj hjk => ?_, fun w hw8 hw0 => ?_, fun w j hw8 hj hjk => ?_⟩
      · simp only at hj hjk ⊢
        rw [getD_set hql] at hj
        split at hj
        · exfalso
          rw [gD_app, if_pos (by omega)] at hjk
          exact hvk (hp ▸ hjk)
        · have hjl := old w j hw8 hj
          rw [gD_app, if_neg (by omega)] at hjk ⊢
          exact hs.y w j hw8 hj hjk
      · simp only at hw0
        rw [getD_set hql] at hw0
        split at hw0
        · omega
        · exact hs.n0 w hw8 hw0
      · simp only at hj hjk
        rw [getD_set hql] at hj
        split at hj
        · rename_i hwq; subst hwq; exact hs0
        · have hjl := old w j hw8 hj
          rw [gD_app, if_neg (by omega)] at hjk
          exact hs.n1 w j hw8 hj hjk
  · rw [he]
    have th : ∀ m : Nat, ((r.out.set j { r.out.getD j cl0 with res := v.value, to := i }).getD m cl0).thing = (r.out.getD m cl0).thing ∧ ((r.out.set j { r.out.getD j cl0 with res := v.value, to := i }).getD m cl0).kind = (r.out.getD m cl0).kind := by
      intro m
      rw [gD_set h2]
      split
      · rename_i hm; subst hm; exact ⟨rfl, rfl⟩
      · exact ⟨rfl, rfl⟩
    refine ⟨fun hvk => ?_, fun hvk => ?_⟩
    · obtain ⟨j', a1, a2, a3, a4⟩ := hs.y q j hq8 h1 (by rw [h3, ← hp]; exact hvk)
      have hes : eventF ts s i' v = (0, ⟨s.out.set j' { s.out.getD j' cl0 with res := v.value, to := i' }, s.opn.set q 0⟩) := by
        simp only [eventF, if_neg h0, if_neg (show ¬ v.kind ≠ 0 by omega)]
        simp only [hq, hp, Int.toNat_natCast, a1]
        rw [if_neg (by omega), show ((j' : Int) + 1 - 1).toNat = j' by omega, a3, a4, if_neg]
        rw [h4]
        intro h; rcases h with h | h
        · exact h (by rw [← hp]; exact hvk.symm)
        · cases h
      have hinv := (event_inv (ts := ts) (i := i') (v := v) hs.ok (Nat.le_refl _) hl).1
      rw [hes] at hinv ⊢
      have ths : ∀ m : Nat, ((s.out.set j' { s.out.getD j' cl0 with res := v.value, to := i' }).getD m cl0).thing = (s.out.getD m cl0).thing ∧ ((s.out.set j' { s.out.getD j' cl0 with res := v.value, to := i' }).getD m cl0).kind = (s.out.getD m cl0).kind := by
        intro m
        rw [gD_set a2]
        split
        · rename_i hm; subst hm; exact ⟨rfl, rfl⟩
        · exact ⟨rfl, rfl⟩
      refine ⟨rfl, hinv, fun w m hw8 hm hmk => ?_, fun w hw8 hw0 => ?_, fun w m hw8 hm hmk => ?_⟩
      · simp only at hm hmk ⊢
        rw [getD_set hql] at hm
        rw [getD_set hqs]
        split at hm
        · omega
        · rename_i hwq
          rw [if_neg hwq]
          rw [(th m).1] at hmk
          obtain ⟨m', b1, b2, b3, b4⟩ := hs.y w m hw8 hm hmk
          exact ⟨m', b1, by simpa using b2, by rw [(ths m').1]; exact b3, by rw [(ths m').2, (th m).2]; exact b4⟩
      · simp only at hw0 ⊢
        rw [getD_set hql] at hw0
        rw [getD_set hqs]
        split at hw0
        · rename_i hwq; rw [if_pos hwq]
        · rename_i hwq; rw [if_neg hwq]; exact hs.n0 w hw8 hw0
      · simp only at hm hmk ⊢
        rw [getD_set hql] at hm
        rw [getD_set hqs]
        split at hm
        · omega
        · rename_i hwq
          rw [if_neg hwq]
          rw [(th m).1] at hmk
          exact hs.n1 w m hw8 hm hmk
    · refine ⟨hs.ok, fun w m hw8 hm hmk => ?_, fun w hw8 hw0 => ?_, fun w m hw8 hm hmk => ?_⟩
      · simp only at hm hmk ⊢
        rw [getD_set hql] at hm
        split at hm
        · omega
        · rw [(th m).1] at hmk
          rw [(th m).2]
          exact hs.y w m hw8 hm hmk
      · simp only at hw0
        rw [getD_set hql] at hw0
        split at hw0
        · rename_i hwq; subst hwq; exact hs.n1 w j hw8 h1 (by rw [h3, ← hp]; exact hvk)
        · exact hs.n0 w hw8 hw0
      · simp only at hm hmk
        rw [getD_set hql] at hm
        split at hm
        · omega
        · rw [(th m).1] at hmk
          exact hs.n1 w m hw8 hm hmk
theorem sim_evs {ts : List Int} {k : Int} : ∀ (l : List Ev) (i i' : Nat) (r s : Rd), r.Ok → r.out.length ≤ i → s.out.length ≤ i' → i + l.length < 1000 → i' + l.length < 1000 → Sim k r s → (evsF ts l i r).1 = 0 → (evsF ts (partF l k) i' s).1 = 0
  | [], _, _, _, _, _, _, _, _, _, _, _ => by simp [partF, evsF]
  | v :: l, i, i', r, s, hr, hl, hl', hi, hi', hs, h => by
    by_cases he : (eventF ts r i v).1 = 0
    · rw [evs_eq he] at h
      simp only [List.length_cons] at hi hi'
      have hinv := event_inv (ts := ts) (i := (i : Int)) (v := v) hr hl (by omega)
      have h2 := sim_ok (i' := (i' : Int)) hr hs (by omega) he
      by_cases hk : v.thing = k
      · obtain ⟨h3, h4⟩ := h2.1 hk
        have e : partF (v :: l) k = v :: partF l k := by simp [partF, hk]
        have hinv' := event_inv (ts := ts) (i := (i' : Int)) (v := v) hs.ok hl' (by omega)
        rw [e, evs_eq h3]
        exact sim_evs l (i + 1) (i' + 1) _ _ hinv.1 hinv.2 hinv'.2 (by omega) (by omega) h4 h
      · have e : partF (v :: l) k = partF l k := by simp [partF, hk]
        rw [e]
        exact sim_evs l (i + 1) i' _ _ hinv.1 hinv.2 hl' (by omega) (by omega) (h2.2 hk) h
    · rw [evs_ne he] at h; exact absurd h he
theorem calls_zero {ts : List Int} {l : List Ev} (h : (callsF ts l).2.2 = 0) : typesF ts = 0 ∧ l.length ≤ 200 ∧ (evsF ts l 0 rd0).1 = 0 := by
  unfold callsF at h
  split at h
  · rename_i h1; exact absurd h h1
  · rename_i h1
    split at h
    · simp at h
    · split at h
      · rename_i h3; exact absurd h h3
      · rename_i h2 h3; exact ⟨Decidable.not_not.1 h1, by omega, Decidable.not_not.1 h3⟩
theorem part_ok {ts : List Int} {l : List Ev} (k : Int) (h : (callsF ts l).2.2 = 0) : (callsF ts (partF l k)).2.2 = 0 := by
  obtain ⟨h1, h2, h3⟩ := calls_zero h
  have hlen : (partF l k).length ≤ l.length := List.length_filter_le _ _
  have hz : ∀ w : Nat, w < 8 → rd0.opn.getD w 0 = 0 := fun w hw => by
    show (List.replicate 8 (0 : Int)).getD w 0 = 0
    rw [getD_get (by simpa using hw), List.getElem_replicate]
  have := sim_evs (ts := ts) (k := k) l 0 0 rd0 rd0 rd0_ok (by simp [rd0]) (by simp [rd0]) (by omega) (by omega)
    ⟨rd0_ok, fun w j hw hj _ => by rw [hz w hw] at hj; omega, fun w hw _ => hz w hw, fun w j hw hj _ => hz w hw⟩ h3
  unfold callsF
  rw [if_neg (by simp [h1]), if_neg (by omega), if_neg (by simpa using this)]
theorem evs_thing {ts : List Int} : ∀ (l : List Ev) (i : Int) (r : Rd), (evsF ts l i r).1 = 0 → ∀ v ∈ l, 0 ≤ v.thing ∧ v.thing < ts.length
  | [], _, _, _, v, hv => by cases hv
  | u :: l, i, r, h, v, hv => by
    by_cases he : (eventF ts r i u).1 = 0
    · rw [evs_eq he] at h
      rcases List.mem_cons.1 hv with rfl | hv
      · by_cases h0 : v.who < 0 ∨ 8 ≤ v.who ∨ v.thing < 0 ∨ (ts.length : Int) ≤ v.thing
        · simp only [eventF, if_pos h0] at he; omega
        · omega
      · exact evs_thing l _ _ h v hv
    · rw [evs_ne he] at h; exact absurd h he
/-- How many are of the first k things. -/
def sumF (l : List Ev) : Nat → Nat
  | 0 => 0
  | k + 1 => sumF l k + (partF l k).length
theorem sum_cons (v : Ev) (l : List Ev) : ∀ k : Nat, sumF (v :: l) k = sumF l k + if 0 ≤ v.thing ∧ v.thing < k then 1 else 0
  | 0 => by simp only [sumF]; rw [if_neg (by omega)]
  | k + 1 => by
    simp only [sumF, sum_cons v l k, partF, List.filter_cons]
    by_cases h : v.thing = k
    · simp only [h, decide_true, if_true, List.length_cons]; split <;> split <;> omega
    · simp only [h, decide_false, Bool.false_eq_true, if_false]
      split <;> split <;> omega
theorem sum_all : ∀ (l : List Ev) (k : Nat), (∀ v ∈ l, 0 ≤ v.thing ∧ v.thing < k) → sumF l k = l.length
  | [], k, _ => by induction k with
    | zero => rfl
    | succ k ih => simp [sumF, ih, partF]
  | v :: l, k, h => by
    rw [sum_cons, sum_all l k (fun u hu => h u (by simp [hu])), if_pos (h v (by simp))]; rfl
theorem sum_le (l : List Ev) : ∀ k : Nat, sumF l k ≤ k * l.length
  | 0 => by simp [sumF]
  | k + 1 => by
    have := sum_le l k
    have h2 : (partF l k).length ≤ l.length := List.length_filter_le _ _
    simp only [sumF, Nat.add_mul]; omega
theorem part_take {l : List Ev} {k : Int} {q : Nat} (h : q < l.length) : partF (l.take (q + 1)) k = if l[q].thing = k then partF (l.take q) k ++ [l[q]] else partF (l.take q) k := by
  unfold partF
  rw [List.take_succ_eq_append_getElem h, List.filter_append]
  by_cases hk : l[q].thing = k
  · simp [hk]
  · simp [hk]

end Go.Proofs.Ytooaoekfnmakhaa
