/- Plain laws of history: the begin of a history. -/
import Derived.Test.YtooaoekfnmakhaaH4
set_option linter.unusedVariables false
set_option linter.unusedSimpArgs false
set_option linter.unusedSectionVars false
set_option maxRecDepth 100000
namespace Go.Proofs.Ytooaoekfnmakhaa
open Go.RowKit
theorem gD_app {xs : List Cl} {c : Cl} {k : Nat} : (xs ++ [c]).getD k cl0 = if k = xs.length then c else xs.getD k cl0 := by
  simp only [List.getD_eq_getElem?_getD, List.getElem?_append]
  split
  · rename_i h; rw [if_neg (by omega)]
  · split
    · rename_i h1 h2; subst h2; simp
    · rename_i h1 h2
      rw [List.getElem?_eq_none (by simp; omega), List.getElem?_eq_none (by omega)]
theorem gD_set {xs : List Cl} {j k : Nat} {c : Cl} (h : j < xs.length) : (xs.set j c).getD k cl0 = if k = j then c else xs.getD k cl0 := by
  simp only [List.getD_eq_getElem?_getD]
  by_cases hk : k = j
  · subst hk; simp [h]
  · rw [if_neg hk, List.getElem?_set_ne (Ne.symm hk)]
theorem gD_get {xs : List Cl} {k : Nat} (h : k < xs.length) : xs.getD k cl0 = xs[k] := by rw [List.getD_eq_getElem?_getD, List.getElem?_eq_getElem h]; rfl
/-- How an event may go well. -/
theorem event_cases {ts : List Int} {r : Rd} {i : Int} {v : Ev} (hr : r.Ok) (h : (eventF ts r i v).1 = 0) : ∃ q p : Nat, v.who = q ∧ q < 8 ∧ v.thing = p ∧ p < ts.length ∧
    ((v.kind ≠ 0 ∧ fitsF (ts.getD p 0) v.kind = true ∧ argF v.kind v.value = true ∧ r.opn.getD q 0 = 0 ∧ eventF ts r i v = (0, ⟨r.out ++ [⟨q, p, v.kind, v.value, 0, i, -1⟩], r.opn.set q (r.out.length + 1)⟩)) ∨
     (v.kind = 0 ∧ ∃ j : Nat, r.opn.getD q 0 = (j : Int) + 1 ∧ j < r.out.length ∧ (r.out.getD j cl0).thing = p ∧ resF (r.out.getD j cl0).kind v.value = true ∧ eventF ts r i v = (0, ⟨r.out.set j { r.out.getD j cl0 with res := v.value, to := i }, r.opn.set q 0⟩))) := by
  by_cases h0 : v.who < 0 ∨ 8 ≤ v.who ∨ v.thing < 0 ∨ (ts.length : Int) ≤ v.thing
  · simp only [eventF, if_pos h0] at h; omega
  obtain ⟨q, hq⟩ : ∃ q : Nat, v.who = q := ⟨v.who.toNat, by omega⟩
  obtain ⟨p, hp⟩ : ∃ p : Nat, v.thing = p := ⟨v.thing.toNat, by omega⟩
  have hgq := hr.ge q (by omega)
  refine ⟨q, p, hq, by omega, hp, by omega, ?_⟩
  by_cases hk : v.kind ≠ 0
  · left
    simp only [eventF, if_neg h0, if_pos hk] at h ⊢
    simp only [hq, hp, Int.toNat_natCast] at h ⊢
    split at h
    · omega
    · rename_i h1
      split at h
      · omega
      · rename_i h2
        rw [if_neg h1, if_neg h2]
        refine ⟨hk, by simpa using (not_or.1 h1).1, by simpa using (not_or.1 h1).2, by omega, rfl⟩
  · right
    simp only [eventF, if_neg h0, if_neg hk] at h ⊢
    simp only [hq, hp, Int.toNat_natCast] at h ⊢
    split at h
    · omega
    · rename_i h1
      split at h
      · omega
      · rename_i h2
        rw [if_neg h1, if_neg h2]
        refine ⟨by omega, (r.opn.getD q 0 - 1).toNat, by omega, by omega, by simpa using (not_or.1 h2).1, by simpa using (not_or.1 h2).2, rfl⟩
structure WF (r : Rd) (i : Int) : Prop where
  ok : r.Ok
  op : ∀ w j : Nat, w < 8 → r.opn.getD w 0 = (j : Int) + 1 → (r.out.getD j cl0).who = w ∧ (r.out.getD j cl0).to = -1 ∧ (r.out.getD j cl0).res = 0
  to : ∀ k, k < r.out.length → -1 ≤ (r.out.getD k cl0).to ∧ (r.out.getD k cl0).to < i
theorem wf0 : WF rd0 0 := by
  refine ⟨rd0_ok, fun w j hw h => ?_, fun k hk => by simp [rd0] at hk⟩
  have : rd0.opn.getD w 0 = 0 := by
    show (List.replicate 8 (0 : Int)).getD w 0 = 0
    rw [getD_get (by simpa using hw), List.getElem_replicate]
  omega
theorem wf_step {ts : List Int} {r : Rd} {i : Int} {v : Ev} (hi : 0 ≤ i) (hw : WF r i) (hl : r.out.length < 1000) (h : (eventF ts r i v).1 = 0) : WF (eventF ts r i v).2 (i + 1) := by
  have hinv := (event_inv (ts := ts) (i := i) (v := v) hw.ok (Nat.le_refl _) hl).1
  obtain ⟨q, p, hq, hq8, hp, hpl, hc⟩ := event_cases hw.ok h
  have hql : q < r.opn.length := by rw [hw.ok.l8]; exact hq8
  rcases hc with ⟨hk, h1, h2, h3, he⟩ | ⟨hk, j, h1, h2, h3, h4, he⟩
  · rw [he] at hinv ⊢
    refine ⟨hinv, fun w j hw8 hj => ?_, fun k hkl => ?_⟩
    · simp only at hj ⊢
      rw [getD_set hql] at hj
      rw [gD_app]
      split at hj
      · rename_i hwq
        rw [if_pos (by omega)]; exact ⟨by rw [hwq], rfl, rfl⟩
      · have hge := hw.ok.ge w hw8
        rw [if_neg (by omega)]
        exact hw.op w j hw8 hj
    · simp only at hkl ⊢
      simp at hkl
      rw [gD_app]
      split
      · exact ⟨by simp, by simp only; omega⟩
      · have := hw.to k (by omega)
        omega
  · rw [he] at hinv ⊢
    refine ⟨hinv, fun w k hw8 hkk => ?_, fun k hkl => ?_⟩
    · simp only at hkk ⊢
      rw [getD_set hql] at hkk
      split at hkk
      · omega
      · rename_i hwq
        have a1 := hw.op w k hw8 hkk
        have a2 := hw.op q j hq8 h1
        rw [gD_set h2, if_neg (fun e => by subst e; omega)]
        exact a1
    · simp only at hkl ⊢
      rw [List.length_set] at hkl
      rw [gD_set h2]
      split
      · exact ⟨by simp only; omega, by simp only; omega⟩
      · have := hw.to k hkl
        omega
theorem evs_ne {ts : List Int} {v : Ev} {l : List Ev} {i : Int} {r : Rd} (h : (eventF ts r i v).1 ≠ 0) : evsF ts (v :: l) i r = ((eventF ts r i v).1, i, r) := by simp only [evsF]; rw [if_pos h]
theorem evs_eq {ts : List Int} {v : Ev} {l : List Ev} {i : Int} {r : Rd} (h : (eventF ts r i v).1 = 0) : evsF ts (v :: l) i r = evsF ts l (i + 1) (eventF ts r i v).2 := by simp only [evsF]; rw [if_neg (by omega)]
/-- A history, in two pieces. -/
theorem evs_app {ts : List Int} : ∀ (l1 l2 : List Ev) (i : Int) (r : Rd), evsF ts (l1 ++ l2) i r = if (evsF ts l1 i r).1 ≠ 0 then evsF ts l1 i r else evsF ts l2 (i + l1.length) (evsF ts l1 i r).2.2
  | [], l2, i, r => by simp [evsF]
  | v :: l1, l2, i, r => by
    rw [List.cons_append]
    by_cases h : (eventF ts r i v).1 = 0
    · rw [evs_eq h, evs_eq h, evs_app l1 l2, show i + ((v :: l1).length : Int) = i + 1 + l1.length by simp only [List.length_cons]; omega]
    · rw [evs_ne h, evs_ne h, if_pos h]
theorem evs_at {ts : List Int} : ∀ (l : List Ev) (i : Int) (r : Rd), (evsF ts l i r).1 ≠ 0 → i ≤ (evsF ts l i r).2.1 ∧ (evsF ts l i r).2.1 < i + l.length
  | [], i, r, h => by simp [evsF] at h
  | v :: l, i, r, h => by
    by_cases h1 : (eventF ts r i v).1 = 0
    · rw [evs_eq h1] at h ⊢
      have := evs_at l (i + 1) _ h
      simp only [List.length_cons]; omega
    · rw [evs_ne h1]
      simp only [List.length_cons]; omega
theorem evs_not1 {ts : List Int} : ∀ (l : List Ev) (i : Int) (r : Rd), (evsF ts l i r).1 ≠ 1
  | [], i, r => by simp [evsF]
  | v :: l, i, r => by
    by_cases h1 : (eventF ts r i v).1 = 0
    · rw [evs_eq h1]; exact evs_not1 l _ _
    · rw [evs_ne h1]
      simp only [eventF]
      repeat' split
      all_goals simp
theorem evs_wf {ts : List Int} : ∀ (l : List Ev) (i : Nat) (r : Rd), WF r i → r.out.length ≤ i → i + l.length < 1000 → (evsF ts l i r).1 = 0 → WF (evsF ts l i r).2.2 ((i + l.length : Nat) : Int) ∧ (evsF ts l i r).2.2.out.length ≤ i + l.length
  | [], i, r, h, hl, _, _ => ⟨h, hl⟩
  | v :: l, i, r, h, hl, hs, he => by
    simp only [evsF] at he ⊢
    split
    · rename_i h1; rw [if_pos h1] at he; exact absurd he h1
    · rename_i h1
      rw [if_neg h1] at he
      have h1' : (eventF ts r i v).1 = 0 := by omega
      simp only [List.length_cons] at hs ⊢
      have := evs_wf l (i + 1) _ (wf_step (by omega) h (by omega) h1') (event_inv h.ok hl (by omega)).2 (by omega) he
      rw [show i + (l.length + 1) = i + 1 + l.length by omega]
      exact this
theorem calls_len (ts : List Int) (l : List Ev) : (callsF ts l).1.length ≤ 200 := by
  unfold callsF
  split
  · simp
  · split
    · simp
    · split
      · simp
      · rename_i h1 h2 h3
        have h3' : (evsF ts l 0 rd0).1 = 0 := Decidable.not_not.1 h3
        have := (evs_wf (ts := ts) l 0 rd0 wf0 (by simp [rd0]) (by omega) h3').2
        simp only; simp only [Nat.zero_add] at this
        exact Nat.le_trans this (by omega)
def adjF (n : Int) (c : Cl) : Cl := if n ≤ c.to then { c with to := -1, res := 0 } else c
/-- What a history's begin has of its calls. -/
structure Frn (n : Int) (d c : List Cl) : Prop where
  len : d.length ≤ c.length
  eq : ∀ k, k < d.length → d.getD k cl0 = adjF n (c.getD k cl0)
  ge : ∀ k, d.length ≤ k → k < c.length → n ≤ (c.getD k cl0).from'
theorem frn_step {ts : List Int} {r : Rd} {i n : Int} {v : Ev} {d : List Cl} (hn : n ≤ i) (hw : WF r i) (hf : Frn n d r.out) (h : (eventF ts r i v).1 = 0) : Frn n d (eventF ts r i v).2.out := by
  obtain ⟨q, p, hq, hq8, hp, hpl, hc⟩ := event_cases hw.ok h
  have hd := hf.len
  rcases hc with ⟨hk, h1, h2, h3, he⟩ | ⟨hk, j, h1, h2, h3, h4, he⟩
  · rw [he]
    refine ⟨by simp; omega, fun k hk => ?_, fun k hk1 hk2 => ?_⟩
    · simp only; rw [gD_app, if_neg (by omega)]; exact hf.eq k hk
    · simp only at hk2 ⊢
      simp at hk2
      rw [gD_app]
      split
      · exact hn
      · exact hf.ge k hk1 (by omega)
  · rw [he]
    have ho := hw.op q j hq8 h1
    refine ⟨by simpa using hd, fun k hk => ?_, fun k hk1 hk2 => ?_⟩
    · simp only; rw [gD_set h2]
      split
      · rename_i hkj
        subst hkj
        rw [hf.eq k hk]
        have e : r.out.getD k cl0 = { r.out.getD k cl0 with res := 0, to := -1 } := by
          generalize r.out.getD k cl0 = c at ho ⊢
          obtain ⟨a1, a2, a3, a4, a5, a6, a7⟩ := c
          simp only at ho ⊢
          rw [ho.2.1, ho.2.2]
        unfold adjF
        simp only
        rw [if_pos hn]
        by_cases h5 : n ≤ (r.out.getD k cl0).to
        · rw [if_pos h5]
        · rw [if_neg h5]; exact e
      · exact hf.eq k hk
    · simp only at hk2 ⊢
      rw [List.length_set] at hk2
      rw [gD_set h2]
      split
      · rename_i hkj; subst hkj; exact hf.ge k hk1 hk2
      · exact hf.ge k hk1 hk2
theorem frn_evs {ts : List Int} {n : Int} {d : List Cl} : ∀ (l : List Ev) (i : Nat) (r : Rd), n ≤ i → WF r i → r.out.length ≤ i → i + l.length < 1000 → Frn n d r.out → (evsF ts l i r).1 = 0 → Frn n d (evsF ts l i r).2.2.out
  | [], i, r, _, _, _, _, hf, _ => hf
  | v :: l, i, r, hn, h, hl, hs, hf, he => by
    simp only [evsF] at he ⊢
    split
    · rename_i h1; rw [if_pos h1] at he; exact absurd he h1
    · rename_i h1
      rw [if_neg h1] at he
      have h1' : (eventF ts r i v).1 = 0 := by omega
      simp only [List.length_cons] at hs
      exact frn_evs l (i + 1) _ (by omega) (wf_step (by omega) h (by omega) h1') (event_inv h.ok hl (by omega)).2 (by omega) (frn_step hn h hf h1') he
theorem frn_refl {r : Rd} {i : Int} (h : WF r i) : Frn i r.out r.out := ⟨Nat.le_refl _, fun k hk => by unfold adjF; rw [if_neg (by have := h.to k hk; omega)], fun k h1 h2 => by omega⟩
/-- The begin of a history. -/
theorem front {ts : List Int} {l : List Ev} {n : Nat} (hn : n ≤ l.length) (h2 : (callsF ts l).2.2 ≠ 2) :
    (((callsF ts l).2.2 = 1 ∨ (callsF ts l).2.2 ≠ 0 ∧ (callsF ts l).2.1 < n) → (callsF ts (l.take n)).2.2 = (callsF ts l).2.2 ∧ (callsF ts (l.take n)).2.1 = (callsF ts l).2.1) ∧
    ((callsF ts l).2.2 ≠ 1 → (callsF ts l).2.2 ≠ 0 → (n : Int) ≤ (callsF ts l).2.1 → (callsF ts (l.take n)).2.2 = 0) ∧
    ((callsF ts l).2.2 = 0 → (callsF ts (l.take n)).2.2 = 0 ∧ Frn n (callsF ts (l.take n)).1 (callsF ts l).1) := by
  have hlt : (l.take n).length = n := by simp; omega
  unfold callsF at h2 ⊢
  by_cases ht : typesF ts ≠ 0
  · simp only [if_pos ht] at h2 ⊢
    have h1 : typesF ts = 1 := by unfold typesF at ht ⊢; split at ht <;> simp_all
    rw [h1]
    exact ⟨fun _ => by simp, fun h => absurd rfl h, fun h => absurd h (by decide)⟩
  · simp only [if_neg ht] at h2 ⊢
    by_cases hl : 200 < l.length
    · rw [if_pos hl] at h2; exact absurd rfl h2
    · rw [if_neg hl, if_neg (by omega : ¬ 200 < (l.take n).length)]
      have hap := evs_app (ts := ts) (l.take n) (l.drop n) 0 rd0
      rw [List.take_append_drop, hlt] at hap
      have hat1 := evs_at (ts := ts) (l.take n) 0 rd0
      by_cases h1 : (evsF ts (l.take n) 0 rd0).1 ≠ 0
      · rw [if_pos h1] at hap
        have := hat1 h1
        rw [hap, if_pos h1]
        exact ⟨fun _ => by simp, fun _ _ h => by simp only at h; omega, fun h => absurd h h1⟩
      · rw [if_neg h1] at hap
        have h1' : (evsF ts (l.take n) 0 rd0).1 = 0 := by omega
        rw [if_neg h1]
        have hwf := evs_wf (ts := ts) (l.take n) 0 rd0 wf0 (by simp [rd0]) (by omega) h1'
        rw [Nat.zero_add, hlt] at hwf
        have e0 : (0 : Int) + (n : Int) = ((n : Nat) : Int) := by omega
        rw [e0] at hap
        refine ⟨fun h => ?_, fun _ _ _ => rfl, fun h => ⟨rfl, ?_⟩⟩
        · exfalso
          by_cases h3 : (evsF ts l 0 rd0).1 ≠ 0
          · rw [if_pos h3] at h
            simp only at h
            have h4 := evs_not1 (ts := ts) l 0 rd0
            rw [hap] at h3 h h4
            have := evs_at _ _ _ h3
            omega
          · rw [if_neg h3] at h; simp only at h; omega
        · by_cases h3 : (evsF ts l 0 rd0).1 ≠ 0
          · rw [if_pos h3] at h; exact absurd h h3
          · rw [if_neg h3]
            simp only
            rw [hap] at h3 ⊢
            exact frn_evs (l.drop n) n _ (Int.le_refl _) hwf.1 hwf.2 (by simp; omega) (frn_refl hwf.1) (by omega)

end Go.Proofs.Ytooaoekfnmakhaa
