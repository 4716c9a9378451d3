/- What may be played. -/
import Derived.Test.YtkmmagekepoapaaP2
import Derived.Test.YtkmmagekepoapaaL4
set_option linter.unusedVariables false
set_option linter.unusedSimpArgs false
set_option linter.unusedSectionVars false
set_option maxRecDepth 100000
namespace Go.Proofs.Ytkmmagekepoapaa
open Go.RowKit
namespace Sp
open Ob
/-- What may be played. -/
structure OkP (types : List Int) (people : List (List Ask)) : Prop where
  ty : 1 ≤ types.length ∧ types.length ≤ 4 ∧ ∀ x ∈ types, 1 ≤ x ∧ x ≤ 5
  few : people.length ≤ 8
  ask : ∀ l ∈ people, ∀ a ∈ l, (0 ≤ a.thing ∧ a.thing < types.length) ∧ Asked (types.getD a.thing.toNat 0) a.kind a.arg
theorem asked_iff {t k n : Int} : Asked t k n ↔ (t ≠ 0 ∧ tyK k = t) ∧ (((k = 2 ∨ k = 4 ∨ k = 6 ∨ k = 10) → n = 0) ∧ (¬ (k = 2 ∨ k = 4 ∨ k = 6 ∨ k = 10) → Num n)) := by unfold Asked; exact ⟨fun h => ⟨⟨h.1, h.2.1⟩, h.2.2⟩, fun h => ⟨h.1.1, h.1.2, h.2⟩⟩
theorem check_wp {N : Nat} (hN : 5000 < N) {types : List Int} {people : List (List Ask)} (hl : ∀ l ∈ people, l.length < N ∧ l.length ≤ 9223372036854775807) : Wp (threads_Check N types people) fun e => e = 0 → OkP types people := by
  unfold threads_Check
  refine .seq (Hs.types_wp (by omega)) fun r _ hr => .cond (fun _ => .one (by simp)) fun hc => ?_
  simp only [Bool.or_eq_false_iff, Bool.not_eq_false', decide_eq_true_eq, decide_eq_false_iff_not] at hc
  obtain ⟨rfl, h8⟩ := hc
  have hT := hr rfl
  have h8 : people.length ≤ 8 := by omega
  refine .seq (P := fun _ => True) (.iter people.length (fun k st => st.2 = (k : Int)) (by omega) rfl ?_ ?_) fun n _ _ => .cond (fun _ => .one (by simp)) fun _ => ?_
  · rintro k ⟨n, v⟩ hk hv
    simp only at hv
    subst hv
    simp only [threads_Check_L17]
    exact .condT (decide_eq_true (by omega)) (.ix hk (.ck64 (by omega) (.one (by simp))))
  · rintro ⟨n, v⟩ hv
    simp only at hv
    subst hv
    simp only [threads_Check_L17]
    exact .condF (decide_eq_false (by omega)) (.one trivial)
  refine .elim (P := fun t => match t with | .inl _ => ∀ l ∈ people, ∀ a ∈ l, (0 ≤ a.thing ∧ a.thing < types.length) ∧ Asked (types.getD a.thing.toNat 0) a.kind a.arg | .inr r => r ≠ 0)
    (.iter people.length (fun k v => v = (k : Int) ∧ ∀ j, j < k → ∀ a ∈ people.getD j [], (0 ≤ a.thing ∧ a.thing < types.length) ∧ Asked (types.getD a.thing.toNat 0) a.kind a.arg) (by omega) ⟨rfl, fun j h => absurd h (Nat.not_lt_zero _)⟩ ?_ ?_) (fun _ _ h => .one fun _ => ⟨hT, h8, h⟩) (fun r _ h => .one fun e => (h e).elim)
  · rintro k v hk ⟨rfl, hI⟩
    simp only [threads_Check_L29]
    refine .condT (decide_eq_true (by omega)) ?_
    have hlk := hl people[k] (List.getElem_mem hk)
    refine .elim (P := fun t => match t with | .inl _ => ∀ a ∈ people[k], (0 ≤ a.thing ∧ a.thing < types.length) ∧ Asked (types.getD a.thing.toNat 0) a.kind a.arg | .inr r => r ≠ 0) (.ix hk ?_) (fun _ _ h => .ck64 (by omega) (.one ⟨by simp, fun j hj => ?_⟩)) (fun r _ h => .one h)
    · refine .iter people[k].length (fun i v => v = (i : Int) ∧ ∀ j, j < i → (0 ≤ (people[k].getD j Ask.z).thing ∧ (people[k].getD j Ask.z).thing < types.length) ∧ Asked (types.getD (people[k].getD j Ask.z).thing.toNat 0) (people[k].getD j Ask.z).kind (people[k].getD j Ask.z).arg) hlk.1 ⟨rfl, fun j h => absurd h (Nat.not_lt_zero _)⟩ ?_ ?_
      · rintro i v hi ⟨rfl, hJ⟩
        simp only [threads_Check_L31]
        refine .condT (decide_eq_true (by omega)) (.ixD Ask.z (by omega) (by omega) ?_)
        simp only [Int.toNat_natCast]
        obtain ⟨A, hA⟩ : ∃ A, people[k].getD i Ask.z = A := ⟨_, rfl⟩
        simp only [hA]
        by_cases h1 : 0 ≤ A.thing ∧ A.thing < types.length
        · have e1 : (decide (A.thing < 0) || decide ((types.length : Int) ≤ A.thing)) = false := by simp; omega
          rw [e1]
          refine .bdO (a := types.getD A.thing.toNat 0) ((cond_of rfl).trans (by rw [ix_int h1.1 h1.2, getD_of])) ?_
          refine .bdO (a := decide (types.getD A.thing.toNat 0 ≠ 0 ∧ tyK A.kind = types.getD A.thing.toNat 0)) ((cond_of rfl).trans (fits_ok ..)) ?_
          by_cases h2 : types.getD A.thing.toNat 0 ≠ 0 ∧ tyK A.kind = types.getD A.thing.toNat 0
          · rw [decide_eq_true h2]
            refine .bdO (by rw [cond_of (by rfl), argument_ok, argd]) ?_
            by_cases h3 : ((A.kind = 2 ∨ A.kind = 4 ∨ A.kind = 6 ∨ A.kind = 10) → A.arg = 0) ∧ (¬ (A.kind = 2 ∨ A.kind = 4 ∨ A.kind = 6 ∨ A.kind = 10) → Num A.arg)
            · rw [decide_eq_true h3]
              refine .condF rfl (.ck64 (by omega) (.one ⟨by simp, fun j hj => ?_⟩))
              rcases Nat.lt_or_ge j i with h4 | h4
              · exact hJ j h4
              · obtain rfl : j = i := by omega
                rw [hA]
                exact ⟨h1, asked_iff.2 ⟨h2, h3⟩⟩
            · rw [decide_eq_false h3]
              exact .condT rfl (.one (by simp))
          · rw [decide_eq_false h2]
            exact .bdO (a := false) rfl (.condT rfl (.one (by simp)))
        · have e1 : (decide (A.thing < 0) || decide ((types.length : Int) ≤ A.thing)) = true := by simp; omega
          rw [e1]
          exact .bdO (a := 0) rfl (.bdO (a := false) rfl (.bdO (a := false) rfl (.condT rfl (.one (by simp)))))
      · rintro v ⟨rfl, hJ⟩
        simp only [threads_Check_L31]
        refine .condF (decide_eq_false (by omega)) (.one fun a ha => ?_)
        obtain ⟨j, hj, rfl⟩ := List.getElem_of_mem ha
        have := hJ j hj
        rwa [getD_of hj] at this
    · rcases Nat.lt_or_ge j k with h4 | h4
      · exact hI j h4
      · obtain rfl : j = k := by omega
        rw [getD_of hk]; exact h
  · rintro v ⟨rfl, hI⟩
    simp only [threads_Check_L29]
    refine .condF (decide_eq_false (by omega)) (.one fun l hl2 => ?_)
    obtain ⟨j, hj, rfl⟩ := List.getElem_of_mem hl2
    have := hI j hj
    rwa [getD_of hj] at this
theorem turns_wp {N : Nat} (hN : 5000 < N) (np : Int) (turns : List Int) : Wp (threads_Turns N np 300 turns) fun e => (e = 0 ∧ turns.length ≤ 300 ∧ ∀ t ∈ turns, 0 ≤ t ∧ t < np) ∨ (e ≠ 0 ∧ ¬ (turns.length ≤ 300 ∧ ∀ t ∈ turns, 0 ≤ t ∧ t < np) ∧ (e = 2 ↔ ¬ turns.length ≤ 300)) := by
  unfold threads_Turns
  refine .cond (fun h => .one (.inr ⟨by simp, fun h2 => ?_, fun _ => ?_, fun _ => rfl⟩)) fun h => ?_
  · have := of_decide_eq_true h; omega
  · have := of_decide_eq_true h; omega
  have hl : turns.length ≤ 300 := by have := of_decide_eq_false h; omega
  refine .elim (P := fun t => match t with | .inl _ => ∀ t ∈ turns, 0 ≤ t ∧ t < np | .inr r => r = 1 ∧ ¬ ∀ t ∈ turns, 0 ≤ t ∧ t < np)
    (.iter turns.length (fun k v => v = (k : Int) ∧ ∀ j, j < k → 0 ≤ turns.getD j 0 ∧ turns.getD j 0 < np) (by omega) ⟨rfl, fun j h => absurd h (Nat.not_lt_zero _)⟩ ?_ ?_) (fun _ _ h => .one (.inl ⟨rfl, hl, h⟩)) (fun r _ h => .one (.inr ⟨by omega, fun h2 => h.2 h2.2, fun e => by omega, fun h2 => (h2 hl).elim⟩))
  · rintro k v hk ⟨rfl, hI⟩
    simp only [threads_Turns_L3]
    refine .condT (decide_eq_true (by omega)) (.ixD 0 (by omega) (by omega) ?_)
    simp only [Int.toNat_natCast]
    refine .cond (fun h => .one ⟨rfl, fun h2 => ?_⟩) fun h => .ck64 (by omega) (.one ⟨by simp, fun j hj => ?_⟩)
    · have := h2 (turns.getD k 0) (by rw [getD_of hk]; exact List.getElem_mem hk)
      simp only [Bool.or_eq_true, decide_eq_true_eq] at h
      omega
    · rcases Nat.lt_or_ge j k with h4 | h4
      · exact hI j h4
      · obtain rfl : j = k := by omega
        simp only [Bool.or_eq_false_iff, decide_eq_false_iff_not] at h
        omega
  · rintro v ⟨rfl, hI⟩
    simp only [threads_Turns_L3]
    refine .condF (decide_eq_false (by omega)) (.one fun t ht => ?_)
    obtain ⟨j, hj, rfl⟩ := List.getElem_of_mem ht
    have := hI j hj
    rwa [getD_of hj] at this

def tyA (algo : Int) : Int := if algo = 1 ∨ algo = 2 then 5 else if algo = 3 then 3 else if algo = 4 then 2 else 0
theorem type_eq (N : Nat) (algo : Int) : steps_Type N algo = some (tyA algo) := by
  unfold steps_Type tyA
  by_cases h1 : algo = 1
  · subst h1; rfl
  by_cases h2 : algo = 2
  · subst h2; rfl
  rw [if_neg (by omega), cond_no (decide_eq_false h1), bd_some, cond_no (decide_eq_false h2)]
  by_cases h3 : algo = 3
  · subst h3; rfl
  rw [if_neg h3, cond_no (decide_eq_false h3)]
  by_cases h4 : algo = 4
  · subst h4; rfl
  rw [if_neg h4, cond_no (decide_eq_false h4)]
theorem asked5 {k n : Int} (h : Asked 5 k n) : k = 10 := by
  have h1 := h.2.1
  unfold tyK at h1
  repeat' split at h1
  all_goals omega
theorem asked3 {k n : Int} (h : Asked 3 k n) : (k = 5 ∧ Num n) ∨ k = 6 := by
  have h1 := h.2.1
  unfold tyK at h1
  have h2 := (asked_iff.1 h).2.2
  by_cases h5 : k = 5
  · exact .inl ⟨h5, h2 (by omega)⟩
  refine .inr ?_
  repeat' split at h1
  all_goals omega
theorem asked2 {k n : Int} (h : Asked 2 k n) : (k = 3 ∧ Num n) ∨ k = 4 := by
  have h1 := h.2.1
  unfold tyK at h1
  have h2 := (asked_iff.1 h).2.2
  by_cases h5 : k = 3
  · exact .inl ⟨h5, h2 (by omega)⟩
  refine .inr ?_
  repeat' split at h1
  all_goals omega
theorem askd {algo : Int} {P0 : List (List Ask)} (h : OkP [tyA algo] P0) {w : Nat} (hw : w < P0.length) {a : Ask} (ha : a ∈ P0.getD w []) : a.thing = 0 ∧ Asked (tyA algo) a.kind a.arg := by
  have := h.ask _ (by rw [getD_of hw]; exact List.getElem_mem hw) a ha
  have ht : a.thing = 0 := by have := this.1; simp at this; omega
  refine ⟨ht, ?_⟩
  have := this.2
  rw [ht] at this
  exact this
theorem askd_ne {t k n : Int} (h : Asked t k n) : k ≠ 0 := by
  intro e
  have h1 := h.2.1
  subst e
  exact h.1 h1.symm
end Sp

end Go.Proofs.Ytkmmagekepoapaa
