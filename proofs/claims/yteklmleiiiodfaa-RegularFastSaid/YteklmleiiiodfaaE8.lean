/- Sites, plainly: what is played. -/
import Derived.Test.YteklmleiiiodfaaE7
set_option linter.unusedVariables false
set_option linter.unusedSimpArgs false
set_option linter.unusedSectionVars false
set_option maxRecDepth 100000
namespace Go.Proofs.Yteklmleiiiodfaa
open Go.RowKit
namespace Ob
/-- A number that may be held. -/
def Num (n : Int) : Prop := 1 ≤ n ∧ n ≤ 1000
/-- The type of a kind. -/
def tyK (k : Int) : Int := if k = 1 ∨ k = 2 then 1 else if k = 3 ∨ k = 4 then 2 else if k = 5 ∨ k = 6 then 3 else if k = 7 ∨ k = 8 ∨ k = 9 then 4 else if k = 10 then 5 else 0
theorem typeOf_ok (N : Nat) (k : Int) : history_typeOf N k = some (tyK k) := by
  by_cases h : 1 ≤ k ∧ k ≤ 10
  · have : k = 1 ∨ k = 2 ∨ k = 3 ∨ k = 4 ∨ k = 5 ∨ k = 6 ∨ k = 7 ∨ k = 8 ∨ k = 9 ∨ k = 10 := by omega
    rcases this with h | h | h | h | h | h | h | h | h | h <;> subst h <;> rfl
  · have e : ∀ n : Int, 1 ≤ n → n ≤ 10 → ¬ k = n := fun n h1 h2 e => h (by omega)
    unfold history_typeOf tyK
    simp [e, bd]
/-- What may be asked. -/
def Asked (typ kind arg : Int) : Prop := typ ≠ 0 ∧ tyK kind = typ ∧ ((kind = 2 ∨ kind = 4 ∨ kind = 6 ∨ kind = 10) → arg = 0) ∧ (¬ (kind = 2 ∨ kind = 4 ∨ kind = 6 ∨ kind = 10) → Num arg)
instance (n : Int) : Decidable (Num n) := by unfold Num; infer_instance
instance (typ kind arg : Int) : Decidable (Asked typ kind arg) := by unfold Asked Num; infer_instance
theorem argument_ok (N : Nat) (k n : Int) : history_Argument N k n = some (if k = 2 ∨ k = 4 ∨ k = 6 ∨ k = 10 then decide (n = 0) else (decide (1 ≤ n) && decide (n ≤ 1000))) := by
  unfold history_Argument
  by_cases h2 : k = 2
  · subst h2; rfl
  by_cases h4 : k = 4
  · subst h4; rfl
  by_cases h6 : k = 6
  · subst h6; rfl
  by_cases h10 : k = 10
  · subst h10; rfl
  simp [h2, h4, h6, h10, bd]
theorem fits_ok (N : Nat) (typ k : Int) : history_Fits N typ k = some (decide (typ ≠ 0 ∧ tyK k = typ)) := by
  unfold history_Fits
  by_cases h : typ = 0
  · subst h; simp [bd]
  · rw [typeOf_ok]
    simp [bd, h]
theorem argd (k n : Int) : (if k = 2 ∨ k = 4 ∨ k = 6 ∨ k = 10 then decide (n = 0) else (decide (1 ≤ n) && decide (n ≤ 1000))) = decide (((k = 2 ∨ k = 4 ∨ k = 6 ∨ k = 10) → n = 0) ∧ (¬ (k = 2 ∨ k = 4 ∨ k = 6 ∨ k = 10) → Num n)) := by
  by_cases h : k = 2 ∨ k = 4 ∨ k = 6 ∨ k = 10
  · rw [if_pos h]; exact decide_eq_decide.2 ⟨fun e => ⟨fun _ => e, fun g => (g h).elim⟩, fun e => e.1 h⟩
  · rw [if_neg h]
    unfold Num
    rw [← Bool.decide_and]
    exact decide_eq_decide.2 ⟨fun e => ⟨fun g => (h g).elim, fun _ => e⟩, fun e => e.2 h⟩
end Ob

namespace Hs
theorem types_wp {N : Nat} {types : List Int} (hN : 300 < N) : Wp (history_Types N types) fun e => e = 0 → 1 ≤ types.length ∧ types.length ≤ 4 ∧ ∀ x ∈ types, 1 ≤ x ∧ x ≤ 5 := by
  unfold history_Types
  by_cases hl : 1 ≤ types.length ∧ types.length ≤ 4
  · have hg : (((decide (((types).length : Int) < 1)) || (decide (4 < ((types).length : Int)))) == false) = true := by simp; omega
    refine .seq (P := fun b => b = false → ∀ x ∈ types, 1 ≤ x ∧ x ≤ 5) (.condT hg ?_) fun b _ hb => .cond (fun _ => .one (by simp)) (fun h => .one fun _ => ⟨hl.1, hl.2, hb (by simp only [Bool.or_eq_true, Bool.and_eq_true, Bool.not_eq_true', Bool.not_eq_false', Bool.or_eq_false_iff, Bool.and_eq_false_imp, decide_eq_true_eq, decide_eq_false_iff_not, beq_iff_eq, not_or, Int.not_lt, Int.not_le, Bool.false_eq_true, not_false_eq_true, not_true_eq_false, Decidable.not_not] at *; exact h.2)⟩)
    unfold slices_ContainsFunc_int_int
    refine .seq (P := fun r => r < 0 → ∀ x ∈ types, 1 ≤ x ∧ x ≤ 5) ?_ fun r _ hr => .one fun h => hr (by simpa using h)
    unfold slices_IndexFunc_int_int
    refine .elim (P := fun t => match t with | .inl _ => ∀ x ∈ types, 1 ≤ x ∧ x ≤ 5 | .inr r => 0 ≤ r) (.iter types.length (fun k v => v = (k : Int) ∧ ∀ j, j < k → 1 ≤ types.getD j 0 ∧ types.getD j 0 ≤ 5) (by omega) ⟨rfl, fun j h => absurd h (Nat.not_lt_zero _)⟩ ?_ ?_) (fun _ _ h => .one fun _ => h) (fun r _ h => .one fun h2 => ?_)
    · rintro k v hk ⟨rfl, hr⟩
      simp only [slices_IndexFunc_int_int_L3]
      refine .condT (decide_eq_true (by omega)) (.ix hk (.bdO rfl (.cond (fun _ => .one (by simp)) (fun h => .ck64 (by omega) (.one ⟨by simp, fun j hj => ?_⟩)))))
      rcases Nat.lt_or_ge j k with h1 | h1
      · exact hr j h1
      · obtain rfl : j = k := by omega
        simp only [Bool.or_eq_true, Bool.and_eq_true, Bool.not_eq_true', Bool.not_eq_false', Bool.or_eq_false_iff, Bool.and_eq_false_imp, decide_eq_true_eq, decide_eq_false_iff_not, beq_iff_eq, not_or, Int.not_lt, Int.not_le, Bool.false_eq_true, not_false_eq_true, not_true_eq_false, Decidable.not_not] at *
        rw [getD_of hk]
        omega
    · rintro v ⟨rfl, hr⟩
      simp only [slices_IndexFunc_int_int_L3]
      refine .condF (decide_eq_false (by omega)) (.one fun x hx => ?_)
      obtain ⟨j, hj, rfl⟩ := List.mem_iff_getElem.1 hx
      have := hr j hj
      rw [getD_of hj] at this
      exact this
    · have h : 0 ≤ r := h
      omega
  · have hg : (((decide (((types).length : Int) < 1)) || (decide (4 < ((types).length : Int)))) == false) = false := by
      rw [Bool.eq_false_iff]; simp; omega
    refine .seq (P := fun _ => True) (.condF hg (.one trivial)) fun b _ _ => .condT (by simp only [Bool.or_eq_true, Bool.and_eq_true, Bool.not_eq_true', Bool.not_eq_false', Bool.or_eq_false_iff, Bool.and_eq_false_imp, decide_eq_true_eq, decide_eq_false_iff_not, beq_iff_eq, not_or, Int.not_lt, Int.not_le, Bool.false_eq_true, not_false_eq_true, not_true_eq_false, Decidable.not_not] at *; omega) (.one (by simp))
end Hs

namespace Th
open Ob
/-- What may be played. -/
structure OkP (types : List Int) (people : List (List Ask)) : Prop where
  ty : 1 ≤ types.length ∧ types.length ≤ 4 ∧ ∀ x ∈ types, 1 ≤ x ∧ x ≤ 5
  few : people.length ≤ 8
  ask : ∀ l ∈ people, ∀ a ∈ l, (0 ≤ a.thing ∧ a.thing < types.length) ∧ Asked (types.getD a.thing.toNat 0) a.kind a.arg
theorem asked_iff {t k n : Int} : Asked t k n ↔ (t ≠ 0 ∧ tyK k = t) ∧ (((k = 2 ∨ k = 4 ∨ k = 6 ∨ k = 10) → n = 0) ∧ (¬ (k = 2 ∨ k = 4 ∨ k = 6 ∨ k = 10) → Num n)) := by unfold Asked; exact ⟨fun h => ⟨⟨h.1, h.2.1⟩, h.2.2⟩, fun h => ⟨h.1.1, h.1.2, h.2⟩⟩
theorem check_wp {N : Nat} (hN : 5000 < N) {types : List Int} {people : List (List Ask)} (hl : ∀ l ∈ people, l.length < N ∧ l.length ≤ 9223372036854775807) : Wp (threads_Check N types people) fun e => e = 0 → OkP types people := by
  unfold threads_Check
  refine .seq (Hs.types_wp (by omega)) fun r _ hr => .cond (fun _ => .one (by simp)) fun hc => ?_
  simp only [Bool.or_eq_false_iff, Bool.not_eq_false', decide_eq_true_eq, decide_eq_false_iff_not] at hc
  obtain ⟨rfl, h8⟩ := hc
  have hT := hr rfl
  have h8 : people.length ≤ 8 := by omega
  refine .seq (P := fun _ => True) (.iter people.length (fun k st => st.2 = (k : Int)) (by omega) rfl ?_ ?_) fun n _ _ => .cond (fun _ => .one (by simp)) fun _ => ?_
  · rintro k ⟨n, v⟩ hk hv
    simp only at hv
    subst hv
    simp only [threads_Check_L17]
    exact .condT (decide_eq_true (by omega)) (.ix hk (.ck64 (by omega) (.one (by simp))))
  · rintro ⟨n, v⟩ hv
    simp only at hv
    subst hv
    simp only [threads_Check_L17]
    exact .condF (decide_eq_false (by omega)) (.one trivial)
  refine .elim (P := fun t => match t with | .inl _ => ∀ l ∈ people, ∀ a ∈ l, (0 ≤ a.thing ∧ a.thing < types.length) ∧ Asked (types.getD a.thing.toNat 0) a.kind a.arg | .inr r => r ≠ 0)
    (.iter people.length (fun k v => v = (k : Int) ∧ ∀ j, j < k → ∀ a ∈ people.getD j [], (0 ≤ a.thing ∧ a.thing < types.length) ∧ Asked (types.getD a.thing.toNat 0) a.kind a.arg) (by omega) ⟨rfl, fun j h => absurd h (Nat.not_lt_zero _)⟩ ?_ ?_) (fun _ _ h => .one fun _ => ⟨hT, h8, h⟩) (fun r _ h => .one fun e => (h e).elim)
  · rintro k v hk ⟨rfl, hI⟩
    simp only [threads_Check_L29]
    refine .condT (decide_eq_true (by omega)) ?_
    have hlk := hl people[k] (List.getElem_mem hk)
    refine .elim (P := fun t => match t with | .inl _ => ∀ a ∈ people[k], (0 ≤ a.thing ∧ a.thing < types.length) ∧ Asked (types.getD a.thing.toNat 0) a.kind a.arg | .inr r => r ≠ 0) (.ix hk ?_) (fun _ _ h => .ck64 (by omega) (.one ⟨by simp, fun j hj => ?_⟩)) (fun r _ h => .one h)
    · refine .iter people[k].length (fun i v => v = (i : Int) ∧ ∀ j, j < i → (0 ≤ (people[k].getD j Ask.z).thing ∧ (people[k].getD j Ask.z).thing < types.length) ∧ Asked (types.getD (people[k].getD j Ask.z).thing.toNat 0) (people[k].getD j Ask.z).kind (people[k].getD j Ask.z).arg) hlk.1 ⟨rfl, fun j h => absurd h (Nat.not_lt_zero _)⟩ ?_ ?_
      · rintro i v hi ⟨rfl, hJ⟩
        simp only [threads_Check_L31]
        refine .condT (decide_eq_true (by omega)) (.ixD Ask.z (by omega) (by omega) ?_)
        simp only [Int.toNat_natCast]
        obtain ⟨A, hA⟩ : ∃ A, people[k].getD i Ask.z = A := ⟨_, rfl⟩
        simp only [hA]
        by_cases h1 : 0 ≤ A.thing ∧ A.thing < types.length
        · have e1 : (decide (A.thing < 0) || decide ((types.length : Int) ≤ A.thing)) = false := by simp; omega
          rw [e1]
          refine .bdO (a := types.getD A.thing.toNat 0) ((cond_of rfl).trans (by rw [ix_int h1.1 h1.2, getD_of])) ?_
          refine .bdO (a := decide (types.getD A.thing.toNat 0 ≠ 0 ∧ tyK A.kind = types.getD A.thing.toNat 0)) ((cond_of rfl).trans (fits_ok ..)) ?_
          by_cases h2 : types.getD A.thing.toNat 0 ≠ 0 ∧ tyK A.kind = types.getD A.thing.toNat 0
          · rw [decide_eq_true h2]
            refine .bdO (by rw [cond_of (by rfl), argument_ok, argd]) ?_
            by_cases h3 : ((A.kind = 2 ∨ A.kind = 4 ∨ A.kind = 6 ∨ A.kind = 10) → A.arg = 0) ∧ (¬ (A.kind = 2 ∨ A.kind = 4 ∨ A.kind = 6 ∨ A.kind = 10) → Num A.arg)
            · rw [decide_eq_true h3]
              refine .condF rfl (.ck64 (by omega) (.one ⟨by simp, fun j hj => ?_⟩))
              rcases Nat.lt_or_ge j i with h4 | h4
              · exact hJ j h4
              · obtain rfl : j = i := by omega
                rw [hA]
                exact ⟨h1, asked_iff.2 ⟨h2, h3⟩⟩
            · rw [decide_eq_false h3]
              exact .condT rfl (.one (by simp))
          · rw [decide_eq_false h2]
            exact .bdO (a := false) rfl (.condT rfl (.one (by simp)))
        · have e1 : (decide (A.thing < 0) || decide ((types.length : Int) ≤ A.thing)) = true := by simp; omega
          rw [e1]
          exact .bdO (a := 0) rfl (.bdO (a := false) rfl (.bdO (a := false) rfl (.condT rfl (.one (by simp)))))
      · rintro v ⟨rfl, hJ⟩
        simp only [threads_Check_L31]
        refine .condF (decide_eq_false (by omega)) (.one fun a ha => ?_)
        obtain ⟨j, hj, rfl⟩ := List.getElem_of_mem ha
        have := hJ j hj
        rwa [getD_of hj] at this
    · rcases Nat.lt_or_ge j k with h4 | h4
      · exact hI j h4
      · obtain rfl : j = k := by omega
        rw [getD_of hk]; exact h
  · rintro v ⟨rfl, hI⟩
    simp only [threads_Check_L29]
    refine .condF (decide_eq_false (by omega)) (.one fun l hl2 => ?_)
    obtain ⟨j, hj, rfl⟩ := List.getElem_of_mem hl2
    have := hI j hj
    rwa [getD_of hj] at this
end Th

namespace Si
instance (np n : Nat) (a : Act) : Decidable (OkA np n a) := by unfold OkA; infer_instance
/-- The arguments are looked at: what hangs on the acts is their number, and each one. -/
theorem check_eq {N : Nat} (hN : 5000 < N) (n : Int) {people : List (List Ask)} (hl : ∀ l ∈ people, l.length < N ∧ l.length ≤ 9223372036854775807) : ∃ e0 : Int, (e0 = 0 → (1 ≤ n ∧ n ≤ 5) ∧ people.length ≤ 8 ∧ Th.OkP [1] people) ∧
    ∀ acts : List Act, acts.length < N → acts.length ≤ 9223372036854775807 → sites_check N n people acts = some (if e0 ≠ 0 then e0 else if ¬ acts.length ≤ 1000 then 2 else if ∀ a ∈ acts, OkA people.length n.toNat a then 0 else 1) := by
  by_cases hn : n < 1 ∨ 5 < n
  · refine ⟨1, by simp, fun acts _ _ => ?_⟩
    unfold sites_check
    have : (decide (n < 1) || decide (5 < n)) = true := by simpa using hn
    rw [this]; rfl
  obtain ⟨r, hr, hP⟩ := Th.check_wp hN (types := [1]) hl
  have e1 : (decide (n < 1) || decide (5 < n)) = false := by simpa using hn
  by_cases hr0 : r = 0
  rotate_left
  · refine ⟨r, fun h => (hr0 h).elim, fun acts _ _ => ?_⟩
    unfold sites_check
    rw [e1, hr, if_pos hr0]
    simp [bd, hr0]
  subst hr0
  have hP := hP rfl
  have h8 := hP.few
  obtain ⟨q, hq, _⟩ : Wp (iter (sites_check_L5 N people) N (0, 0)) fun _ => True := by
    refine .iter people.length (fun k st => st.2 = (k : Int)) (by omega) rfl ?_ ?_
    · rintro k ⟨a, v⟩ hk hv
      simp only at hv
      subst hv
      simp only [sites_check_L5]
      exact .condT (decide_eq_true (by omega)) (.ix hk (.ck64 (by omega) (.one (by simp))))
    · rintro ⟨a, v⟩ hv
      simp only at hv
      subst hv
      simp only [sites_check_L5]
      exact .condF (decide_eq_false (by omega)) (.one trivial)
  by_cases h12 : 12 < q
  · refine ⟨2, by simp, fun acts _ _ => ?_⟩
    unfold sites_check
    rw [e1, hr]
    simp only [cond_false, bd_some]
    refine Wp.eq (.condF rfl (.bdO hq (.condT (by simp [h12]) (.one ?_))))
    rw [if_pos (by simp)]
  refine ⟨0, fun _ => ⟨by omega, h8, hP⟩, fun acts h1 h2 => ?_⟩
  unfold sites_check
  rw [e1, hr, if_neg (by simp)]
  simp only [cond_false, bd_some]
  refine Wp.eq (.condF rfl (.bdO hq ?_))
  by_cases hlen : acts.length ≤ 1000
  rotate_left
  · exact .condT (by simp [h12]; omega) (.one (by rw [if_pos hlen]))
  refine .condF (by simp [h12]; omega) ?_
  rw [if_neg (by simpa using hlen)]
  refine .elim (P := fun t => match t with | .inl _ => ∀ a ∈ acts, OkA people.length n.toNat a | .inr r => r = 1 ∧ ¬ ∀ a ∈ acts, OkA people.length n.toNat a)
    (.iter acts.length (fun k v => v = (k : Int) ∧ ∀ j, j < k → OkA people.length n.toNat (acts.getD j Act.z)) h1 ⟨rfl, fun j h => absurd h (Nat.not_lt_zero _)⟩ ?_ ?_) (fun _ _ h => .one (by rw [if_pos h])) (fun r _ h => .one (by rw [if_neg h.2, h.1]))
  · rintro k v hk ⟨rfl, hI⟩
    simp only [sites_check_L7]
    refine .condT (decide_eq_true (by omega)) (.ixD Act.z (by omega) (by omega) ?_)
    simp only [Int.toNat_natCast]
    have no : ¬ OkA people.length n.toNat (acts.getD k Act.z) → ¬ ∀ a ∈ acts, OkA people.length n.toNat a := fun h h2 => h (h2 _ (mem_getD hk))
    refine .cond (fun g => .one ⟨rfl, no fun h => ?_⟩) fun g1 => .cond (fun g => .one ⟨rfl, no fun h => ?_⟩) fun g2 => .cond (fun g => .one ⟨rfl, no fun h => ?_⟩) fun g3 => .ck64 (by omega) (.one ⟨by simp, fun j hj => ?_⟩)
    · simp only [Bool.or_eq_true, decide_eq_true_eq] at g
      have := h.1; omega
    · simp only [Bool.or_eq_true, Bool.and_eq_true, decide_eq_true_eq] at g
      have := h.2.1 g.1; omega
    · simp only [Bool.or_eq_true, Bool.and_eq_true, decide_eq_true_eq] at g
      have := h.2.2 g.1; omega
    rcases Nat.lt_or_ge j k with h4 | h4
    · exact hI j h4
    · obtain rfl : j = k := by omega
      simp only [Bool.or_eq_false_iff, decide_eq_false_iff_not, Bool.and_eq_false_imp, decide_eq_true_eq] at g1 g2 g3
      refine ⟨by omega, fun e => ?_, fun e => ?_⟩
      · have := g2 e; omega
      · have := g3 e; omega
  · rintro v ⟨rfl, hI⟩
    simp only [sites_check_L7]
    refine .condF (decide_eq_false (by omega)) (.one fun a hq => ?_)
    obtain ⟨j, hj, rfl⟩ := List.getElem_of_mem hq
    have := hI j hj
    rwa [getD_of hj] at this
/-- What is played: it hangs on the number of acts, and on each one. -/
theorem play_all {N : Nat} (hN : 5000 < N) (n : Int) (fast : Bool) {people : List (List Ask)} (hl : ∀ l ∈ people, l.length < N ∧ l.length ≤ 9223372036854775807) : ∃ e0 : Int, (e0 = 0 → (1 ≤ n ∧ n ≤ 5) ∧ people.length ≤ 8 ∧ Th.OkP [1] people) ∧
    ∀ acts : List Act, acts.length < N → acts.length ≤ 9223372036854775807 → ∃ e, e = (if e0 ≠ 0 then e0 else if ¬ acts.length ≤ 1000 then 2 else if ∀ a ∈ acts, OkA people.length n.toNat a then 0 else 1) ∧
      sites_Play_1 N n fast people acts = some (if e = 0 then ((run fast (m0 n.toNat people) acts).events, (run fast (m0 n.toNat people) acts).sites, 0) else ([], [], e)) := by
  obtain ⟨e0, h0, hc⟩ := check_eq hN n hl
  refine ⟨e0, h0, fun acts h1 h2 => ⟨_, rfl, ?_⟩⟩
  have he := hc acts h1 h2
  generalize hE : (if e0 ≠ 0 then e0 else if ¬ acts.length ≤ 1000 then 2 else if ∀ a ∈ acts, OkA people.length n.toNat a then 0 else 1) = e at he ⊢
  unfold sites_Play_1
  refine Wp.eq (.bdO he (.cond (fun h => .one ?_) fun h => ?_))
  · have h : e ≠ 0 := by simpa using h
    rw [if_neg h]
  have h : e = 0 := by simpa using h
  rw [if_pos h]
  have e00 : e0 = 0 := by
    by_cases e00 : e0 = 0
    · exact e00
    · rw [if_pos e00] at hE; omega
  obtain ⟨hn, h8, _⟩ := h0 e00
  rw [if_neg (by simpa using e00)] at hE
  have hlen : acts.length ≤ 1000 := by
    by_cases hlen : acts.length ≤ 1000
    · exact hlen
    · rw [if_pos hlen] at hE; omega
  rw [if_neg (by simpa using hlen)] at hE
  have hok : ∀ a ∈ acts, OkA people.length n.toNat a := by
    by_cases hok : ∀ a ∈ acts, OkA people.length n.toNat a
    · exact hok
    · rw [if_neg hok] at hE; omega
  refine .ck (mkB_of (by omega) (by omega) (by omega)) ?_
  refine .seq (P := fun s => s = people.map fun l => (⟨l, false, 0, false, 0, ⟨0, 0⟩, 0⟩ : SitesProcess)) (.iter people.length (fun k st => st = ((people.take k).map fun l => (⟨l, false, 0, false, 0, ⟨0, 0⟩, 0⟩ : SitesProcess), (k : Int))) (by omega) rfl ?_ ?_) fun s _ hs => ?_
  · rintro k st hk rfl
    simp only [sites_Play_1_L5]
    refine .condT (decide_eq_true (by omega)) (.ix hk (.ck (limB_of ⟨?_, ?_⟩) (.ck64 (by omega) (.one ?_))))
    · simp; exact Nat.le_trans (m := 100) (by omega) (by unfold maxLen; decide)
    · simp; omega
    · refine Prod.ext ?_ (by simp)
      show _ = (people.take (k + 1)).map _
      rw [← List.take_append_getElem hk, List.map_append]
      rfl
  · rintro st rfl
    simp only [sites_Play_1_L5]
    refine .condF (decide_eq_false (by simp)) (.one ?_)
    simp
  subst hs
  refine .seq (P := fun s => s = ((run fast (m0 n.toNat people) acts).sites, (run fast (m0 n.toNat people) acts).people, (run fast (m0 n.toNat people) acts).letters, (run fast (m0 n.toNat people) acts).events)) (.iter acts.length (fun k st => st = ((run fast (m0 n.toNat people) (acts.take k)).sites, (run fast (m0 n.toNat people) (acts.take k)).people, (run fast (m0 n.toNat people) (acts.take k)).letters, (run fast (m0 n.toNat people) (acts.take k)).events, (k : Int))) (by omega) rfl ?_ ?_) fun s _ hs => ?_
  · rintro k st hk rfl
    have h1 := (run_ok fast (by omega : n.toNat ≤ 5) (inv0 n.toNat people) (acts := acts.take k) (fun t ht => hok t (List.mem_of_mem_take ht)) (by simp; omega)).1
    have h2 := hok acts[k] (List.getElem_mem hk)
    obtain ⟨_, _, h3⟩ := act_ok (by omega : 300 < N) fast h1 (by omega) (by simp; omega) h2.2.1 h2.four
    refine ⟨_, h3 acts k hk (by omega) (by rw [getD_of hk]), ?_⟩
    show _ = (_, _, _, _, _)
    rw [← List.take_append_getElem hk, run_app]
    rfl
  · rintro st rfl
    simp only [sites_Play_1_L7]
    refine .condF (decide_eq_false (by simp)) (.one ?_)
    rw [List.take_length]
  subst hs
  exact .one rfl
theorem lives : alibkeep_sitesLives 18446744073709551616 = some true := by kernel_rfl
end Si

namespace Si
theorem getD_set {α : Type} {l : List α} {i j : Nat} {v d : α} (h : i < l.length) : (l.set i v).getD j d = if j = i then v else l.getD j d := by
  simp only [List.getD_eq_getElem?_getD]
  by_cases e : j = i
  · subst e; rw [if_pos rfl]; simp [h]
  · rw [if_neg e, List.getElem?_set_ne (fun e2 => e e2.symm)]
end Si

end Go.Proofs.Yteklmleiiiodfaa
