/- Sites, plainly: what is played. -/
import Derived.Test.YteklmleiiiodfaaH5
set_option linter.unusedVariables false
set_option linter.unusedSimpArgs false
set_option linter.unusedSectionVars false
set_option maxRecDepth 100000
namespace Go.Proofs.Yteklmleiiiodfaa
open Go.RowKit
namespace Si
open Hs
theorem types1 {N : Nat} (hN : 300 < N) : history_Types N [1] = some 0 := by
  obtain ⟨M, rfl⟩ : ∃ M, N = M + 4 := ⟨N - 4, by omega⟩
  rfl
theorem play_res {N : Nat} (hN : 5000 < N) (n : Int) (fast : Bool) {people : List (List Ask)} (acts : List Act) (hl : ∀ l ∈ people, l.length < N ∧ l.length ≤ 9223372036854775807) (ha : acts.length < N ∧ acts.length ≤ 9223372036854775807) :
    (∃ e, e ≠ 0 ∧ sites_Play_1 N n fast people acts = some ([], [], e)) ∨ (sites_Play_1 N n fast people acts = some ((run fast (m0 n.toNat people) acts).events, (run fast (m0 n.toNat people) acts).sites, 0) ∧ (1 ≤ n ∧ n ≤ 5) ∧ people.length ≤ 8 ∧ Th.OkP [1] people ∧ acts.length ≤ 1000 ∧ ∀ a ∈ acts, OkA people.length n.toNat a) := by
  obtain ⟨e0, h0, hp⟩ := play_all hN n fast hl
  obtain ⟨e, he, hP⟩ := hp acts ha.1 ha.2
  by_cases e1 : e = 0
  · subst e1
    right
    rw [if_pos rfl] at hP
    have e00 : e0 = 0 := by
      by_cases e00 : e0 = 0
      · exact e00
      · rw [if_pos e00] at he; omega
    subst e00
    obtain ⟨hn, h8, hok⟩ := h0 rfl
    rw [if_neg (by simp)] at he
    have hlen : acts.length ≤ 1000 := by
      by_cases hlen : acts.length ≤ 1000
      · exact hlen
      · rw [if_pos hlen] at he; omega
    rw [if_neg (by simpa using hlen)] at he
    have hact : ∀ a ∈ acts, OkA people.length n.toNat a := by
      by_cases hact : ∀ a ∈ acts, OkA people.length n.toNat a
      · exact hact
      · rw [if_neg hact] at he; omega
    exact ⟨hP, hn, h8, hok, hlen, hact⟩
  · left
    rw [if_neg e1] at hP
    exact ⟨e, e1, hP⟩
theorem wrapI64s {z : Int} (h0 : 0 ≤ z) (h : z < 9223372036854775808) : IntKind.i64.wrap z = z := by
  have e : z % 2 ^ 64 = z := Int.emod_eq_of_lt h0 (by show z < 2 ^ 64; omega)
  unfold IntKind.wrap
  simp only [IntKind.bits, IntKind.signed, Bool.true_and, e]
  exact if_neg (by simp; omega)
theorem sum_mulB {B : Nat} : ∀ (P0 : List (List Ask)), (∀ q ∈ P0, q.length ≤ B) → (P0.map List.length).sum ≤ P0.length * B
  | [], _ => Nat.zero_le _
  | q :: r, h => by
    have h1 := sum_mulB r fun x hx => h x (List.mem_cons_of_mem _ hx)
    have h2 := h q List.mem_cons_self
    rw [List.map_cons, List.sum_cons, List.length_cons, Nat.add_mul]
    omega
theorem check_sum {N : Nat} (hN : 5000 < N) {n : Int} {people : List (List Ask)} (hl : ∀ l ∈ people, l.length < N ∧ l.length ≤ 9223372036854775807) (hq9 : ∀ q ∈ people, q.length ≤ 10000000000000) (h8 : people.length ≤ 8) {acts : List Act} (h : sites_check N n people acts = some 0) : (people.map List.length).sum ≤ 12 := by
  have hs : (people.map List.length).sum ≤ 80000000000000 := Nat.le_trans (sum_mulB people hq9) (Nat.le_trans (Nat.mul_le_mul_right _ h8) (by decide))
  unfold sites_check at h
  cases hc : (decide (n < 1) || decide (5 < n)) with
  | true => rw [hc] at h; cases h
  | false =>
    rw [hc] at h
    obtain ⟨r, hr, _⟩ := Th.check_wp hN (types := [1]) hl
    rw [cond_false, hr, bd_some] at h
    by_cases hr0 : r = 0
    rotate_left
    · rw [decide_eq_false hr0] at h
      have h : some r = some 0 := h
      cases h; exact (hr0 rfl).elim
    rw [decide_eq_true hr0] at h
    have hsum : ∀ k, ((people.take k).map List.length).sum ≤ 80000000000000 := fun k => by
      have : ((people.take k).map List.length).sum + ((people.drop k).map List.length).sum = (people.map List.length).sum := by
        rw [← List.sum_append_nat, ← List.map_append, List.take_append_drop]
      omega
    have hq : iter (sites_check_L5 N people) N (0, 0) = some (((people.map List.length).sum : Nat) : Int) := by
      refine Wp.eq (.iter people.length (fun k st => st = (((((people.take k).map List.length).sum : Nat) : Int), (k : Int))) (by omega) rfl ?_ ?_)
      · rintro k st hk rfl
        simp only [sites_check_L5]
        refine .condT (decide_eq_true (by omega)) (.ix hk (.ck64 (by omega) (.one ?_)))
        have e : ((people.take (k + 1)).map List.length).sum = ((people.take k).map List.length).sum + people[k].length := by
          rw [← List.take_append_getElem hk, List.map_append, List.sum_append_nat]; simp
        have h2 := hsum (k + 1)
        have hw : IntKind.i64.wrap ((((people.take k).map List.length).sum : Nat) + (people[k].length : Int)) = (((people.take k).map List.length).sum : Nat) + (people[k].length : Int) := by
          exact wrapI64s (by omega) (by omega)
        show (_, _) = (_, _)
        rw [hw, e]; simp
      · rintro st rfl
        simp only [sites_check_L5]
        exact .condF (decide_eq_false (by omega)) (.one (by rw [List.take_length]))
    rw [hq] at h
    rcases Nat.lt_or_ge 12 (people.map List.length).sum with h2 | h2
    · exfalso
      have e : (decide ((12 : Int) < (((people.map List.length).sum : Nat) : Int)) || decide (1000 < ((acts).length : Int))) = true := by
        rw [decide_eq_true (by omega)]; rfl
      simp only [Bool.not_true, cond_false, bd_some, e, cond_true] at h
      cases h
    · exact h2
theorem play_sum {N : Nat} (hN : 5000 < N) {n : Int} {fast : Bool} {people : List (List Ask)} (hl : ∀ l ∈ people, l.length < N ∧ l.length ≤ 9223372036854775807) (hs : ∀ q ∈ people, q.length ≤ 10000000000000) {acts : List Act} (ha : acts.length < N ∧ acts.length ≤ 9223372036854775807) {ev : List Event} {si : List Site} (h : sites_Play_1 N n fast people acts = some (ev, si, 0)) (h8 : people.length ≤ 8) : (people.map List.length).sum ≤ 12 := by
  obtain ⟨e0, _, hc⟩ := check_eq hN n hl
  have hc := hc acts ha.1 ha.2
  generalize (if e0 ≠ 0 then e0 else if ¬ acts.length ≤ 1000 then 2 else if ∀ a ∈ acts, OkA people.length n.toNat a then 0 else 1) = e at hc
  have e1 : e = 0 := by
    by_cases e1 : e = 0
    · exact e1
    · exfalso
      unfold sites_Play_1 at h
      rw [hc, bd_some, decide_eq_false e1] at h
      have h : some (([] : List Event), ([] : List Site), e) = some (ev, si, 0) := h
      cases h
      exact e1 rfl
  rw [e1] at hc
  exact check_sum hN hl hs h8 hc
end Si

end Go.Proofs.Yteklmleiiiodfaa
