/- Sites, plainly: what is played. -/
import Derived.Test.YteklmleiiiodfaaH5
set_option linter.unusedVariables false
set_option linter.unusedSimpArgs false
set_option linter.unusedSectionVars false
set_option maxRecDepth 100000
namespace Go.Proofs.Yteklmleiiiodfaa
open Go.RowKit
namespace Si
open Hs
theorem types1 {N : Nat} (hN : 300 < N) : history_Types N [1] = some 0 := by
  obtain ⟨M, rfl⟩ : ∃ M, N = M + 4 := ⟨N - 4, by omega⟩
  rfl
theorem play_res {N : Nat} (hN : 5000 < N) (n : Int) (fast : Bool) {people : List (List Ask)} (acts : List Act) (hl : ∀ l ∈ people, l.length < N ∧ l.length ≤ 9223372036854775807) (ha : acts.length < N ∧ acts.length ≤ 9223372036854775807) :
    (∃ e, e ≠ 0 ∧ sites_Play_1 N n fast people acts = some ([], [], e)) ∨ (sites_Play_1 N n fast people acts = some ((run fast (m0 n.toNat people) acts).events, (run fast (m0 n.toNat people) acts).sites, 0) ∧ (1 ≤ n ∧ n ≤ 5) ∧ people.length ≤ 8 ∧ Th.OkP [1] people ∧ acts.length ≤ 1000 ∧ ∀ a ∈ acts, OkA people.length n.toNat a) := by
  obtain ⟨e0, h0, hp⟩ := play_all hN n fast hl
  obtain ⟨e, he, hP⟩ := hp acts ha.1 ha.2
  by_cases e1 : e = 0
  · subst e1
    right
    rw [if_pos rfl] at hP
    have e00 : e0 = 0 := by
      by_cases e00 : e0 = 0
      · exact e00
      · rw [if_pos e00] at he; omega
    subst e00
    obtain ⟨hn, h8, hok⟩ := h0 rfl
    rw [if_neg (by simp)] at he
    have hlen : acts.length ≤ 1000 := by
      by_cases hlen : acts.length ≤ 1000
      · exact hlen
      · rw [if_pos hlen] at he; omega
    rw [if_neg (by simpa using hlen)] at he
    have hact : ∀ a ∈ acts, OkA people.length n.toNat a := by
      by_cases hact : ∀ a ∈ acts, OkA people.length n.toNat a
      · exact hact
      · rw [if_neg hact] at he; omega
    exact ⟨hP, hn, h8, hok, hlen, hact⟩
  · left
    rw [if_neg e1] at hP
    exact ⟨e, e1, hP⟩
end Si

end Go.Proofs.Yteklmleiiiodfaa
