/- SearchNever: what it looks for. -/
import Derived.Test.YtpakplmpihhmbaaN3
import Derived.Test.YtpakplmpihhmbaaN1
set_option linter.unusedVariables false
set_option linter.unusedSimpArgs false
set_option linter.unusedSectionVars false
set_option maxRecDepth 100000
namespace Go.Proofs.Ytpakplmpihhmbaa
open Go.RowKit
namespace Sr
open Rl Hs
theorem index1 {N : Nat} (hN : 300 < N) {s : List Step} (hs : s.length ≤ 100) {k : Int} {p : Nat} (hp : p < s.length) (h1 : (s.getD p Step.z).call = k) (h2 : ∀ i, i < p → (s.getD i Step.z).call ≠ k) : slices_IndexFunc_api_Step_api_Step_1 N s k = some (p : Int) := by
  refine Wp.eq ?_
  unfold slices_IndexFunc_api_Step_api_Step_1
  refine .elim (P := fun t => match t with | .inl _ => False | .inr r => r = (p : Int)) (.iter p (fun j v => v = (j : Int)) (by omega) rfl ?_ ?_) (fun _ _ h => h.elim) (fun r _ h => .one h)
  · rintro j v hj rfl
    simp only [slices_IndexFunc_api_Step_api_Step_1_L3]
    have := h2 j hj
    refine .condT (decide_eq_true (by omega)) (.ixD Step.z (by omega) (by omega) (.bdO (a := ()) rfl (.condF ?_ (.ck64 (by omega) (.one (by simp))))))
    simp only [Int.toNat_natCast]
    exact decide_eq_false this
  · rintro v rfl
    simp only [slices_IndexFunc_api_Step_api_Step_1_L3]
    refine .condT (decide_eq_true (by omega)) (.ixD Step.z (by omega) (by omega) (.bdO (a := ()) rfl (.condT ?_ (.one rfl))))
    simp only [Int.toNat_natCast]
    exact decide_eq_true h1
theorem contains_wp {N : Nat} (hN : 300 < N) {s : List Step} (hs : s.length ≤ 100) {k : Int} : Wp (slices_ContainsFunc_api_Step_api_Step N s k) fun b => (b = true ∧ ∃ p, p < s.length ∧ (s.getD p Step.z).call = k ∧ ∀ i, i < p → (s.getD i Step.z).call ≠ k) ∨ (b = false ∧ ∀ i, i < s.length → (s.getD i Step.z).call ≠ k) := by
  unfold slices_ContainsFunc_api_Step_api_Step slices_IndexFunc_api_Step_api_Step
  refine .seq (P := fun r => (0 ≤ r ∧ ∃ p, p < s.length ∧ (s.getD p Step.z).call = k ∧ ∀ i, i < p → (s.getD i Step.z).call ≠ k) ∨ (r = -1 ∧ ∀ i, i < s.length → (s.getD i Step.z).call ≠ k)) (.elim (P := fun t => match t with | .inl _ => ∀ i, i < s.length → (s.getD i Step.z).call ≠ k | .inr r => 0 ≤ r ∧ ∃ p, p < s.length ∧ (s.getD p Step.z).call = k ∧ ∀ i, i < p → (s.getD i Step.z).call ≠ k) (.iter s.length (fun j v => v = (j : Int) ∧ ∀ i, i < j → (s.getD i Step.z).call ≠ k) (by omega) ⟨rfl, fun i h => absurd h (Nat.not_lt_zero _)⟩ ?_ ?_) (fun _ _ h => .one (.inr ⟨rfl, h⟩)) (fun r _ h => .one (.inl h))) fun r _ h => .one ?_
  · rintro j v hj ⟨rfl, hr⟩
    simp only [slices_IndexFunc_api_Step_api_Step_L3]
    refine .condT (decide_eq_true (by omega)) (.ixD Step.z (by omega) (by omega) (.bdO (a := ()) rfl ?_))
    simp only [Int.toNat_natCast]
    refine .cond (fun h => .one ⟨by omega, j, hj, of_decide_eq_true h, hr⟩) fun h => .ck64 (by omega) (.one ⟨by simp, fun i hi => ?_⟩)
    rcases Nat.lt_or_ge i j with h1 | h1
    · exact hr i h1
    · obtain rfl : i = j := by omega
      exact of_decide_eq_false h
  · rintro v ⟨rfl, hr⟩
    simp only [slices_IndexFunc_api_Step_api_Step_L3]
    exact .condF (decide_eq_false (by omega)) (.one hr)
  · rcases h with ⟨h, hp⟩ | ⟨rfl, hno⟩
    · exact .inl ⟨decide_eq_true h, hp⟩
    · exact .inr ⟨rfl, hno⟩
end Sr

end Go.Proofs.Ytpakplmpihhmbaa
