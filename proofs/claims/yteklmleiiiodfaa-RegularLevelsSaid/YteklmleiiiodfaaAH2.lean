/- Histories, plainly: arguments and results. -/
import Derived.Test.YteklmleiiiodfaaAH1
set_option linter.unusedVariables false
set_option linter.unusedSimpArgs false
set_option linter.unusedSectionVars false
set_option maxRecDepth 100000
namespace Go.Proofs.Yteklmleiiiodfaa
open Go.RowKit
namespace Sr
open Hs
theorem rn_arg {N : Nat} {types : List Int} {l : List Event} {k : Nat} {out : List Call} {op : List Int} (R : Rn N types l k out op) : ∀ m, m < out.length → history_Argument N (out.getD m Call.z).kind (out.getD m Call.z).arg = some true ∧ ((out.getD m Call.z).to_ ≠ -1 → history_result N (out.getD m Call.z).kind (out.getD m Call.z).res = some true) := by
  induction R with
  | zero => exact fun m h => absurd h (Nat.not_lt_zero _)
  | @succ k out out' op op' R hk S ih =>
    intro m hm
    rcases S.how with ⟨_, _, ha, _, rfl, _⟩ | ⟨_, m0, _, hml, _, hr, rfl, _⟩
    · rw [List.length_append, List.length_singleton] at hm
      rw [getD_app]
      by_cases h : m < out.length
      · rw [if_pos h]; exact ih m h
      · rw [if_neg h, if_pos (by omega)]
        exact ⟨ha, fun h => (h rfl).elim⟩
    · rw [List.length_set] at hm
      rw [getD_set2 hml]
      by_cases e : m = m0
      · subst e
        rw [if_pos rfl]
        exact ⟨(ih m hm).1, fun _ => hr⟩
      · rw [if_neg e]; exact ih m hm
theorem arg_pos {N : Nat} {a : Int} (h : history_Argument N 1 a = some true) : 1 ≤ a ∧ a ≤ 1000 := by
  have e : history_Argument N 1 a = some ((decide (1 ≤ a)) && (decide (a ≤ 1000))) := rfl
  rw [e] at h
  simpa using h
end Sr

end Go.Proofs.Yteklmleiiiodfaa
