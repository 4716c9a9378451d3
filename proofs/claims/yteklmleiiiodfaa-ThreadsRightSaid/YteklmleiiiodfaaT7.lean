/- Threads, plainly: how many may ask. -/
import Derived.Test.YteklmleiiiodfaaT6
set_option linter.unusedVariables false
set_option linter.unusedSimpArgs false
set_option linter.unusedSectionVars false
set_option maxRecDepth 100000
namespace Go.Proofs.Yteklmleiiiodfaa
open Go.RowKit
namespace Th
open Ob Hs
theorem tot_take (P0 : List (List Ask)) {k : Nat} (hk : k < P0.length) : tot (P0.take (k + 1)) = tot (P0.take k) + P0[k].length := by
  rw [← List.take_append_getElem hk]
  unfold tot
  rw [List.map_append, List.sum_append]
  simp
theorem tot_le (P0 : List (List Ask)) : ∀ k, tot (P0.take k) ≤ tot P0 := by
  intro k
  have : tot P0 = tot (P0.take k) + tot (P0.drop k) := by
    unfold tot
    rw [← List.sum_append, ← List.map_append, List.take_append_drop]
  omega
theorem tot_mul {B : Nat} : ∀ (P0 : List (List Ask)), (∀ q ∈ P0, q.length ≤ B) → (P0.map List.length).sum ≤ P0.length * B
  | [], _ => Nat.zero_le _
  | q :: r, h => by
    have h1 := tot_mul r fun x hx => h x (List.mem_cons_of_mem _ hx)
    have h2 := h q List.mem_cons_self
    rw [List.map_cons, List.sum_cons, List.length_cons, Nat.add_mul]
    omega
theorem check_tot {N : Nat} (hN : 5000 < N) {types : List Int} {P0 : List (List Ask)} (h : threads_Check N types P0 = some 0) (hb9 : ∀ q ∈ P0, q.length ≤ 10000000000000) : tot P0 ≤ 90 := by
  unfold threads_Check at h
  obtain ⟨r, hr, h⟩ := bd_inv h
  rcases cond_inv h with ⟨_, h⟩ | ⟨hc, h⟩
  · cases h
  simp only [Bool.or_eq_false_iff, decide_eq_false_iff_not] at hc
  have h8 : P0.length ≤ 8 := by omega
  have hb : tot P0 ≤ 80000000000000 := Nat.le_trans (tot_mul P0 hb9) (Nat.le_trans (Nat.mul_le_mul_right _ h8) (by decide))
  obtain ⟨n, hn, h⟩ := bd_inv h
  rcases cond_inv h with ⟨_, h⟩ | ⟨hc2, _⟩
  · cases h
  have h9 := of_decide_eq_false hc2
  obtain ⟨n', hn', e⟩ : Wp (iter (threads_Check_L17 N P0) N (0, 0)) fun n => n = (tot P0 : Int) := by
    refine .iter P0.length (fun k st => st = ((tot (P0.take k) : Int), (k : Int))) (by omega) (by simp [tot]) ?_ ?_
    · rintro k st hk rfl
      simp only [threads_Check_L17]
      refine .condT (decide_eq_true (by omega)) (.ix hk (.ck64 (by omega) (.one ?_)))
      refine Prod.ext ?_ (by simp)
      show IntKind.i64.wrap _ = ((tot (P0.take (k + 1)) : Nat) : Int)
      have h1 := tot_take P0 hk
      have h2 := tot_le P0 (k + 1)
      rw [wrap64_in _ (by omega), h1]
      omega
    · rintro st rfl
      simp only [threads_Check_L17]
      refine .condF (decide_eq_false (by omega)) (.one ?_)
      rw [List.take_length]
  rw [hn'] at hn
  cases hn
  omega
end Th

end Go.Proofs.Yteklmleiiiodfaa
