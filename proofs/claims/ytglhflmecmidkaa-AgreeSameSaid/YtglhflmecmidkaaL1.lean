/- Plain laws of package agree. -/
import Derived.Test.YtglhflmecmidkaaA4
set_option linter.unusedVariables false
set_option linter.unusedSimpArgs false
set_option linter.unusedSectionVars false
set_option maxRecDepth 100000
namespace Go.Proofs.Ytglhflmecmidkaa
open Go.RowKit
theorem vs_ge {algo : Int} {vs ls : List Int} (h : checkF algo vs ls = 0) : (∀ k (hk : k < vs.length), 0 ≤ vs[k] ∧ vs[k] ≤ 1000) ∧ (algo = 1 ∨ algo = 2 ∧ vs.length = 2 ∨ algo = 3 ∧ vs.length = 2) := by
  unfold checkF at h
  split at h
  · omega
  · rename_i h1
    split at h
    · omega
    · rename_i h2
      have h5 : ∀ x ∈ vs, 0 ≤ x ∧ x ≤ 1000 := by simpa using h2
      exact ⟨fun k hk => h5 _ (List.getElem_mem hk), by omega⟩
theorem alone {algo : Int} {vs : List Int} {who : Int} (h : checkF algo vs [who, who, who] = 0) (k : Nat) (hk : k < (playF algo vs [who, who, who]).length) :
    (playF algo vs [who, who, who])[k] = if (k : Int) = who then vs.getD who.toNat 0 else -1 := by
  obtain ⟨hn1, hn8, -, hall⟩ := check_zero h
  obtain ⟨hv, hal⟩ := vs_ge h
  have h0 := hall 0 (by simp)
  simp only [List.getElem_cons_zero] at h0
  obtain ⟨q, rfl⟩ : ∃ q : Nat, who = q := ⟨who.toNat, by omega⟩
  have hq : q < vs.length := by omega
  have hvq := hv q hq
  have hn : ¬ vs[q] < 0 := by omega
  rcases hal with rfl | ⟨rfl, h2⟩ | ⟨rfl, h2⟩
  · simp only [playF, List.foldl_cons, List.foldl_nil, stepF, turnF, initF, casF] 
    simp [hq, getZ, putZ, hn]
    simp only [List.getElem_set, List.getElem_replicate]
    split <;> split <;> first | rfl | omega
  · simp only [playF, List.foldl_cons, List.foldl_nil, stepF, turnF, initF, ticF, ownF] 
    simp [hq, getZ, putZ, hn]
    simp only [List.getElem_set, List.getElem_replicate]
    split <;> split <;> first | rfl | omega
  · have h1 : ¬ (q : Int) = 1 - q := by omega
    simp only [playF, List.foldl_cons, List.foldl_nil, stepF, turnF, initF, naiF, ownF] 
    simp [hq, getZ, putZ, hn, h1]
    simp only [List.getElem_set, List.getElem_replicate]
    split <;> split <;> first | rfl | omega
theorem play_len {algo : Int} {vs ls : List Int} (h : checkF algo vs ls = 0) : (playF algo vs ls).length = vs.length := by
  obtain ⟨hn1, hn8, hl, hall⟩ := check_zero h
  rw [playF_eq]; exact (run_ok hn8 (Nat.le_refl _) hl).out

end Go.Proofs.Ytglhflmecmidkaa
