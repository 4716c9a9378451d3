/- One inside at most. -/
import Derived.Test.YtkccgokdahlmeaaM6
set_option linter.unusedVariables false
set_option linter.unusedSimpArgs false
set_option linter.unusedSectionVars false
set_option maxRecDepth 100000
namespace Go.Proofs.Ytkccgokdahlmeaa
open Go.RowKit
namespace Mx
def Safe (algo : Int) (n : Nat) (s : Sm) : Prop := ∃ ins, GI s.2.2 ins ∧ ((algo = 1 ∧ n = 2 ∧ JP (stF s) (flF s) s.2.1 ins) ∨ (algo = 2 ∧ JB n (stF s) (nuF s) (kF s) (flF s) ins) ∨ (algo = 4 ∧ JS n (stF s) s.2.1 ins))
theorem safe_step {algo : Int} {n : Nat} {s : Sm} (hl : s.1.length = n) (S : Safe algo n s) {w : Nat} (hw : w < n) : Safe algo n (stepF algo s w) := by
  obtain ⟨ins, G, h⟩ := S
  unfold stepF
  by_cases h0 : (pr s w).left = 0
  · rw [if_pos h0]; exact ⟨ins, G, h⟩
  rw [if_neg h0]
  rcases h with ⟨rfl, rfl, J⟩ | ⟨rfl, J⟩ | ⟨rfl, J⟩
  · rw [if_pos rfl]
    obtain ⟨i, J', G'⟩ := pet_keep hl J G hw
    exact ⟨i, G', .inl ⟨rfl, rfl, J'⟩⟩
  · rw [if_neg (by decide), if_pos rfl]
    obtain ⟨i, J', G'⟩ := bak_keep hl J G hw
    exact ⟨i, G', .inr (.inl ⟨rfl, J'⟩)⟩
  · rw [if_neg (by decide), if_neg (by decide), if_neg (by decide)]
    obtain ⟨i, J', G'⟩ := sw_keep hl J G hw
    exact ⟨i, G', .inr (.inr ⟨rfl, J'⟩)⟩
theorem pr_init {n : Nat} {turns : Int} {i : Nat} (hi : i < n) : pr (init n turns) i = ⟨0, turns, false, 0, 0⟩ := by
  unfold pr init; rw [getD_of (by simpa using hi)]; simp
theorem pr_big {s : Sm} {i : Nat} (h : s.1.length ≤ i) : pr s i = MutexProcess.z := by
  unfold pr; rw [List.getD_eq_getElem?_getD, List.getElem?_eq_none h]; rfl
theorem safe_init {algo people turns : Int} {l : List Int} (G : Good algo people turns l) (h3 : algo ≠ 3) : Safe algo people.toNat (init people.toNat turns) := by
  have h1 := G.al; have h2 := G.p2
  have gi : GI (init people.toNat turns).2.2 none := by
    refine ⟨fun k hk => ?_, fun k hk => ?_, rfl, fun w h => (by cases h), rfl, rfl⟩
    · simp [init] at hk
    · simp [init] at hk
  have hp : ∀ i, i < people.toNat → pr (init people.toNat turns) i = ⟨0, turns, false, 0, 0⟩ := fun i hi => pr_init hi
  have hins : ∀ (c : Int), c ≠ 0 → ∀ i, (none : Option Nat) = some i ↔ i < people.toNat ∧ stF (init people.toNat turns) i = c := by
    intro c hc i
    constructor
    · intro h; cases h
    · rintro ⟨h, h'⟩; simp only [stF, hp i h] at h'; exact (hc h'.symm).elim
  refine ⟨none, gi, ?_⟩
  rcases (by omega : algo = 1 ∨ algo = 2 ∨ algo = 4) with e | e | e
  · have en : people.toNat = 2 := by have := h2 e; omega
    refine .inl ⟨e, en, ?_⟩
    rw [en] at hp hins ⊢
    refine ⟨fun i hi => ?_, fun i hi => ?_, fun i hi => ?_, fun i hi => ?_, .inl rfl, hins 3 (by decide)⟩
    · simp only [stF, hp i hi]; omega
    · simp only [stF, flF, hp i hi]; simp
    · simp only [stF, hp i hi]; omega
    · simp only [stF, hp i hi]; omega
  · refine .inr (.inl ⟨e, ?_⟩)
    refine ⟨fun i hi => ?_, fun i hi => ?_, fun i hi => ?_, fun i j hi hj _ => ?_, fun i hi => ?_, hins 6 (by decide)⟩
    · simp only [stF, hp i hi]; omega
    · simp only [stF, nuF, hp i hi]; simp
    · simp only [stF, hp i hi]; omega
    · simp only [stF, hp i hi]; intro h; omega
    · simp only [stF, flF, hp i hi]; simp
  · refine .inr (.inr ⟨e, ?_⟩)
    refine ⟨fun i hi => ?_, fun _ i hi => ?_, fun h => (h rfl).elim, fun i j hi hj h => ?_, hins 2 (by decide)⟩
    · simp only [stF, hp i hi]; omega
    · simp only [stF, hp i hi]
    · simp only [stF, hp i hi] at h; exact (h rfl).elim
theorem safe_run {algo people turns : Int} {list : List Int} (G : Good algo people turns list) (h3 : algo ≠ 3) : ∀ k, k ≤ list.length → Safe algo people.toNat (run algo people.toNat turns (list.take k)) := by
  intro k
  induction k with
  | zero => intro _; exact safe_init G h3
  | succ k ih =>
    intro hk
    rw [run_snoc (by omega)]
    have := G.el list[k] (List.getElem_mem (by omega))
    exact safe_step (bd_run G k (by omega)).len (ih (by omega)) (by omega)
theorem gates_le {algo people turns : Int} {list : List Int} (G : Good algo people turns list) {k : Nat} (hk : k ≤ list.length) : (run algo people.toNat turns (list.take k)).2.2.2.2.length ≤ 600 := by
  have h1 := (bd_run G k hk).gl; have := G.ln; omega
end Mx

end Go.Proofs.Ytkccgokdahlmeaa
