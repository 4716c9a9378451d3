/- slices.Insert and slices.Delete of numbers, on a row of the call's own: out of the kit's contracts. It speaks of every program. -/
import Derived.Test.YtkmmagekepoapaaIface
import Derived.Shelf.Spec.SlicesInsertGrow
import Derived.Shelf.Slices.Delete
set_option linter.unusedVariables false
set_option linter.unusedSimpArgs false
set_option linter.unusedSectionVars false
namespace Go.Proofs.Ytkmmagekepoapaa
open Go.RowKit Go.Sort
abbrev IV : Int → Value := Value.int .i64
theorem flat1 (xs : List Int) : xs.flatMap (eI .i64) = xs.map IV := by
  induction xs with
  | nil => rfl
  | cons x xs ih => rw [List.flatMap_cons, ih]; rfl
/-- Cells from o on. -/
def setL (o : Nat) : List Value → Array Value → Array Value
  | [], c => c
  | v :: r, c => setL (o + 1) r (c.setIfInBounds o v)
theorem mapBlock_at {w : World} {b : Nat} {f : Array Value → Array Value} {c : Array Value} {E : TypeId} {fr : Nat × Nat} (h : w.heap[b]? = some (.cells c E fr)) : (mapBlock w b f).heap[b]? = some (.cells (f c) E fr) := by
  simp [mapBlock, Array.getElem?_modify, h, onCells]
theorem mapBlock_other {w : World} {b k : Nat} {f : Array Value → Array Value} (h : b ≠ k) : (mapBlock w b f).heap[k]? = w.heap[k]? := by
  simp [mapBlock, Array.getElem?_modify, h]
section
variable {base : Nat} {w0 w w' : World} {L : List Chunk}
/-- What a row's chunk says. -/
theorem St.rowIs {i cap E : Nat} {A : Option Addr} {xs : List Int} (h : St base w0 L w) (hi : L[i]? = some (cR (eI .i64) 1 A cap E xs)) :
    (A = none ∧ xs = [] ∧ cap = 0) ∨ ∃ g cur, A = some ⟨g, 0, none⟩ ∧ w.heap[g]? = some (.cells cur E (0, 0)) ∧ xs.length ≤ cap ∧ cap ≤ maxLen ∧ cur.size = cap ∧ ∀ k, k < xs.length → cur[k]? = (xs.map IV)[k]? := by
  obtain ⟨hl, hs⟩ := h.sat _ (List.mem_of_getElem? hi)
  rcases hs with ⟨h1, h2, h3⟩ | ⟨g, cur, rfl, hx, hmc, hcm, hcs, htake⟩
  · exact .inl ⟨h1, List.length_eq_zero_iff.1 h2, h3⟩
  · refine .inr ⟨g, cur, rfl, hx, hmc, hcm, by rw [hcs, Nat.mul_one], fun k hk => ?_⟩
    rw [flat1, Nat.mul_one] at htake
    rw [← htake, List.getElem?_take, if_pos hk, Array.getElem?_toList]
end
def slices_Insert_int (N : Nat) (xs : List Int) (i : Int) (ys : List Int) : Option (List Int) :=
  if 0 ≤ i ∧ i ≤ xs.length ∧ 0 < ys.length ∧ (xs.length + ys.length) * 8 ≤ 140737488355328 then some (xs.take i.toNat ++ ys ++ xs.drop i.toNat) else none
def slices_Delete_int (N : Nat) (xs : List Int) (i j : Int) : Option (List Int) :=
  if 0 ≤ i ∧ i ≤ j ∧ j ≤ xs.length ∧ 0 < xs.length then some (xs.take i.toNat ++ xs.drop j.toNat) else none
section
variable {P : Program} {ρ : Go.Shelf.Ren}
end
end Go.Proofs.Ytkmmagekepoapaa
