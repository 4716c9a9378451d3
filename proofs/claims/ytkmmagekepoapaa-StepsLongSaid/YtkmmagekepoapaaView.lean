/- Windows on a row: elements by them, clear, copy. It speaks of every program. -/
import Derived.Test.YtkmmagekepoapaaNest
set_option linter.unusedVariables false
set_option linter.unusedSimpArgs false
set_option linter.unusedSectionVars false
namespace Go.Proofs.Ytkmmagekepoapaa
open Go.RowKit
section
variable {α : Type}
theorem ix_view0 {xs : List α} {hi i : Int} {x : α} (h : ix (xs.take hi.toNat) i = some x) : ix xs i = some x := by
  have h1 := ix_lt h
  have h2 := ix_get h
  rw [List.getElem?_take] at h2
  unfold ix
  rw [if_pos (by omega)]
  split at h2
  · exact h2
  · cases h2
/-- Some of it is overwritten. -/
def ovr (xs : List α) (lo : Nat) (ys : List α) : List α := (xs.take lo ++ (ys ++ xs.drop (lo + ys.length))).take xs.length
@[simp] theorem ovr_len (xs : List α) (lo : Nat) (ys : List α) : (ovr xs lo ys).length = xs.length := by
  unfold ovr
  simp only [List.length_append, List.length_take, List.length_drop]
  omega
theorem ovr_eq {xs : List α} {lo : Nat} {ys : List α} (h : lo + ys.length ≤ xs.length) : ovr xs lo ys = xs.take lo ++ (ys ++ xs.drop (lo + ys.length)) := by
  unfold ovr
  apply List.take_of_length_le
  simp only [List.length_append, List.length_take, List.length_drop]
  omega
end
section
variable {α : Type} {n sz j off p : Nat} {enc : α → List Value} {d x x' : α} {a : List α} {pre post : List Value} {v : Value}
end
section
variable {P : Program} {n : Nat} {base : Nat} {w0 w : World} {L : List Chunk} {e : Env}
variable {ops rest : List Oper} {Q : Exit → Act → World → Prop} {K : Act → World → Prop} {d : Nat} {D : Option Tmp} {op : Op} {t : TypeId} {pos : String} {af : Array Edge} {G : Option (Nat × Bool)} {x y z : Operand} {v : Value}
variable {α : Type} {enc : α → List Value} {sz : Nat} {A : Option Addr} {cap k m c E E' T i : Nat} {xs ys : List α} {kd : IntKind} {idx lo : Int}
theorem Evs.len {n : Nat} {e : Env} {x : Operand} {A : Option Addr} {m m' c : Nat} (h : Evs n e x (.slice A m c)) (q : m = m') : Evs n e x (.slice A m' c) := q ▸ h
theorem Y.viewEl0 (hT : P.underlying T = some (.slice E)) (hk : P.cellsOf E = k + 1) (hi : L[i]? = some (cR enc sz A cap E' xs)) (hx : Evs n e x (.slice A m c)) (hy : Evs n e y (.int kd idx)) (hb : 0 ≤ idx ∧ idx < m) (hb2 : idx < xs.length) :
    Yd P n base w0 e L ⟨D, .indexAddr T x y, t, pos, af, G⟩ (.pointer (some (elA A (idx.toNat * (k + 1))))) := by
  intro a w ha hw
  have hr := hw.row_lim hi
  exact Y.elemZ (base := base) (w0 := w0) (L := L) hT hk hx hy hb (hr.2.2 (by omega)) a w ha hw
end
end Go.Proofs.Ytkmmagekepoapaa
