/- Pointers to elements that may be nil; literals of functions. It speaks of every program. -/
import Derived.Test.YtjdkkabcenohcaaGreatDoorBor
set_option linter.unusedVariables false
set_option linter.unusedSimpArgs false
set_option linter.unusedSectionVars false
namespace Go.Proofs.YtjdkkabcenohcaaGreatDoor
open Go.RowKit
variable {P : Program} {n : Nat} {base : Nat} {w0 w : World} {L : List Chunk} {e : Env}
variable {ops rest : List Oper} {Q : Exit → Act → World → Prop} {d : Nat} {D : Option Tmp} {op : Op} {t : TypeId} {pos : String} {af : Array Edge} {G : Option (Nat × Bool)} {v u : Value} {x y z : Operand} {K : Act → World → Prop}
/-- A pointer to element i, or nil where i is below 0. -/
def oel (A : Option Addr) (i : Int) (sz : Nat) : Option Addr := if i < 0 then none else some (elA A (i.toNat * sz))
theorem oel_some {A : Option Addr} {i : Int} {sz : Nat} (h : 0 ≤ i) : oel A i sz = some (elA A (i.toNat * sz)) := if_neg (by omega)
theorem oel_nil {A : Option Addr} {sz : Nat} : oel A (-1) sz = none := if_pos (by decide)
theorem resOel {A : Option Addr} {i : Int} {sz : Nat} (h : 0 ≤ i) : Ending.returned (Value.pointer (some (elA A (i.toNat * sz)))) = Ending.returned (Value.pointer (oel A i sz)) := by rw [oel_some h]
theorem resOelN {A : Option Addr} {sz : Nat} : Ending.returned (Value.pointer none) = Ending.returned (Value.pointer (oel A (-1) sz)) := by rw [oel_nil]
theorem Y.nilCheckO {A : Option Addr} {i : Int} {sz : Nat} (h : 0 ≤ i) (hx : Evs n e x (.pointer (oel A i sz))) : Yd P n base w0 e L ⟨D, .nilCheck x, t, pos, af, G⟩ (.pointer (some (elA A (i.toNat * sz)))) := by
  rw [oel_some h] at hx
  exact Y.nilCheck hx
theorem run_eqNilP {T E : TypeId} (hT : P.underlying T = some (.pointer E)) (o : Option Addr) (w : World) (dp : Nat) : (Op.equalIn (dp + 1) T (.pointer o) (.pointer none)).run P w = .ok o.isNone w := by
  cases o <;> simp [Op.equalIn, run_underlying hT]
theorem oel_isNone {A : Option Addr} {i : Int} {sz : Nat} : (oel A i sz).isNone = decide (i < 0) := by
  unfold oel
  by_cases h : i < 0
  · rw [if_pos h, decide_eq_true h]; rfl
  · rw [if_neg h, decide_eq_false h]; rfl
theorem Y.eqlO {T E : TypeId} {A : Option Addr} {i : Int} {sz : Nat} {ty : TypeId} (hT : P.underlying T = some (.pointer E)) (hx : Evs n e x (.pointer (oel A i sz))) : Yd P n base w0 e L ⟨D, .binOp .eql T x (.const (.pointer none)) ty, t, pos, af, G⟩ (.bool (decide (i < 0))) := by
  intro a w ha _
  have := run_eqNilP (P := P) hT (oel A i sz) w 9999
  rw [oel_isNone] at this
  simp [execOp, hx a ha, ev_const, eqGuard, binOp, Op.equal, Op.maxDepth, this]
theorem Y.neqO {T E : TypeId} {A : Option Addr} {i : Int} {sz : Nat} {ty : TypeId} (hT : P.underlying T = some (.pointer E)) (hx : Evs n e x (.pointer (oel A i sz))) : Yd P n base w0 e L ⟨D, .binOp .neq T x (.const (.pointer none)) ty, t, pos, af, G⟩ (.bool (!(decide (i < 0)))) := by
  intro a w ha _
  have := run_eqNilP (P := P) hT (oel A i sz) w 9999
  rw [oel_isNone] at this
  simp [execOp, hx a ha, ev_const, eqGuard, binOp, Op.equal, Op.maxDepth, this]
theorem Evs.cast (hx : Evs n e x v) (h : v = u) : Evs n e x u := h ▸ hx
theorem inb_ix {α : Type} {xs : List α} {i m : Int} {d : α} (h : inb m i = true) (hm : m = xs.length) : xs[i.toNat]? = some (xs.getD i.toNat d) := by
  have := inb_lt h
  rw [getD_of (by omega), List.getElem?_eq_getElem (by omega)]
theorem inb_len {α : Type} {xs : List α} {i m : Int} (h : inb m i = true) (hm : m = xs.length) : 0 ≤ i ∧ i < xs.length := by
  have := inb_lt h; omega
end Go.Proofs.YtjdkkabcenohcaaGreatDoor
