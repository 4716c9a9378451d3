/- Interfaces whose types are empty structs; what a slice reads, by itself. It speaks of every program. -/
import Derived.Test.YtkmmagekepoapaaView
set_option linter.unusedVariables false
set_option linter.unusedSimpArgs false
set_option linter.unusedSectionVars false
namespace Go.Proofs.Ytkmmagekepoapaa
open Go.RowKit
/-- A value of an interface whose types are empty structs; 0: nil. -/
def ifV (c : Int) : Value := if c = 0 then .nilIface else .iface c.toNat (.agg #[])
section
variable {P : Program} {n : Nat} {base : Nat} {w0 w : World} {L : List Chunk} {e : Env}
variable {ops rest : List Oper} {Q : Exit → Act → World → Prop} {K : Act → World → Prop} {d : Nat} {D : Option Tmp} {op : Op} {t : TypeId} {pos : String} {af : Array Edge} {G : Option (Nat × Bool)} {x y z : Operand} {v : Value}
theorem Y.nilM {name : String} {k : Nat} {u : Value} {cap : Array Value} (hn : ∀ w, (nilAhead (P.types.size + Made.depth) k u name).run P w = .ok (some false) w) (hx : Evs n e x (.func (.method name) #[.iface k u] cap)) :
    Yd P n base w0 e L ⟨D, .nilCheck x, t, pos, af, G⟩ (.func (.method name) #[.iface k u] cap) := by
  intro a w ha _
  simp [execOp, hx a ha, hn]
theorem WO.entO {L' : List Chunk} {o : Oper} (h : Ent L L') (k : WO P ops n base w0 e L' o K Q) : WO P ops n base w0 e L o K Q := fun a w ha hw => k a w ha (h.at _ _ _ hw)
/-! ### Structs of no size -/
end
/-! ### What a slice reads -/
section
variable {α : Type} {enc : α → List Value} {sz : Nat} {base : Nat} {w0 w : World} {L : List Chunk}
abbrev blkA (A : Option Addr) : Option Nat := A.map (·.block)
/-- What is read by a slice that leads into block o. -/
def cV (o : Option Nat) (enc : α → List Value) (sz : Nat) (A : Option Addr) (cap : Nat) (xs : List α) : Chunk :=
  ⟨o.toList, fun f => ∀ w : World, (∀ b ∈ o.toList, w.heap[b]? = f b) → SlIn enc sz w (.slice A xs.length cap) xs, fun f g h hf w hw => hf w fun b hb => by rw [hw b hb, h b hb]⟩
end
end Go.Proofs.Ytkmmagekepoapaa
