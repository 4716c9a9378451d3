/- Slices of slices that are the caller's own; rows of structs that hold slices of the caller's. It speaks of every program. -/
import Derived.Test.YtjdkkabcenohcaaGreatDoorView
import Derived.Test.YtjdkkabcenohcaaGreatDoorOpen
import Derived.Test.YtjdkkabcenohcaaGreatDoorPl
import Derived.Lib.AppendZeros
set_option linter.unusedVariables false
set_option linter.unusedSimpArgs false
set_option linter.unusedSectionVars false
namespace Go.Proofs.YtjdkkabcenohcaaGreatDoor
open Go.ChangeShapes Go.WideShapes Go.ChangeAt Go.RowKit

variable {P : Program} {n : Nat} {base : Nat} {w0 w : World} {L : List Chunk} {e : Env}
variable {ops rest : List Oper} {Q : Exit → Act → World → Prop} {d : Nat} {D : Option Tmp} {op : Op} {t : TypeId} {pos : String} {af : Array Edge} {G : Option (Nat × Bool)} {v u : Value} {x y z : Operand}

/-! ### Slices of slices -/
section
variable {α : Type} {enc : α → List Value} {sz cap m p : Nat} {A : Option Addr} {hs : List Hd} {xs : List (List α)} {a : List α} {kd : IntKind} {idx : Int} {E T : Nat}
structure SlNN (enc : α → List Value) (sz : Nat) (w : World) (A : Option Addr) (cap : Nat) (hs : List Hd) (xs : List (List α)) : Prop where
  cap_le : xs.length ≤ cap
  out : ∀ i a, xs[i]? = some a → okA A ∧ w.cell? (elA A i) = some (.slice (hs.getD i (none, 0)).1 a.length (hs.getD i (none, 0)).2)
  inn : ∀ i a, xs[i]? = some a → SlIn enc sz w (.slice (hs.getD i (none, 0)).1 a.length (hs.getD i (none, 0)).2) a
theorem SlNN.mono {w' : World} (h : SlNN enc sz w A cap hs xs) (hw : St w.heap.size w L w') : SlNN enc sz w' A cap hs xs :=
  ⟨h.cap_le, fun i a ha => ⟨(h.out i a ha).1, hw.roW (h.out i a ha).2⟩, fun i a ha => (h.inn i a ha).mono hw⟩
theorem SlNN.nil0 : SlNN enc sz w none 0 [] ([] : List (List α)) := ⟨Nat.le_refl _, fun i a h => by simp at h, fun i a h => by simp at h⟩
theorem SlNN.at (h : SlNN enc sz w A cap hs xs) (ha : ix xs idx = some a) : SlIn enc sz w (.slice (hs.getD idx.toNat (none, 0)).1 a.length (hs.getD idx.toNat (none, 0)).2) a := h.inn _ _ (ix_get ha)
end

/-! ### Rows of structs that hold slices of the caller's: what is known of these -/
section
variable {η α : Type} {enc : η → α → List Value} {inn : η → α → List Chunk} {sz : Nat} {A : Option Addr} {cap m k i p E T T' : Nat} {hs : List η} {xs : List α} {a : α} {h0 : η} {idx : Int}
theorem n_okA0 (h : St base w0 L w) (hi : L[i]? = some (cN enc inn sz A cap E hs xs)) : 0 < xs.length → okA A := fun hb => n_okA (idx := 0) h hi ⟨Int.le_refl _, by omega⟩
theorem Y.okField {T i off ft k m : Nat} {fs : Array Field} {j : Nat} {A : Option Addr} (hT : P.underlying T = some (.struct fs)) (hf : fieldIs P fs i off ft) (hk : P.cellsOf ft = k + 1) (hok : 0 < m → okA A) (hb : 0 < m) (hx : Evs n e x (.pointer (some (elA A j)))) :
    Yd P n base w0 e L ⟨D, .fieldAddr T x i, t, pos, af, G⟩ (.pointer (some (elA A (j + off)))) := Y.fieldAddrE hT hf hk (hok hb).1 hx
theorem WL.know {F : Prop} (hF : ∀ w, St base w0 L w → F) (h : F → WL P ops n base w0 e L rest Q) : WL P ops n base w0 e L rest Q := fun a w ha hw => h (hF w hw) a w ha hw
variable {K : Act → World → Prop}
end
section
variable {K : Act → World → Prop} {α : Type} {enc : α → List Value} {sz : Nat} {A : Option Addr} {cap m k i p E T T' : Nat} {xs : List α} {a a' : α} {kd : IntKind} {idx : Int}
end

/-! ### Boxes that may not be there -/
def ptO (b : Option Nat) : Option Addr := b.map fun b => ⟨b, 0, none⟩
def cBo (b : Option Nat) (T : TypeId) (cs : List Value) : Chunk := match b with
  | some b => cBx b T cs
  | none => cF True
theorem St.nilO (h : St base w0 L w) (T : TypeId) (cs : List Value) : St base w0 (cBo none T cs :: L) w := (Ent.fact (p := True) trivial).at _ _ _ h
section
variable {H : Type} {ench : TypeId × Value → H}
end
end Go.Proofs.YtjdkkabcenohcaaGreatDoor
