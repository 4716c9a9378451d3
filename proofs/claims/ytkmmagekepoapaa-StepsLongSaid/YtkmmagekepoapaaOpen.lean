/- Arguments that are slices of structs of numbers. It speaks of every program. -/
import Derived.Test.YtkmmagekepoapaaLaw
import Derived.Test.YtkmmagekepoapaaRow
set_option linter.unusedVariables false
set_option linter.unusedSimpArgs false
namespace Go.Proofs.Ytkmmagekepoapaa
open Go.ChangeShapes Go.WideShapes Go.ChangeAt Go.RowKit
section
variable {H : Type} {enc : TypeId × Value → H} {P : Program}
/-- Fields of one number each, one behind the other. -/
def numFields (P : Program) : Nat → List Field → Bool
  | _, [] => true
  | k, f :: fs => Nat.beq f.offset k && Nat.beq (P.cellsOf f.type) 1 && (match P.underlying f.type with | some (.int .i64) => true | _ => false) && numFields P (k + 1) fs
theorem numFields_get : ∀ {fs : List Field} {k j : Nat} {f : Field}, numFields P k fs = true → fs[j]? = some f → f.offset = k + j ∧ P.cellsOf f.type = 1 ∧ P.underlying f.type = some (.int .i64)
  | [], _, _, _, _, h => by simp at h
  | g :: fs, k, 0, f, h, hj => by
    simp only [numFields, Bool.and_eq_true] at h
    obtain ⟨⟨⟨h1, h2⟩, h3⟩, _⟩ := h
    obtain rfl : g = f := by simpa using hj
    refine ⟨Nat.eq_of_beq_eq_true h1, Nat.eq_of_beq_eq_true h2, ?_⟩
    split at h3 <;> simp_all
  | g :: fs, k, j + 1, f, h, hj => by
    simp only [numFields, Bool.and_eq_true] at h
    have := numFields_get h.2 (by simpa using hj : fs[j]? = some f)
    exact ⟨by omega, this.2⟩
/-- The number in a cell. -/
def cellInt (w : World) (A : Option Addr) (k : Nat) : Int := match w.cell? (elA A k) with
  | some (.int _ z) => z
  | _ => 0
def rowInt (w : World) (A : Option Addr) (sz i : Nat) : List Int := (List.range sz).map fun j => cellInt w A (i * sz + j)
theorem spot_none {w : World} {a : Addr} {v : Value} (h : w.cell? a = some v) : a.spot = none := by
  unfold World.cell? at h
  split at h
  · cases hs : a.spot with
    | none => rfl
    | some k => rw [hs] at h; simp at h
  · cases h
end
end Go.Proofs.Ytkmmagekepoapaa
