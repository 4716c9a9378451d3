/- Arguments that are slices of structs of numbers. It speaks of every program. -/
import Derived.Test.YtpakplmpihhmbaaLaw
import Derived.Test.YtpakplmpihhmbaaRow
set_option linter.unusedVariables false
set_option linter.unusedSimpArgs false
namespace Go.Proofs.Ytpakplmpihhmbaa
open Go.ChangeShapes Go.WideShapes Go.ChangeAt Go.RowKit
section
variable {H : Type} {enc : TypeId × Value → H} {P : Program}
/-- Fields of one number each, one behind the other. -/
def numFields (P : Program) : Nat → List Field → Bool
  | _, [] => true
  | k, f :: fs => Nat.beq f.offset k && Nat.beq (P.cellsOf f.type) 1 && (match P.underlying f.type with | some (.int .i64) => true | _ => false) && numFields P (k + 1) fs
theorem numFields_get : ∀ {fs : List Field} {k j : Nat} {f : Field}, numFields P k fs = true → fs[j]? = some f → f.offset = k + j ∧ P.cellsOf f.type = 1 ∧ P.underlying f.type = some (.int .i64)
  | [], _, _, _, _, h => by simp at h
  | g :: fs, k, 0, f, h, hj => by
    simp only [numFields, Bool.and_eq_true] at h
    obtain ⟨⟨⟨h1, h2⟩, h3⟩, _⟩ := h
    obtain rfl : g = f := by simpa using hj
    refine ⟨Nat.eq_of_beq_eq_true h1, Nat.eq_of_beq_eq_true h2, ?_⟩
    split at h3 <;> simp_all
  | g :: fs, k, j + 1, f, h, hj => by
    simp only [numFields, Bool.and_eq_true] at h
    have := numFields_get h.2 (by simpa using hj : fs[j]? = some f)
    exact ⟨by omega, this.2⟩
/-- The number in a cell. -/
def cellInt (w : World) (A : Option Addr) (k : Nat) : Int := match w.cell? (elA A k) with
  | some (.int _ z) => z
  | _ => 0
def rowInt (w : World) (A : Option Addr) (sz i : Nat) : List Int := (List.range sz).map fun j => cellInt w A (i * sz + j)
theorem spot_none {w : World} {a : Addr} {v : Value} (h : w.cell? a = some v) : a.spot = none := by
  unfold World.cell? at h
  split at h
  · cases hs : a.spot with
    | none => rfl
    | some k => rw [hs] at h; simp at h
  · cases h
theorem open_rows {α : Type} {encA : α → List Value} {sz : Nat} (dec : List Int → α) (hdec : ∀ r : List Int, r.length = sz → encA (dec r) = ints r) {W : World} {base b0 : Nat} {sp : Nat → Bool} {held : Bool} {r : Reach} {t e : TypeId} {fs : Array Field} {v : Value} {d : DataW H} {ps : List MemPlace}
    (ht : P.underlying t = some (.slice e)) (he : P.underlying e = some (.struct fs)) (hf : numFields P 0 fs.toList = true) (hn : fs.size = sz) (hc : P.cellsOf e = sz) (h0 : 0 < sz)
    (hv : Value.okWide P W r b0 t v) (h : DataW.Trod enc P W base sp held t v d ps) :
    ∃ xs : List α, SlIn encA sz W v xs ∧ xs.length ≤ maxLen ∧ ∀ x ∈ xs, ∃ r, x = dec r ∧ r.length = sz ∧ ∀ y ∈ r, -9223372036854775808 ≤ y ∧ y ≤ 9223372036854775807 := by
  obtain ⟨a, len, cap, rfl⟩ := okWide_slice ht hv
  obtain ⟨fuel, hfu⟩ := h
  rcases Go.Deep.open_slice ht hfu with ⟨hcs, _⟩ | ⟨a1, len1, cap1, m, nn, D, Pl, hcs, hb, hlc, hm, hmm, _, hx⟩
  · simp [Value.cells] at hcs
    obtain ⟨rfl, rfl, rfl⟩ := hcs
    exact ⟨[], SlIn.nil, by simp, by simp⟩
  · simp [Value.cells] at hcs
    obtain ⟨rfl, rfl, rfl⟩ := hcs
    have hlm : len ≤ m := by rw [hmm]; split <;> omega
    have each : ∀ i, i < len → ∀ j, j < sz → ∃ z, W.cell? ((a1.add (i * sz)).add j) = some (.int .i64 z) ∧ -9223372036854775808 ≤ z ∧ z ≤ 9223372036854775807 := by
      intro i hi j hj
      obtain ⟨cs, h1, h2⟩ := hx i (by omega)
      rw [hc] at h1
      obtain ⟨_, hcl, hat⟩ := World.cells?_some h1
      obtain ⟨ys, n', _, _, _, hyl, hff⟩ := DataW.trod_struct he h2
      have hjf : fs.toList[j]? = some fs[j] := by simp [hn, hj]
      obtain ⟨ho, hk, hT⟩ := numFields_get hf hjf
      have h3 := hff j fs[j] (by simp [hn, hj])
      rw [ho, hk, Nat.zero_add, List.getElem?_eq_getElem (by omega)] at h3
      obtain ⟨z, h4, _, h5⟩ := DataW.trod_int hT h3
      have hcj : cs[j]? = some (.int .i64 z) := by
        have : (cs.drop j).take 1 = [cs[j]'(by omega)] := by rw [List.drop_eq_getElem_cons (by omega)]; rfl
        rw [this] at h4
        rw [List.getElem?_eq_getElem (by omega)]
        simpa using h4
      exact ⟨z, by rw [hat j hj, hcj], bounds_i64 h5⟩
    have hrow : ∀ i, i < len → okA (some a1) ∧ ∀ j, j < sz → W.cell? (elA (some a1) (i * sz + j)) = some (.int .i64 (cellInt W (some a1) (i * sz + j))) ∧ -9223372036854775808 ≤ cellInt W (some a1) (i * sz + j) ∧ cellInt W (some a1) (i * sz + j) ≤ 9223372036854775807 := by
      intro i hi
      have hsp : a1.spot = none := by
        obtain ⟨z, hz, _⟩ := each 0 (by omega) 0 h0
        have e0 : (a1.add (0 * sz)).add 0 = a1 := by rw [Nat.zero_mul]; rfl
        rw [e0] at hz
        exact spot_none hz
      refine ⟨⟨rfl, fun p hp => by cases hp; exact hsp⟩, fun j hj => ?_⟩
      obtain ⟨z, hz, hz2⟩ := each i hi j hj
      obtain ⟨b, o, s⟩ := a1
      simp only at hsp
      subst hsp
      rw [add_none, add_none, Nat.add_assoc] at hz
      have e1 : cellInt W (some ⟨b, o, none⟩) (i * sz + j) = z := by simp [cellInt, elA, hz]
      rw [e1]
      exact ⟨by simpa [elA] using hz, hz2⟩
    refine ⟨(List.range len).map fun i => dec (rowInt W (some a1) sz i), ⟨some a1, cap, by simp, by simpa using hlc, fun i hi => ?_⟩, by simp; omega, fun x hx => ?_⟩
    · have hi' : i < len := by simpa using hi
      refine ⟨(hrow i hi').1, fun j u hu => ?_⟩
      simp only [List.getElem_map, List.getElem_range] at hu
      rw [hdec _ (by simp [rowInt])] at hu
      have hj : j < sz := by have := (List.getElem?_eq_some_iff.1 hu).1; simpa [ints, rowInt] using this
      have := ((hrow i hi').2 j hj).1
      rw [this]
      simpa [ints, rowInt, hj] using hu
    · obtain ⟨i, hi, rfl⟩ := List.mem_map.1 hx
      have hi' : i < len := List.mem_range.1 hi
      refine ⟨_, rfl, by simp [rowInt], fun y hy => ?_⟩
      obtain ⟨j, hj, rfl⟩ := List.mem_map.1 hy
      exact ((hrow i hi').2 j (List.mem_range.1 hj)).2
end
end Go.Proofs.Ytpakplmpihhmbaa
