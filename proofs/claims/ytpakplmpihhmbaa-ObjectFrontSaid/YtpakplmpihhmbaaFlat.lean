/- Arguments that are structs of numbers. It speaks of every program. -/
import Derived.Test.YtpakplmpihhmbaaOpen
import Derived.Test.YtpakplmpihhmbaaPl
set_option linter.unusedVariables false
set_option linter.unusedSimpArgs false
namespace Go.Proofs.Ytpakplmpihhmbaa
open Go.ChangeShapes Go.WideShapes Go.ChangeAt Go.RowKit
section
variable {H : Type} {enc : TypeId × Value → H} {P : Program}
theorem open_flat {α : Type} {encA : α → List Value} {sz : Nat} (dec : List Int → α) (hdec : ∀ r : List Int, r.length = sz → encA (dec r) = ints r) {W : World} {base b0 : Nat} {sp : Nat → Bool} {held : Bool} {r : Reach} {t : TypeId} {fs : Array Field} {v : Value} {d : DataW H} {ps : List MemPlace}
    (ht : P.underlying t = some (.struct fs)) (hf : numFields P 0 fs.toList = true) (hn : fs.size = sz) (hc : P.cellsOf t = sz)
    (hv : Value.okWide P W r b0 t v) (h : DataW.Trod enc P W base sp held t v d ps) :
    ∃ x : α, v = .agg (encA x).toArray ∧ ∃ r, x = dec r ∧ r.length = sz ∧ ∀ y ∈ r, -9223372036854775808 ≤ y ∧ y ≤ 9223372036854775807 := by
  obtain ⟨cs, rfl, hsz⟩ := okWide_struct ht hv
  obtain ⟨fuel, hfu⟩ := h
  obtain ⟨ys, n', _, _, hl, hyl, hff⟩ := DataW.trod_struct ht hfu
  simp only [Value.cells] at hl hff
  have hcl : cs.toList.length = sz := by simpa [hc] using hsz
  have each : ∀ j, j < sz → ∃ z, cs.toList[j]? = some (.int .i64 z) ∧ -9223372036854775808 ≤ z ∧ z ≤ 9223372036854775807 := by
    intro j hj
    have hjf : fs.toList[j]? = some fs[j] := by simp [hn, hj]
    obtain ⟨ho, hk, hT⟩ := numFields_get hf hjf
    have h3 := hff j fs[j] (by simp [hn, hj])
    rw [ho, hk, Nat.zero_add, List.getElem?_eq_getElem (by omega)] at h3
    obtain ⟨z, g2, _, g3⟩ := DataW.trod_int hT h3
    refine ⟨z, ?_, bounds_i64 g3⟩
    have e1 : (List.take 1 (List.drop j cs.toList))[0]? = cs.toList[j]? := by
      rw [List.getElem?_take, if_pos (by decide), List.getElem?_drop]
      congr 1
    rw [g2] at e1
    exact e1.symm
  let g : Nat → Int := fun i => match cs.toList[i]? with
    | some (.int _ u) => u
    | _ => 0
  have hg : ∀ i, i < sz → cs.toList[i]? = some (.int .i64 (g i)) ∧ -9223372036854775808 ≤ g i ∧ g i ≤ 9223372036854775807 := by
    intro i hi
    obtain ⟨u, hu, hb⟩ := each i hi
    have : g i = u := by simp only [g, hu]
    rw [this]; exact ⟨hu, hb⟩
  refine ⟨dec ((List.range sz).map g), ?_, (List.range sz).map g, rfl, by simp, fun y hy => ?_⟩
  · rw [hdec _ (by simp)]
    have : cs.toList = ints ((List.range sz).map g) := by
      apply List.ext_getElem?
      intro i
      by_cases hi : i < sz
      · rw [(hg i hi).1]; simp [ints, hi]
      · rw [List.getElem?_eq_none (by omega)]; simp [ints, hi]
    rw [← this]
  · obtain ⟨i, hi, rfl⟩ := List.mem_map.1 hy
    exact (hg i (List.mem_range.1 hi)).2
end
end Go.Proofs.Ytpakplmpihhmbaa
