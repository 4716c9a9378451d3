/- Arguments that are structs of a number and an array of numbers. It speaks of every program. -/
import Derived.Test.YtemckhkicfpgeaaOpen
import Derived.Test.YtemckhkicfpgeaaPl
set_option linter.unusedVariables false
set_option linter.unusedSimpArgs false
namespace Go.Proofs.Ytemckhkicfpgeaa
open Go.ChangeShapes Go.WideShapes Go.ChangeAt Go.RowKit
section
variable {H : Type} {enc : TypeId × Value → H} {P : Program}
theorem encA_map (k : IntKind) {n : Nat} {xs : List Int} (h : xs.length = n) : encA n (eI k) 0 xs = xs.map (Value.int k) := by
  subst h
  unfold encA eI
  apply List.ext_getElem?
  intro i
  rw [show (List.range xs.length).flatMap (fun i => [Value.int k (xs.getD i 0)]) = (List.range xs.length).map fun i => Value.int k (xs.getD i 0) from by
    induction List.range xs.length with
    | nil => rfl
    | cons a l ih => rw [List.flatMap_cons, List.map_cons, ih]; rfl]
  by_cases hi : i < xs.length
  · simp [hi]
  · simp [hi, List.getElem?_eq_none (Nat.le_of_not_lt hi)]
theorem open_rel {W : World} {base b0 : Nat} {sp : Nat → Bool} {held : Bool} {r : Reach} {t e n : Nat} {f0 f1 : Field} {v : Value} {d : DataW H} {ps : List MemPlace}
    (ht : P.underlying t = some (.struct #[f0, f1])) (h0 : P.underlying f0.type = some (.int .i64)) (o0 : f0.offset = 0) (c0 : P.cellsOf f0.type = 1) (h1 : P.underlying f1.type = some (.array n e)) (o1 : f1.offset = 1) (c1 : P.cellsOf f1.type = n) (he : P.underlying e = some (.int .u16)) (ce : P.cellsOf e = 1) (ct : P.cellsOf t = n + 1)
    (hv : Value.okWide P W r b0 t v) (h : DataW.Trod enc P W base sp held t v d ps) :
    ∃ (z : Int) (xs : List Int), v = .agg (Value.int .i64 z :: (encA n (eI .u16) 0 xs ++ [])).toArray ∧ (-9223372036854775808 ≤ z ∧ z ≤ 9223372036854775807) ∧ xs.length = n ∧ ∀ i, i < n → 0 ≤ xs.getD i 0 ∧ xs.getD i 0 < 65536 := by
  obtain ⟨cs, rfl, hsz⟩ := okWide_struct ht hv
  obtain ⟨fuel, hf⟩ := h
  obtain ⟨ys, n', _, _, hl, hyl, hff⟩ := DataW.trod_struct ht hf
  simp only [Value.cells] at hl hff
  have hcl : cs.toList.length = n + 1 := by simpa [ct] using hsz
  have g0 := hff 0 f0 rfl
  have g1 := hff 1 f1 rfl
  have hy : ys.length = 2 := hyl
  rw [o0, c0, List.getElem?_eq_getElem (by omega)] at g0
  rw [o1, c1, List.getElem?_eq_getElem (by omega)] at g1
  obtain ⟨z, g2, _, g3⟩ := DataW.trod_int h0 g0
  obtain ⟨xs, m, _, _, k1, k2, k3⟩ := DataW.trod_array h1 g1
  have each : ∀ i, i < n → ∃ u, cs.toList[i + 1]? = some (.int .u16 u) ∧ 0 ≤ u ∧ u ≤ 65535 := by
    intro i hi
    have k4 := k3 i hi
    rw [ce, Nat.mul_one, List.getElem?_eq_getElem (by omega)] at k4
    obtain ⟨u, k5, _, k6⟩ := DataW.trod_int he k4
    refine ⟨u, ?_, bounds_u16 k6⟩
    have e1 : (List.take 1 (List.drop i (List.take n (List.drop 1 cs.toList))))[0]? = cs.toList[i + 1]? := by
      rw [List.getElem?_take, if_pos (by decide), List.getElem?_drop, List.getElem?_take, if_pos (by omega), List.getElem?_drop]
      congr 1; omega
    rw [k5] at e1
    exact e1.symm
  have hz : cs.toList[0]? = some (.int .i64 z) := by
    have e1 : (List.take 1 (List.drop 0 cs.toList))[0]? = cs.toList[0]? := by
      rw [List.getElem?_take, if_pos (by decide), List.getElem?_drop]
    rw [g2] at e1
    exact e1.symm
  let g : Nat → Int := fun i => match cs.toList[i + 1]? with
    | some (.int _ u) => u
    | _ => 0
  have hg : ∀ i, i < n → cs.toList[i + 1]? = some (.int .u16 (g i)) ∧ 0 ≤ g i ∧ g i ≤ 65535 := by
    intro i hi
    obtain ⟨u, hu, hb⟩ := each i hi
    have : g i = u := by simp only [g, hu]
    rw [this]; exact ⟨hu, hb⟩
  refine ⟨z, (List.range n).map g, ?_, bounds_i64 g3, by simp, fun i hi => ?_⟩
  · rw [encA_map .u16 (by simp), List.append_nil]
    have : cs.toList = Value.int .i64 z :: ((List.range n).map g).map (Value.int .u16) := by
      apply List.ext_getElem?
      intro i
      cases i with
      | zero => rw [hz]; rfl
      | succ i =>
        by_cases hi : i < n
        · rw [(hg i hi).1]; simp [hi]
        · rw [List.getElem?_eq_none (by omega)]; simp [hi]
    rw [← this]
  · have := hg i hi
    simp only [List.getD_eq_getElem?_getD, List.getElem?_map, List.getElem?_range hi, Option.map_some, Option.getD_some]
    omega
end
end Go.Proofs.Ytemckhkicfpgeaa
