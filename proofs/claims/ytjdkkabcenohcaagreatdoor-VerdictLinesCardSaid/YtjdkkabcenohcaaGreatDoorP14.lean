/- Lines, plainly. -/
import Derived.Test.YtjdkkabcenohcaaGreatDoorP13
set_option linter.unusedVariables false
set_option linter.unusedSimpArgs false
set_option linter.unusedSectionVars false
set_option maxRecDepth 100000
namespace Go.Proofs.YtjdkkabcenohcaaGreatDoor
open Go.RowKit
namespace Vd
open Tx Hs Sr
theorem lives : alibkeep_verdictLives 18446744073709551616 = some true := by kernel_rfl
theorem line_no {ps : List Pt} (hp : ∀ p ∈ ps, PtOk p) : (10 : UInt8) ∉ jn 32 (ps.map ptT) := jn_no (by decide) fun x hx => by
  obtain ⟨p, h, rfl⟩ := List.mem_map.1 hx
  exact pt_no (hp p h)
theorem lns_cnt : ∀ {L : List (List Pt)}, Lok L → (lns L).count 10 = L.length
  | [], _ => rfl
  | ps :: L, h => by
    have := lns_cnt (L := L) fun x hx => h x (by simp [hx])
    have h1 : (ln ps).count 10 = 1 := by
      unfold ln
      rw [List.count_append, List.count_eq_zero.2 (line_no (h ps (by simp)))]
      rfl
    unfold lns at *
    rw [List.flatMap_cons, List.count_append, h1, this, List.length_cons]
    omega
theorem lns_suf : ∀ {L : List (List Pt)}, L ≠ [] → ∃ x, x ++ [10] = lns L
  | [ps], _ => ⟨jn 32 (ps.map ptT), by simp [lns, ln]⟩
  | ps :: q :: L, _ => by
    obtain ⟨x, hx⟩ := lns_suf (L := q :: L) (by simp)
    refine ⟨ln ps ++ x, ?_⟩
    unfold lns at *
    rw [List.flatMap_cons, List.append_assoc, hx]
theorem lns_pre {h : ByteArray} {p : Pt} {r : List Pt} {R : List (List Pt)} : (bs h ++ [32]).isPrefixOf (lns ((.s h :: p :: r) :: R)) = true := by
  refine List.isPrefixOf_iff_prefix.2 ⟨jn 32 ((p :: r).map ptT) ++ [10] ++ lns R, ?_⟩
  have e : jn 32 ((.s h :: p :: r : List Pt).map ptT) = bs h ++ 32 :: jn 32 ((p :: r).map ptT) := jn_cons (r := (p :: r).map ptT) (by simp)
  unfold lns ln
  rw [List.flatMap_cons, e]
  simp only [List.append_assoc, List.cons_append, List.nil_append]
theorem linesLaw {N : Nat} (hN : 10000 < N) (hv : alibkeep_verdictLives N = some true) (s : ByteArray) : alibkeep_VerdictLines N s = some true := by
  refine Wp.eq ?_
  unfold alibkeep_VerdictLines
  refine .seq (run_wp hN s) fun o _ ⟨⟨L, hL, ho, hS⟩, hz⟩ => ?_
  have hne : L ≠ [] := by
    rcases hS with ⟨_, _, _, rfl⟩ | ⟨_, _, _, _, _, _, _, _, _, _, _, _, rfl⟩ <;> simp
  have hc : countO N o (⟨#[10]⟩ : ByteArray) = some (L.length : Int) := by
    unfold countO
    rw [if_pos ⟨by omega, Nat.le_refl 1⟩]
    refine congrArg (fun n : Nat => some (n : Int)) ?_
    show Lib.count (bs o) [10] = _
    rw [Lib.count_one, ho, lns_cnt hL]
  have hsf : sufO N o (⟨#[10]⟩ : ByteArray) = some true := by
    unfold sufO
    rw [if_pos (by omega)]
    refine congrArg some (show Lib.hasSuffix (bs o) [10] = true from ?_)
    unfold Lib.hasSuffix
    rw [List.isSuffixOf_iff_suffix, ho]
    exact lns_suf hne
  refine .bdO hc (.bdO hv (.bdO (a := true) hsf (.condF rfl ?_)))
  rcases hS with ⟨e, a, _, rfl⟩ | ⟨types, l, c, op, W, S, _, _, _, _, hW, hT, rfl⟩
  · have h6 : preO N o (⟨#[101,114,114,111,114,32]⟩ : ByteArray) = some true := by
      unfold preO
      refine congrArg some (show (bs wE ++ [32]).isPrefixOf (bs o) = true from ?_)
      rw [ho]; exact lns_pre
    exact .bdO h6 (.bdO (a := false) rfl (.one rfl))
  · have h7 : preO N o (⟨#[99,97,108,108,115,32]⟩ : ByteArray) = some true := by
      unfold preO
      refine congrArg some (show (bs wK ++ [32]).isPrefixOf (bs o) = true from ?_)
      rw [ho]; exact lns_pre
    have hlen : W.length ≤ 3 ∧ S.length ≤ 1 := by
      constructor
      · rcases hW with ⟨_, _, _, h⟩ | ⟨_, rfl⟩
        · omega
        · simp
      · rcases hT with ⟨_, _, h⟩ | ⟨_, rfl⟩
        · exact h
        · simp
    refine .bdO (a := Lib.hasPrefix o.data.toList (⟨#[101,114,114,111,114,32]⟩ : ByteArray).data.toList) rfl ?_
    generalize Lib.hasPrefix o.data.toList (⟨#[101,114,114,111,114,32]⟩ : ByteArray).data.toList = b6
    cases hb : (b6 && decide ((([Pt.s wK, Pt.i (c.length : Int)] :: (W ++ S)).length : Int) = 1)) with
    | true => exact .bdO (a := false) rfl (.one rfl)
    | false =>
      refine .bdO (a := true) h7 (.one ?_)
      simp only [Bool.false_or, Bool.true_and, decide_eq_true_eq, List.length_cons, List.length_append]
      omega
end Vd

end Go.Proofs.YtjdkkabcenohcaaGreatDoor
