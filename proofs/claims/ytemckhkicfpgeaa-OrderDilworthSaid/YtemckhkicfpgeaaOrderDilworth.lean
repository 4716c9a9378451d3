/- OrderDilworth: for every input the law returns true. -/
import Derived.Test.YtemckhkicfpgeaaRows
import Derived.Test.YtemckhkicfpgeaaLaw
import Derived.Test.YtemckhkicfpgeaaO11
import Derived.Test.YtemckhkicfpgeaaArg
set_option linter.unusedVariables false
set_option linter.unusedSimpArgs false
namespace Go.Proofs.Ytemckhkicfpgeaa.lawOrderDilworth
open Go.ChangeShapes Go.WideShapes Go.ChangeAt Go.RowKit
theorem own : ownKnob Try.prog.godebug = none := by kernel_rfl
set_option maxRecDepth 100000 in
theorem lifted (os : Os) (started : os.Started) (H : Type) (enc : TypeId × Value → H) :
    ReturnsInHanded {} Try.checked os 5 .any (Rows.orderDilworthSpec.pre6 enc Try.prog Try.f5 Rows.orderDilworthRow.domain false) (Rows.orderDilworthSpec.post enc Try.prog Try.f5 false true false false) := by
  refine returnsInHanded_of_change (C := Try.checked) own started (by kernel_rfl) Try.func5
    (ChangeSpec.witness6 (enc := enc) (C := Try.checked) false ⟨#[], #[(Value.agg #[(Value.int .i64 0), (Value.int .u16 0), (Value.int .u16 0), (Value.int .u16 0), (Value.int .u16 0), (Value.int .u16 0), (Value.int .u16 0), (Value.int .u16 0), (Value.int .u16 0), (Value.int .u16 0), (Value.int .u16 0), (Value.int .u16 0), (Value.int .u16 0)])], []⟩ 8 (by kernel_rfl) (by kernel_rfl) (by kernel_rfl) (by kernel_rfl)) ?_
  intro W base args ds gs before hval0 hW hcnd hreach
  have hval : ∀ (j : Nat) t v, Try.f5.params[j]? = some t → args[j]? = some v → Value.okWide Try.prog W .any base t v := hval0
  have hW2 := hW
  obtain ⟨p, q, hA0, hV, hpq, hfz, hnd⟩ := hW2
  have hA : DataW.TrodAll enc Try.prog W 0 (fun _ => true) true Try.f5.params.toList args.toList ds p := hA0
  rw [Try.params5] at hA hval
  obtain ⟨v0, vs0, d0, ds0, p0, q0, hargs, rfl, rfl, h0, r0⟩ := trodAll_cons hA
  obtain ⟨rfl, rfl, rfl⟩ := trodAll_nil r0
  obtain rfl : args = #[v0] := by cases args; simp_all
  have hgs : gs = [] := by
    cases gs with
    | nil => rfl
    | cons g gs => exact hV.elim
  subst hgs
  obtain ⟨z0, xs0, rfl, hz0, hl0, hr0⟩ := open_rel Try.underlying25 Try.underlying3 rfl (by kernel_rfl) Try.underlying23 rfl (by kernel_rfl) Try.underlying22 (by kernel_rfl) (by kernel_rfl) (hval 0 25 v0 rfl rfl) h0
  clear hA0 hval0
  refine (alibkeep_OrderDilworth_ok (N := 18446744073709551616) (Rl.dilworthLaw (by decide) Rl.ordLives (r := ⟨z0, xs0⟩) hr0) W).mono fun e W' ⟨he, hs⟩ => ?_
  subst he
  exact ⟨_, rfl, law_post (by kernel_rfl) (by kernel_rfl) rfl rfl Try.underlying4 hW rfl hs⟩
theorem over : Rows.orderDilworthRow.holds Try.pinned (OpenSpec.ofChange Rows.orderDilworthSpec) :=
  OpenClaim.holds_of_wide 5 Try.f5 rfl rfl rfl rfl rfl rfl rfl ⟨rfl, rfl, rfl, rfl, rfl⟩ rfl rfl rfl rfl rfl (by kernel_rfl) Try.func5 (by kernel_rfl)
    (of_decide_eq_true (by kernel_rfl)) (by unfold Func.isWrapper; first | (rw [if_pos (by decide +kernel)]; kernel_rfl) | (rw [if_neg (by decide +kernel)]; exact ⟨rfl, rfl⟩))
    (fun os started H enc _ => lifted os started H enc)
/-- The statement. -/
theorem proved : Rows.OrderDilworthSaid := over
end Go.Proofs.Ytemckhkicfpgeaa.lawOrderDilworth
