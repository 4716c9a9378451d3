/- StepsLong: for every input the law returns true. -/
import Derived.Test.YtkmmagekepoapaaRows
import Derived.Test.YtkmmagekepoapaaLaw
import Derived.Test.YtkmmagekepoapaaO6
import Derived.Test.YtkmmagekepoapaaP9
set_option linter.unusedVariables false
set_option linter.unusedSimpArgs false
namespace Go.Proofs.Ytkmmagekepoapaa.lawStepsLong
open Go.ChangeShapes Go.WideShapes Go.ChangeAt Go.RowKit
theorem own : ownKnob Try.prog.godebug = none := by kernel_rfl
set_option maxRecDepth 100000 in
theorem lifted (os : Os) (started : os.Started) (H : Type) (enc : TypeId × Value → H) :
    ReturnsInHanded {} Try.checked os 9 .any (Rows.stepsLongSpec.pre6 enc Try.prog Try.f9 Rows.stepsLongRow.domain false) (Rows.stepsLongSpec.post enc Try.prog Try.f9 false true false false) := by
  refine returnsInHanded_of_change (C := Try.checked) own started (by kernel_rfl) Try.func9
    (ChangeSpec.witness6 (enc := enc) (C := Try.checked) false ⟨#[], #[.slice none 0 0, .slice none 0 0], []⟩ 8 (by kernel_rfl) (by kernel_rfl) (by kernel_rfl) (by kernel_rfl)) ?_
  intro W base args ds gs before hval0 hW hcnd hreach
  have hval : ∀ (j : Nat) t v, Try.f9.params[j]? = some t → args[j]? = some v → Value.okWide Try.prog W .any base t v := hval0
  have hW2 := hW
  obtain ⟨p, q, hA0, hV, hpq, hfz, hnd⟩ := hW2
  have hA : DataW.TrodAll enc Try.prog W 0 (fun _ => true) true Try.f9.params.toList args.toList ds p := hA0
  rw [Try.params9] at hA hval
  obtain ⟨v0, vs0, d0, ds0, p0, q0, hargs, rfl, rfl, h0, r0⟩ := trodAll_cons hA
  obtain ⟨v1, vs1, d1, ds1, p1, q1, rfl, rfl, rfl, h1, r1⟩ := trodAll_cons r0
  obtain ⟨rfl, rfl, rfl⟩ := trodAll_nil r1
  obtain rfl : args = #[v0, v1] := by cases args; simp_all
  have hgs : gs = [] := by
    cases gs with
    | nil => rfl
    | cons g gs => exact hV.elim
  subst hgs
  obtain ⟨p, A0, c0, hd0, rfl, hi0, hl0, hb0⟩ := open_nest (encA := encAsk) (sz := 3) decAsk decAsk_ok Try.underlying22 (by kernel_rfl) Try.underlying33 Try.underlying83 (by kernel_rfl) rfl (by kernel_rfl) (by decide) (hval 0 22 v0 rfl rfl) h0
  obtain ⟨l, hi1, hl1, hb1⟩ := open_IntsIn Try.underlying23 Try.underlying3 (by kernel_rfl) (hval 1 23 v1 rfl rfl) h1
  replace hi1 := IntsIn.sl hi1
  clear hA0 hval0
  refine (alibkeep_StepsLong_ok (N := 18446744073709551616) (Sp.longLaw (by decide) Sp.lives p l (fun q hq => by have := (hb0 q hq).1; unfold maxLen at this; omega)) W hi0 hi1).mono fun e W' ⟨he, hs⟩ => ?_
  subst he
  exact ⟨_, rfl, law_post (by kernel_rfl) (by kernel_rfl) rfl rfl Try.underlying4 hW rfl hs⟩
theorem over : Rows.stepsLongRow.holds Try.pinned (OpenSpec.ofChange Rows.stepsLongSpec) :=
  OpenClaim.holds_of_wide 9 Try.f9 rfl rfl rfl rfl rfl rfl rfl ⟨rfl, rfl, rfl, rfl, rfl⟩ rfl rfl rfl rfl rfl (by kernel_rfl) Try.func9 (by kernel_rfl)
    (of_decide_eq_true (by kernel_rfl)) (by unfold Func.isWrapper; first | (rw [if_pos (by decide +kernel)]; kernel_rfl) | (rw [if_neg (by decide +kernel)]; exact ⟨rfl, rfl⟩))
    (fun os started H enc _ => lifted os started H enc)
/-- The statement. -/
theorem proved : Rows.StepsLongSaid := over
end Go.Proofs.Ytkmmagekepoapaa.lawStepsLong
