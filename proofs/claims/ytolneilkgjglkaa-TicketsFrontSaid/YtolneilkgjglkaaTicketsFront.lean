/- TicketsFront: for every input the law returns true. -/
import Derived.Test.YtolneilkgjglkaaRows
import Derived.Test.YtolneilkgjglkaaLaw
import Derived.Test.YtolneilkgjglkaaT4
import Derived.Test.YtolneilkgjglkaaT5
set_option linter.unusedVariables false
set_option linter.unusedSimpArgs false
namespace Go.Proofs.Ytolneilkgjglkaa.lawTicketsFront
open Go.ChangeShapes Go.WideShapes Go.ChangeAt Go.RowKit
theorem own : ownKnob Try.prog.godebug = none := by kernel_rfl
set_option maxRecDepth 100000 in
theorem lifted (os : Os) (started : os.Started) (H : Type) (enc : TypeId × Value → H) :
    ReturnsInHanded {} Try.checked os 4 .any (Rows.ticketsFrontSpec.pre6 enc Try.prog Try.f4 Rows.ticketsFrontRow.domain false) (Rows.ticketsFrontSpec.post enc Try.prog Try.f4 false true false false) := by
  refine returnsInHanded_of_change (C := Try.checked) own started (by kernel_rfl) Try.func4
    (ChangeSpec.witness6 (enc := enc) (C := Try.checked) false ⟨#[], #[.slice none 0 0, .int .i64 0, .int .i64 0], []⟩ 8 (by kernel_rfl) (by kernel_rfl) (by kernel_rfl) (by kernel_rfl)) ?_
  intro W base args ds gs before hval0 hW hcnd hreach
  have hval : ∀ (j : Nat) t v, Try.f4.params[j]? = some t → args[j]? = some v → Value.okWide Try.prog W .any base t v := hval0
  have hW2 := hW
  obtain ⟨p, q, hA0, hV, hpq, hfz, hnd⟩ := hW2
  have hA : DataW.TrodAll enc Try.prog W 0 (fun _ => true) true Try.f4.params.toList args.toList ds p := hA0
  rw [Try.params4] at hA hval
  obtain ⟨v0, vs0, d0, ds0, p0, q0, hargs, rfl, rfl, h0, r0⟩ := trodAll_cons hA
  obtain ⟨v1, vs1, d1, ds1, p1, q1, rfl, rfl, rfl, h1, r1⟩ := trodAll_cons r0
  obtain ⟨v2, vs2, d2, ds2, p2, q2, rfl, rfl, rfl, h2, r2⟩ := trodAll_cons r1
  obtain ⟨rfl, rfl, rfl⟩ := trodAll_nil r2
  obtain rfl : args = #[v0, v1, v2] := by cases args; simp_all
  have hgs : gs = [] := by
    cases gs with
    | nil => rfl
    | cons g gs => exact hV.elim
  subst hgs
  obtain ⟨l, hi0, hl0, hb0⟩ := open_rows (encA := encEvent) (sz := 4) decEvent decEvent_ok Try.underlying22 Try.underlying39 (by kernel_rfl) rfl (by kernel_rfl) (by decide) (hval 0 22 v0 rfl rfl) h0
  obtain ⟨n, rfl, rfl, rfl, wf1⟩ := open_int Try.underlying3 (hval 1 3 v1 rfl rfl) h1
  obtain ⟨w, rfl, rfl, rfl, wf2⟩ := open_int Try.underlying3 (hval 2 3 v2 rfl rfl) h2
  clear hA0 hval0
  refine (alibkeep_TicketsFront_ok (N := 18446744073709551616) (Tk.frontLaw (by decide) Tk.lives l n w) W hi0).mono fun e W' ⟨he, hs⟩ => ?_
  subst he
  exact ⟨_, rfl, law_post (by kernel_rfl) (by kernel_rfl) rfl rfl Try.underlying4 hW rfl hs⟩
theorem over : Rows.ticketsFrontRow.holds Try.pinned (OpenSpec.ofChange Rows.ticketsFrontSpec) :=
  OpenClaim.holds_of_wide 4 Try.f4 rfl rfl rfl rfl rfl rfl rfl ⟨rfl, rfl, rfl, rfl, rfl⟩ rfl rfl rfl rfl rfl (by kernel_rfl) Try.func4 (by kernel_rfl)
    (of_decide_eq_true (by kernel_rfl)) (by unfold Func.isWrapper; first | (rw [if_pos (by decide +kernel)]; kernel_rfl) | (rw [if_neg (by decide +kernel)]; exact ⟨rfl, rfl⟩))
    (fun os started H enc _ => lifted os started H enc)
/-- The statement. -/
theorem proved : Rows.TicketsFrontSaid := over
end Go.Proofs.Ytolneilkgjglkaa.lawTicketsFront
