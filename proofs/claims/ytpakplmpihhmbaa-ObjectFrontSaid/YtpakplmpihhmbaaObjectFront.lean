/- ObjectFront: for every input the law returns true. -/
import Derived.Test.YtpakplmpihhmbaaRows
import Derived.Test.YtpakplmpihhmbaaLaw
import Derived.Test.YtpakplmpihhmbaaK5
import Derived.Test.YtpakplmpihhmbaaK6
set_option linter.unusedVariables false
set_option linter.unusedSimpArgs false
namespace Go.Proofs.Ytpakplmpihhmbaa.lawObjectFront
open Go.ChangeShapes Go.WideShapes Go.ChangeAt Go.RowKit
theorem open_sized {H : Type} {enc : TypeId × Value → H} {P : Program} {W : World} {base : Nat} {sp : Nat → Bool} {held : Bool} {t e : TypeId} {v : Value} {d : DataW H} {ps : List MemPlace} {a : Option Addr} {len cap : Nat} (ht : P.underlying t = some (.slice e)) (h : DataW.Trod enc P W base sp held t v d ps) (hv : v = .slice a len cap) (hw : ∀ n ∈ d.weights P t, n ≤ reachBytes) : len * P.bytesOf e ≤ reachBytes := by
  subst hv
  obtain ⟨fuel, hfu⟩ := h
  rcases Go.Deep.open_slice ht hfu with ⟨hcs, _⟩ | ⟨a1, len1, cap1, m, nn, D, Pl, hcs, hb, hlc, hm, hmm, hxx, hx⟩
  · simp [Value.cells] at hcs
    rw [hcs.2.1, Nat.zero_mul]; exact Nat.zero_le _
  · simp [Value.cells] at hcs
    obtain ⟨rfl, rfl, rfl⟩ := hcs
    obtain ⟨rfl, _⟩ := Prod.mk.inj hxx
    have h9 := hw _ (by simp only [DataW.weights, ht]; exact List.mem_cons_self)
    refine Nat.le_trans (Nat.mul_le_mul_right _ ?_) h9
    rw [List.length_map, List.length_range]
    exact Nat.le_add_right _ _
theorem own : ownKnob Try.prog.godebug = none := by kernel_rfl
set_option maxRecDepth 100000 in
theorem lifted (os : Os) (started : os.Started) (H : Type) (enc : TypeId × Value → H) :
    ReturnsInHanded {} Try.checked os 4 .any (Rows.objectFrontSpec.pre6 enc Try.prog Try.f4 Rows.objectFrontRow.domain false) (Rows.objectFrontSpec.post enc Try.prog Try.f4 false true false false) := by
  refine returnsInHanded_of_change_sized (C := Try.checked) own started (by kernel_rfl) Try.func4
    (ChangeSpec.witness6 (enc := enc) (C := Try.checked) false ⟨#[], #[.int .i64 0, .slice none 0 0, (Value.agg #[(Value.int .i64 0), (Value.int .i64 0), (Value.int .i64 0)])], []⟩ 8 (by kernel_rfl) (by kernel_rfl) (by kernel_rfl) (by kernel_rfl)) ?_
  intro W base args ds gs before hval0 hW hcnd hsz hreach
  have hval : ∀ (j : Nat) t v, Try.f4.params[j]? = some t → args[j]? = some v → Value.okWide Try.prog W .any base t v := hval0
  have hW2 := hW
  obtain ⟨p, q, hA0, hV, hpq, hfz, hnd⟩ := hW2
  have hA : DataW.TrodAll enc Try.prog W 0 (fun _ => true) true Try.f4.params.toList args.toList ds p := hA0
  rw [Try.params4] at hA hval
  obtain ⟨v0, vs0, d0, ds0, p0, q0, hargs, rfl, rfl, h0, r0⟩ := trodAll_cons hA
  obtain ⟨v1, vs1, d1, ds1, p1, q1, rfl, rfl, rfl, h1, r1⟩ := trodAll_cons r0
  obtain ⟨v2, vs2, d2, ds2, p2, q2, rfl, rfl, rfl, h2, r2⟩ := trodAll_cons r1
  obtain ⟨rfl, rfl, rfl⟩ := trodAll_nil r2
  obtain rfl : args = #[v0, v1, v2] := by cases args; simp_all
  have hgs : gs = [] := by
    cases gs with
    | nil => rfl
    | cons g gs => exact hV.elim
  subst hgs
  obtain ⟨typ, rfl, rfl, rfl, wf0⟩ := open_int Try.underlying3 (hval 0 3 v0 rfl rfl) h0
  obtain ⟨l, hi1, hl1, hb1⟩ := open_rows (encA := encDo) (sz := 3) decDo decDo_ok Try.underlying26 Try.underlying28 (by kernel_rfl) rfl (by kernel_rfl) (by decide) (hval 1 26 v1 rfl rfl) h1
  obtain ⟨more, rfl, wr2⟩ := open_flat (encA := encDo) (sz := 3) decDo decDo_ok Try.underlying28 (by kernel_rfl) rfl (by kernel_rfl) (hval 2 28 v2 rfl rfl) h2
  have hn1 : l.length * 24 ≤ 140737488351232 := by
    obtain ⟨a, cap, hv, _⟩ := hi1.is
    have h9 := open_sized Try.underlying26 h1 hv (fun n hn => by simpa using List.all_eq_true.1 hsz n (DataW.weights_mem_each (j := 1) (t := 26) (by kernel_rfl) rfl n hn))
    have hb9 : Try.prog.bytesOf 28 = 24 := by kernel_rfl
    rw [hb9] at h9
    exact h9
  clear hA0 hval0
  refine (alibkeep_ObjectFront_ok (N := 18446744073709551616) (Ob.frontLaw (by decide) Ob.objLives typ l (limB_of ⟨by unfold maxLen; omega, by omega⟩) more) W hi1).mono fun e W' ⟨he, hs⟩ => ?_
  subst he
  exact ⟨_, rfl, law_post (by kernel_rfl) (by kernel_rfl) rfl rfl Try.underlying4 hW rfl hs⟩
theorem over : Rows.objectFrontRow.holds Try.pinned (OpenSpec.ofChange Rows.objectFrontSpec) :=
  OpenClaim.holds_of_wide 4 Try.f4 rfl rfl rfl rfl rfl rfl rfl ⟨rfl, rfl, rfl, rfl, rfl⟩ rfl rfl rfl rfl rfl (by kernel_rfl) Try.func4 (by kernel_rfl)
    (of_decide_eq_true (by kernel_rfl)) (by unfold Func.isWrapper; first | (rw [if_pos (by decide +kernel)]; kernel_rfl) | (rw [if_neg (by decide +kernel)]; exact ⟨rfl, rfl⟩))
    (fun os started H enc _ => lifted os started H enc)
/-- The statement. -/
theorem proved : Rows.ObjectFrontSaid := over
end Go.Proofs.Ytpakplmpihhmbaa.lawObjectFront
