/- ObjectFront, where what it reads is small: for every such input the law returns true. -/
import Derived.Test.YtpakplmpihhmbaaRows
import Derived.Test.YtpakplmpihhmbaaLaw
import Derived.Test.YtpakplmpihhmbaaK5
import Derived.Test.YtpakplmpihhmbaaK6
set_option linter.unusedVariables false
set_option linter.unusedSimpArgs false
namespace Go.Proofs.Ytpakplmpihhmbaa.lawObjectFrontUpto
open Go.ChangeShapes Go.WideShapes Go.ChangeAt Go.RowKit
theorem own : ownKnob Try.prog.godebug = none := by kernel_rfl
theorem bulk_pos {H : Type} (d : DataW H) : 1 ≤ Rows.uptoBulk d := by
  unfold Rows.uptoBulk
  split <;> omega
theorem bulk_len {H : Type} : ∀ (ds : List (DataW H)), ds.length ≤ Rows.uptoBulkAll ds
  | [] => Nat.zero_le _
  | d :: r => by
    have := bulk_len r
    have := bulk_pos d
    simp only [Rows.uptoBulkAll, List.length_cons]
    omega
theorem open_len {H : Type} {enc : TypeId × Value → H} {P : Program} {W : World} {base : Nat} {sp : Nat → Bool} {held : Bool} {t e : TypeId} {v : Value} {d : DataW H} {ps : List MemPlace} {a : Option Addr} {len cap : Nat} (ht : P.underlying t = some (.slice e)) (h : DataW.Trod enc P W base sp held t v d ps) (hv : v = .slice a len cap) : len ≤ Rows.uptoBulk d := by
  subst hv
  obtain ⟨fuel, hfu⟩ := h
  rcases Go.Deep.open_slice ht hfu with ⟨hcs, _⟩ | ⟨a1, len1, cap1, m, nn, D, Pl, hcs, hb, hlc, hm, hmm, hxx, hx⟩
  · simp [Value.cells] at hcs
    omega
  · simp [Value.cells] at hcs
    obtain ⟨rfl, rfl, rfl⟩ := hcs
    obtain ⟨rfl, _⟩ := Prod.mk.inj hxx
    have := bulk_len ((List.range len).map D)
    rw [List.length_map, List.length_range] at this
    simp only [Rows.uptoBulk]
    omega
set_option maxRecDepth 100000 in
theorem lifted (os : Os) (started : os.Started) (H : Type) (enc : TypeId × Value → H) (F0 : Stop.Interp) :
    ReturnsInHanded {} Try.checked os 4 .any ((Rows.OpenSpec.upto Rows.objectFrontSpec).pre6 enc Try.prog Try.f4 Rows.objectFrontUptoRow.domain false) (((Rows.OpenSpec.upto Rows.objectFrontSpec).at F0).post enc Try.prog Try.f4 false true false false) := by
  refine returnsInHanded_of_cond (C := Try.checked) (s := (Rows.OpenSpec.upto Rows.objectFrontSpec)) (k := Rows.uptoSmall) rfl own started (by kernel_rfl) Try.func4
    (OpenSpec.witness (enc := enc) (C := Try.checked) (s := (Rows.OpenSpec.upto Rows.objectFrontSpec)) (k := Rows.uptoSmall) rfl false ⟨#[], #[.int .i64 0, .slice none 0 0, (Value.agg #[(Value.int .i64 0), (Value.int .i64 0), (Value.int .i64 0)])], []⟩ 8 (by kernel_rfl) (by kernel_rfl) (by kernel_rfl)
      (x := ([.lit (.int .i64 0), .nil, .agg [.lit (.int .i64 0), .lit (.int .i64 0), .lit (.int .i64 0)]], [], [])) (by kernel_rfl) (by kernel_rfl) (by kernel_rfl)) ?_
  intro W base args ds gs before hval0 hW hcnd hk hreach
  have hval : ∀ (j : Nat) t v, Try.f4.params[j]? = some t → args[j]? = some v → Value.okWide Try.prog W .any base t v := hval0
  have hW2 := hW
  obtain ⟨p, q, hA0, hV, hpq, hfz, hnd⟩ := hW2
  have hA : DataW.TrodAll enc Try.prog W 0 (fun _ => true) true Try.f4.params.toList args.toList ds p := hA0
  rw [Try.params4] at hA hval
  obtain ⟨v0, vs0, d0, ds0, p0, q0, hargs, rfl, rfl, h0, r0⟩ := trodAll_cons hA
  obtain ⟨v1, vs1, d1, ds1, p1, q1, rfl, rfl, rfl, h1, r1⟩ := trodAll_cons r0
  obtain ⟨v2, vs2, d2, ds2, p2, q2, rfl, rfl, rfl, h2, r2⟩ := trodAll_cons r1
  obtain ⟨rfl, rfl, rfl⟩ := trodAll_nil r2
  obtain rfl : args = #[v0, v1, v2] := by cases args; simp_all
  have hgs : gs = [] := by
    cases gs with
    | nil => rfl
    | cons g gs => exact hV.elim
  subst hgs
  obtain ⟨typ, rfl, rfl, rfl, wf0⟩ := open_int Try.underlying3 (hval 0 3 v0 rfl rfl) h0
  obtain ⟨l, hi1, hl1, hb1⟩ := open_rows (encA := encDo) (sz := 3) decDo decDo_ok Try.underlying26 Try.underlying28 (by kernel_rfl) rfl (by kernel_rfl) (by decide) (hval 1 26 v1 rfl rfl) h1
  obtain ⟨more, rfl, wr2⟩ := open_flat (encA := encDo) (sz := 3) decDo decDo_ok Try.underlying28 (by kernel_rfl) rfl (by kernel_rfl) (hval 2 28 v2 rfl rfl) h2
  have hn1 : l.length ≤ 1048576 := by
    obtain ⟨a, cap, hv, _⟩ := hi1.is
    have h9 := open_len Try.underlying26 h1 hv
    have hk2 : Rows.uptoBulkAll _ ≤ 1048576 := of_decide_eq_true hk
    simp only [Rows.uptoBulkAll, List.append_nil] at hk2
    omega
  clear hA0 hval0
  refine (alibkeep_ObjectFront_ok (N := 18446744073709551616) (Ob.frontLaw (by decide) Ob.objLives typ l (limB_of ⟨by unfold maxLen; omega, by omega⟩) more) W hi1).mono fun e W' ⟨he, hs⟩ => ?_
  subst he
  exact ⟨_, rfl, law_post (by kernel_rfl) (by kernel_rfl) rfl rfl Try.underlying4 hW rfl hs⟩
theorem over : Rows.objectFrontUptoRow.holds Try.pinned (Rows.OpenSpec.upto Rows.objectFrontSpec) :=
  OpenClaim.holds_of_cond 4 Try.f4 rfl rfl rfl rfl rfl rfl rfl ⟨rfl, rfl, rfl, rfl, rfl⟩ rfl rfl rfl rfl rfl (by kernel_rfl) Try.func4 (by kernel_rfl)
    (of_decide_eq_true (by kernel_rfl)) (by unfold Func.isWrapper; first | (rw [if_pos (by decide +kernel)]; kernel_rfl) | (rw [if_neg (by decide +kernel)]; exact ⟨rfl, rfl⟩))
    (fun os started H enc _ F0 => lifted os started H enc F0)
/-- The statement. -/
theorem proved : Rows.ObjectFrontUptoSaid := over
end Go.Proofs.Ytpakplmpihhmbaa.lawObjectFrontUpto
