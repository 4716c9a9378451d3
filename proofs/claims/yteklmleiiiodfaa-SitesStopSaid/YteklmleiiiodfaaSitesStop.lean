/- SitesStop: for every input the law returns true. -/
import Derived.Test.YteklmleiiiodfaaRows
import Derived.Test.YteklmleiiiodfaaLaw
import Derived.Test.YteklmleiiiodfaaS12
import Derived.Test.YteklmleiiiodfaaS11
set_option linter.unusedVariables false
set_option linter.unusedSimpArgs false
namespace Go.Proofs.Yteklmleiiiodfaa.lawSitesStop
open Go.ChangeShapes Go.WideShapes Go.ChangeAt Go.RowKit
theorem open_sized {H : Type} {enc : TypeId × Value → H} {P : Program} {W : World} {base : Nat} {sp : Nat → Bool} {held : Bool} {t e : TypeId} {v : Value} {d : DataW H} {ps : List MemPlace} {a : Option Addr} {len cap : Nat} (ht : P.underlying t = some (.slice e)) (h : DataW.Trod enc P W base sp held t v d ps) (hv : v = .slice a len cap) (hw : ∀ n ∈ d.weights P t, n ≤ reachBytes) : len * P.bytesOf e ≤ reachBytes := by
  subst hv
  obtain ⟨fuel, hfu⟩ := h
  rcases Go.Deep.open_slice ht hfu with ⟨hcs, _⟩ | ⟨a1, len1, cap1, m, nn, D, Pl, hcs, hb, hlc, hm, hmm, hxx, hx⟩
  · simp [Value.cells] at hcs
    rw [hcs.2.1, Nat.zero_mul]; exact Nat.zero_le _
  · simp [Value.cells] at hcs
    obtain ⟨rfl, rfl, rfl⟩ := hcs
    obtain ⟨rfl, _⟩ := Prod.mk.inj hxx
    have h9 := hw _ (by simp only [DataW.weights, ht]; exact List.mem_cons_self)
    refine Nat.le_trans (Nat.mul_le_mul_right _ ?_) h9
    rw [List.length_map, List.length_range]
    exact Nat.le_add_right _ _
theorem own : ownKnob Try.prog.godebug = none := by kernel_rfl
set_option maxRecDepth 100000 in
theorem lifted (os : Os) (started : os.Started) (H : Type) (enc : TypeId × Value → H) :
    ReturnsInHanded {} Try.checked os 3 .any (Rows.sitesStopSpec.pre6 enc Try.prog Try.f3 Rows.sitesStopRow.domain false) (Rows.sitesStopSpec.post enc Try.prog Try.f3 false true false false) := by
  refine returnsInHanded_of_change_sized (C := Try.checked) own started (by kernel_rfl) Try.func3
    (ChangeSpec.witness6 (enc := enc) (C := Try.checked) false ⟨#[], #[.int .i64 0, .bool false, .slice none 0 0, .slice none 0 0], []⟩ 8 (by kernel_rfl) (by kernel_rfl) (by kernel_rfl) (by kernel_rfl)) ?_
  intro W base args ds gs before hval0 hW hcnd hsz hreach
  have hval : ∀ (j : Nat) t v, Try.f3.params[j]? = some t → args[j]? = some v → Value.okWide Try.prog W .any base t v := hval0
  have hW2 := hW
  obtain ⟨p, q, hA0, hV, hpq, hfz, hnd⟩ := hW2
  have hA : DataW.TrodAll enc Try.prog W 0 (fun _ => true) true Try.f3.params.toList args.toList ds p := hA0
  rw [Try.params3] at hA hval
  obtain ⟨v0, vs0, d0, ds0, p0, q0, hargs, rfl, rfl, h0, r0⟩ := trodAll_cons hA
  obtain ⟨v1, vs1, d1, ds1, p1, q1, rfl, rfl, rfl, h1, r1⟩ := trodAll_cons r0
  obtain ⟨v2, vs2, d2, ds2, p2, q2, rfl, rfl, rfl, h2, r2⟩ := trodAll_cons r1
  obtain ⟨v3, vs3, d3, ds3, p3, q3, rfl, rfl, rfl, h3, r3⟩ := trodAll_cons r2
  obtain ⟨rfl, rfl, rfl⟩ := trodAll_nil r3
  obtain rfl : args = #[v0, v1, v2, v3] := by cases args; simp_all
  have hgs : gs = [] := by
    cases gs with
    | nil => rfl
    | cons g gs => exact hV.elim
  subst hgs
  obtain ⟨n, rfl, rfl, rfl, wf0⟩ := open_int Try.underlying3 (hval 0 3 v0 rfl rfl) h0
  obtain ⟨f, rfl, rfl, rfl⟩ := open_bool Try.underlying4 (hval 1 4 v1 rfl rfl) h1
  obtain ⟨p, A2, c2, hd2, rfl, hi2, hl2, hb2⟩ := open_nest (encA := encAsk) (sz := 3) decAsk decAsk_ok Try.underlying22 (by kernel_rfl) Try.underlying41 Try.underlying58 (by kernel_rfl) rfl (by kernel_rfl) (by decide) (hval 2 22 v2 rfl rfl) h2
  obtain ⟨l, hi3, hl3, hb3⟩ := open_rows (encA := encAct) (sz := 2) decAct decAct_ok Try.underlying23 Try.underlying25 (by kernel_rfl) rfl (by kernel_rfl) (by decide) (hval 3 23 v3 rfl rfl) h3
  have hn3 : l.length * 16 ≤ 140737488351232 := by
    obtain ⟨a, cap, hv, _⟩ := hi3.is
    have h9 := open_sized Try.underlying23 h3 hv (fun n hn => by simpa using List.all_eq_true.1 hsz n (DataW.weights_mem_each (j := 3) (t := 23) (by kernel_rfl) rfl n hn))
    have hb9 : Try.prog.bytesOf 25 = 16 := by kernel_rfl
    rw [hb9] at h9
    exact h9
  clear hA0 hval0
  refine (alibkeep_SitesStop_ok (N := 18446744073709551616) (Si.stopLaw (by decide) Si.lives n f p l (fun q hq => by have := (hb2 q hq).1; unfold maxLen at this; omega) hn3 (by decide)) W hi2 hi3).mono fun e W' ⟨he, hs⟩ => ?_
  subst he
  exact ⟨_, rfl, law_post (by kernel_rfl) (by kernel_rfl) rfl rfl Try.underlying4 hW rfl hs⟩
theorem over : Rows.sitesStopRow.holds Try.pinned (OpenSpec.ofChange Rows.sitesStopSpec) :=
  OpenClaim.holds_of_wide 3 Try.f3 rfl rfl rfl rfl rfl rfl rfl ⟨rfl, rfl, rfl, rfl, rfl⟩ rfl rfl rfl rfl rfl (by kernel_rfl) Try.func3 (by kernel_rfl)
    (of_decide_eq_true (by kernel_rfl)) (by unfold Func.isWrapper; first | (rw [if_pos (by decide +kernel)]; kernel_rfl) | (rw [if_neg (by decide +kernel)]; exact ⟨rfl, rfl⟩))
    (fun os started H enc _ => lifted os started H enc)
/-- The statement. -/
theorem proved : Rows.SitesStopSaid := over
end Go.Proofs.Yteklmleiiiodfaa.lawSitesStop
