/- RegularFast: for every input the law returns true. -/
import Derived.Test.YteklmleiiiodfaaRows
import Derived.Test.YteklmleiiiodfaaLaw
import Derived.Test.YteklmleiiiodfaaF4
import Derived.Test.YteklmleiiiodfaaF5
set_option linter.unusedVariables false
set_option linter.unusedSimpArgs false
namespace Go.Proofs.Yteklmleiiiodfaa.lawRegularFast
open Go.ChangeShapes Go.WideShapes Go.ChangeAt Go.RowKit
theorem open_sized {H : Type} {enc : TypeId × Value → H} {P : Program} {W : World} {base : Nat} {sp : Nat → Bool} {held : Bool} {t e : TypeId} {v : Value} {d : DataW H} {ps : List MemPlace} {a : Option Addr} {len cap : Nat} (ht : P.underlying t = some (.slice e)) (h : DataW.Trod enc P W base sp held t v d ps) (hv : v = .slice a len cap) (hw : ∀ n ∈ d.weights P t, n ≤ reachBytes) : len * P.bytesOf e ≤ reachBytes := by
  subst hv
  obtain ⟨fuel, hfu⟩ := h
  rcases Go.Deep.open_slice ht hfu with ⟨hcs, _⟩ | ⟨a1, len1, cap1, m, nn, D, Pl, hcs, hb, hlc, hm, hmm, hxx, hx⟩
  · simp [Value.cells] at hcs
    rw [hcs.2.1, Nat.zero_mul]; exact Nat.zero_le _
  · simp [Value.cells] at hcs
    obtain ⟨rfl, rfl, rfl⟩ := hcs
    obtain ⟨rfl, _⟩ := Prod.mk.inj hxx
    have h9 := hw _ (by simp only [DataW.weights, ht]; exact List.mem_cons_self)
    refine Nat.le_trans (Nat.mul_le_mul_right _ ?_) h9
    rw [List.length_map, List.length_range]
    exact Nat.le_add_right _ _
theorem open_sizedC {H : Type} {enc : TypeId × Value → H} {P : Program} {W : World} {base fuel : Nat} {sp : Nat → Bool} {held : Bool} {t e : TypeId} {d : DataW H × List MemPlace} {a : Option Addr} {len cap : Nat} (ht : P.underlying t = some (.slice e)) (hfu : DataW.trod enc P W base sp held fuel t [.slice a len cap] = some d) (hw : ∀ n ∈ d.1.weights P t, n ≤ reachBytes) : len * P.bytesOf e ≤ reachBytes := by
  rcases Go.Deep.open_slice ht hfu with ⟨hcs, _⟩ | ⟨a1, len1, cap1, m, nn, D, Pl, hcs, hb, hlc, hm, hmm, rfl, hx⟩
  · simp at hcs
    rw [hcs.2.1, Nat.zero_mul]; exact Nat.zero_le _
  · simp at hcs
    obtain ⟨rfl, rfl, rfl⟩ := hcs
    have h9 := hw _ (by simp only [DataW.weights, ht]; exact List.mem_cons_self)
    refine Nat.le_trans (Nat.mul_le_mul_right _ ?_) h9
    rw [List.length_map, List.length_range]
    exact Nat.le_add_right _ _
theorem weightsAll_mem {H : Type} {P : Program} {e : TypeId} {d : DataW H} {n : Nat} : ∀ {l : List (DataW H)}, d ∈ l → n ∈ d.weights P e → n ∈ DataW.weightsAll P e l
  | x :: l, hd, hn => by
    simp only [DataW.weightsAll, List.mem_append]
    rcases List.mem_cons.1 hd with rfl | hd
    · exact .inl hn
    · exact .inr (weightsAll_mem hd hn)
theorem open_sizedN {H α : Type} {enc : TypeId × Value → H} {encA : α → List Value} {sz : Nat} {P : Program} {W : World} {base : Nat} {sp : Nat → Bool} {held : Bool} {t t2 e : TypeId} {d : DataW H} {ps : List MemPlace} {A : Option Addr} {cap : Nat} {hs : List Hd} {xs : List (List α)} (ht : P.underlying t = some (.slice t2)) (hc : P.cellsOf t2 = 1) (ht2 : P.underlying t2 = some (.slice e)) (hS : SlNN encA sz W A cap hs xs) (h : DataW.Trod enc P W base sp held t (.slice A xs.length cap) d ps) (hw : ∀ n ∈ d.weights P t, n ≤ reachBytes) : ∀ q ∈ xs, q.length * P.bytesOf e ≤ reachBytes := by
  obtain ⟨fuel, hfu⟩ := h
  rcases Go.Deep.open_slice ht hfu with ⟨hcs, _⟩ | ⟨a1, len1, cap1, m, nn, D, Pl, hcs, hb, hlc, hm, hmm, hxx, hx⟩
  · simp [Value.cells] at hcs
    have : xs = [] := hcs.2.1
    subst this
    intro q hq; cases hq
  · simp [Value.cells] at hcs
    obtain ⟨rfl, rfl, rfl⟩ := hcs
    obtain ⟨rfl, _⟩ := Prod.mk.inj hxx
    have hlm : xs.length ≤ m := by rw [hmm]; split <;> omega
    intro q hq
    obtain ⟨i, hi, rfl⟩ := List.getElem_of_mem hq
    obtain ⟨cs, h1, h2⟩ := hx i (by omega)
    rw [hc, Nat.mul_one] at h1
    obtain ⟨_, hcl, hat⟩ := World.cells?_some h1
    obtain ⟨hok, hcell⟩ := hS.out i xs[i] (List.getElem?_eq_getElem hi)
    have h6 := hat 0 (by omega)
    have e0 : (a1.add i).add 0 = a1.add i := rfl
    rw [e0] at h6
    have hsp := hok.2 a1 rfl
    obtain ⟨b, o, s⟩ := a1
    simp only at hsp
    subst hsp
    rw [add_none] at h6
    have h7 : W.cell? (elA (some ⟨b, o, none⟩) i) = cs[0]? := h6
    rw [hcell] at h7
    match cs, hcl, h7 with
    | [v], _, h7 =>
      simp at h7
      subst h7
      refine open_sizedC ht2 h2 fun n hn => hw n ?_
      simp only [DataW.weights, ht]
      refine List.mem_cons_of_mem _ (List.mem_append_left _ (weightsAll_mem (d := D i) ?_ hn))
      exact List.mem_map.2 ⟨i, List.mem_range.2 hi, rfl⟩
theorem own : ownKnob Try.prog.godebug = none := by kernel_rfl
set_option maxRecDepth 100000 in
theorem lifted (os : Os) (started : os.Started) (H : Type) (enc : TypeId × Value → H) :
    ReturnsInHanded {} Try.checked os 17 .any (Rows.regularFastSpec.pre6 enc Try.prog Try.f17 Rows.regularFastRow.domain false) (Rows.regularFastSpec.post enc Try.prog Try.f17 false true false false) := by
  refine returnsInHanded_of_change_sized (C := Try.checked) own started (by kernel_rfl) Try.func17
    (ChangeSpec.witness6 (enc := enc) (C := Try.checked) false ⟨#[], #[.int .i64 0, .bool false, .slice none 0 0, .slice none 0 0], []⟩ 8 (by kernel_rfl) (by kernel_rfl) (by kernel_rfl) (by kernel_rfl)) ?_
  intro W base args ds gs before hval0 hW hcnd hsz hreach
  have hval : ∀ (j : Nat) t v, Try.f17.params[j]? = some t → args[j]? = some v → Value.okWide Try.prog W .any base t v := hval0
  have hW2 := hW
  obtain ⟨p, q, hA0, hV, hpq, hfz, hnd⟩ := hW2
  have hA : DataW.TrodAll enc Try.prog W 0 (fun _ => true) true Try.f17.params.toList args.toList ds p := hA0
  rw [Try.params17] at hA hval
  obtain ⟨v0, vs0, d0, ds0, p0, q0, hargs, rfl, rfl, h0, r0⟩ := trodAll_cons hA
  obtain ⟨v1, vs1, d1, ds1, p1, q1, rfl, rfl, rfl, h1, r1⟩ := trodAll_cons r0
  obtain ⟨v2, vs2, d2, ds2, p2, q2, rfl, rfl, rfl, h2, r2⟩ := trodAll_cons r1
  obtain ⟨v3, vs3, d3, ds3, p3, q3, rfl, rfl, rfl, h3, r3⟩ := trodAll_cons r2
  obtain ⟨rfl, rfl, rfl⟩ := trodAll_nil r3
  obtain rfl : args = #[v0, v1, v2, v3] := by cases args; simp_all
  have hgs : gs = [] := by
    cases gs with
    | nil => rfl
    | cons g gs => exact hV.elim
  subst hgs
  obtain ⟨n, rfl, rfl, rfl, wf0⟩ := open_int Try.underlying3 (hval 0 3 v0 rfl rfl) h0
  obtain ⟨f, rfl, rfl, rfl⟩ := open_bool Try.underlying4 (hval 1 4 v1 rfl rfl) h1
  obtain ⟨p, A2, c2, hd2, rfl, hi2, hl2, hb2⟩ := open_nest (encA := encAsk) (sz := 3) decAsk decAsk_ok Try.underlying22 (by kernel_rfl) Try.underlying41 Try.underlying58 (by kernel_rfl) rfl (by kernel_rfl) (by decide) (hval 2 22 v2 rfl rfl) h2
  obtain ⟨l, hi3, hl3, hb3⟩ := open_rows (encA := encAct) (sz := 2) decAct decAct_ok Try.underlying23 Try.underlying25 (by kernel_rfl) rfl (by kernel_rfl) (by decide) (hval 3 23 v3 rfl rfl) h3
  have hn2 : ∀ q ∈ p, q.length * 24 ≤ 140737488351232 := by
    have h9 := open_sizedN Try.underlying22 (by kernel_rfl) Try.underlying41 hi2 h2 (fun n hn => by simpa using List.all_eq_true.1 hsz n (DataW.weights_mem_each (j := 2) (t := 22) (by kernel_rfl) rfl n hn))
    have hb9 : Try.prog.bytesOf 58 = 24 := by kernel_rfl
    rw [hb9] at h9
    exact h9
  clear hA0 hval0
  refine (alibkeep_RegularFast_ok (N := 18446744073709551616) (Rg.fastLaw (by decide) Rg.lives n f p l (fun q hq => by have := (hb2 q hq).1; unfold maxLen at this; omega) (by unfold maxLen at hl3; omega) (fun q hq => by have := hn2 q hq; omega)) W hi2 hi3).mono fun e W' ⟨he, hs⟩ => ?_
  subst he
  exact ⟨_, rfl, law_post (by kernel_rfl) (by kernel_rfl) rfl rfl Try.underlying4 hW rfl hs⟩
theorem over : Rows.regularFastRow.holds Try.pinned (OpenSpec.ofChange Rows.regularFastSpec) :=
  OpenClaim.holds_of_wide 17 Try.f17 rfl rfl rfl rfl rfl rfl rfl ⟨rfl, rfl, rfl, rfl, rfl⟩ rfl rfl rfl rfl rfl (by kernel_rfl) Try.func17 (by kernel_rfl)
    (of_decide_eq_true (by kernel_rfl)) (by unfold Func.isWrapper; first | (rw [if_pos (by decide +kernel)]; kernel_rfl) | (rw [if_neg (by decide +kernel)]; exact ⟨rfl, rfl⟩))
    (fun os started H enc _ => lifted os started H enc)
/-- The statement. -/
theorem proved : Rows.RegularFastSaid := over
end Go.Proofs.Yteklmleiiiodfaa.lawRegularFast
