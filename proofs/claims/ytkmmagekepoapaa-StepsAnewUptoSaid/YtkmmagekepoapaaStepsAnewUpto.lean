/- StepsAnew: for every input that is no larger than a million the law returns true. -/
import Derived.Test.YtkmmagekepoapaaRows
import Derived.Test.YtkmmagekepoapaaLaw
import Derived.Test.YtkmmagekepoapaaP11
import Derived.Test.YtkmmagekepoapaaP9
set_option linter.unusedVariables false
set_option linter.unusedSimpArgs false
namespace Go.Proofs.Ytkmmagekepoapaa.lawStepsAnewUpto
open Go.ChangeShapes Go.WideShapes Go.ChangeAt Go.RowKit
theorem own : ownKnob Try.prog.godebug = none := by kernel_rfl
theorem bulk_pos {H : Type} (d : DataW H) : 1 ≤ Rows.uptoBulk d := by
  unfold Rows.uptoBulk
  split <;> omega
theorem bulk_len {H : Type} : ∀ (ds : List (DataW H)), ds.length ≤ Rows.uptoBulkAll ds
  | [] => Nat.zero_le _
  | d :: r => by
    have := bulk_len r
    have := bulk_pos d
    simp only [Rows.uptoBulkAll, List.length_cons]
    omega
theorem open_len {H : Type} {enc : TypeId × Value → H} {P : Program} {W : World} {base : Nat} {sp : Nat → Bool} {held : Bool} {t e : TypeId} {v : Value} {d : DataW H} {ps : List MemPlace} {a : Option Addr} {len cap : Nat} (ht : P.underlying t = some (.slice e)) (h : DataW.Trod enc P W base sp held t v d ps) (hv : v = .slice a len cap) : len ≤ Rows.uptoBulk d := by
  subst hv
  obtain ⟨fuel, hfu⟩ := h
  rcases Go.Deep.open_slice ht hfu with ⟨hcs, _⟩ | ⟨a1, len1, cap1, m, nn, D, Pl, hcs, hb, hlc, hm, hmm, hxx, hx⟩
  · simp [Value.cells] at hcs
    omega
  · simp [Value.cells] at hcs
    obtain ⟨rfl, rfl, rfl⟩ := hcs
    obtain ⟨rfl, _⟩ := Prod.mk.inj hxx
    have := bulk_len ((List.range len).map D)
    rw [List.length_map, List.length_range] at this
    simp only [Rows.uptoBulk]
    omega
theorem open_lenC {H : Type} {enc : TypeId × Value → H} {P : Program} {W : World} {base fuel : Nat} {sp : Nat → Bool} {held : Bool} {t e : TypeId} {d : DataW H × List MemPlace} {a : Option Addr} {len cap : Nat} (ht : P.underlying t = some (.slice e)) (hfu : DataW.trod enc P W base sp held fuel t [.slice a len cap] = some d) : len ≤ Rows.uptoBulk d.1 := by
  rcases Go.Deep.open_slice ht hfu with ⟨hcs, _⟩ | ⟨a1, len1, cap1, m, nn, D, Pl, hcs, hb, hlc, hm, hmm, rfl, hx⟩
  · simp at hcs
    omega
  · simp at hcs
    obtain ⟨rfl, rfl, rfl⟩ := hcs
    have := bulk_len ((List.range len).map D)
    rw [List.length_map, List.length_range] at this
    simp only [Rows.uptoBulk]
    omega
theorem bulk_sum {H α : Type} : ∀ (l : List (List α)) (D : Nat → DataW H), (∀ i (h : i < l.length), l[i].length ≤ Rows.uptoBulk (D i)) → (l.map List.length).sum ≤ Rows.uptoBulkAll ((List.range l.length).map D)
  | [], _, _ => Nat.zero_le _
  | x :: l, D, h => by
    have h0 := h 0 (by simp)
    have ih := bulk_sum l (fun i => D (i + 1)) fun i hi => h (i + 1) (by simpa using hi)
    rw [List.length_cons, List.range_succ_eq_map, List.map_cons, List.map_cons, List.map_map]
    simp only [Rows.uptoBulkAll, List.map_cons, List.sum_cons]
    have h0 : x.length ≤ Rows.uptoBulk (D 0) := h0
    have e : (D ∘ Nat.succ) = fun i => D (i + 1) := rfl
    rw [e]
    omega
theorem open_tot {H α : Type} {enc : TypeId × Value → H} {encA : α → List Value} {sz : Nat} {P : Program} {W : World} {base : Nat} {sp : Nat → Bool} {held : Bool} {t t2 e : TypeId} {d : DataW H} {ps : List MemPlace} {A : Option Addr} {cap : Nat} {hs : List Hd} {xs : List (List α)} (ht : P.underlying t = some (.slice t2)) (hc : P.cellsOf t2 = 1) (ht2 : P.underlying t2 = some (.slice e)) (hS : SlNN encA sz W A cap hs xs) (h : DataW.Trod enc P W base sp held t (.slice A xs.length cap) d ps) : (xs.map List.length).sum ≤ Rows.uptoBulk d := by
  obtain ⟨fuel, hfu⟩ := h
  rcases Go.Deep.open_slice ht hfu with ⟨hcs, _⟩ | ⟨a1, len1, cap1, m, nn, D, Pl, hcs, hb, hlc, hm, hmm, hxx, hx⟩
  · simp [Value.cells] at hcs
    have : xs = [] := hcs.2.1
    subst this
    exact Nat.zero_le _
  · simp [Value.cells] at hcs
    obtain ⟨rfl, rfl, rfl⟩ := hcs
    obtain ⟨rfl, _⟩ := Prod.mk.inj hxx
    have hlm : xs.length ≤ m := by rw [hmm]; split <;> omega
    have := bulk_sum xs D fun i hi => by
      obtain ⟨cs, h1, h2⟩ := hx i (by omega)
      rw [hc, Nat.mul_one] at h1
      obtain ⟨_, hcl, hat⟩ := World.cells?_some h1
      obtain ⟨hok, hcell⟩ := hS.out i xs[i] (List.getElem?_eq_getElem hi)
      have h6 := hat 0 (by omega)
      have e0 : (a1.add i).add 0 = a1.add i := rfl
      rw [e0] at h6
      have hsp := hok.2 a1 rfl
      obtain ⟨b, o, s⟩ := a1
      simp only at hsp
      subst hsp
      rw [add_none] at h6
      have h7 : W.cell? (elA (some ⟨b, o, none⟩) i) = cs[0]? := h6
      rw [hcell] at h7
      match cs, hcl, h7 with
      | [v], _, h7 =>
        simp at h7
        subst h7
        exact open_lenC ht2 h2
    simp only [Rows.uptoBulk]
    omega
set_option maxRecDepth 100000 in
theorem lifted (os : Os) (started : os.Started) (H : Type) (enc : TypeId × Value → H) (F0 : Stop.Interp) :
    ReturnsInHanded {} Try.checked os 4 .any ((Rows.OpenSpec.upto Rows.stepsAnewSpec).pre6 enc Try.prog Try.f4 Rows.stepsAnewUptoRow.domain false) (((Rows.OpenSpec.upto Rows.stepsAnewSpec).at F0).post enc Try.prog Try.f4 false true false false) := by
  refine returnsInHanded_of_cond (C := Try.checked) (s := (Rows.OpenSpec.upto Rows.stepsAnewSpec)) (k := Rows.uptoSmall) rfl own started (by kernel_rfl) Try.func4
    (OpenSpec.witness (enc := enc) (C := Try.checked) (s := (Rows.OpenSpec.upto Rows.stepsAnewSpec)) (k := Rows.uptoSmall) rfl false ⟨#[], #[.int .i64 0, .slice none 0 0, .slice none 0 0], []⟩ 8 (by kernel_rfl) (by kernel_rfl) (by kernel_rfl)
      (x := ([.lit (.int .i64 0), .nil, .nil], [], [])) (by kernel_rfl) (by kernel_rfl) (by kernel_rfl)) ?_
  intro W base args ds gs before hval0 hW hcnd hk hreach
  have hval : ∀ (j : Nat) t v, Try.f4.params[j]? = some t → args[j]? = some v → Value.okWide Try.prog W .any base t v := hval0
  have hW2 := hW
  obtain ⟨p, q, hA0, hV, hpq, hfz, hnd⟩ := hW2
  have hA : DataW.TrodAll enc Try.prog W 0 (fun _ => true) true Try.f4.params.toList args.toList ds p := hA0
  rw [Try.params4] at hA hval
  obtain ⟨v0, vs0, d0, ds0, p0, q0, hargs, rfl, rfl, h0, r0⟩ := trodAll_cons hA
  obtain ⟨v1, vs1, d1, ds1, p1, q1, rfl, rfl, rfl, h1, r1⟩ := trodAll_cons r0
  obtain ⟨v2, vs2, d2, ds2, p2, q2, rfl, rfl, rfl, h2, r2⟩ := trodAll_cons r1
  obtain ⟨rfl, rfl, rfl⟩ := trodAll_nil r2
  obtain rfl : args = #[v0, v1, v2] := by cases args; simp_all
  have hgs : gs = [] := by
    cases gs with
    | nil => rfl
    | cons g gs => exact hV.elim
  subst hgs
  obtain ⟨a, rfl, rfl, rfl, wf0⟩ := open_int Try.underlying3 (hval 0 3 v0 rfl rfl) h0
  obtain ⟨p, A1, c1, hd1, rfl, hi1, hl1, hb1⟩ := open_nest (encA := encAsk) (sz := 3) decAsk decAsk_ok Try.underlying22 (by kernel_rfl) Try.underlying33 Try.underlying83 (by kernel_rfl) rfl (by kernel_rfl) (by decide) (hval 1 22 v1 rfl rfl) h1
  obtain ⟨l, hi2, hl2, hb2⟩ := open_IntsIn Try.underlying23 Try.underlying3 (by kernel_rfl) (hval 2 23 v2 rfl rfl) h2
  replace hi2 := IntsIn.sl hi2
  have hn1 : (p.map List.length).sum ≤ 1048576 := by
    have h9 := open_tot Try.underlying22 (by kernel_rfl) Try.underlying33 hi1 h1
    have hk2 : Rows.uptoBulkAll _ ≤ 1048576 := of_decide_eq_true hk
    simp only [Rows.uptoBulkAll, List.append_nil] at hk2
    omega
  clear hA0 hval0
  refine (alibkeep_StepsAnew_ok (N := 18446744073709551616) (Sp.anewLaw (by decide) Sp.lives a p l (fun q hq => by have := (hb1 q hq).1; unfold maxLen at this; omega) (by unfold Sp.tot; omega)) W hi1 hi2).mono fun e W' ⟨he, hs⟩ => ?_
  subst he
  exact ⟨_, rfl, law_post (by kernel_rfl) (by kernel_rfl) rfl rfl Try.underlying4 hW rfl hs⟩
theorem over : Rows.stepsAnewUptoRow.holds Try.pinned (Rows.OpenSpec.upto Rows.stepsAnewSpec) :=
  OpenClaim.holds_of_cond 4 Try.f4 rfl rfl rfl rfl rfl rfl rfl ⟨rfl, rfl, rfl, rfl, rfl⟩ rfl rfl rfl rfl rfl (by kernel_rfl) Try.func4 (by kernel_rfl)
    (of_decide_eq_true (by kernel_rfl)) (by unfold Func.isWrapper; first | (rw [if_pos (by decide +kernel)]; kernel_rfl) | (rw [if_neg (by decide +kernel)]; exact ⟨rfl, rfl⟩))
    (fun os started H enc _ F0 => lifted os started H enc F0)
/-- The statement. -/
theorem proved : Rows.StepsAnewUptoSaid := over
end Go.Proofs.Ytkmmagekepoapaa.lawStepsAnewUpto
