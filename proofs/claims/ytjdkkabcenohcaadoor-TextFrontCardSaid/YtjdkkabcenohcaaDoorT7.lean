/- What a history says of its events. -/
import Derived.Test.YtjdkkabcenohcaaDoorT5
import Derived.Test.YtjdkkabcenohcaaDoorT6
set_option linter.unusedVariables false
set_option linter.unusedSimpArgs false
set_option linter.unusedSectionVars false
set_option maxRecDepth 100000
namespace Go.Proofs.YtjdkkabcenohcaaDoor
open Go.RowKit
namespace Tx
open Hs
theorem arg_rng {N : Nat} {k n : Int} (h : history_Argument N k n = some true) : if bareK k = true then n = 0 else 1 ≤ n ∧ n ≤ 1000 := by
  unfold history_Argument at h
  by_cases h1 : k = 2; · subst h1; exact of_decide_eq_true (Option.some.inj h)
  by_cases h2 : k = 4; · subst h2; exact of_decide_eq_true (Option.some.inj h)
  by_cases h3 : k = 6; · subst h3; exact of_decide_eq_true (Option.some.inj h)
  by_cases h4 : k = 10; · subst h4; exact of_decide_eq_true (Option.some.inj h)
  simp only [h1, h2, h3, h4, decide_false, cond_false] at h
  have h := Option.some.inj h
  simp only [Bool.and_eq_true, decide_eq_true_eq] at h
  simp only [bareK, h1, h2, h3, h4, decide_false, Bool.or_false, Bool.false_eq_true, if_false]
  exact h
theorem res_rng {N : Nat} {k n : Int} (h : history_result N k n = some true) : -1 ≤ n ∧ n ≤ 1000 := by
  unfold history_result at h
  have fin : ∀ {b : Bool}, some b = some true → b = true := fun h => Option.some.inj h
  by_cases h1 : k = 2
  · subst h1
    have h := fin h
    simp only [Bool.and_eq_true, decide_eq_true_eq] at h; omega
  by_cases h2 : k = 10
  · subst h2
    have h := fin h
    simp only [Bool.and_eq_true, decide_eq_true_eq] at h; omega
  by_cases h3 : k = 4
  · subst h3
    have h := fin h
    simp only [Bool.and_eq_true, Bool.or_eq_true, decide_eq_true_eq] at h; omega
  by_cases h4 : k = 6
  · subst h4
    have h := fin h
    simp only [Bool.and_eq_true, Bool.or_eq_true, decide_eq_true_eq] at h; omega
  by_cases h5 : k = 7
  · subst h5
    have h := fin h
    simp only [Bool.or_eq_true, decide_eq_true_eq] at h; omega
  by_cases h6 : k = 8
  · subst h6
    have h := fin h
    simp only [Bool.or_eq_true, decide_eq_true_eq] at h; omega
  by_cases h7 : k = 9
  · subst h7
    have h := fin h
    simp only [Bool.or_eq_true, decide_eq_true_eq] at h; omega
  simp only [h1, h2, h3, h4, h5, h6, h7, decide_false, cond_false] at h
  have h := fin h
  simp only [decide_eq_true_eq] at h; omega
theorem tyF_rng {k : Int} (h : tyF k ≠ 0) : 1 ≤ k ∧ k ≤ 10 := by
  unfold tyF at h
  repeat' split at h
  all_goals first | omega | exact absurd rfl h
theorem evok_rn {N : Nat} {types : List Int} {l : List Event} {k : Nat} {out : List Call} {op : List Int} (R : Rn N types l k out op) : types.length ≤ 4 → ∀ j, j < k → EvOk (l.getD j Event.z) := by
  induction R with
  | zero => exact fun _ j h => absurd h (Nat.not_lt_zero _)
  | @succ k out out' op op' R hk S ih =>
    intro h4 j hj
    rcases Nat.lt_or_ge j k with h | h
    · exact ih h4 j h
    obtain rfl : j = k := by omega
    have hw := S.who
    have ht := S.thing
    rcases S.how with ⟨hk0, hf, ha, _⟩ | ⟨hk0, m, _, _, _, hr, _⟩
    · have h1 := tyF_rng (by rw [hf.2]; exact hf.1)
      have h2 := arg_rng ha
      refine ⟨by omega, by omega, by omega, ?_⟩
      split at h2
      · rename_i hb; rw [if_pos hb]; exact h2
      · rename_i hb; rw [if_neg hb]; omega
    · have h2 := res_rng hr
      refine ⟨by omega, by omega, by omega, ?_⟩
      rw [if_neg (by rw [hk0]; decide)]
      omega
theorem types_e {N : Nat} {types : List Int} (hN : 300 < N) : Wp (history_Types N types) fun e => e = 0 ∨ e = 1 := by
  obtain ⟨e, he, _⟩ := types_wp (types := types) hN
  refine ⟨e, he, ?_⟩
  unfold history_Types at he
  obtain ⟨r, hr, he⟩ := bnd he
  cases hc : (((decide (((types).length : Int) < 1)) || (decide (4 < ((types).length : Int)))) || r) with
  | true => rw [hc] at he; cases he; exact .inr rfl
  | false => rw [hc] at he; cases he; exact .inl rfl
theorem event_e {N : Nat} {types : List Int} {out : List Call} {op : List Int} {i : Int} {v : Event} (hl : out.length ≤ 1000) (ho : ∀ w, w < 8 → 0 ≤ op.getD w 0 ∧ op.getD w 0 ≤ out.length) :
    Wp (history_reader_event N types out op i v) fun r => r.2.2 = 0 ∨ r.2.2 = 3 ∨ r.2.2 = 4 ∨ r.2.2 = 5 := by
  unfold history_reader_event
  refine .cond (fun _ => .one (by simp)) (fun h => ?_)
  simp only [Bool.or_eq_true, Bool.and_eq_true, Bool.not_eq_true', Bool.not_eq_false', Bool.or_eq_false_iff, Bool.and_eq_false_imp, decide_eq_true_eq, decide_eq_false_iff_not, beq_iff_eq, not_or, Int.not_lt, Int.not_le, Bool.false_eq_true, not_false_eq_true, not_true_eq_false, Decidable.not_not] at *
  have h8 := ho v.who.toNat (by omega)
  refine .ax (by omega) (by omega) (.cond (fun hk => ?_) (fun hk => ?_))
  · refine .ixD 0 (by omega) (by omega) (.bdO (fits_eq ..) ?_)
    obtain ⟨b, hb⟩ := argument_some N v.kind v.value
    refine .gd b (fun _ => hb) fun x hx => .cond (fun _ => .one (by simp)) (fun hf => .cond (fun _ => .one (by simp)) (fun hn => .ck (limB_of ⟨?_, ?_⟩) (.ax (by omega) (by omega) (.one (by simp)))))
    · simp only [List.length_singleton]; exact Nat.le_trans (m := 2000) (by omega) (by decide)
    · simp only [List.length_singleton]; omega
  · refine .cond (fun _ => .one (by simp)) (fun hn => ?_)
    simp only [decide_eq_false_iff_not, Bool.not_eq_false', decide_eq_true_eq] at hn hk
    obtain ⟨m, hm⟩ : ∃ m : Nat, op.getD v.who.toNat 0 = m + 1 := ⟨(op.getD v.who.toNat 0 - 1).toNat, by omega⟩
    rw [hm]
    simp only [show ((m : Int) + 1 - 1) = (m : Int) by omega]
    refine .ck64 (by omega) (.ixD Call.z (by omega) (by omega) ?_)
    simp only [Int.toNat_natCast]
    obtain ⟨b, hb⟩ := result_some N (out.getD m Call.z).kind v.value
    exact .gd b (fun _ => hb) fun x hx => .cond (fun _ => .one (by simp)) (fun hf => .ax (by omega) (by omega) (.one (by simp)))
theorem Wp.and {α : Type} {m : Option α} {P Q : α → Prop} (h : Wp m P) (k : Wp m Q) : Wp m fun a => P a ∧ Q a := by
  obtain ⟨a, ha, hp⟩ := h
  obtain ⟨b, hb, hq⟩ := k
  rw [ha] at hb
  cases hb
  exact ⟨a, ha, hp, hq⟩
theorem calls_text {N : Nat} {types : List Int} {l : List Event} (hN : 300 < N) : Wp (history_Calls N types l) fun r => (r.2.2 = 0 → TyOk types ∧ (∀ e ∈ l, EvOk e) ∧ l.length ≤ 200) ∧ (r.2.2 ≠ 0 → r.2.2 ≠ 7 ∧ (0 ≤ r.2.1 ∧ r.2.1 ≤ l.length)) := by
  refine Wp.and ?_ ?_
  · refine (Wp.and (calls_rn hN) (calls_wp hN)).mono fun r ⟨h1, h2⟩ h0 => ?_
    obtain ⟨_, hl, hle, _, op, R⟩ := h1 h0
    have hH := (h2 h0).1
    refine ⟨⟨hH.tys.1 |> fun _ => ⟨hH.tys.1, hH.tys.2.1⟩, hH.tys.2.2⟩, fun e he => ?_, hle⟩
    obtain ⟨j, hj, rfl⟩ := List.mem_iff_getElem.1 he
    have := evok_rn R hl.2 j hj
    rwa [getD_of hj] at this
  · unfold history_Calls
    refine .seq (types_e hN) fun e hte ht => .cond (fun h => .one fun h2 => ?_) (fun h => .cond (fun _ => .one (by simp)) (fun hl => ?_))
    · simp only at h2 ⊢
      rcases ht with rfl | rfl
      · exact absurd rfl h2
      · exact ⟨by decide, by simp⟩
    · simp only [Bool.or_eq_true, Bool.and_eq_true, Bool.not_eq_true', Bool.not_eq_false', Bool.or_eq_false_iff, Bool.and_eq_false_imp, decide_eq_true_eq, decide_eq_false_iff_not, beq_iff_eq, not_or, Int.not_lt, Int.not_le, Bool.false_eq_true, not_false_eq_true, not_true_eq_false, Decidable.not_not] at *
      refine .elim (P := fun t => match t with | .inl s => True | .inr r => r.2.2 ≠ 7 ∧ 0 ≤ r.2.1 ∧ r.2.1 ≤ l.length) (.iter l.length (fun k s => s.2.2 = (k : Int) ∧ Rn N types l k s.1 s.2.1) (by omega) ⟨rfl, .zero⟩ ?_ ?_) (fun s _ h => .one fun h2 => absurd rfl h2) (fun r _ h => .one fun h2 => h)
      · rintro k ⟨out, op, v⟩ hk ⟨hv, R⟩
        simp only at hv R
        subst hv
        simp only [history_Calls_L3]
        have W := R.wf
        have hle := W.len
        refine .condT (decide_eq_true (by omega)) (.ix hk (.seq (Wp.and (event_x (by omega) fun w hw => ⟨(W.pen w hw).1, (W.pen w hw).2.1⟩) (event_e (by omega) fun w hw => ⟨(W.pen w hw).1, (W.pen w hw).2.1⟩)) fun r _ hr => .cond (fun h => .one ?_) (fun h => .ck64 (by omega) (.one ⟨by simp, ?_⟩))))
        · simp only
          refine ⟨by rcases hr.2 with h | h | h | h <;> rw [h] <;> decide, by omega, by omega⟩
        · simp only [Bool.or_eq_true, Bool.and_eq_true, Bool.not_eq_true', Bool.not_eq_false', Bool.or_eq_false_iff, Bool.and_eq_false_imp, decide_eq_true_eq, decide_eq_false_iff_not, beq_iff_eq, not_or, Int.not_lt, Int.not_le, Bool.false_eq_true, not_false_eq_true, not_true_eq_false, Decidable.not_not] at *
          exact .succ R hk (by rw [getD_of hk]; exact hr.1 h)
      · rintro ⟨out, op, v⟩ ⟨hv, R⟩
        simp only at hv R
        subst hv
        simp only [history_Calls_L3]
        exact .condF (decide_eq_false (by omega)) (.one trivial)
end Tx

end Go.Proofs.YtjdkkabcenohcaaDoor
