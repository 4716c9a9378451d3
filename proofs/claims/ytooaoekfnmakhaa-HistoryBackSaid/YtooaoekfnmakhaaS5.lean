/- What holds of a history that is read. -/
import Derived.Test.YtooaoekfnmakhaaS4
set_option linter.unusedVariables false
set_option linter.unusedSimpArgs false
set_option linter.unusedSectionVars false
set_option maxRecDepth 100000
namespace Go.Proofs.Ytooaoekfnmakhaa
open Go.RowKit
namespace Hs
theorem Okc.later {types : List Int} {l : List Event} {k : Nat} {op op' : List Int} {m : Nat} {c : Call} (h : Okc types l k op m c) (ho : c.to_ = -1 → op'.getD c.who.toNat 0 = op.getD c.who.toNat 0) : Okc types l (k + 1) op' m c := by
  refine ⟨h.who, h.thing, h.fit, by have := h.fr; omega, ?_, h.evf, h.evt⟩
  rcases h.to with h1 | h1
  · exact .inl ⟨h1.1, by rw [ho h1.1]; exact h1.2.1, h1.2.2⟩
  · exact .inr (by omega)
theorem wf_step {types : List Int} {l : List Event} {k : Nat} {out out' : List Call} {op op' : List Int} {v : Event} (W : WF types l k out op) (S : Stp types out op (k : Int) v out' op') (hv : l.getD k Event.z = v) : WF types l (k + 1) out' op' := by
  have hw := S.who
  have ht := S.thing
  have hop := W.pen v.who.toNat (by omega)
  rcases S.how with ⟨hk, hf, hn, rfl, rfl⟩ | ⟨hk, m, hm, c, hml, rfl, hct, rfl, rfl⟩
  · have hnew : ∀ i, (out ++ [(⟨v.who, v.thing, v.kind, v.value, 0, (k : Int), -1⟩ : Call)]).getD i Call.z = if i < out.length then out.getD i Call.z else if i = out.length then ⟨v.who, v.thing, v.kind, v.value, 0, (k : Int), -1⟩ else Call.z := fun i => getD_app
    have hop' : ∀ w, w < 8 → (setA 8 0 op v.who ((out.length : Int) + 1)).getD w 0 = if w = v.who.toNat then (out.length : Int) + 1 else op.getD w 0 := fun w hw => setA_get hw
    refine ⟨by have := W.len; simp; omega, ?_, fun w hw8 => ?_, fun m hm => ?_, fun i j hij hj => ?_, fun e he => ?_⟩
    · have := W.cnt
      rw [List.countP_append]
      simp only [List.length_append, List.length_singleton, List.countP_singleton]
      simp
      omega
    · rw [hop' w hw8]
      simp only [hnew, List.length_append, List.length_singleton]
      by_cases h : w = v.who.toNat
      · rw [if_pos h]
        refine ⟨by omega, by omega, fun m hm => ?_⟩
        obtain rfl : m = out.length := by omega
        rw [if_neg (by omega), if_pos rfl]
        exact ⟨by simp only; omega, rfl⟩
      · rw [if_neg h]
        have h1 := W.pen w hw8
        refine ⟨h1.1, by omega, fun m hm => ?_⟩
        rw [if_pos (by omega)]
        exact h1.2.2 m hm
    · simp only [List.length_append, List.length_singleton] at hm
      rw [hnew]
      by_cases h : m < out.length
      · rw [if_pos h]
        have h1 := W.one m h
        refine h1.later fun hto => ?_
        have h2 := h1.who
        have h5 := h1.fr
        rw [hop' _ (by omega), if_neg]
        intro he
        rcases h1.to with h3 | h3
        · rw [he] at h3; omega
        · omega
      · obtain rfl : m = out.length := by omega
        rw [if_neg h, if_pos rfl]
        exact ⟨hw, ht, hf, by simp only; omega, .inl ⟨rfl, by rw [hop' _ (by simp only; omega), if_pos rfl], rfl⟩, ⟨by simp only [Int.toNat_natCast]; rw [hv], hk⟩, fun h => absurd rfl h⟩
    · simp only [List.length_append, List.length_singleton] at hj
      rw [hnew, hnew, if_pos (show i < out.length by omega)]
      by_cases h : j < out.length
      · rw [if_pos h]; exact W.two i j hij h
      · rw [if_neg h, if_pos (by omega)]
        have h1 := W.one i (by omega)
        have h2 := h1.fr
        refine ⟨by simp only; omega, fun hwho => ?_, fun h => h⟩
        simp only at hwho ⊢
        rcases h1.to with h3 | h3
        · rw [hwho] at h3; omega
        · omega
    · rcases Nat.lt_or_ge e k with h | h
      · obtain ⟨m, hm, he⟩ := W.all e h
        exact ⟨m, by simp; omega, by rw [hnew, if_pos hm]; exact he⟩
      · obtain rfl : e = k := by omega
        exact ⟨out.length, by simp, .inl (by rw [hnew, if_neg (by omega), if_pos rfl])⟩
  · have hnew : ∀ i, (out.set m ⟨(out.getD m Call.z).who, (out.getD m Call.z).thing, (out.getD m Call.z).kind, (out.getD m Call.z).arg, v.value, (out.getD m Call.z).from_, (k : Int)⟩).getD i Call.z = if i = m then ⟨(out.getD m Call.z).who, (out.getD m Call.z).thing, (out.getD m Call.z).kind, (out.getD m Call.z).arg, v.value, (out.getD m Call.z).from_, (k : Int)⟩ else out.getD i Call.z := fun i => getD_set2 hml
    have hop' : ∀ w, w < 8 → (setA 8 0 op v.who 0).getD w 0 = if w = v.who.toNat then 0 else op.getD w 0 := fun w hw => setA_get hw
    have hp := hop.2.2 m hm
    have hO := W.one m hml
    have hOw := hO.who
    have hOf := hO.fr
    refine ⟨by have := W.len; simp; omega, ?_, fun w hw8 => ?_, fun i hi => ?_, fun i j hij hj => ?_, fun e he => ?_⟩
    · have := W.cnt
      rw [count_set hml (by simpa using hp.2) (by simp)]
      simp only [List.length_set]
      omega
    · rw [hop' w hw8]
      simp only [hnew, List.length_set]
      by_cases h : w = v.who.toNat
      · rw [if_pos h]
        exact ⟨by omega, by omega, fun m hm => by omega⟩
      · rw [if_neg h]
        have h1 := W.pen w hw8
        refine ⟨h1.1, h1.2.1, fun i hi => ?_⟩
        have h2 := h1.2.2 i hi
        rw [if_neg]
        · exact h2
        · rintro rfl; omega
    · simp only [List.length_set] at hi
      rw [hnew]
      by_cases h : i = m
      · subst h
        rw [if_pos rfl]
        refine ⟨hO.who, hO.thing, hO.fit, by simp only; omega, .inr (by simp only; omega), hO.evf, fun _ => ?_⟩
        simp only [Int.toNat_natCast]
        rw [hv, hct, show (out.getD i Call.z).who = v.who by omega]
        rw [show v = ⟨v.who, v.thing, v.kind, v.value⟩ from rfl, hk]
      · rw [if_neg h]
        have h1 := W.one i hi
        have h2 := h1.who
        have h5 := h1.fr
        refine h1.later fun hto => ?_
        rw [hop' _ (by omega), if_neg]
        intro he
        rcases h1.to with h3 | h3
        · rw [he] at h3; omega
        · omega
    · simp only [List.length_set] at hj
      have T := W.two i j hij hj
      rw [hnew, hnew]
      by_cases h : i = m
      · subst h
        rw [if_pos rfl, if_neg (by omega)]
        have hj1 := W.one j hj
        refine ⟨T.fr, fun hw => absurd hp.2 (T.own hw).1, fun _ => ?_⟩
        simp only
        rcases hj1.to with h3 | h3 <;> omega
      · rw [if_neg h]
        by_cases h2 : j = m
        · subst h2
          rw [if_pos rfl]
          refine ⟨T.fr, T.own, fun _ => ?_⟩
          simp only
          have hi1 := W.one i (by omega)
          rcases hi1.to with h3 | h3 <;> omega
        · rw [if_neg h2]; exact T
    · simp only [List.length_set]
      rcases Nat.lt_or_ge e k with h | h
      · obtain ⟨i, hi, he⟩ := W.all e h
        refine ⟨i, hi, ?_⟩
        rw [hnew]
        by_cases h2 : i = m
        · subst h2
          rw [if_pos rfl]
          simp only
          omega
        · rw [if_neg h2]; exact he
      · obtain rfl : e = k := by omega
        exact ⟨m, hml, .inr (by rw [hnew, if_pos rfl])⟩
theorem types_wp {N : Nat} {types : List Int} (hN : 300 < N) : Wp (history_Types N types) fun e => e = 0 → 1 ≤ types.length ∧ types.length ≤ 4 ∧ ∀ x ∈ types, 1 ≤ x ∧ x ≤ 5 := by
  unfold history_Types
  by_cases hl : 1 ≤ types.length ∧ types.length ≤ 4
  · have hg : (((decide (((types).length : Int) < 1)) || (decide (4 < ((types).length : Int)))) == false) = true := by simp; omega
    refine .seq (P := fun b => b = false → ∀ x ∈ types, 1 ≤ x ∧ x ≤ 5) (.condT hg ?_) fun b _ hb => .cond (fun _ => .one (by simp)) (fun h => .one fun _ => ⟨hl.1, hl.2, hb (by simp only [Bool.or_eq_true, Bool.and_eq_true, Bool.not_eq_true', Bool.not_eq_false', Bool.or_eq_false_iff, Bool.and_eq_false_imp, decide_eq_true_eq, decide_eq_false_iff_not, beq_iff_eq, not_or, Int.not_lt, Int.not_le, Bool.false_eq_true, not_false_eq_true, not_true_eq_false, Decidable.not_not] at *; exact h.2)⟩)
    unfold slices_ContainsFunc_int_int
    refine .seq (P := fun r => r < 0 → ∀ x ∈ types, 1 ≤ x ∧ x ≤ 5) ?_ fun r _ hr => .one fun h => hr (by simpa using h)
    unfold slices_IndexFunc_int_int
    refine .elim (P := fun t => match t with | .inl _ => ∀ x ∈ types, 1 ≤ x ∧ x ≤ 5 | .inr r => 0 ≤ r) (.iter types.length (fun k v => v = (k : Int) ∧ ∀ j, j < k → 1 ≤ types.getD j 0 ∧ types.getD j 0 ≤ 5) (by omega) ⟨rfl, fun j h => absurd h (Nat.not_lt_zero _)⟩ ?_ ?_) (fun _ _ h => .one fun _ => h) (fun r _ h => .one fun h2 => ?_)
    · rintro k v hk ⟨rfl, hr⟩
      simp only [slices_IndexFunc_int_int_L3]
      refine .condT (decide_eq_true (by omega)) (.ix hk (.bdO rfl (.cond (fun _ => .one (by simp)) (fun h => .ck64 (by omega) (.one ⟨by simp, fun j hj => ?_⟩)))))
      rcases Nat.lt_or_ge j k with h1 | h1
      · exact hr j h1
      · obtain rfl : j = k := by omega
        simp only [Bool.or_eq_true, Bool.and_eq_true, Bool.not_eq_true', Bool.not_eq_false', Bool.or_eq_false_iff, Bool.and_eq_false_imp, decide_eq_true_eq, decide_eq_false_iff_not, beq_iff_eq, not_or, Int.not_lt, Int.not_le, Bool.false_eq_true, not_false_eq_true, not_true_eq_false, Decidable.not_not] at *
        rw [getD_of hk]
        omega
    · rintro v ⟨rfl, hr⟩
      simp only [slices_IndexFunc_int_int_L3]
      refine .condF (decide_eq_false (by omega)) (.one fun x hx => ?_)
      obtain ⟨j, hj, rfl⟩ := List.mem_iff_getElem.1 hx
      have := hr j hj
      rw [getD_of hj] at this
      exact this
    · have h : 0 ≤ r := h
      omega
  · have hg : (((decide (((types).length : Int) < 1)) || (decide (4 < ((types).length : Int)))) == false) = false := by
      rw [Bool.eq_false_iff]; simp; omega
    refine .seq (P := fun _ => True) (.condF hg (.one trivial)) fun b _ _ => .condT (by simp only [Bool.or_eq_true, Bool.and_eq_true, Bool.not_eq_true', Bool.not_eq_false', Bool.or_eq_false_iff, Bool.and_eq_false_imp, decide_eq_true_eq, decide_eq_false_iff_not, beq_iff_eq, not_or, Int.not_lt, Int.not_le, Bool.false_eq_true, not_false_eq_true, not_true_eq_false, Decidable.not_not] at *; omega) (.one (by simp))
/-- A history whose calls are told. -/
structure His (N : Nat) (types : List Int) (l : List Event) (c : List Call) : Prop where
  ty : history_Types N types = some 0
  tys : 1 ≤ types.length ∧ types.length ≤ 4 ∧ ∀ x ∈ types, 1 ≤ x ∧ x ≤ 5
  len : l.length ≤ 200
  wf : ∃ op, WF types l l.length c op
theorem calls_wp {N : Nat} {types : List Int} {l : List Event} (hN : 300 < N) : Wp (history_Calls N types l) fun r => r.2.2 = 0 → His N types l r.1 ∧ r.2.1 = 0 := by
  unfold history_Calls
  refine .seq (types_wp hN) fun e hte ht => .cond (fun h => .one fun h2 => ?_) (fun h => .cond (fun _ => .one (by simp)) (fun hl => ?_))
  · simp only [Bool.or_eq_true, Bool.and_eq_true, Bool.not_eq_true', Bool.not_eq_false', Bool.or_eq_false_iff, Bool.and_eq_false_imp, decide_eq_true_eq, decide_eq_false_iff_not, beq_iff_eq, not_or, Int.not_lt, Int.not_le, Bool.false_eq_true, not_false_eq_true, not_true_eq_false, Decidable.not_not] at *; exact absurd h2 h
  · simp only [Bool.or_eq_true, Bool.and_eq_true, Bool.not_eq_true', Bool.not_eq_false', Bool.or_eq_false_iff, Bool.and_eq_false_imp, decide_eq_true_eq, decide_eq_false_iff_not, beq_iff_eq, not_or, Int.not_lt, Int.not_le, Bool.false_eq_true, not_false_eq_true, not_true_eq_false, Decidable.not_not] at *
    subst h
    refine .elim (P := fun t => match t with | .inl s => WF types l l.length s.1 s.2 | .inr r => r.2.2 ≠ 0) (.iter l.length (fun k s => s.2.2 = (k : Int) ∧ WF types l k s.1 s.2.1) (by omega) ⟨rfl, wf_zero types l⟩ ?_ ?_) (fun s _ h => .one fun _ => ⟨⟨hte, ht rfl, by omega, s.2, h⟩, rfl⟩) (fun r _ h => .one fun h2 => absurd h2 h)
    · rintro k ⟨out, op, v⟩ hk ⟨hv, W⟩
      simp only at hv W
      subst hv
      simp only [history_Calls_L3]
      have hle := W.len
      refine .condT (decide_eq_true (by omega)) (.ix hk (.seq (event_wp (by omega) fun w hw => ⟨(W.pen w hw).1, (W.pen w hw).2.1⟩) fun r _ hr => .cond (fun h => .one (by simpa using h)) (fun h => .ck64 (by omega) (.one ⟨by simp, ?_⟩))))
      simp only [Bool.or_eq_true, Bool.and_eq_true, Bool.not_eq_true', Bool.not_eq_false', Bool.or_eq_false_iff, Bool.and_eq_false_imp, decide_eq_true_eq, decide_eq_false_iff_not, beq_iff_eq, not_or, Int.not_lt, Int.not_le, Bool.false_eq_true, not_false_eq_true, not_true_eq_false, Decidable.not_not] at *
      exact wf_step W (hr h) (getD_of hk)
    · rintro ⟨out, op, v⟩ ⟨hv, W⟩
      simp only at hv W
      subst hv
      simp only [history_Calls_L3]
      exact .condF (decide_eq_false (by omega)) (.one W)
end Hs

end Go.Proofs.Ytooaoekfnmakhaa
