/- Events one by one, plainly. -/
import Derived.Test.YtooaoekfnmakhaaS1
import Derived.Test.YtooaoekfnmakhaaBit
set_option linter.unusedVariables false
set_option linter.unusedSimpArgs false
set_option linter.unusedSectionVars false
set_option maxRecDepth 100000
namespace Go.Proofs.Ytooaoekfnmakhaa
open Go.RowKit
namespace Hs
def tyF (k : Int) : Int := if k = 1 ∨ k = 2 then 1 else if k = 3 ∨ k = 4 then 2 else if k = 5 ∨ k = 6 then 3 else if k = 7 ∨ k = 8 ∨ k = 9 then 4 else if k = 10 then 5 else 0
theorem typeOf_eq (N : Nat) (k : Int) : history_typeOf N k = some (tyF k) := by
  by_cases h1 : k = 1; · subst h1; rfl
  by_cases h2 : k = 2; · subst h2; rfl
  by_cases h3 : k = 3; · subst h3; rfl
  by_cases h4 : k = 4; · subst h4; rfl
  by_cases h5 : k = 5; · subst h5; rfl
  by_cases h6 : k = 6; · subst h6; rfl
  by_cases h7 : k = 7; · subst h7; rfl
  by_cases h8 : k = 8; · subst h8; rfl
  by_cases h9 : k = 9; · subst h9; rfl
  by_cases h10 : k = 10; · subst h10; rfl
  simp [history_typeOf, tyF, bd, h1, h2, h3, h4, h5, h6, h7, h8, h9, h10]
theorem fits_eq (N : Nat) (t k : Int) : history_Fits N t k = some (decide (t ≠ 0 ∧ tyF k = t)) := by
  unfold history_Fits
  rw [typeOf_eq]
  by_cases h : t = 0
  · subst h; rfl
  · simp [h, bd]
theorem argument_some (N : Nat) (k n : Int) : ∃ b, history_Argument N k n = some b := by
  unfold history_Argument
  by_cases h1 : k = 2; · subst h1; exact ⟨_, rfl⟩
  by_cases h2 : k = 4; · subst h2; exact ⟨_, rfl⟩
  by_cases h3 : k = 6; · subst h3; exact ⟨_, rfl⟩
  by_cases h4 : k = 10; · subst h4; exact ⟨_, rfl⟩
  simp only [h1, h2, h3, h4, decide_false, cond_false]
  exact ⟨_, rfl⟩
theorem result_some (N : Nat) (k n : Int) : ∃ b, history_result N k n = some b := by
  unfold history_result
  by_cases h1 : k = 2; · subst h1; exact ⟨_, rfl⟩
  by_cases h2 : k = 10; · subst h2; exact ⟨_, rfl⟩
  by_cases h3 : k = 4; · subst h3; exact ⟨_, rfl⟩
  by_cases h4 : k = 6; · subst h4; exact ⟨_, rfl⟩
  by_cases h5 : k = 7; · subst h5; exact ⟨_, rfl⟩
  by_cases h6 : k = 8; · subst h6; exact ⟨_, rfl⟩
  by_cases h7 : k = 9; · subst h7; exact ⟨_, rfl⟩
  simp only [h1, h2, h3, h4, h5, h6, h7, decide_false, cond_false]
  exact ⟨_, rfl⟩
/-- What one event does. -/
structure Stp (types : List Int) (out : List Call) (op : List Int) (i : Int) (v : Event) (out' : List Call) (op' : List Int) : Prop where
  who : 0 ≤ v.who ∧ v.who < 8
  thing : 0 ≤ v.thing ∧ v.thing < types.length
  how : (v.kind ≠ 0 ∧ (types.getD v.thing.toNat 0 ≠ 0 ∧ tyF v.kind = types.getD v.thing.toNat 0) ∧ op.getD v.who.toNat 0 ≤ 0 ∧ out' = out ++ [⟨v.who, v.thing, v.kind, v.value, 0, i, -1⟩] ∧ op' = setA 8 0 op v.who ((out.length : Int) + 1)) ∨
    (v.kind = 0 ∧ ∃ m : Nat, op.getD v.who.toNat 0 = m + 1 ∧ ∃ c, m < out.length ∧ out.getD m Call.z = c ∧ c.thing = v.thing ∧ out' = out.set m ⟨c.who, c.thing, c.kind, c.arg, v.value, c.from_, i⟩ ∧ op' = setA 8 0 op v.who 0)
theorem event_wp {N : Nat} {types : List Int} {out : List Call} {op : List Int} {i : Int} {v : Event} (hl : out.length ≤ 1000) (ho : ∀ w, w < 8 → 0 ≤ op.getD w 0 ∧ op.getD w 0 ≤ out.length) :
    Wp (history_reader_event N types out op i v) fun r => r.2.2 = 0 → Stp types out op i v r.1 r.2.1 := by
  unfold history_reader_event
  refine .cond (fun _ => .one (by simp)) (fun h => ?_)
  simp only [Bool.or_eq_true, Bool.and_eq_true, Bool.not_eq_true', Bool.not_eq_false', Bool.or_eq_false_iff, Bool.and_eq_false_imp, decide_eq_true_eq, decide_eq_false_iff_not, beq_iff_eq, not_or, Int.not_lt, Int.not_le, Bool.false_eq_true, not_false_eq_true, not_true_eq_false, Decidable.not_not] at *
  have h8 := ho v.who.toNat (by omega)
  have hw : 0 ≤ v.who ∧ v.who < 8 := by omega
  have ht : 0 ≤ v.thing ∧ v.thing < types.length := by omega
  refine .ax (by omega) (by omega) (.cond (fun hk => ?_) (fun hk => ?_))
  · refine .ixD 0 (by omega) (by omega) (.bdO (fits_eq ..) ?_)
    obtain ⟨b, hb⟩ := argument_some N v.kind v.value
    refine .gd b (fun _ => hb) fun x _ => .cond (fun _ => .one (by simp)) (fun hf => .cond (fun _ => .one (by simp)) (fun hn => .ck (limB_of ⟨?_, ?_⟩) (.ax (by omega) (by omega) (.one fun _ => ?_))))
    · simp only [List.length_singleton]; exact Nat.le_trans (m := 2000) (by omega) (by decide)
    · simp only [List.length_singleton]; omega
    · simp only [Bool.or_eq_false_iff, Bool.not_eq_false', decide_eq_true_eq, decide_eq_false_iff_not, Bool.not_eq_true'] at hf hn hk
      exact ⟨hw, ht, .inl ⟨hk, hf.1, by omega, rfl, by simp⟩⟩
  · refine .cond (fun _ => .one (by simp)) (fun hn => ?_)
    simp only [decide_eq_false_iff_not, Bool.not_eq_false', decide_eq_true_eq] at hn hk
    obtain ⟨m, hm⟩ : ∃ m : Nat, op.getD v.who.toNat 0 = m + 1 := ⟨(op.getD v.who.toNat 0 - 1).toNat, by omega⟩
    rw [hm]
    simp only [show ((m : Int) + 1 - 1) = (m : Int) by omega]
    refine .ck64 (by omega) (.ixD Call.z (by omega) (by omega) ?_)
    simp only [Int.toNat_natCast]
    obtain ⟨b, hb⟩ := result_some N (out.getD m Call.z).kind v.value
    refine .gd b (fun _ => hb) fun x _ => .cond (fun _ => .one (by simp)) (fun hf => .ax (by omega) (by omega) (.one fun _ => ?_))
    simp only [Bool.or_eq_false_iff, Bool.not_eq_false', decide_eq_true_eq] at hf
    exact ⟨hw, ht, .inr ⟨hk, m, hm, _, by omega, rfl, hf.1, rfl, rfl⟩⟩
/-- What holds of a call. -/
structure Okc (types : List Int) (l : List Event) (k : Nat) (op : List Int) (m : Nat) (c : Call) : Prop where
  who : 0 ≤ c.who ∧ c.who < 8
  thing : 0 ≤ c.thing ∧ c.thing < types.length
  fit : types.getD c.thing.toNat 0 ≠ 0 ∧ tyF c.kind = types.getD c.thing.toNat 0
  fr : 0 ≤ c.from_ ∧ c.from_ < k
  to : (c.to_ = -1 ∧ op.getD c.who.toNat 0 = m + 1 ∧ c.res = 0) ∨ (c.from_ < c.to_ ∧ c.to_ < k)
  evf : l.getD c.from_.toNat Event.z = ⟨c.who, c.thing, c.kind, c.arg⟩ ∧ c.kind ≠ 0
  evt : c.to_ ≠ -1 → l.getD c.to_.toNat Event.z = ⟨c.who, c.thing, 0, c.res⟩
/-- What holds of two calls, one ahead of the other. -/
structure Two (c d : Call) : Prop where
  fr : c.from_ < d.from_
  own : c.who = d.who → c.to_ ≠ -1 ∧ c.to_ < d.from_
  to : c.to_ ≠ -1 → c.to_ ≠ d.to_
structure WF (types : List Int) (l : List Event) (k : Nat) (out : List Call) (op : List Int) : Prop where
  len : out.length ≤ k
  cnt : out.length + out.countP (fun c => !decide (c.to_ = -1)) = k
  pen : ∀ w, w < 8 → 0 ≤ op.getD w 0 ∧ op.getD w 0 ≤ out.length ∧ ∀ m : Nat, op.getD w 0 = m + 1 → (out.getD m Call.z).who = w ∧ (out.getD m Call.z).to_ = -1
  one : ∀ m, m < out.length → Okc types l k op m (out.getD m Call.z)
  two : ∀ i j, i < j → j < out.length → Two (out.getD i Call.z) (out.getD j Call.z)
  all : ∀ e, e < k → ∃ m, m < out.length ∧ ((out.getD m Call.z).from_ = e ∨ (out.getD m Call.z).to_ = e)
theorem getD_app {α : Type} {l : List α} {x d : α} {i : Nat} : (l ++ [x]).getD i d = if i < l.length then l.getD i d else if i = l.length then x else d := by
  simp only [List.getD_eq_getElem?_getD]
  by_cases h : i < l.length
  · rw [if_pos h, List.getElem?_append_left h]
  · rw [if_neg h, List.getElem?_append_right (by omega)]
    by_cases h2 : i = l.length
    · subst h2; simp
    · rw [if_neg h2, List.getElem?_eq_none (by simp; omega)]; rfl
theorem getD_set2 {α : Type} {l : List α} {i j : Nat} {v d : α} (h : i < l.length) : (l.set i v).getD j d = if j = i then v else l.getD j d := by
  simp only [List.getD_eq_getElem?_getD, List.getElem?_set, h, if_true]
  by_cases hj : i = j
  · subst hj; simp
  · rw [if_neg hj, if_neg (fun e => hj e.symm)]
theorem count_set {p : Call → Bool} : ∀ {l : List Call} {m : Nat} {c : Call}, m < l.length → p (l.getD m Call.z) = false → p c = true → (l.set m c).countP p = l.countP p + 1
  | [], m, c, h, _, _ => by simp at h
  | a :: l, 0, c, _, h1, h2 => by
    have h1 : p a = false := h1
    simp [List.countP_cons, h1, h2]
  | a :: l, m + 1, c, h, h1, h2 => by
    simp only [List.set_cons_succ, List.countP_cons]
    rw [count_set (l := l) (m := m) (by simpa using h) (by simpa using h1) h2]
    omega
theorem wf_zero (types : List Int) (l : List Event) : WF types l 0 [] [] := by
  refine ⟨Nat.le_refl _, rfl, fun w _ => ⟨by simp, by simp, fun m h => by simp at h; omega⟩, fun m h => absurd h (Nat.not_lt_zero _), fun i j _ h => absurd h (Nat.not_lt_zero _), fun e h => absurd h (Nat.not_lt_zero _)⟩
end Hs

end Go.Proofs.Ytooaoekfnmakhaa
