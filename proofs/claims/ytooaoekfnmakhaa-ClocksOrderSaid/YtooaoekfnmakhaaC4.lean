/- letters and Check, plainly. -/
import Derived.Test.YtooaoekfnmakhaaC1
import Derived.Test.YtooaoekfnmakhaaC3
set_option linter.unusedVariables false
set_option linter.unusedSimpArgs false
set_option linter.unusedSectionVars false
set_option maxRecDepth 100000
namespace Go.Proofs.Ytooaoekfnmakhaa
open Go.RowKit
namespace Ck
theorem mget_mput {α : Type} (x : Int) (v : α) (y : Int) : ∀ m : List (Int × α), mget (mput m x v) y = if y = x then some v else mget m y
  | [] => by
    simp only [mput, mget]
    by_cases h : y = x
    · subst h; simp
    · rw [if_neg h, if_neg (fun e => h e.symm)]
  | (k, u) :: m => by
    simp only [mput]
    by_cases hk : k = x
    · subst hk
      simp only [if_true, mget]
      by_cases h : k = y
      · subst h; simp
      · rw [if_neg h, if_neg h, if_neg (fun e => h e.symm)]
    · rw [if_neg hk]
      simp only [mget]
      by_cases h : k = y
      · subst h; rw [if_pos rfl, if_pos rfl, if_neg hk]
      · rw [if_neg h, if_neg h, mget_mput x v y m]
theorem mput_len {α : Type} (x : Int) (v : α) : ∀ m : List (Int × α), mget m x = none → (mput m x v).length = m.length + 1
  | [], _ => rfl
  | (k, u) :: m, h => by
    simp only [mget] at h
    split at h
    · cases h
    · rename_i hk
      simp only [mput, if_neg hk, List.length_cons, mput_len x v m h]
/-- A right list of marks: who, and where what is handed over was sent. -/
def RightS (l : List Mark) (sent : List (Int × Int)) (n : Nat) : Prop := ∀ j, (h : j < l.length) → j < n → 0 ≤ l[j].who ∧ l[j].who < 8 ∧ (l[j].kind = 2 → ∃ i : Nat, i < j ∧ mget sent l[j].letter = some (i : Int))
theorem letters_wp {N : Nat} {l : List Mark} (hN : l.length < N) (hl : l.length ≤ 1000000) : Wp (clocks_letters N l) fun r => r.2.1 = 0 → RightS l r.1 l.length := by
  unfold clocks_letters
  refine .elim (P := fun t => match t with | .inl sent => RightS l sent l.length | .inr r => r.2.1 ≠ 0) (.iter l.length (fun k st => st.2.2 = (k : Int) ∧ (∀ x p : Int, mget st.1 x = some p → 0 ≤ x ∧ x < st.1.length ∧ 0 ≤ p ∧ p < k) ∧ RightS l st.1 k) hN ⟨rfl, fun x p h => by simp [mget] at h, fun j _ h => absurd h (Nat.not_lt_zero _)⟩ ?_ ?_) ?_ ?_
  · rintro k ⟨sent, got, v⟩ hk ⟨hv, hkey, hr⟩
    simp only at hv hkey hr
    subst hv
    simp only [clocks_letters_L3]
    refine .condT (by simpa using hk) (.ix hk ?_)
    have hset : ∀ (S : List (Int × Int)), (∀ x p, mget sent x = some p → mget S x = some p) → 0 ≤ l[k].who → l[k].who < 8 → (l[k].kind = 2 → (mget S l[k].letter).isSome = true) → S = sent ∨ l[k].kind ≠ 2 → RightS l S (k + 1) := by
      intro S hS h1 h2 h3 h4 j hj hjk
      rcases Nat.lt_or_ge j k with h | h
      · have := hr j hj h
        refine ⟨this.1, this.2.1, fun hg => ?_⟩
        obtain ⟨i, hi, he⟩ := this.2.2 hg
        exact ⟨i, hi, hS _ _ he⟩
      · obtain rfl : j = k := by omega
        refine ⟨h1, h2, fun hg => ?_⟩
        have := h3 hg
        rcases h4 with rfl | h4
        · obtain ⟨p, hp⟩ := Option.isSome_iff_exists.1 this
          have hb := hkey _ _ hp
          exact ⟨p.toNat, by omega, by rw [hp]; congr 1; omega⟩
        · exact absurd hg h4
    refine .cond (fun _ => .one (by simp)) (fun c1 => ?_)
    refine .cond (fun _ => .one (by simp)) (fun c2 => ?_)
    refine .cond (fun c3 => ?_) (fun c3 => ?_)
    · refine .ck64 (by omega) (.one ?_)
      simp only [Bool.or_eq_true, Bool.and_eq_true, Bool.not_eq_true', Bool.not_eq_false', Bool.or_eq_false_iff, Bool.and_eq_false_imp, decide_eq_true_eq, decide_eq_false_iff_not, beq_iff_eq, not_or, Int.not_lt, Int.not_le, Bool.false_eq_true, not_false_eq_true, not_true_eq_false, Decidable.not_not] at *
      have hx : l[k].letter = sent.length := c2 c3
      have hn : mget sent l[k].letter = none := by
        cases h : mget sent l[k].letter with
        | none => rfl
        | some p => have := hkey _ _ h; omega
      refine ⟨by simp, fun x p hp => ?_, hset _ (fun x p hp => ?_) (by omega) (by omega) (fun h => by omega) (.inr (by omega))⟩
      · simp only [mget_mput] at hp
        simp only [mput_len _ _ _ hn]
        split at hp
        · cases hp; omega
        · have := hkey _ _ hp; omega
      · rw [mget_mput, if_neg]
        · exact hp
        · rintro rfl; rw [hn] at hp; cases hp
    · refine .cond (fun _ => .one (by simp)) (fun c4 => ?_)
      refine .cond (fun _ => .one (by simp)) (fun c5 => ?_)
      have fin : (sent, got, (k : Int) + 1).2.2 = ((k + 1 : Nat) : Int) ∧ (∀ x p : Int, mget sent x = some p → 0 ≤ x ∧ x < sent.length ∧ 0 ≤ p ∧ p < ((k + 1 : Nat) : Int)) ∧ RightS l sent (k + 1) := by
        simp only [Bool.or_eq_true, Bool.and_eq_true, Bool.not_eq_true', Bool.not_eq_false', Bool.or_eq_false_iff, Bool.and_eq_false_imp, decide_eq_true_eq, decide_eq_false_iff_not, beq_iff_eq, not_or, Int.not_lt, Int.not_le, Bool.false_eq_true, not_false_eq_true, not_true_eq_false, Decidable.not_not] at *
        refine ⟨by simp, fun x p hp => by have := hkey _ _ hp; omega, hset sent (fun _ _ h => h) (by omega) (by omega) (fun h => ?_) (.inl rfl)⟩
        have := c4 h
        cases hm : mget sent l[k].letter with
        | none => simp [hm] at this
        | some p => rfl
      refine .cond (fun c6 => ?_) (fun c6 => ?_)
      · exact .ck64 (by omega) (.one fin)
      · exact .cond (fun _ => .one (by simp)) fun c7 => .ck64 (by omega) (.one fin)
  · rintro ⟨sent, got, v⟩ ⟨hv, hkey, hr⟩
    simp only at hv hkey hr
    subst hv
    simp only [clocks_letters_L3]
    exact .condF (by simp) (.one hr)
  · intro a _ ha
    exact .one fun _ => ha
  · intro a _ ha
    exact .one fun h => absurd h ha
/-- The marks are right; the code says where what was sent. -/
structure Rt (N : Nat) (l : List Mark) (S : List (Int × Int) × Int × Int) : Prop where
  le : l.length ≤ 200
  run : clocks_letters N l = some S
  right : RightS l S.1 l.length
theorem check_wp {N : Nat} {l : List Mark} (hN : 300 < N) : Wp (clocks_Check N l) fun r => r.2 = 0 → ∃ S, Rt N l S := by
  unfold clocks_Check
  refine .cond (fun _ => .one (by simp)) (fun h => ?_)
  simp only [Bool.or_eq_true, Bool.and_eq_true, Bool.not_eq_true', Bool.not_eq_false', Bool.or_eq_false_iff, Bool.and_eq_false_imp, decide_eq_true_eq, decide_eq_false_iff_not, beq_iff_eq, not_or, Int.not_lt, Int.not_le, Bool.false_eq_true, not_false_eq_true, not_true_eq_false, Decidable.not_not] at *
  refine .seq (letters_wp (by omega) (by omega)) fun S hS hp => .one fun h => ⟨S, by omega, hS, hp h⟩
end Ck

end Go.Proofs.Ytooaoekfnmakhaa
