/- Objects, plainly: states, what may be asked. -/
import Derived.Test.YtpakplmpihhmbaaA1
import Derived.Test.YtpakplmpihhmbaaBit
set_option linter.unusedVariables false
set_option linter.unusedSimpArgs false
set_option linter.unusedSectionVars false
set_option maxRecDepth 100000
namespace Go.Proofs.Ytpakplmpihhmbaa
open Go.RowKit
/-! Objects: states, what is asked, what comes of it. -/
namespace Ob
/-- A number that may be held. -/
def Num (n : Int) : Prop := 1 ≤ n ∧ n ≤ 1000
def Inc : List Int → Prop
  | [] => True
  | [_] => True
  | a :: b :: r => a < b ∧ Inc (b :: r)
/-- A state that may be. -/
def OkS (typ : Int) (s : List Int) : Prop :=
  ((typ = 1 ∨ typ = 5) ∧ ∃ v, s = [v] ∧ 0 ≤ v ∧ v ≤ 1000) ∨ ((typ = 2 ∨ typ = 3) ∧ s.length ≤ 50 ∧ ∀ n ∈ s, Num n) ∨ (typ = 4 ∧ s.length ≤ 50 ∧ (∀ n ∈ s, Num n) ∧ Inc s)
theorem many_wp {N : Nat} (hN : 300 < N) {s : List Int} (hs : s.length ≤ 60) (a : ObjectSingle) : Wp (object_many_valid N a s) fun b => (b = true ∧ ∀ n ∈ s, Num n) ∨ (b = false ∧ ¬ ∀ n ∈ s, Num n) := by
  unfold object_many_valid slices_ContainsFunc_int_int slices_IndexFunc_int_int
  refine .seq (P := fun b => (b = false ∧ ∀ n ∈ s, Num n) ∨ (b = true ∧ ¬ ∀ n ∈ s, Num n)) (.seq (P := fun i => (i = -1 ∧ ∀ n ∈ s, Num n) ∨ (0 ≤ i ∧ ¬ ∀ n ∈ s, Num n)) ?_ fun i _ hi => .one ?_) fun b _ hb => .one ?_
  · refine .elim (P := fun t => match t with | .inl _ => ∀ n ∈ s, Num n | .inr i => 0 ≤ i ∧ ¬ ∀ n ∈ s, Num n) (.iter s.length (fun k v => v = (k : Int) ∧ ∀ j, j < k → Num (s.getD j 0)) (by omega) ⟨rfl, fun j h => absurd h (Nat.not_lt_zero _)⟩ ?_ ?_) (fun _ _ h => .one (.inl ⟨rfl, h⟩)) (fun i _ h => .one (.inr h))
    · rintro k v hk ⟨rfl, hr⟩
      simp only [slices_IndexFunc_int_int_L3]
      refine .condT (decide_eq_true (by omega)) (.ixD 0 (by omega) (by omega) ?_)
      simp only [Int.toNat_natCast]
      refine .bdO (a := ()) rfl (.cond (fun h => .one ⟨by omega, fun hall => ?_⟩) fun h => .ck64 (by omega) (.one ⟨by simp, fun j hj => ?_⟩))
      · have := hall (s.getD k 0) (by rw [getD_of hk]; exact List.getElem_mem hk)
        unfold Num at this
        simp only [Bool.or_eq_true, decide_eq_true_eq] at h
        omega
      · rcases Nat.lt_or_ge j k with h1 | h1
        · exact hr j h1
        · obtain rfl : j = k := by omega
          simp only [Bool.or_eq_false_iff, decide_eq_false_iff_not] at h
          unfold Num
          omega
    · rintro v ⟨rfl, hr⟩
      simp only [slices_IndexFunc_int_int_L3]
      refine .condF (decide_eq_false (by omega)) (.one ?_)
      intro n hn
      obtain ⟨j, hj, rfl⟩ := List.getElem_of_mem hn
      have := hr j hj
      rwa [getD_of hj] at this
  · rcases hi with ⟨rfl, h⟩ | ⟨h0, h⟩
    · exact .inl ⟨rfl, h⟩
    · exact .inr ⟨decide_eq_true h0, h⟩
  · rcases hb with ⟨rfl, h⟩ | ⟨rfl, h⟩
    · exact .inl ⟨rfl, h⟩
    · exact .inr ⟨rfl, h⟩
theorem inc_iff : ∀ s : List Int, Inc s ↔ ∀ j, j + 1 < s.length → s.getD j 0 < s.getD (j + 1) 0
  | [] => ⟨fun _ j h => by simp at h, fun _ => trivial⟩
  | [a] => ⟨fun _ j h => by simp at h, fun _ => trivial⟩
  | a :: b :: r => by
    have ih := inc_iff (b :: r)
    constructor
    · rintro ⟨h1, h2⟩ j hj
      cases j with
      | zero => exact h1
      | succ j => exact ih.1 h2 j (by simp at hj ⊢; omega)
    · intro h
      exact ⟨h 0 (by simp), ih.2 fun j hj => h (j + 1) (by simp at hj ⊢; omega)⟩
theorem set_wp {N : Nat} (hN : 300 < N) {s : List Int} (hs : s.length ≤ 60) (a : ObjectSet) : Wp (object_set_valid N a s) fun b => (b = true ∧ (∀ n ∈ s, Num n) ∧ Inc s) ∨ (b = false ∧ ¬ ((∀ n ∈ s, Num n) ∧ Inc s)) := by
  unfold object_set_valid
  refine .elim (P := fun t => match t with | .inl _ => Inc s | .inr b => b = false ∧ ¬ Inc s) (.iter (s.length - 1) (fun k v => v = (k : Int) + 1 ∧ ∀ j, j < k → s.getD j 0 < s.getD (j + 1) 0) (by omega) ⟨rfl, fun j h => absurd h (Nat.not_lt_zero _)⟩ ?_ ?_) (fun _ _ h => ?_) (fun b _ h => .one (.inr ⟨h.1, fun h2 => h.2 h2.2⟩))
  · rintro k v hk ⟨rfl, hr⟩
    simp only [object_set_valid_L3]
    refine .condT (decide_eq_true (by omega)) (.ck64 (by omega) (.ixD 0 (by omega) (by omega) (.ixD 0 (by omega) (by omega) ?_)))
    simp only [show ((k : Int) + 1 - 1).toNat = k by omega, show ((k : Int) + 1).toNat = k + 1 by omega]
    refine .cond (fun h => .one ⟨rfl, fun hi => ?_⟩) fun h => .ck64 (by omega) (.one ⟨by simp, fun j hj => ?_⟩)
    · have := (inc_iff s).1 hi k (by omega)
      have := of_decide_eq_true h
      omega
    · rcases Nat.lt_or_ge j k with h1 | h1
      · exact hr j h1
      · obtain rfl : j = k := by omega
        have := of_decide_eq_false h
        omega
  · rintro v ⟨rfl, hr⟩
    simp only [object_set_valid_L3]
    exact .condF (decide_eq_false (by omega)) (.one ((inc_iff s).2 fun j hj => hr j (by omega)))
  · have h : Inc s := h
    refine .seq (many_wp hN hs _) fun b _ hb => .one ?_
    rcases hb with ⟨rfl, h2⟩ | ⟨rfl, h2⟩
    · exact .inl ⟨rfl, h2, h⟩
    · exact .inr ⟨rfl, fun h3 => h2 h3.1⟩
theorem single_wp {N : Nat} {s : List Int} (a : ObjectSingle) : Wp (object_single_valid N a s) fun b => (b = true ∧ ∃ v, s = [v] ∧ 0 ≤ v ∧ v ≤ 1000) ∨ (b = false ∧ ¬ ∃ v, s = [v] ∧ 0 ≤ v ∧ v ≤ 1000) := by
  unfold object_single_valid
  match s with
  | [v] =>
    refine ⟨(decide (0 ≤ v) && decide (v ≤ 1000)), ?_, ?_⟩
    · by_cases h : 0 ≤ v
      · simp [ix, bd, h]
      · simp [ix, bd, h]
    · by_cases h : 0 ≤ v ∧ v ≤ 1000
      · exact .inl ⟨by simp [h.1, h.2], v, rfl, h⟩
      · refine .inr ⟨?_, fun ⟨u, e, h2⟩ => h (by cases e; exact h2)⟩
        by_cases h1 : 0 ≤ v
        · have : ¬ v ≤ 1000 := fun h2 => h ⟨h1, h2⟩
          simp [h1, this]
        · simp [h1]
  | [] => exact ⟨false, rfl, .inr ⟨rfl, fun ⟨v, h, _⟩ => by cases h⟩⟩
  | a :: b :: r =>
    have e : decide ((((a :: b :: r) : List Int).length : Int) = 1) = false := by simp; omega
    refine ⟨false, ?_, .inr ⟨rfl, fun ⟨v, h, _⟩ => by cases h⟩⟩
    rw [e]; rfl
/-- The type is one of the five. -/
def Ty (typ : Int) : Prop := 1 ≤ typ ∧ typ ≤ 5
theorem check_wp {N : Nat} (hN : 300 < N) (typ : Int) (s : List Int) : Wp (object_Check N typ s) fun e => (e = 0 ∧ OkS typ s) ∨ (e ≠ 0 ∧ ¬ OkS typ s) := by
  unfold object_Check
  by_cases hlen : s.length ≤ 50
  · have hs : s.length ≤ 60 := by omega
    have hl : decide (50 < (s.length : Int)) = false := decide_eq_false (by omega)
    by_cases h1 : typ = 1
    · subst h1
      refine .bdO (a := 133) rfl (.condF rfl (.condF hl (.seq (P := fun b => (b = false ∧ OkS 1 s) ∨ (b = true ∧ ¬ OkS 1 s)) (.condT rfl (.seq (single_wp _) fun b _ hb => .one ?_)) fun b _ hb => .cond (fun h => .one (.inr ⟨by simp, ?_⟩)) fun h => .one (.inl ⟨rfl, ?_⟩))))
      · rcases hb with ⟨rfl, h⟩ | ⟨rfl, h⟩
        · exact .inl ⟨rfl, .inl ⟨.inl rfl, h⟩⟩
        · refine .inr ⟨rfl, fun h2 => ?_⟩
          rcases h2 with ⟨_, h2⟩ | ⟨h2, _⟩ | ⟨h2, _⟩
          · exact h h2
          · omega
          · omega
      · rcases hb with ⟨rfl, h2⟩ | ⟨_, h2⟩
        · cases h
        · exact h2
      · rcases hb with ⟨_, h2⟩ | ⟨rfl, h2⟩
        · exact h2
        · cases h
    by_cases h5 : typ = 5
    · subst h5
      refine .bdO (a := 139) rfl (.condF rfl (.condF hl (.seq (P := fun b => (b = false ∧ OkS 5 s) ∨ (b = true ∧ ¬ OkS 5 s)) (.condF rfl (.condF rfl (.condF rfl (.condF rfl (.condT rfl (.seq (single_wp _) fun b _ hb => .one ?_)))))) fun b _ hb => .cond (fun h => .one (.inr ⟨by simp, ?_⟩)) fun h => .one (.inl ⟨rfl, ?_⟩))))
      · rcases hb with ⟨rfl, h⟩ | ⟨rfl, h⟩
        · exact .inl ⟨rfl, .inl ⟨.inr rfl, h⟩⟩
        · refine .inr ⟨rfl, fun h2 => ?_⟩
          rcases h2 with ⟨_, h2⟩ | ⟨h2, _⟩ | ⟨h2, _⟩
          · exact h h2
          · omega
          · omega
      · rcases hb with ⟨rfl, h2⟩ | ⟨_, h2⟩
        · cases h
        · exact h2
      · rcases hb with ⟨_, h2⟩ | ⟨rfl, h2⟩
        · exact h2
        · cases h
    by_cases h2 : typ = 2
    · subst h2
      refine .bdO (a := 136) rfl (.condF rfl (.condF hl (.seq (P := fun b => (b = false ∧ OkS 2 s) ∨ (b = true ∧ ¬ OkS 2 s)) (.condF rfl (.condT rfl (.seq (many_wp hN hs _) fun b _ hb => .one ?_))) fun b _ hb => .cond (fun h => .one (.inr ⟨by simp, ?_⟩)) fun h => .one (.inl ⟨rfl, ?_⟩))))
      · rcases hb with ⟨rfl, h⟩ | ⟨rfl, h⟩
        · exact .inl ⟨rfl, .inr (.inl ⟨.inl rfl, hlen, h⟩)⟩
        · refine .inr ⟨rfl, fun h2 => ?_⟩
          rcases h2 with ⟨h2, _⟩ | ⟨_, _, h2⟩ | ⟨h2, _⟩
          · omega
          · exact h h2
          · omega
      · rcases hb with ⟨rfl, h2⟩ | ⟨_, h2⟩
        · cases h
        · exact h2
      · rcases hb with ⟨_, h2⟩ | ⟨rfl, h2⟩
        · exact h2
        · cases h
    by_cases h3 : typ = 3
    · subst h3
      refine .bdO (a := 137) rfl (.condF rfl (.condF hl (.seq (P := fun b => (b = false ∧ OkS 3 s) ∨ (b = true ∧ ¬ OkS 3 s)) (.condF rfl (.condF rfl (.condT rfl (.seq (many_wp hN hs _) fun b _ hb => .one ?_)))) fun b _ hb => .cond (fun h => .one (.inr ⟨by simp, ?_⟩)) fun h => .one (.inl ⟨rfl, ?_⟩))))
      · rcases hb with ⟨rfl, h⟩ | ⟨rfl, h⟩
        · exact .inl ⟨rfl, .inr (.inl ⟨.inr rfl, hlen, h⟩)⟩
        · refine .inr ⟨rfl, fun h2 => ?_⟩
          rcases h2 with ⟨h2, _⟩ | ⟨_, _, h2⟩ | ⟨h2, _⟩
          · omega
          · exact h h2
          · omega
      · rcases hb with ⟨rfl, h2⟩ | ⟨_, h2⟩
        · cases h
        · exact h2
      · rcases hb with ⟨_, h2⟩ | ⟨rfl, h2⟩
        · exact h2
        · cases h
    by_cases h4 : typ = 4
    · subst h4
      refine .bdO (a := 138) rfl (.condF rfl (.condF hl (.seq (P := fun b => (b = false ∧ OkS 4 s) ∨ (b = true ∧ ¬ OkS 4 s)) (.condF rfl (.condF rfl (.condF rfl (.condT rfl (.seq (set_wp hN hs _) fun b _ hb => .one ?_))))) fun b _ hb => .cond (fun h => .one (.inr ⟨by simp, ?_⟩)) fun h => .one (.inl ⟨rfl, ?_⟩))))
      · rcases hb with ⟨rfl, h⟩ | ⟨rfl, h⟩
        · exact .inl ⟨rfl, .inr (.inr ⟨rfl, hlen, h⟩)⟩
        · refine .inr ⟨rfl, fun h2 => ?_⟩
          rcases h2 with ⟨h2, _⟩ | ⟨h2, _⟩ | ⟨_, _, h2⟩
          · omega
          · omega
          · exact h h2
      · rcases hb with ⟨rfl, h2⟩ | ⟨_, h2⟩
        · cases h
        · exact h2
      · rcases hb with ⟨_, h2⟩ | ⟨rfl, h2⟩
        · exact h2
        · cases h
    · have he : object_of N typ = some 0 := by
        unfold object_of
        rw [decide_eq_false h1, decide_eq_false h2, decide_eq_false h3, decide_eq_false h4, decide_eq_false h5]; rfl
      refine .bdO he (.condT rfl (.one (.inr ⟨by simp, fun h => ?_⟩)))
      rcases h with ⟨h, _⟩ | ⟨h, _⟩ | ⟨h, _⟩ <;> omega
  · have hno : ¬ OkS typ s := by
      rintro (⟨_, v, rfl, _⟩ | ⟨_, h, _⟩ | ⟨_, h, _⟩)
      · simp at hlen
      · exact hlen h
      · exact hlen h
    refine .seq (P := fun _ => True) ?_ fun r _ _ => .cond (fun _ => .one (.inr ⟨by simp, hno⟩)) fun _ => .condT (decide_eq_true (by omega)) (.one (.inr ⟨by simp, hno⟩))
    unfold object_of
    exact .cond (fun _ => .one trivial) fun _ => .cond (fun _ => .one trivial) fun _ => .cond (fun _ => .one trivial) fun _ => .cond (fun _ => .one trivial) fun _ => .cond (fun _ => .one trivial) fun _ => .one trivial
/-- The type of a kind. -/
def tyK (k : Int) : Int := if k = 1 ∨ k = 2 then 1 else if k = 3 ∨ k = 4 then 2 else if k = 5 ∨ k = 6 then 3 else if k = 7 ∨ k = 8 ∨ k = 9 then 4 else if k = 10 then 5 else 0
theorem typeOf_ok (N : Nat) (k : Int) : history_typeOf N k = some (tyK k) := by
  by_cases h : 1 ≤ k ∧ k ≤ 10
  · have : k = 1 ∨ k = 2 ∨ k = 3 ∨ k = 4 ∨ k = 5 ∨ k = 6 ∨ k = 7 ∨ k = 8 ∨ k = 9 ∨ k = 10 := by omega
    rcases this with h | h | h | h | h | h | h | h | h | h <;> subst h <;> rfl
  · have e : ∀ n : Int, 1 ≤ n → n ≤ 10 → ¬ k = n := fun n h1 h2 e => h (by omega)
    unfold history_typeOf tyK
    simp [e, bd]
/-- What may be asked. -/
def Asked (typ kind arg : Int) : Prop := typ ≠ 0 ∧ tyK kind = typ ∧ ((kind = 2 ∨ kind = 4 ∨ kind = 6 ∨ kind = 10) → arg = 0) ∧ (¬ (kind = 2 ∨ kind = 4 ∨ kind = 6 ∨ kind = 10) → Num arg)
instance (n : Int) : Decidable (Num n) := by unfold Num; infer_instance
instance (typ kind arg : Int) : Decidable (Asked typ kind arg) := by unfold Asked Num; infer_instance
theorem argument_ok (N : Nat) (k n : Int) : history_Argument N k n = some (if k = 2 ∨ k = 4 ∨ k = 6 ∨ k = 10 then decide (n = 0) else (decide (1 ≤ n) && decide (n ≤ 1000))) := by
  unfold history_Argument
  by_cases h2 : k = 2
  · subst h2; rfl
  by_cases h4 : k = 4
  · subst h4; rfl
  by_cases h6 : k = 6
  · subst h6; rfl
  by_cases h10 : k = 10
  · subst h10; rfl
  simp [h2, h4, h6, h10, bd]
theorem fits_ok (N : Nat) (typ k : Int) : history_Fits N typ k = some (decide (typ ≠ 0 ∧ tyK k = typ)) := by
  unfold history_Fits
  by_cases h : typ = 0
  · subst h; simp [bd]
  · rw [typeOf_ok]
    simp [bd, h]
theorem argd (k n : Int) : (if k = 2 ∨ k = 4 ∨ k = 6 ∨ k = 10 then decide (n = 0) else (decide (1 ≤ n) && decide (n ≤ 1000))) = decide (((k = 2 ∨ k = 4 ∨ k = 6 ∨ k = 10) → n = 0) ∧ (¬ (k = 2 ∨ k = 4 ∨ k = 6 ∨ k = 10) → Num n)) := by
  by_cases h : k = 2 ∨ k = 4 ∨ k = 6 ∨ k = 10
  · rw [if_pos h]; exact decide_eq_decide.2 ⟨fun e => ⟨fun _ => e, fun g => (g h).elim⟩, fun e => e.1 h⟩
  · rw [if_neg h]
    unfold Num
    rw [← Bool.decide_and]
    exact decide_eq_decide.2 ⟨fun e => ⟨fun g => (h g).elim, fun _ => e⟩, fun e => e.2 h⟩
/-- What comes of it: the state behind, and the answer; 'none': no room. -/
def stp (typ : Int) (s : List Int) (kind arg : Int) : Option (List Int × Int) :=
  if typ = 1 then (if kind = 1 then some ([arg], 0) else some (s, s.getD 0 0))
  else if typ = 5 then (if s.getD 0 0 = 1000 then none else some ([s.getD 0 0 + 1], s.getD 0 0))
  else if typ = 2 then (if kind = 3 then (if s.length = 50 then none else some (s ++ [arg], 0)) else if s.length = 0 then some (s, -1) else some (s.drop 1, s.getD 0 0))
  else if typ = 3 then (if kind = 5 then (if s.length = 50 then none else some (s ++ [arg], 0)) else if s.length = 0 then some (s, -1) else some (s.take (s.length - 1), s.getD (s.length - 1) 0))
  else if kind = 7 then (if arg ∈ s then some (s, 0) else if s.length = 50 then none else some (s.takeWhile (· < arg) ++ [arg] ++ s.dropWhile (· < arg), 1))
  else if kind = 8 then (if arg ∈ s then some (s.takeWhile (· < arg) ++ (s.dropWhile (· < arg)).drop 1, 1) else some (s, 0))
  else some (s, if arg ∈ s then 1 else 0)
end Ob

end Go.Proofs.Ytpakplmpihhmbaa
