/- HistoryBack, plainly. -/
import Derived.Test.YtooaoekfnmakhaaS7
import Derived.Test.YtooaoekfnmakhaaS3
set_option linter.unusedVariables false
set_option linter.unusedSimpArgs false
set_option linter.unusedSectionVars false
set_option maxRecDepth 100000
namespace Go.Proofs.Ytooaoekfnmakhaa
open Go.RowKit
namespace Hs
theorem bd_inv {α β : Type} {m : Option α} {f : α → Option β} {b : β} (h : bd m f = some b) : ∃ a, m = some a ∧ f a = some b := by
  cases m with
  | none => cases h
  | some a => exact ⟨a, rfl, h⟩
theorem cond_inv {α : Type} {c : Bool} {x y : Option α} {b : α} (h : cond c x y = some b) : (c = true ∧ x = some b) ∨ (c = false ∧ y = some b) := by
  cases c with
  | true => exact .inl ⟨rfl, h⟩
  | false => exact .inr ⟨rfl, h⟩
theorem ck_inv {α : Type} {c : Bool} {x : Option α} {b : α} (h : ck c x = some b) : c = true ∧ x = some b := by
  cases c with
  | true => exact ⟨rfl, h⟩
  | false => cases h
theorem types_of {N : Nat} {types : List Int} (hN : 300 < N) (hl : 1 ≤ types.length ∧ types.length ≤ 4) (hx : ∀ j, j < types.length → 1 ≤ types.getD j 0 ∧ types.getD j 0 ≤ 5) : history_Types N types = some 0 := by
  refine Wp.eq ?_
  unfold history_Types
  have hg : (((decide (((types).length : Int) < 1)) || (decide (4 < ((types).length : Int)))) == false) = true := by simp; omega
  refine .seq (P := fun b => b = false) (.condT hg ?_) fun b _ hb => .condF (by rw [hb]; simp; omega) (.one rfl)
  unfold slices_ContainsFunc_int_int
  refine .seq (P := fun r => r = -1) ?_ fun r _ hr => .one (by rw [hr]; rfl)
  unfold slices_IndexFunc_int_int
  refine .elim (P := fun t => t = .inl ()) (.iter types.length (fun k v => v = (k : Int)) (by omega) rfl ?_ ?_) (fun _ _ _ => .one rfl) (fun _ _ h => by cases h)
  · rintro k v hk rfl
    simp only [slices_IndexFunc_int_int_L3]
    have h := hx k hk
    rw [getD_of hk] at h
    exact .condT (decide_eq_true (by omega)) (.ix hk (.bdO rfl (.condF (by simp; omega) (.ck64 (by omega) (.one (by simp))))))
  · rintro v rfl
    simp only [slices_IndexFunc_int_int_L3]
    exact .condF (decide_eq_false (by omega)) (.one rfl)
theorem iter_cong {σ ρ : Type} {b1 b2 : σ → Option (σ ⊕ ρ)} (I : σ → Prop) (hI : ∀ s t, I s → b1 s = some (.inl t) → I t) (h : ∀ s, I s → b1 s = b2 s) : ∀ N s, I s → iter b1 N s = iter b2 N s
  | 0, s, _ => rfl
  | N + 1, s, hs => by
    simp only [iter, ← h s hs]
    cases hb : b1 s with
    | none => rfl
    | some t =>
      cases t with
      | inl t => exact iter_cong I hI h N t (hI s t hs hb)
      | inr r => rfl
/-- The same calls are told by other types, if these are the same for all things that are called. -/
theorem calls_cong {N : Nat} {T1 T2 : List Int} {l : List Event} {c : List Call} (hN : 300 < N) (H : His N T1 l c) (h1 : history_Calls N T1 l = some (c, 0, 0)) (hl : 1 ≤ T2.length ∧ T2.length ≤ 4) (hx : ∀ j, j < T2.length → 1 ≤ T2.getD j 0 ∧ T2.getD j 0 ≤ 5)
    (hs : ∀ m, m < c.length → (c.getD m Call.z).thing < T2.length ∧ T2.getD (c.getD m Call.z).thing.toNat 0 = T1.getD (c.getD m Call.z).thing.toNat 0) : history_Calls N T2 l = some (c, 0, 0) := by
  rw [← h1]
  obtain ⟨op, W⟩ := H.wf
  have ev : ∀ (e : Nat) (h : e < l.length), 0 ≤ l[e].thing ∧ l[e].thing < T1.length ∧ l[e].thing < T2.length ∧ T2.getD l[e].thing.toNat 0 = T1.getD l[e].thing.toNat 0 := by
    intro e h
    obtain ⟨m, hm, he⟩ := W.all e h
    have O := W.one m hm
    have h2 := hs m hm
    have h3 := O.thing
    have hf := O.fr
    have key : l[e].thing = (c.getD m Call.z).thing := by
      rcases he with he | he
      · have := O.evf.1
        rw [he, Int.toNat_natCast, getD_of h] at this
        rw [this]
      · have := O.evt (by omega)
        rw [he, Int.toNat_natCast, getD_of h] at this
        rw [this]
    rw [key]
    exact ⟨h3.1, h3.2, h2.1, h2.2⟩
  unfold history_Calls
  rw [types_of hN hl hx, H.ty]
  simp only [bd]
  congr 1
  congr 1
  have : iter (history_Calls_L3 N l T2) N ([], [], 0) = iter (history_Calls_L3 N l T1) N ([], [], 0) := by
    refine iter_cong (fun s => 0 ≤ s.2.2) (fun s t hs hb => ?_) (fun s hs => ?_) N _ (Int.le_refl _)
    · obtain ⟨a, b, v⟩ := s
      simp only at hs ⊢
      simp only [history_Calls_L3] at hb
      rcases cond_inv hb with ⟨_, hb⟩ | ⟨_, hb⟩
      · obtain ⟨x, _, hb⟩ := bd_inv hb
        obtain ⟨r, _, hb⟩ := bd_inv hb
        rcases cond_inv hb with ⟨_, hb⟩ | ⟨_, hb⟩
        · cases hb
        · obtain ⟨_, hb⟩ := ck_inv hb
          cases hb
          show 0 ≤ v + 1
          omega
      · cases hb
    · obtain ⟨a, b, v⟩ := s
      simp only at hs
      simp only [history_Calls_L3]
      by_cases hv : v < (l.length : Int)
      · rw [cond_of (decide_eq_true hv), cond_of (decide_eq_true hv)]
        obtain ⟨e, rfl⟩ : ∃ e : Nat, v = e := ⟨v.toNat, by omega⟩
        have he : e < l.length := by omega
        rw [bd_of (ix_of he), bd_of (ix_of he)]
        have h4 := ev e he
        have : history_reader_event N T2 a b (e : Int) l[e] = history_reader_event N T1 a b (e : Int) l[e] := by
          unfold history_reader_event
          rw [show decide (((T2).length : Int) ≤ l[e].thing) = false from decide_eq_false (by omega), show decide (((T1).length : Int) ≤ l[e].thing) = false from decide_eq_false (by omega),
            ix_int h4.1 h4.2.2.1, ix_int h4.1 h4.2.1, ← getD_of (l := T2) (d := 0), ← getD_of (l := T1) (d := 0), h4.2.2.2]
        rw [this]
      · rw [cond_no (decide_eq_false hv), cond_no (decide_eq_false hv)]
  rw [this]
end Hs

namespace Hs
theorem eqCall_wp {N : Nat} {a b : List Call} (hN : 1000 < N) (hl : a.length ≤ 900) : Wp (slices_Equal_api_Call_api_Call N a b) fun r => r = true ↔ a = b := by
  unfold slices_Equal_api_Call_api_Call
  refine .cond (fun h => .one ⟨fun h => (by cases h), fun h2 => (by subst h2; simp at h)⟩) (fun h => ?_)
  have hlen : a.length = b.length := by simp at h; omega
  refine .elim (P := fun t => match t with | .inl _ => a = b | .inr r => r = false ∧ a ≠ b) (.iter a.length (fun k v => v = (k : Int) ∧ ∀ j, (h1 : j < a.length) → (h2 : j < b.length) → j < k → a[j] = b[j]) (by omega) ⟨rfl, fun j _ _ h => absurd h (Nat.not_lt_zero _)⟩ ?_ ?_) (fun _ _ h => .one ⟨fun _ => h, fun _ => rfl⟩) (fun r _ h => .one ?_)
  · rintro k v hk ⟨rfl, hr⟩
    simp only [slices_Equal_api_Call_api_Call_L3]
    refine .condT (decide_eq_true (by omega)) (.ix hk (.ix (by omega) (.cond (fun h => .one ⟨rfl, fun h2 => ?_⟩) (fun h => .ck64 (by omega) (.one ⟨by simp, fun j h1 h2 hj => ?_⟩)))))
    · subst h2; simp at h
    · rcases Nat.lt_or_ge j k with h3 | h3
      · exact hr j h1 h2 h3
      · obtain rfl : j = k := by omega
        simpa using h
  · rintro v ⟨rfl, hr⟩
    simp only [slices_Equal_api_Call_api_Call_L3]
    exact .condF (decide_eq_false (by omega)) (.one (List.ext_getElem hlen fun j h1 h2 => hr j h1 h2 h1))
  · have h : r = false ∧ a ≠ b := h
    obtain ⟨rfl, hn⟩ := h
    exact ⟨fun h => (by cases h), fun h => absurd h hn⟩
theorem eqEvent_wp {N : Nat} {a b : List Event} (hN : 1000 < N) (hl : a.length ≤ 900) : Wp (slices_Equal_api_Event_api_Event N a b) fun r => r = true ↔ a = b := by
  unfold slices_Equal_api_Event_api_Event
  refine .cond (fun h => .one ⟨fun h => (by cases h), fun h2 => (by subst h2; simp at h)⟩) (fun h => ?_)
  have hlen : a.length = b.length := by simp at h; omega
  refine .elim (P := fun t => match t with | .inl _ => a = b | .inr r => r = false ∧ a ≠ b) (.iter a.length (fun k v => v = (k : Int) ∧ ∀ j, (h1 : j < a.length) → (h2 : j < b.length) → j < k → a[j] = b[j]) (by omega) ⟨rfl, fun j _ _ h => absurd h (Nat.not_lt_zero _)⟩ ?_ ?_) (fun _ _ h => .one ⟨fun _ => h, fun _ => rfl⟩) (fun r _ h => .one ?_)
  · rintro k v hk ⟨rfl, hr⟩
    simp only [slices_Equal_api_Event_api_Event_L3]
    refine .condT (decide_eq_true (by omega)) (.ix hk (.ix (by omega) (.cond (fun h => .one ⟨rfl, fun h2 => ?_⟩) (fun h => .ck64 (by omega) (.one ⟨by simp, fun j h1 h2 hj => ?_⟩)))))
    · subst h2; simp at h
    · rcases Nat.lt_or_ge j k with h3 | h3
      · exact hr j h1 h2 h3
      · obtain rfl : j = k := by omega
        simpa using h
  · rintro v ⟨rfl, hr⟩
    simp only [slices_Equal_api_Event_api_Event_L3]
    exact .condF (decide_eq_false (by omega)) (.one (List.ext_getElem hlen fun j h1 h2 => hr j h1 h2 h1))
  · have h : r = false ∧ a ≠ b := h
    obtain ⟨rfl, hn⟩ := h
    exact ⟨fun h => (by cases h), fun h => absurd h hn⟩
theorem put_wp {N n : Nat} {at_ : Int} {v : Event} {used : List Bool} {out : List Event} (hu : used.length = n) (ho : out.length = n) :
    Wp (history_Events_1 N at_ v (n : Int) used out) fun r => (r.2.2 = true ∧ (0 ≤ at_ ∧ at_ < n) ∧ used.getD at_.toNat false = false ∧ r.1 = used.set at_.toNat true ∧ r.2.1 = out.set at_.toNat v) ∨ (r.2.2 = false ∧ r.1 = used ∧ r.2.1 = out ∧ ¬ ((0 ≤ at_ ∧ at_ < n) ∧ used.getD at_.toNat false = false)) := by
  unfold history_Events_1
  refine .gix false (fun h => by simp only [Bool.or_eq_true, Bool.and_eq_true, Bool.not_eq_true', Bool.not_eq_false', Bool.or_eq_false_iff, Bool.and_eq_false_imp, decide_eq_true_eq, decide_eq_false_iff_not, beq_iff_eq, not_or, Int.not_lt, Int.not_le, Bool.false_eq_true, not_false_eq_true, not_true_eq_false, Decidable.not_not] at *; omega) fun x hx => .cond (fun h => .one (.inr ⟨rfl, rfl, rfl, fun h2 => ?_⟩)) (fun h => ?_)
  · have e := hx (by simp; omega)
    rw [h2.2] at e
    subst e
    simp at h
    omega
  · have hg : ((decide (at_ < 0)) || (decide ((n : Int) ≤ at_))) = false := by
      rw [Bool.or_eq_false_iff] at h
      exact h.1
    have e := hx (by rw [hg]; rfl)
    rw [Bool.or_eq_false_iff] at h
    have hx0 := h.2
    simp only [Bool.or_eq_false_iff, decide_eq_false_iff_not] at hg
    exact .ixD Event.z (by omega) (by omega) (.ixD false (by omega) (by omega) (.one (.inl ⟨rfl, by omega, by rw [← e]; exact hx0, rfl, rfl⟩)))
theorem grow_wp {N : Nat} {x : Call} {T : List Int} (hN : 300 < N) (ht : 0 ≤ x.thing ∧ x.thing < 4) (hT : 1 ≤ T.length ∧ T.length ≤ 4) :
    Wp (iter (history_Events_L55 N x) N T) fun T' => (x.thing < T'.length ∧ T'.length ≤ 4 ∧ T.length ≤ T'.length) ∧ ∀ j, j < T'.length → T'.getD j 0 = if j < T.length then T.getD j 0 else 1 := by
  refine .loop (fun S => (S.length ≤ 4 ∧ T.length ≤ S.length) ∧ ∀ j, j < S.length → S.getD j 0 = if j < T.length then T.getD j 0 else 1) (fun S => 5 - S.length) (by omega) ⟨⟨hT.2, Nat.le_refl _⟩, fun j hj => by rw [if_pos hj]⟩ fun S hS => ?_
  simp only [history_Events_L55]
  refine .cond (fun h => .ck (limB_of ?_) (.one ⟨⟨?_, fun j hj => ?_⟩, ?_⟩)) (fun h => .one ⟨?_, hS.2⟩)
  · simp only [List.length_singleton]; exact ⟨Nat.le_trans (m := 300) (by omega) (by decide), by omega⟩
  · simp only [Bool.or_eq_true, Bool.and_eq_true, Bool.not_eq_true', Bool.not_eq_false', Bool.or_eq_false_iff, Bool.and_eq_false_imp, decide_eq_true_eq, decide_eq_false_iff_not, beq_iff_eq, not_or, Int.not_lt, Int.not_le, Bool.false_eq_true, not_false_eq_true, not_true_eq_false, Decidable.not_not] at *; simp; omega
  · simp only [List.length_append, List.length_singleton] at hj
    rw [getD_app]
    split
    · exact hS.2 j (by assumption)
    · rw [if_pos (by omega), if_neg (by omega)]
  · simp only [Bool.or_eq_true, Bool.and_eq_true, Bool.not_eq_true', Bool.not_eq_false', Bool.or_eq_false_iff, Bool.and_eq_false_imp, decide_eq_true_eq, decide_eq_false_iff_not, beq_iff_eq, not_or, Int.not_lt, Int.not_le, Bool.false_eq_true, not_false_eq_true, not_true_eq_false, Decidable.not_not] at *; simp; omega
  · simp only [Bool.or_eq_true, Bool.and_eq_true, Bool.not_eq_true', Bool.not_eq_false', Bool.or_eq_false_iff, Bool.and_eq_false_imp, decide_eq_true_eq, decide_eq_false_iff_not, beq_iff_eq, not_or, Int.not_lt, Int.not_le, Bool.false_eq_true, not_false_eq_true, not_true_eq_false, Decidable.not_not] at *; omega
end Hs

end Go.Proofs.Ytooaoekfnmakhaa
