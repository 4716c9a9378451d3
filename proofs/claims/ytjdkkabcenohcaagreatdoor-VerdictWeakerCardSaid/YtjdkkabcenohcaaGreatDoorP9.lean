/- Tickets, plainly. -/
import Derived.Test.YtjdkkabcenohcaaGreatDoorP7
import Derived.Test.YtjdkkabcenohcaaGreatDoorV8
set_option linter.unusedVariables false
set_option linter.unusedSimpArgs false
set_option linter.unusedSectionVars false
set_option maxRecDepth 100000
namespace Go.Proofs.YtjdkkabcenohcaaGreatDoor
open Go.RowKit
namespace Tk
open Hs
theorem mget_put {α : Type} (v : α) (k j : Int) : ∀ m : List (Int × α), mget (mput m k v) j = if k = j then some v else mget m j
  | [] => by
    unfold mput mget
    by_cases h : k = j
    · rw [if_pos h, if_pos h]
    · rw [if_neg h, if_neg h]; rfl
  | (a, u) :: r => by
    unfold mput
    by_cases h : a = k
    · subst h
      rw [if_pos rfl]
      unfold mget
      by_cases h2 : a = j
      · rw [if_pos h2, if_pos h2]
      · rw [if_neg h2, if_neg h2]
        rw [if_neg h2]
    · rw [if_neg h]
      unfold mget
      by_cases h2 : a = j
      · rw [if_pos h2, if_pos h2, if_neg (fun e => h (h2.trans e.symm))]
      · rw [if_neg h2, if_neg h2]
        exact mget_put v k j r
/-- Is it answered? -/
def ans (x : Call) : Prop := x.to_ ≠ -1
/-- Does one of so many say this number? -/
def hasU (c : List Call) (n : Int) : Nat → Bool
  | 0 => false
  | k + 1 => hasU c n k || decide ((c.getD k Call.z).to_ ≠ -1 ∧ (c.getD k Call.z).res = n)
def mo (c : List Call) : Nat → Int
  | 0 => -1
  | k + 1 => if (c.getD k Call.z).to_ = -1 then mo c k else max (mo c k) (c.getD k Call.z).res
def pe (c : List Call) : Nat → List Int
  | 0 => []
  | k + 1 => if (c.getD k Call.z).to_ = -1 then pe c k ++ [(k : Int)] else pe c k
def mi (c : List Call) (L : Nat) : Nat → List Int
  | 0 => []
  | k + 1 => if hasU c k L then mi c L k else mi c L k ++ [(k : Int)]
theorem pe_len (c : List Call) : ∀ k, (pe c k).length ≤ k
  | 0 => Nat.le_refl _
  | k + 1 => by
    have := pe_len c k
    unfold pe
    split
    · rw [List.length_append, List.length_singleton]; omega
    · omega
theorem mi_len (c : List Call) (L : Nat) : ∀ k, (mi c L k).length ≤ k
  | 0 => Nat.le_refl _
  | k + 1 => by
    have := mi_len c L k
    unfold mi
    split
    · omega
    · rw [List.length_append, List.length_singleton]; omega
theorem mo_ge (c : List Call) : ∀ k, -1 ≤ mo c k
  | 0 => Int.le_refl _
  | k + 1 => by
    have := mo_ge c k
    unfold mo
    split
    · exact this
    · omega
theorem mo_le {c : List Call} (h : ∀ i, i < c.length → (c.getD i Call.z).res ≤ 1000) : ∀ k, k ≤ c.length → mo c k ≤ 1000
  | 0, _ => by show (-1 : Int) ≤ 1000; omega
  | k + 1, hk => by
    have h1 := mo_le h k (by omega)
    have h2 := h k (by omega)
    unfold mo
    split
    · exact h1
    · omega
/-- The numbers that are missing. -/
def miss (c : List Call) : List Int := mi c c.length (mo c c.length + 1).toNat
theorem read_ok {N : Nat} (hN : 5000 < N) {l : List Event} {c : List Call} {e : Int} (hc : history_Calls N [5] l = some (c, e, 0)) (h200 : c.length ≤ 200) (hr : ∀ i, i < c.length → (c.getD i Call.z).res ≤ 1000) : tickets_read N l = some (true, c, pe c c.length, miss c, 0) := by
  unfold tickets_read
  refine Wp.eq (.bdO hc (.condF rfl ?_))
  refine .seq (P := fun s => s.1 = pe c c.length ∧ s.2.1 = mo c c.length ∧ ∀ n, (mget s.2.2 n).getD false = hasU c n c.length) (.iter c.length (fun k st => st.1 = pe c k ∧ st.2.1 = mo c k ∧ (∀ n, (mget st.2.2.1 n).getD false = hasU c n k) ∧ st.2.2.2 = (k : Int)) (by omega) ⟨rfl, rfl, fun n => rfl, rfl⟩ ?_ ?_) fun s _ hs => ?_
  · rintro k ⟨p, m, h, v⟩ hk ⟨h1, h2, h3, h4⟩
    dsimp only at h1 h2 h3 h4
    subst h1; subst h2; subst h4
    have hl := pe_len c k
    simp only [tickets_read_L5]
    refine .condT (decide_eq_true (by omega)) (.ixD Call.z (by omega) (by omega) ?_)
    simp only [Int.toNat_natCast]
    refine .cond (fun h => ?_) fun h => ?_
    · have h := of_decide_eq_true h
      refine .ck (limB_of ⟨?_, ?_⟩) (.ck64 (by omega) (.one ⟨?_, ?_, fun n => ?_, by simp⟩))
      · simp only [List.length_singleton]; exact Nat.le_trans (m := 2000) (by omega) (by decide)
      · simp only [List.length_singleton]; omega
      · show _ = pe c (k + 1)
        rw [pe, if_pos h]
      · show _ = mo c (k + 1)
        rw [mo, if_pos h]
      · show _ = hasU c n (k + 1)
        rw [hasU, decide_eq_false (fun z => z.1 h), Bool.or_false]
        exact h3 n
    · have h := of_decide_eq_false h
      refine .ck64 (by omega) (.one ⟨?_, ?_, fun n => ?_, by simp⟩)
      · show _ = pe c (k + 1)
        rw [pe, if_neg h]
      · show _ = mo c (k + 1)
        rw [mo, if_neg h]
      · show _ = hasU c n (k + 1)
        rw [hasU]
        show (mget (mput _ _ true) n).getD false = _
        rw [mget_put]
        by_cases e : (c.getD k Call.z).res = n
        · rw [if_pos e, decide_eq_true ⟨h, e⟩, Bool.or_true]; rfl
        · rw [if_neg e, decide_eq_false (fun z => e z.2), Bool.or_false]
          exact h3 n
  · rintro ⟨p, m, h, v⟩ ⟨h1, h2, h3, h4⟩
    dsimp only at h1 h2 h3 h4
    subst h1; subst h2; subst h4
    simp only [tickets_read_L5]
    exact .condF (decide_eq_false (by omega)) (.one ⟨rfl, rfl, h3⟩)
  · obtain ⟨p, m, h⟩ := s
    obtain ⟨h1, h2, h3⟩ := hs
    dsimp only at h1 h2 h3
    subst h1; subst h2
    have g1 := mo_ge c c.length
    have g2 := mo_le hr c.length (Nat.le_refl _)
    dsimp only
    refine .seq (P := fun s => s = miss c) (.ck64 (by omega) (.iter (mo c c.length + 1).toNat (fun k st => st = (mi c c.length k, (k : Int))) (by omega) rfl ?_ ?_)) fun s _ hs => .one (by rw [hs])
    · rintro k st hk rfl
      have hl := mi_len c c.length k
      simp only [tickets_read_L7]
      refine .condT (decide_eq_true (by omega)) (.cond (fun h4 => ?_) fun h4 => ?_)
      · rw [h3, Bool.not_eq_true'] at h4
        refine .ck (limB_of ⟨?_, ?_⟩) (.ck64 (by omega) (.one ?_))
        · simp only [List.length_singleton]; exact Nat.le_trans (m := 2000) (by omega) (by decide)
        · simp only [List.length_singleton]; omega
        · show (_, _) = (_, _)
          rw [mi, h4]; simp
      · rw [h3, Bool.not_eq_false'] at h4
        refine .ck64 (by omega) (.one ?_)
        show (_, _) = (_, _)
        rw [mi, h4]; simp
    · rintro st rfl
      simp only [tickets_read_L7]
      exact .condF (decide_eq_false (by omega)) (.one rfl)
/-- May an operation without an answer have this number? -/
def can (c : List Call) (i n : Int) : Prop := ∀ x, x < c.length → ans (c.getD x Call.z) → (c.getD x Call.z).to_ < (c.getD i.toNat Call.z).from_ → (c.getD x Call.z).res < n
/-- It may be. -/
structure Good (c : List Call) : Prop where
  twice : ∀ i j, j < i → i < c.length → ans (c.getD i Call.z) → ans (c.getD j Call.z) → (c.getD i Call.z).res ≠ (c.getD j Call.z).res
  ord : ∀ i j, i < c.length → j < c.length → ans (c.getD i Call.z) → ans (c.getD j Call.z) → (c.getD i Call.z).to_ < (c.getD j Call.z).from_ → (c.getD i Call.z).res ≤ (c.getD j Call.z).res
  gap : ∀ k, k < (miss c).length → k < (pe c c.length).length ∧ can c ((pe c c.length).getD k 0) ((miss c).getD k 0)
theorem pe_mem {c : List Call} {i : Int} : ∀ {k : Nat}, i ∈ pe c k ↔ ∃ m : Nat, m < k ∧ i = m ∧ (c.getD m Call.z).to_ = -1
  | 0 => ⟨fun h => (nomatch h), fun ⟨_, h, _⟩ => absurd h (Nat.not_lt_zero _)⟩
  | k + 1 => by
    unfold pe
    by_cases h : (c.getD k Call.z).to_ = -1
    · rw [if_pos h, List.mem_append, pe_mem, List.mem_singleton]
      constructor
      · rintro (⟨m, h1, h2⟩ | rfl)
        · exact ⟨m, by omega, h2⟩
        · exact ⟨k, by omega, rfl, h⟩
      · rintro ⟨m, h1, h2, h3⟩
        rcases Nat.lt_or_ge m k with g | g
        · exact .inl ⟨m, g, h2, h3⟩
        · obtain rfl : m = k := by omega
          exact .inr h2
    · rw [if_neg h, pe_mem]
      constructor
      · rintro ⟨m, h1, h2⟩
        exact ⟨m, by omega, h2⟩
      · rintro ⟨m, h1, h2, h3⟩
        rcases Nat.lt_or_ge m k with g | g
        · exact ⟨m, g, h2, h3⟩
        · obtain rfl : m = k := by omega
          exact absurd h3 h
theorem can_ok {N : Nat} (hN : 5000 < N) {c : List Call} (h200 : c.length ≤ 200) {p m : List Int} {i n : Int} (hi : 0 ≤ i ∧ i < c.length) : Wp (tickets_log_can N c p m i n) fun b => b = true ↔ can c i n := by
  unfold tickets_log_can slices_ContainsFunc_api_Call_api_Call slices_IndexFunc_api_Call_api_Call
  have hb : ∀ x : Call, tickets_log_can_1 N x c p m i n = some (decide (x.to_ ≠ -1 ∧ x.to_ < (c.getD i.toNat Call.z).from_ ∧ n ≤ x.res)) := by
    intro x
    refine Wp.eq ?_
    unfold tickets_log_can_1
    refine .gix Call.z (fun _ => hi) fun y hy => .one ?_
    by_cases h : x.to_ = -1
    · simp [h]
    · rw [hy (by simp [h])]
      simp [h, Bool.and_assoc]
  refine .seq (P := fun b => b = true ↔ ¬ can c i n) (.seq (P := fun r => 0 ≤ r ↔ ¬ can c i n) (.elim (P := fun t => match t with | .inl _ => can c i n | .inr r => 0 ≤ r ∧ ¬ can c i n) (.iter c.length (fun k v => v = (k : Int) ∧ ∀ x, x < k → ans (c.getD x Call.z) → (c.getD x Call.z).to_ < (c.getD i.toNat Call.z).from_ → (c.getD x Call.z).res < n) (by omega) ⟨rfl, fun _ h => absurd h (Nat.not_lt_zero _)⟩ ?_ ?_) (fun _ _ h => .one ⟨fun h2 => absurd h2 (by decide), fun h2 => absurd h h2⟩) (fun r _ h => .one ⟨fun _ => h.2, fun _ => h.1⟩)) fun r _ h => .one (by rw [decide_eq_true_eq]; exact h)) fun b _ h => .one ?_
  · rintro k v hk ⟨rfl, hr⟩
    simp only [slices_IndexFunc_api_Call_api_Call_L3]
    refine .condT (decide_eq_true (by omega)) (.ixD Call.z (by omega) (by omega) (.bdO (hb _) ?_))
    simp only [Int.toNat_natCast]
    refine .cond (fun h => .one ⟨by omega, fun h2 => ?_⟩) fun h => .ck64 (by omega) (.one ⟨by simp, fun x hx h1 h2 => ?_⟩)
    · have h := of_decide_eq_true h
      have := h2 k hk h.1 h.2.1
      omega
    · have h := of_decide_eq_false h
      rcases Nat.lt_or_ge x k with g | g
      · exact hr x g h1 h2
      · obtain rfl : x = k := by omega
        exact Int.not_le.1 fun h3 => h ⟨h1, h2, h3⟩
  · rintro v ⟨rfl, hr⟩
    simp only [slices_IndexFunc_api_Call_api_Call_L3]
    exact .condF (decide_eq_false (by omega)) (.one hr)
  · cases b with
    | true => exact ⟨fun h2 => (nomatch h2), fun h2 => absurd h2 (h.1 rfl)⟩
    | false => exact ⟨fun _ => Classical.byContradiction fun h2 => (nomatch h.2 h2), fun _ => rfl⟩
theorem check_wp {N : Nat} (hN : 5000 < N) {c : List Call} (h200 : c.length ≤ 200) (hr : ∀ i, i < c.length → (c.getD i Call.z).res ≤ 1000) : Wp (tickets_log_check N c (pe c c.length) (miss c)) fun r => (r.1 = 0 ↔ Good c) ∧ (r.1 = 0 → r = (0, 0, 0)) := by
  have hml : (miss c).length ≤ 1001 := by
    have := mi_len c c.length (mo c c.length + 1).toNat
    have g2 := mo_le hr c.length (Nat.le_refl _)
    unfold miss; omega
  unfold tickets_log_check
  refine .elim (P := fun t => match t with | .inl _ => ∀ i j, j < i → i < c.length → ans (c.getD i Call.z) → ans (c.getD j Call.z) → (c.getD i Call.z).res ≠ (c.getD j Call.z).res | .inr r => r.1 = 2 ∧ ¬ Good c) (.iter c.length (fun k v => v = (k : Int) ∧ ∀ i j, j < i → i < k → ans (c.getD i Call.z) → ans (c.getD j Call.z) → (c.getD i Call.z).res ≠ (c.getD j Call.z).res) (by omega) ⟨rfl, fun i j _ h => absurd h (Nat.not_lt_zero _)⟩ ?_ ?_) (fun _ _ t1 => ?_) (fun r _ h => .one ⟨⟨fun h2 => absurd h2 (by have := h.1; omega), fun h2 => absurd h2 h.2⟩, fun h2 => absurd h2 (by have := h.1; omega)⟩)
  · rintro k v hk ⟨rfl, hi⟩
    simp only [tickets_log_check_L41]
    refine .elim (P := fun t => match t with | .inl _ => ∀ j, j < k → ans (c.getD k Call.z) → ans (c.getD j Call.z) → (c.getD k Call.z).res ≠ (c.getD j Call.z).res | .inr r => r.1 = 2 ∧ ¬ Good c) ?_ ?_ ?_ |> .condT (decide_eq_true (by omega))
    · refine .ixD Call.z (by omega) (by omega) (.ck (by simp [slB]; omega) ?_)
      simp only [Int.toNat_natCast]
      refine .iter k (fun q v => v = (q : Int) ∧ ∀ j, j < q → ans (c.getD k Call.z) → ans (c.getD j Call.z) → (c.getD k Call.z).res ≠ (c.getD j Call.z).res) (by omega) ⟨rfl, fun j h => absurd h (Nat.not_lt_zero _)⟩ ?_ ?_
      · rintro q v hq ⟨rfl, hj⟩
        have hg : (c.take k).getD q Call.z = c.getD q Call.z := by
          rw [getD_of (show q < (c.take k).length by rw [List.length_take]; omega), getD_of (show q < c.length by omega), List.getElem_take]
        simp only [tickets_log_check_L43, Int.toNat_natCast]
        refine .condT (decide_eq_true (by rw [List.length_take]; omega)) (.ixD Call.z (by omega) (by rw [List.length_take]; omega) ?_)
        simp only [Int.toNat_natCast, hg]
        refine .cond (fun h => .one ⟨rfl, fun G => ?_⟩) fun h => .ck64 (by omega) (.one ⟨by simp, fun j hjq h1 h2 h3 => ?_⟩)
        · simp only [Bool.and_eq_true, Bool.not_eq_true', decide_eq_false_iff_not, decide_eq_true_eq] at h
          exact G.twice k q hq hk h.1.1 h.1.2 h.2
        · rcases Nat.lt_or_ge j q with g | g
          · exact hj j g h1 h2 h3
          · obtain rfl : j = q := by omega
            have hh : (!decide ((c.getD k Call.z).to_ = -1)) = true ∧ (!decide ((c.getD j Call.z).to_ = -1)) = true := by
              unfold ans at h1 h2
              simp only [Bool.not_eq_true', decide_eq_false_iff_not]; exact ⟨h1, h2⟩
            rw [hh.1, hh.2, h3] at h
            simp at h
      · rintro v ⟨rfl, hj⟩
        simp only [tickets_log_check_L43, Int.toNat_natCast]
        exact .condF (decide_eq_false (by rw [List.length_take]; omega)) (.one hj)
    · intro _ _ h
      refine .ck64 (by omega) (.one ⟨by simp, fun i j h1 h2 h3 h4 => ?_⟩)
      rcases Nat.lt_or_ge i k with g | g
      · exact hi i j h1 g h3 h4
      · obtain rfl : i = k := by omega
        exact h j h1 h3 h4
    · intro r _ h
      exact .one h
  · rintro v ⟨rfl, hi⟩
    simp only [tickets_log_check_L41]
    exact .condF (decide_eq_false (by omega)) (.one hi)
  refine .elim (P := fun t => match t with | .inl _ => ∀ i j, i < c.length → j < c.length → ans (c.getD i Call.z) → ans (c.getD j Call.z) → (c.getD i Call.z).to_ < (c.getD j Call.z).from_ → (c.getD i Call.z).res ≤ (c.getD j Call.z).res | .inr r => r.1 = 6 ∧ ¬ Good c) (.iter c.length (fun k v => v = (k : Int) ∧ ∀ i j, i < k → j < c.length → ans (c.getD i Call.z) → ans (c.getD j Call.z) → (c.getD i Call.z).to_ < (c.getD j Call.z).from_ → (c.getD i Call.z).res ≤ (c.getD j Call.z).res) (by omega) ⟨rfl, fun i j h => absurd h (Nat.not_lt_zero _)⟩ ?_ ?_) (fun _ _ t2 => ?_) (fun r _ h => .one ⟨⟨fun h2 => absurd h2 (by have := h.1; omega), fun h2 => absurd h2 h.2⟩, fun h2 => absurd h2 (by have := h.1; omega)⟩)
  · rintro k v hk ⟨rfl, hi⟩
    simp only [tickets_log_check_L55]
    refine .elim (P := fun t => match t with | .inl _ => ∀ j, j < c.length → ans (c.getD k Call.z) → ans (c.getD j Call.z) → (c.getD k Call.z).to_ < (c.getD j Call.z).from_ → (c.getD k Call.z).res ≤ (c.getD j Call.z).res | .inr r => r.1 = 6 ∧ ¬ Good c) ?_ ?_ ?_ |> .condT (decide_eq_true (by omega))
    · refine .ixD Call.z (by omega) (by omega) ?_
      simp only [Int.toNat_natCast]
      refine .iter c.length (fun q v => v = (q : Int) ∧ ∀ j, j < q → ans (c.getD k Call.z) → ans (c.getD j Call.z) → (c.getD k Call.z).to_ < (c.getD j Call.z).from_ → (c.getD k Call.z).res ≤ (c.getD j Call.z).res) (by omega) ⟨rfl, fun j h => absurd h (Nat.not_lt_zero _)⟩ ?_ ?_
      · rintro q v hq ⟨rfl, hj⟩
        simp only [tickets_log_check_L57]
        refine .condT (decide_eq_true (by omega)) (.ixD Call.z (by omega) (by omega) ?_)
        simp only [Int.toNat_natCast]
        refine .cond (fun h => .one ⟨rfl, fun G => ?_⟩) fun h => .ck64 (by omega) (.one ⟨by simp, fun j hjq h1 h2 h3 => ?_⟩)
        · simp only [Bool.and_eq_true, Bool.not_eq_true', decide_eq_false_iff_not, decide_eq_true_eq] at h
          have := G.ord k q hk hq h.1.1.1 h.1.1.2 h.1.2
          omega
        · rcases Nat.lt_or_ge j q with g | g
          · exact hj j g h1 h2 h3
          · obtain rfl : j = q := by omega
            have hh : (!decide ((c.getD k Call.z).to_ = -1)) = true ∧ (!decide ((c.getD j Call.z).to_ = -1)) = true := by
              unfold ans at h1 h2
              simp only [Bool.not_eq_true', decide_eq_false_iff_not]; exact ⟨h1, h2⟩
            rw [hh.1, hh.2, decide_eq_true h3] at h
            simp only [Bool.true_and, decide_eq_false_iff_not] at h
            omega
      · rintro v ⟨rfl, hj⟩
        simp only [tickets_log_check_L57]
        exact .condF (decide_eq_false (by omega)) (.one hj)
    · intro _ _ h
      refine .ck64 (by omega) (.one ⟨by simp, fun i j h1 h2 h3 h4 => ?_⟩)
      rcases Nat.lt_or_ge i k with g | g
      · exact hi i j g h2 h3 h4
      · obtain rfl : i = k := by omega
        exact h j h2 h3 h4
    · intro r _ h
      exact .one h
  · rintro v ⟨rfl, hi⟩
    simp only [tickets_log_check_L55]
    exact .condF (decide_eq_false (by omega)) (.one hi)
  refine .elim (P := fun t => match t with | .inl _ => ∀ k, k < (miss c).length → k < (pe c c.length).length ∧ can c ((pe c c.length).getD k 0) ((miss c).getD k 0) | .inr r => r.1 = 8 ∧ ¬ Good c) (.iter (miss c).length (fun q v => v = (q : Int) ∧ ∀ k, k < q → k < (pe c c.length).length ∧ can c ((pe c c.length).getD k 0) ((miss c).getD k 0)) (by omega) ⟨rfl, fun i h => absurd h (Nat.not_lt_zero _)⟩ ?_ ?_) (fun _ _ t3 => .one ⟨⟨fun _ => ⟨t1, t2, t3⟩, fun _ => rfl⟩, fun _ => rfl⟩) (fun r _ h => .one ⟨⟨fun h2 => absurd h2 (by have := h.1; omega), fun h2 => absurd h2 h.2⟩, fun h2 => absurd h2 (by have := h.1; omega)⟩)
  · rintro q v hq ⟨rfl, hi⟩
    simp only [tickets_log_check_L59]
    refine .condT (decide_eq_true (by omega)) (.ixD 0 (by omega) (by omega) ?_)
    simp only [Int.toNat_natCast]
    refine .seq (P := fun b => b = false ↔ (q < (pe c c.length).length ∧ can c ((pe c c.length).getD q 0) ((miss c).getD q 0))) ?_ fun b _ hb => .cond (fun h => .one ⟨rfl, fun G => ?_⟩) fun h => .ck64 (by omega) (.one ⟨by simp, fun k hk => ?_⟩)
    · rcases Nat.lt_or_ge q (pe c c.length).length with g | g
      · have e : decide (((pe c c.length).length : Int) ≤ (q : Int)) = false := decide_eq_false (by omega)
        simp only [e]
        refine .gix 0 (fun _ => ⟨by omega, by omega⟩) fun y hy => ?_
        rw [hy rfl]
        simp only [Int.toNat_natCast]
        have hm : (pe c c.length).getD q 0 ∈ pe c c.length := by rw [getD_of g]; exact List.getElem_mem _
        obtain ⟨m, m1, m2, m3⟩ := pe_mem.1 hm
        refine .condT rfl (.seq (can_ok hN h200 ⟨by omega, by omega⟩) fun b _ h => .one ?_)
        cases b with
        | true => exact ⟨fun _ => ⟨g, h.1 rfl⟩, fun _ => rfl⟩
        | false => exact ⟨fun z => (nomatch z), fun z => (nomatch h.2 z.2)⟩
      · have e : decide (((pe c c.length).length : Int) ≤ (q : Int)) = true := decide_eq_true (by omega)
        simp only [e]
        refine .gix 0 (fun h => (nomatch h)) fun y hy => .condF rfl (.one ⟨fun z => (nomatch z), fun z => absurd z.1 (by omega)⟩)
    · have := hb.2 (G.gap q hq)
      rw [h] at this
      cases this
    · rcases Nat.lt_or_ge k q with g | g
      · exact hi k g
      · obtain rfl : k = q := by omega
        exact hb.1 h
  · rintro v ⟨rfl, hi⟩
    simp only [tickets_log_check_L59]
    exact .condF (decide_eq_false (by omega)) (.one hi)
end Tk

namespace Sr
open Hs
/-- A begin's calls, and those of more. -/
structure Pre (n : Nat) (a b : List Call) : Prop where
  len : a.length ≤ b.length
  old : ∀ m, m < a.length → ((b.getD m Call.z).who = (a.getD m Call.z).who ∧ (b.getD m Call.z).thing = (a.getD m Call.z).thing ∧ (b.getD m Call.z).kind = (a.getD m Call.z).kind ∧ (b.getD m Call.z).arg = (a.getD m Call.z).arg ∧ (b.getD m Call.z).from_ = (a.getD m Call.z).from_) ∧ ((a.getD m Call.z).to_ ≠ -1 → b.getD m Call.z = a.getD m Call.z) ∧ ((a.getD m Call.z).to_ = -1 → (b.getD m Call.z).to_ = -1 ∨ (n : Int) ≤ (b.getD m Call.z).to_)
  new : ∀ m, a.length ≤ m → m < b.length → (n : Int) ≤ (b.getD m Call.z).from_
theorem Pre.refl (n : Nat) (a : List Call) : Pre n a a := ⟨Nat.le_refl _, fun m _ => ⟨⟨rfl, rfl, rfl, rfl, rfl⟩, fun _ => rfl, fun h => .inl h⟩, fun m h1 h2 => absurd h2 (by omega)⟩
theorem Pre.step {N : Nat} {types : List Int} {l : List Event} {n k : Nat} {a b b' : List Call} {op op' : List Int} {v : Event} (P : Pre n a b) (W : WF types l k b op) (hn : n ≤ k) (S : StpX N types b op (k : Int) v b' op') : Pre n a b' := by
  have hlen := P.len
  rcases S.how with ⟨_, _, _, _, rfl, _⟩ | ⟨_, m0, hm, hml, _, _, rfl, _⟩
  · refine ⟨by simp; omega, fun m hm => ?_, fun m h1 h2 => ?_⟩
    · rw [getD_app, if_pos (by omega)]
      exact P.old m hm
    · rw [getD_app]
      by_cases h : m < b.length
      · rw [if_pos h]; exact P.new m h1 h
      · rw [List.length_append, List.length_singleton] at h2
        rw [if_neg h, if_pos (by omega)]
        simp only [begC]; omega
  · have hpend : (b.getD m0 Call.z).to_ = -1 := by
      obtain ⟨h1, h2⟩ := S.who
      exact ((W.pen v.who.toNat (by omega)).2.2 m0 hm).2
    refine ⟨by rw [List.length_set]; exact hlen, fun m hm2 => ?_, fun m h1 h2 => ?_⟩
    · rw [getD_set2 hml]
      by_cases e : m = m0
      · subst e
        rw [if_pos rfl]
        obtain ⟨o1, o2, _⟩ := P.old m hm2
        have ht : (a.getD m Call.z).to_ = -1 := by
          apply Classical.byContradiction
          intro h
          have := o2 h
          rw [this] at hpend
          exact h hpend
        exact ⟨o1, fun h => (h ht).elim, fun _ => .inr (by simp only [endC]; omega)⟩
      · rw [if_neg e]; exact P.old m hm2
    · rw [List.length_set] at h2
      rw [getD_set2 hml]
      by_cases e : m = m0
      · subst e
        rw [if_pos rfl]
        exact P.new m h1 h2
      · rw [if_neg e]; exact P.new m h1 h2
theorem RnH.pre {N : Nat} {types : List Int} {l : List Event} {k : Nat} {out : List Call} {op : List Int} (R : RnH N types l k out op) : ∀ n, n ≤ k → ∃ a oa, RnH N types l n a oa ∧ Pre n a out := by
  induction R with
  | zero => exact fun n hn => ⟨[], [], by obtain rfl : n = 0 := by omega
                                          exact .zero, .refl n []⟩
  | @succ k out out' op op' R hk S ih =>
    intro n hn
    rcases Nat.lt_or_ge n (k + 1) with h | h
    · obtain ⟨a, oa, h1, h2⟩ := ih n (by omega)
      exact ⟨a, oa, h1, h2.step R.wf (by omega) S⟩
    · obtain rfl : n = k + 1 := by omega
      exact ⟨out', op', .succ R hk S, .refl _ _⟩
theorem RnH.take {N : Nat} {types : List Int} {l : List Event} {n m : Nat} {a : List Call} {oa : List Int} (R : RnH N types l n a oa) (h : n ≤ m) : RnH N types (l.take m) n a oa := by
  induction R with
  | zero => exact .zero
  | @succ k out out' op op' R hk S ih =>
    refine .succ (ih (by omega)) (by rw [List.length_take]; omega) ?_
    have e : (l.take m).getD k Event.z = l.getD k Event.z := by
      rw [List.getD_eq_getElem?_getD, List.getElem?_take, if_pos (by omega), ← List.getD_eq_getElem?_getD]
    rw [e]; exact S
end Sr

namespace Tk
open Hs
theorem mi_mem {c : List Call} {L : Nat} {i : Int} : ∀ {k : Nat}, i ∈ mi c L k ↔ ∃ m : Nat, m < k ∧ i = m ∧ hasU c m L = false
  | 0 => ⟨fun h => (nomatch h), fun ⟨_, h, _⟩ => absurd h (Nat.not_lt_zero _)⟩
  | k + 1 => by
    unfold mi
    by_cases h : hasU c k L = true
    · rw [if_pos h, mi_mem]
      constructor
      · rintro ⟨m, h1, h2⟩
        exact ⟨m, by omega, h2⟩
      · rintro ⟨m, h1, h2, h3⟩
        rcases Nat.lt_or_ge m k with g | g
        · exact ⟨m, g, h2, h3⟩
        · obtain rfl : m = k := by omega
          rw [h] at h3; cases h3
    · rw [if_neg h, List.mem_append, mi_mem, List.mem_singleton]
      constructor
      · rintro (⟨m, h1, h2⟩ | rfl)
        · exact ⟨m, by omega, h2⟩
        · exact ⟨k, by omega, rfl, Bool.eq_false_iff.2 h⟩
      · rintro ⟨m, h1, h2, h3⟩
        rcases Nat.lt_or_ge m k with g | g
        · exact .inl ⟨m, g, h2, h3⟩
        · obtain rfl : m = k := by omega
          exact .inr h2
theorem pig {l m : List Int} (h : l.Nodup) (hs : ∀ x ∈ l, x ∈ m) : l.length ≤ m.length := by
  induction l generalizing m with
  | nil => exact Nat.zero_le _
  | cons a l ih =>
    have ha := hs a (List.mem_cons_self ..)
    obtain ⟨h1, h2⟩ := List.nodup_cons.1 h
    have := ih (m := m.erase a) h2 fun x hx => (List.mem_erase_of_ne (fun e : x = a => h1 (e ▸ hx))).2 (hs x (List.mem_cons_of_mem _ hx))
    rw [List.length_erase_of_mem ha] at this
    have : 0 < m.length := List.length_pos_of_mem ha
    simp only [List.length_cons]; omega
/-- What is known of calls. -/
structure Okl (c : List Call) : Prop where
  fr : ∀ i j, i < j → j < c.length → (c.getD i Call.z).from_ < (c.getD j Call.z).from_
  res : ∀ i, i < c.length → 0 ≤ (c.getD i Call.z).res ∧ (c.getD i Call.z).res ≤ 1000
/-- What is read: numbers that may be. -/
theorem rn_res {N : Nat} {l : List Event} {k : Nat} {c : List Call} {op : List Int} (R : RnH N [5] l k c op) : (∀ i, i < c.length → 0 ≤ (c.getD i Call.z).res ∧ (c.getD i Call.z).res ≤ 1000) ∧ ∀ i, i < c.length → ans (c.getD i Call.z) → (c.getD i Call.z).to_ < k := by
  induction R with
  | zero => exact ⟨fun i h => absurd h (Nat.not_lt_zero _), fun i h => absurd h (Nat.not_lt_zero _)⟩
  | @succ k out out' op op' R hk S ih =>
    have W := R.wf
    rcases S.how with ⟨_, _, _, _, rfl, _⟩ | ⟨_, m, _, hm, ht, hr, rfl, _⟩
    · refine ⟨fun i hi => ?_, fun i hi ha => ?_⟩
      · rw [getD_app]
        rcases Nat.lt_or_ge i out.length with h | h
        · rw [if_pos h]; exact ih.1 i h
        · rw [List.length_append, List.length_singleton] at hi
          rw [if_neg (by omega), if_pos (by omega)]
          exact ⟨Int.le_refl _, by show (0 : Int) ≤ 1000; omega⟩
      · rw [getD_app] at ha ⊢
        rcases Nat.lt_or_ge i out.length with h | h
        · rw [if_pos h] at ha ⊢; have := ih.2 i h ha; omega
        · rw [List.length_append, List.length_singleton] at hi
          rw [if_neg (by omega), if_pos (by omega)] at ha
          exact (ha rfl).elim
    · have hfit := (W.one m hm).fit
      have ht0 := (W.one m hm).thing
      have e0 : (out.getD m Call.z).thing.toNat = 0 := by
        simp only [List.length_singleton] at ht0; omega
      rw [e0] at hfit
      have hk10 : (out.getD m Call.z).kind = 10 := by
        have h5 : tyF (out.getD m Call.z).kind = 5 := hfit.2
        unfold tyF at h5
        by_cases h : (out.getD m Call.z).kind = 10
        · exact h
        · split at h5 <;> (try omega)
      have hres : 0 ≤ (l.getD k Event.z).value ∧ (l.getD k Event.z).value ≤ 1000 := by
        rw [hk10] at hr
        have : some (decide (0 ≤ (l.getD k Event.z).value) && decide ((l.getD k Event.z).value ≤ 1000)) = some true := hr
        simpa using this
      refine ⟨fun i hi => ?_, fun i hi ha => ?_⟩
      · rw [getD_set2 hm]
        split
        · exact hres
        · exact ih.1 i (by simpa using hi)
      · rw [getD_set2 hm] at ha ⊢
        split
        · show ((k : Int)) < ((k + 1 : Nat) : Int); omega
        · rw [if_neg (by assumption)] at ha
          have := ih.2 i (by simpa using hi) ha; omega
theorem okl {N : Nat} {l : List Event} {k : Nat} {c : List Call} {op : List Int} (R : RnH N [5] l k c op) : Okl c := ⟨fun i j h1 h2 => (R.wf.two i j h1 h2).fr, (rn_res R).1⟩
/-- What Check says of calls that are told. -/
theorem check_ok {N : Nat} (hN : 5000 < N) {l : List Event} {c : List Call} {op : List Int} {e : Int} (hl : l.length ≤ 200) (hc : history_Calls N [5] l = some (c, e, 0)) (R : RnH N [5] l l.length c op) : Wp (tickets_Check N l) fun r => r.2.2.2.2 = 0 ∧ (r.1 = true ↔ Good c) := by
  have hlen := R.wf.len
  have hr := (okl R).res
  unfold tickets_Check
  refine .bdO (read_ok hN hc (by omega) fun i hi => (hr i hi).2) (.condF rfl (.ck rfl (.seq (check_wp (c := c) hN (by omega) fun i hi => (hr i hi).2) fun r _ h => .one ⟨rfl, ?_⟩)))
  rw [decide_eq_true_eq]; exact h.1
theorem check_all {N : Nat} (hN : 5000 < N) (l : List Event) : Wp (tickets_Check N l) fun r => (r.2.2.2.2 ≠ 0 ∧ r.1 = false) ∨ (r.2.2.2.2 = 0 ∧ ∃ c op, history_Types N [5] = some 0 ∧ l.length ≤ 200 ∧ RnH N [5] l l.length c op ∧ (r.1 = true ↔ Good c)) := by
  obtain ⟨⟨c, e, er⟩, h1, h2⟩ := calls_rn (N := N) (types := [5]) (l := l) (by omega)
  by_cases h0 : er = 0
  · subst h0
    obtain ⟨ht, _, hl, _, op, R⟩ := h2 rfl
    refine (check_ok hN hl h1 R).mono fun r h => .inr ⟨h.1, c, op, ht, hl, R, h.2⟩
  · unfold tickets_Check
    have hrd : tickets_read N l = some (false, [], [], [], er) := by
      unfold tickets_read
      refine Wp.eq (.bdO h1 (.condT ?_ (.one rfl)))
      simp only [Bool.not_eq_true', decide_eq_false_iff_not]; exact h0
    refine .bdO hrd (.condT ?_ (.one (.inl ⟨h0, rfl⟩)))
    simp only [Bool.not_eq_true', decide_eq_false_iff_not]; exact h0
end Tk

end Go.Proofs.YtjdkkabcenohcaaGreatDoor
