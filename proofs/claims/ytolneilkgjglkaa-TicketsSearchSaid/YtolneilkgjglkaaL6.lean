/- Tickets, plainly. -/
import Derived.Test.YtolneilkgjglkaaL5
set_option linter.unusedVariables false
set_option linter.unusedSimpArgs false
set_option linter.unusedSectionVars false
set_option maxRecDepth 100000
namespace Go.Proofs.Ytolneilkgjglkaa
open Go.RowKit
namespace Tk
open Hs
theorem mget_put {α : Type} (v : α) (k j : Int) : ∀ m : List (Int × α), mget (mput m k v) j = if k = j then some v else mget m j
  | [] => by
    unfold mput mget
    by_cases h : k = j
    · rw [if_pos h, if_pos h]
    · rw [if_neg h, if_neg h]; rfl
  | (a, u) :: r => by
    unfold mput
    by_cases h : a = k
    · subst h
      rw [if_pos rfl]
      unfold mget
      by_cases h2 : a = j
      · rw [if_pos h2, if_pos h2]
      · rw [if_neg h2, if_neg h2]
        rw [if_neg h2]
    · rw [if_neg h]
      unfold mget
      by_cases h2 : a = j
      · rw [if_pos h2, if_pos h2, if_neg (fun e => h (h2.trans e.symm))]
      · rw [if_neg h2, if_neg h2]
        exact mget_put v k j r
/-- Is it answered? -/
def ans (x : Call) : Prop := x.to_ ≠ -1
/-- Does one of so many say this number? -/
def hasU (c : List Call) (n : Int) : Nat → Bool
  | 0 => false
  | k + 1 => hasU c n k || decide ((c.getD k Call.z).to_ ≠ -1 ∧ (c.getD k Call.z).res = n)
def mo (c : List Call) : Nat → Int
  | 0 => -1
  | k + 1 => if (c.getD k Call.z).to_ = -1 then mo c k else max (mo c k) (c.getD k Call.z).res
def pe (c : List Call) : Nat → List Int
  | 0 => []
  | k + 1 => if (c.getD k Call.z).to_ = -1 then pe c k ++ [(k : Int)] else pe c k
def mi (c : List Call) (L : Nat) : Nat → List Int
  | 0 => []
  | k + 1 => if hasU c k L then mi c L k else mi c L k ++ [(k : Int)]
theorem hasU_iff {c : List Call} {n : Int} : ∀ {k : Nat}, hasU c n k = true ↔ ∃ i, i < k ∧ ans (c.getD i Call.z) ∧ (c.getD i Call.z).res = n
  | 0 => ⟨fun h => (nomatch h), fun ⟨_, h, _⟩ => absurd h (Nat.not_lt_zero _)⟩
  | k + 1 => by
    unfold hasU
    rw [Bool.or_eq_true, hasU_iff, decide_eq_true_eq]
    constructor
    · rintro (⟨i, h1, h2⟩ | h)
      · exact ⟨i, by omega, h2⟩
      · exact ⟨k, by omega, h⟩
    · rintro ⟨i, h1, h2⟩
      rcases Nat.lt_or_ge i k with h | h
      · exact .inl ⟨i, h, h2⟩
      · obtain rfl : i = k := by omega
        exact .inr h2
theorem pe_len (c : List Call) : ∀ k, (pe c k).length ≤ k
  | 0 => Nat.le_refl _
  | k + 1 => by
    have := pe_len c k
    unfold pe
    split
    · rw [List.length_append, List.length_singleton]; omega
    · omega
theorem mi_len (c : List Call) (L : Nat) : ∀ k, (mi c L k).length ≤ k
  | 0 => Nat.le_refl _
  | k + 1 => by
    have := mi_len c L k
    unfold mi
    split
    · omega
    · rw [List.length_append, List.length_singleton]; omega
theorem mo_ge (c : List Call) : ∀ k, -1 ≤ mo c k
  | 0 => Int.le_refl _
  | k + 1 => by
    have := mo_ge c k
    unfold mo
    split
    · exact this
    · omega
theorem mo_le {c : List Call} (h : ∀ i, i < c.length → (c.getD i Call.z).res ≤ 1000) : ∀ k, k ≤ c.length → mo c k ≤ 1000
  | 0, _ => by show (-1 : Int) ≤ 1000; omega
  | k + 1, hk => by
    have h1 := mo_le h k (by omega)
    have h2 := h k (by omega)
    unfold mo
    split
    · exact h1
    · omega
theorem mo_up {c : List Call} {i : Nat} : ∀ {k : Nat}, i < k → ans (c.getD i Call.z) → (c.getD i Call.z).res ≤ mo c k
  | 0, h, _ => absurd h (Nat.not_lt_zero _)
  | k + 1, h, ha => by
    unfold mo
    rcases Nat.lt_or_ge i k with h1 | h1
    · have := mo_up h1 ha
      split
      · exact this
      · omega
    · obtain rfl : i = k := by omega
      rw [if_neg ha]; omega
theorem mo_at {c : List Call} : ∀ {k : Nat}, 0 ≤ mo c k → ∃ i, i < k ∧ ans (c.getD i Call.z) ∧ (c.getD i Call.z).res = mo c k
  | 0, h => absurd h (by show ¬ (0 : Int) ≤ -1; omega)
  | k + 1, h => by
    unfold mo at h ⊢
    by_cases h1 : (c.getD k Call.z).to_ = -1
    · rw [if_pos h1] at h ⊢
      obtain ⟨i, h2, h3⟩ := mo_at h
      exact ⟨i, by omega, h3⟩
    · rw [if_neg h1] at h ⊢
      rcases Int.le_total (mo c k) (c.getD k Call.z).res with h2 | h2
      · exact ⟨k, by omega, h1, by omega⟩
      · obtain ⟨i, h3, h4, h5⟩ := mo_at (c := c) (k := k) (by omega)
        exact ⟨i, by omega, h4, by omega⟩
/-- The numbers that are missing. -/
def miss (c : List Call) : List Int := mi c c.length (mo c c.length + 1).toNat
theorem read_ok {N : Nat} (hN : 5000 < N) {l : List Event} {c : List Call} {e : Int} (hc : history_Calls N [5] l = some (c, e, 0)) (h200 : c.length ≤ 200) (hr : ∀ i, i < c.length → (c.getD i Call.z).res ≤ 1000) : tickets_read N l = some (true, c, pe c c.length, miss c, 0) := by
  unfold tickets_read
  refine Wp.eq (.bdO hc (.condF rfl ?_))
  refine .seq (P := fun s => s.1 = pe c c.length ∧ s.2.1 = mo c c.length ∧ ∀ n, (mget s.2.2 n).getD false = hasU c n c.length) (.iter c.length (fun k st => st.1 = pe c k ∧ st.2.1 = mo c k ∧ (∀ n, (mget st.2.2.1 n).getD false = hasU c n k) ∧ st.2.2.2 = (k : Int)) (by omega) ⟨rfl, rfl, fun n => rfl, rfl⟩ ?_ ?_) fun s _ hs => ?_
  · rintro k ⟨p, m, h, v⟩ hk ⟨h1, h2, h3, h4⟩
    dsimp only at h1 h2 h3 h4
    subst h1; subst h2; subst h4
    have hl := pe_len c k
    simp only [tickets_read_L5]
    refine .condT (decide_eq_true (by omega)) (.ixD Call.z (by omega) (by omega) ?_)
    simp only [Int.toNat_natCast]
    refine .cond (fun h => ?_) fun h => ?_
    · have h := of_decide_eq_true h
      refine .ck (limB_of ⟨?_, ?_⟩) (.ck64 (by omega) (.one ⟨?_, ?_, fun n => ?_, by simp⟩))
      · simp only [List.length_singleton]; exact Nat.le_trans (m := 2000) (by omega) (by decide)
      · simp only [List.length_singleton]; omega
      · show _ = pe c (k + 1)
        rw [pe, if_pos h]
      · show _ = mo c (k + 1)
        rw [mo, if_pos h]
      · show _ = hasU c n (k + 1)
        rw [hasU, decide_eq_false (fun z => z.1 h), Bool.or_false]
        exact h3 n
    · have h := of_decide_eq_false h
      refine .ck64 (by omega) (.one ⟨?_, ?_, fun n => ?_, by simp⟩)
      · show _ = pe c (k + 1)
        rw [pe, if_neg h]
      · show _ = mo c (k + 1)
        rw [mo, if_neg h]
      · show _ = hasU c n (k + 1)
        rw [hasU]
        show (mget (mput _ _ true) n).getD false = _
        rw [mget_put]
        by_cases e : (c.getD k Call.z).res = n
        · rw [if_pos e, decide_eq_true ⟨h, e⟩, Bool.or_true]; rfl
        · rw [if_neg e, decide_eq_false (fun z => e z.2), Bool.or_false]
          exact h3 n
  · rintro ⟨p, m, h, v⟩ ⟨h1, h2, h3, h4⟩
    dsimp only at h1 h2 h3 h4
    subst h1; subst h2; subst h4
    simp only [tickets_read_L5]
    exact .condF (decide_eq_false (by omega)) (.one ⟨rfl, rfl, h3⟩)
  · obtain ⟨p, m, h⟩ := s
    obtain ⟨h1, h2, h3⟩ := hs
    dsimp only at h1 h2 h3
    subst h1; subst h2
    have g1 := mo_ge c c.length
    have g2 := mo_le hr c.length (Nat.le_refl _)
    dsimp only
    refine .seq (P := fun s => s = miss c) (.ck64 (by omega) (.iter (mo c c.length + 1).toNat (fun k st => st = (mi c c.length k, (k : Int))) (by omega) rfl ?_ ?_)) fun s _ hs => .one (by rw [hs])
    · rintro k st hk rfl
      have hl := mi_len c c.length k
      simp only [tickets_read_L7]
      refine .condT (decide_eq_true (by omega)) (.cond (fun h4 => ?_) fun h4 => ?_)
      · rw [h3, Bool.not_eq_true'] at h4
        refine .ck (limB_of ⟨?_, ?_⟩) (.ck64 (by omega) (.one ?_))
        · simp only [List.length_singleton]; exact Nat.le_trans (m := 2000) (by omega) (by decide)
        · simp only [List.length_singleton]; omega
        · show (_, _) = (_, _)
          rw [mi, h4]; simp
      · rw [h3, Bool.not_eq_false'] at h4
        refine .ck64 (by omega) (.one ?_)
        show (_, _) = (_, _)
        rw [mi, h4]; simp
    · rintro st rfl
      simp only [tickets_read_L7]
      exact .condF (decide_eq_false (by omega)) (.one rfl)
/-- May an operation without an answer have this number? -/
def can (c : List Call) (i n : Int) : Prop := ∀ x, x < c.length → ans (c.getD x Call.z) → (c.getD x Call.z).to_ < (c.getD i.toNat Call.z).from_ → (c.getD x Call.z).res < n
/-- It may be. -/
structure Good (c : List Call) : Prop where
  twice : ∀ i j, j < i → i < c.length → ans (c.getD i Call.z) → ans (c.getD j Call.z) → (c.getD i Call.z).res ≠ (c.getD j Call.z).res
  ord : ∀ i j, i < c.length → j < c.length → ans (c.getD i Call.z) → ans (c.getD j Call.z) → (c.getD i Call.z).to_ < (c.getD j Call.z).from_ → (c.getD i Call.z).res ≤ (c.getD j Call.z).res
  gap : ∀ k, k < (miss c).length → k < (pe c c.length).length ∧ can c ((pe c c.length).getD k 0) ((miss c).getD k 0)
theorem pe_mem {c : List Call} {i : Int} : ∀ {k : Nat}, i ∈ pe c k ↔ ∃ m : Nat, m < k ∧ i = m ∧ (c.getD m Call.z).to_ = -1
  | 0 => ⟨fun h => (nomatch h), fun ⟨_, h, _⟩ => absurd h (Nat.not_lt_zero _)⟩
  | k + 1 => by
    unfold pe
    by_cases h : (c.getD k Call.z).to_ = -1
    · rw [if_pos h, List.mem_append, pe_mem, List.mem_singleton]
      constructor
      · rintro (⟨m, h1, h2⟩ | rfl)
        · exact ⟨m, by omega, h2⟩
        · exact ⟨k, by omega, rfl, h⟩
      · rintro ⟨m, h1, h2, h3⟩
        rcases Nat.lt_or_ge m k with g | g
        · exact .inl ⟨m, g, h2, h3⟩
        · obtain rfl : m = k := by omega
          exact .inr h2
    · rw [if_neg h, pe_mem]
      constructor
      · rintro ⟨m, h1, h2⟩
        exact ⟨m, by omega, h2⟩
      · rintro ⟨m, h1, h2, h3⟩
        rcases Nat.lt_or_ge m k with g | g
        · exact ⟨m, g, h2, h3⟩
        · obtain rfl : m = k := by omega
          exact absurd h3 h
theorem can_ok {N : Nat} (hN : 5000 < N) {c : List Call} (h200 : c.length ≤ 200) {p m : List Int} {i n : Int} (hi : 0 ≤ i ∧ i < c.length) : Wp (tickets_log_can N c p m i n) fun b => b = true ↔ can c i n := by
  unfold tickets_log_can slices_ContainsFunc_api_Call_api_Call slices_IndexFunc_api_Call_api_Call
  have hb : ∀ x : Call, tickets_log_can_1 N x c p m i n = some (decide (x.to_ ≠ -1 ∧ x.to_ < (c.getD i.toNat Call.z).from_ ∧ n ≤ x.res)) := by
    intro x
    refine Wp.eq ?_
    unfold tickets_log_can_1
    refine .gix Call.z (fun _ => hi) fun y hy => .one ?_
    by_cases h : x.to_ = -1
    · simp [h]
    · rw [hy (by simp [h])]
      simp [h, Bool.and_assoc]
  refine .seq (P := fun b => b = true ↔ ¬ can c i n) (.seq (P := fun r => 0 ≤ r ↔ ¬ can c i n) (.elim (P := fun t => match t with | .inl _ => can c i n | .inr r => 0 ≤ r ∧ ¬ can c i n) (.iter c.length (fun k v => v = (k : Int) ∧ ∀ x, x < k → ans (c.getD x Call.z) → (c.getD x Call.z).to_ < (c.getD i.toNat Call.z).from_ → (c.getD x Call.z).res < n) (by omega) ⟨rfl, fun _ h => absurd h (Nat.not_lt_zero _)⟩ ?_ ?_) (fun _ _ h => .one ⟨fun h2 => absurd h2 (by decide), fun h2 => absurd h h2⟩) (fun r _ h => .one ⟨fun _ => h.2, fun _ => h.1⟩)) fun r _ h => .one (by rw [decide_eq_true_eq]; exact h)) fun b _ h => .one ?_
  · rintro k v hk ⟨rfl, hr⟩
    simp only [slices_IndexFunc_api_Call_api_Call_L3]
    refine .condT (decide_eq_true (by omega)) (.ixD Call.z (by omega) (by omega) (.bdO (hb _) ?_))
    simp only [Int.toNat_natCast]
    refine .cond (fun h => .one ⟨by omega, fun h2 => ?_⟩) fun h => .ck64 (by omega) (.one ⟨by simp, fun x hx h1 h2 => ?_⟩)
    · have h := of_decide_eq_true h
      have := h2 k hk h.1 h.2.1
      omega
    · have h := of_decide_eq_false h
      rcases Nat.lt_or_ge x k with g | g
      · exact hr x g h1 h2
      · obtain rfl : x = k := by omega
        exact Int.not_le.1 fun h3 => h ⟨h1, h2, h3⟩
  · rintro v ⟨rfl, hr⟩
    simp only [slices_IndexFunc_api_Call_api_Call_L3]
    exact .condF (decide_eq_false (by omega)) (.one hr)
  · cases b with
    | true => exact ⟨fun h2 => (nomatch h2), fun h2 => absurd h2 (h.1 rfl)⟩
    | false => exact ⟨fun _ => Classical.byContradiction fun h2 => (nomatch h.2 h2), fun _ => rfl⟩
theorem check_wp {N : Nat} (hN : 5000 < N) {c : List Call} (h200 : c.length ≤ 200) (hr : ∀ i, i < c.length → (c.getD i Call.z).res ≤ 1000) : Wp (tickets_log_check N c (pe c c.length) (miss c)) fun r => (r.1 = 0 ↔ Good c) ∧ (r.1 = 0 → r = (0, 0, 0)) := by
  have hml : (miss c).length ≤ 1001 := by
    have := mi_len c c.length (mo c c.length + 1).toNat
    have g2 := mo_le hr c.length (Nat.le_refl _)
    unfold miss; omega
  unfold tickets_log_check
  refine .elim (P := fun t => match t with | .inl _ => ∀ i j, j < i → i < c.length → ans (c.getD i Call.z) → ans (c.getD j Call.z) → (c.getD i Call.z).res ≠ (c.getD j Call.z).res | .inr r => r.1 = 2 ∧ ¬ Good c) (.iter c.length (fun k v => v = (k : Int) ∧ ∀ i j, j < i → i < k → ans (c.getD i Call.z) → ans (c.getD j Call.z) → (c.getD i Call.z).res ≠ (c.getD j Call.z).res) (by omega) ⟨rfl, fun i j _ h => absurd h (Nat.not_lt_zero _)⟩ ?_ ?_) (fun _ _ t1 => ?_) (fun r _ h => .one ⟨⟨fun h2 => absurd h2 (by have := h.1; omega), fun h2 => absurd h2 h.2⟩, fun h2 => absurd h2 (by have := h.1; omega)⟩)
  · rintro k v hk ⟨rfl, hi⟩
    simp only [tickets_log_check_L41]
    refine .elim (P := fun t => match t with | .inl _ => ∀ j, j < k → ans (c.getD k Call.z) → ans (c.getD j Call.z) → (c.getD k Call.z).res ≠ (c.getD j Call.z).res | .inr r => r.1 = 2 ∧ ¬ Good c) ?_ ?_ ?_ |> .condT (decide_eq_true (by omega))
    · refine .ixD Call.z (by omega) (by omega) (.ck (by simp [slB]; omega) ?_)
      simp only [Int.toNat_natCast]
      refine .iter k (fun q v => v = (q : Int) ∧ ∀ j, j < q → ans (c.getD k Call.z) → ans (c.getD j Call.z) → (c.getD k Call.z).res ≠ (c.getD j Call.z).res) (by omega) ⟨rfl, fun j h => absurd h (Nat.not_lt_zero _)⟩ ?_ ?_
      · rintro q v hq ⟨rfl, hj⟩
        have hg : (c.take k).getD q Call.z = c.getD q Call.z := by
          rw [getD_of (show q < (c.take k).length by rw [List.length_take]; omega), getD_of (show q < c.length by omega), List.getElem_take]
        simp only [tickets_log_check_L43, Int.toNat_natCast]
        refine .condT (decide_eq_true (by rw [List.length_take]; omega)) (.ixD Call.z (by omega) (by rw [List.length_take]; omega) ?_)
        simp only [Int.toNat_natCast, hg]
        refine .cond (fun h => .one ⟨rfl, fun G => ?_⟩) fun h => .ck64 (by omega) (.one ⟨by simp, fun j hjq h1 h2 h3 => ?_⟩)
        · simp only [Bool.and_eq_true, Bool.not_eq_true', decide_eq_false_iff_not, decide_eq_true_eq] at h
          exact G.twice k q hq hk h.1.1 h.1.2 h.2
        · rcases Nat.lt_or_ge j q with g | g
          · exact hj j g h1 h2 h3
          · obtain rfl : j = q := by omega
            have hh : (!decide ((c.getD k Call.z).to_ = -1)) = true ∧ (!decide ((c.getD j Call.z).to_ = -1)) = true := by
              unfold ans at h1 h2
              simp only [Bool.not_eq_true', decide_eq_false_iff_not]; exact ⟨h1, h2⟩
            rw [hh.1, hh.2, h3] at h
            simp at h
      · rintro v ⟨rfl, hj⟩
        simp only [tickets_log_check_L43, Int.toNat_natCast]
        exact .condF (decide_eq_false (by rw [List.length_take]; omega)) (.one hj)
    · intro _ _ h
      refine .ck64 (by omega) (.one ⟨by simp, fun i j h1 h2 h3 h4 => ?_⟩)
      rcases Nat.lt_or_ge i k with g | g
      · exact hi i j h1 g h3 h4
      · obtain rfl : i = k := by omega
        exact h j h1 h3 h4
    · intro r _ h
      exact .one h
  · rintro v ⟨rfl, hi⟩
    simp only [tickets_log_check_L41]
    exact .condF (decide_eq_false (by omega)) (.one hi)
  refine .elim (P := fun t => match t with | .inl _ => ∀ i j, i < c.length → j < c.length → ans (c.getD i Call.z) → ans (c.getD j Call.z) → (c.getD i Call.z).to_ < (c.getD j Call.z).from_ → (c.getD i Call.z).res ≤ (c.getD j Call.z).res | .inr r => r.1 = 6 ∧ ¬ Good c) (.iter c.length (fun k v => v = (k : Int) ∧ ∀ i j, i < k → j < c.length → ans (c.getD i Call.z) → ans (c.getD j Call.z) → (c.getD i Call.z).to_ < (c.getD j Call.z).from_ → (c.getD i Call.z).res ≤ (c.getD j Call.z).res) (by omega) ⟨rfl, fun i j h => absurd h (Nat.not_lt_zero _)⟩ ?_ ?_) (fun _ _ t2 => ?_) (fun r _ h => .one ⟨⟨fun h2 => absurd h2 (by have := h.1; omega), fun h2 => absurd h2 h.2⟩, fun h2 => absurd h2 (by have := h.1; omega)⟩)
  · rintro k v hk ⟨rfl, hi⟩
    simp only [tickets_log_check_L55]
    refine .elim (P := fun t => match t with | .inl _ => ∀ j, j < c.length → ans (c.getD k Call.z) → ans (c.getD j Call.z) → (c.getD k Call.z).to_ < (c.getD j Call.z).from_ → (c.getD k Call.z).res ≤ (c.getD j Call.z).res | .inr r => r.1 = 6 ∧ ¬ Good c) ?_ ?_ ?_ |> .condT (decide_eq_true (by omega))
    · refine .ixD Call.z (by omega) (by omega) ?_
      simp only [Int.toNat_natCast]
      refine .iter c.length (fun q v => v = (q : Int) ∧ ∀ j, j < q → ans (c.getD k Call.z) → ans (c.getD j Call.z) → (c.getD k Call.z).to_ < (c.getD j Call.z).from_ → (c.getD k Call.z).res ≤ (c.getD j Call.z).res) (by omega) ⟨rfl, fun j h => absurd h (Nat.not_lt_zero _)⟩ ?_ ?_
      · rintro q v hq ⟨rfl, hj⟩
        simp only [tickets_log_check_L57]
        refine .condT (decide_eq_true (by omega)) (.ixD Call.z (by omega) (by omega) ?_)
        simp only [Int.toNat_natCast]
        refine .cond (fun h => .one ⟨rfl, fun G => ?_⟩) fun h => .ck64 (by omega) (.one ⟨by simp, fun j hjq h1 h2 h3 => ?_⟩)
        · simp only [Bool.and_eq_true, Bool.not_eq_true', decide_eq_false_iff_not, decide_eq_true_eq] at h
          have := G.ord k q hk hq h.1.1.1 h.1.1.2 h.1.2
          omega
        · rcases Nat.lt_or_ge j q with g | g
          · exact hj j g h1 h2 h3
          · obtain rfl : j = q := by omega
            have hh : (!decide ((c.getD k Call.z).to_ = -1)) = true ∧ (!decide ((c.getD j Call.z).to_ = -1)) = true := by
              unfold ans at h1 h2
              simp only [Bool.not_eq_true', decide_eq_false_iff_not]; exact ⟨h1, h2⟩
            rw [hh.1, hh.2, decide_eq_true h3] at h
            simp only [Bool.true_and, decide_eq_false_iff_not] at h
            omega
      · rintro v ⟨rfl, hj⟩
        simp only [tickets_log_check_L57]
        exact .condF (decide_eq_false (by omega)) (.one hj)
    · intro _ _ h
      refine .ck64 (by omega) (.one ⟨by simp, fun i j h1 h2 h3 h4 => ?_⟩)
      rcases Nat.lt_or_ge i k with g | g
      · exact hi i j g h2 h3 h4
      · obtain rfl : i = k := by omega
        exact h j h2 h3 h4
    · intro r _ h
      exact .one h
  · rintro v ⟨rfl, hi⟩
    simp only [tickets_log_check_L55]
    exact .condF (decide_eq_false (by omega)) (.one hi)
  refine .elim (P := fun t => match t with | .inl _ => ∀ k, k < (miss c).length → k < (pe c c.length).length ∧ can c ((pe c c.length).getD k 0) ((miss c).getD k 0) | .inr r => r.1 = 8 ∧ ¬ Good c) (.iter (miss c).length (fun q v => v = (q : Int) ∧ ∀ k, k < q → k < (pe c c.length).length ∧ can c ((pe c c.length).getD k 0) ((miss c).getD k 0)) (by omega) ⟨rfl, fun i h => absurd h (Nat.not_lt_zero _)⟩ ?_ ?_) (fun _ _ t3 => .one ⟨⟨fun _ => ⟨t1, t2, t3⟩, fun _ => rfl⟩, fun _ => rfl⟩) (fun r _ h => .one ⟨⟨fun h2 => absurd h2 (by have := h.1; omega), fun h2 => absurd h2 h.2⟩, fun h2 => absurd h2 (by have := h.1; omega)⟩)
  · rintro q v hq ⟨rfl, hi⟩
    simp only [tickets_log_check_L59]
    refine .condT (decide_eq_true (by omega)) (.ixD 0 (by omega) (by omega) ?_)
    simp only [Int.toNat_natCast]
    refine .seq (P := fun b => b = false ↔ (q < (pe c c.length).length ∧ can c ((pe c c.length).getD q 0) ((miss c).getD q 0))) ?_ fun b _ hb => .cond (fun h => .one ⟨rfl, fun G => ?_⟩) fun h => .ck64 (by omega) (.one ⟨by simp, fun k hk => ?_⟩)
    · rcases Nat.lt_or_ge q (pe c c.length).length with g | g
      · have e : decide (((pe c c.length).length : Int) ≤ (q : Int)) = false := decide_eq_false (by omega)
        simp only [e]
        refine .gix 0 (fun _ => ⟨by omega, by omega⟩) fun y hy => ?_
        rw [hy rfl]
        simp only [Int.toNat_natCast]
        have hm : (pe c c.length).getD q 0 ∈ pe c c.length := by rw [getD_of g]; exact List.getElem_mem _
        obtain ⟨m, m1, m2, m3⟩ := pe_mem.1 hm
        refine .condT rfl (.seq (can_ok hN h200 ⟨by omega, by omega⟩) fun b _ h => .one ?_)
        cases b with
        | true => exact ⟨fun _ => ⟨g, h.1 rfl⟩, fun _ => rfl⟩
        | false => exact ⟨fun z => (nomatch z), fun z => (nomatch h.2 z.2)⟩
      · have e : decide (((pe c c.length).length : Int) ≤ (q : Int)) = true := decide_eq_true (by omega)
        simp only [e]
        refine .gix 0 (fun h => (nomatch h)) fun y hy => .condF rfl (.one ⟨fun z => (nomatch z), fun z => absurd z.1 (by omega)⟩)
    · have := hb.2 (G.gap q hq)
      rw [h] at this
      cases this
    · rcases Nat.lt_or_ge k q with g | g
      · exact hi k g
      · obtain rfl : k = q := by omega
        exact hb.1 h
  · rintro v ⟨rfl, hi⟩
    simp only [tickets_log_check_L59]
    exact .condF (decide_eq_false (by omega)) (.one hi)
end Tk

namespace Sr
open Rl Hs
/-- A begin's calls, and those of more. -/
structure Pre (n : Nat) (a b : List Call) : Prop where
  len : a.length ≤ b.length
  old : ∀ m, m < a.length → ((b.getD m Call.z).who = (a.getD m Call.z).who ∧ (b.getD m Call.z).thing = (a.getD m Call.z).thing ∧ (b.getD m Call.z).kind = (a.getD m Call.z).kind ∧ (b.getD m Call.z).arg = (a.getD m Call.z).arg ∧ (b.getD m Call.z).from_ = (a.getD m Call.z).from_) ∧ ((a.getD m Call.z).to_ ≠ -1 → b.getD m Call.z = a.getD m Call.z) ∧ ((a.getD m Call.z).to_ = -1 → (b.getD m Call.z).to_ = -1 ∨ (n : Int) ≤ (b.getD m Call.z).to_)
  new : ∀ m, a.length ≤ m → m < b.length → (n : Int) ≤ (b.getD m Call.z).from_
theorem Pre.refl (n : Nat) (a : List Call) : Pre n a a := ⟨Nat.le_refl _, fun m _ => ⟨⟨rfl, rfl, rfl, rfl, rfl⟩, fun _ => rfl, fun h => .inl h⟩, fun m h1 h2 => absurd h2 (by omega)⟩
theorem Pre.step {N : Nat} {types : List Int} {l : List Event} {n k : Nat} {a b b' : List Call} {op op' : List Int} {v : Event} (P : Pre n a b) (W : WF types l k b op) (hn : n ≤ k) (S : StpX N types b op (k : Int) v b' op') : Pre n a b' := by
  have hlen := P.len
  rcases S.how with ⟨_, _, _, _, rfl, _⟩ | ⟨_, m0, hm, hml, _, _, rfl, _⟩
  · refine ⟨by simp; omega, fun m hm => ?_, fun m h1 h2 => ?_⟩
    · rw [getD_app, if_pos (by omega)]
      exact P.old m hm
    · rw [getD_app]
      by_cases h : m < b.length
      · rw [if_pos h]; exact P.new m h1 h
      · rw [List.length_append, List.length_singleton] at h2
        rw [if_neg h, if_pos (by omega)]
        simp only [begC]; omega
  · have hpend : (b.getD m0 Call.z).to_ = -1 := by
      obtain ⟨h1, h2⟩ := S.who
      exact ((W.pen v.who.toNat (by omega)).2.2 m0 hm).2
    refine ⟨by rw [List.length_set]; exact hlen, fun m hm2 => ?_, fun m h1 h2 => ?_⟩
    · rw [getD_set2 hml]
      by_cases e : m = m0
      · subst e
        rw [if_pos rfl]
        obtain ⟨o1, o2, _⟩ := P.old m hm2
        have ht : (a.getD m Call.z).to_ = -1 := by
          apply Classical.byContradiction
          intro h
          have := o2 h
          rw [this] at hpend
          exact h hpend
        exact ⟨o1, fun h => (h ht).elim, fun _ => .inr (by simp only [endC]; omega)⟩
      · rw [if_neg e]; exact P.old m hm2
    · rw [List.length_set] at h2
      rw [getD_set2 hml]
      by_cases e : m = m0
      · subst e
        rw [if_pos rfl]
        exact P.new m h1 h2
      · rw [if_neg e]; exact P.new m h1 h2
theorem Rn.pre {N : Nat} {types : List Int} {l : List Event} {k : Nat} {out : List Call} {op : List Int} (R : Rn N types l k out op) : ∀ n, n ≤ k → ∃ a oa, Rn N types l n a oa ∧ Pre n a out := by
  induction R with
  | zero => exact fun n hn => ⟨[], [], by obtain rfl : n = 0 := by omega
                                          exact .zero, .refl n []⟩
  | @succ k out out' op op' R hk S ih =>
    intro n hn
    rcases Nat.lt_or_ge n (k + 1) with h | h
    · obtain ⟨a, oa, h1, h2⟩ := ih n (by omega)
      exact ⟨a, oa, h1, h2.step R.wf (by omega) S⟩
    · obtain rfl : n = k + 1 := by omega
      exact ⟨out', op', .succ R hk S, .refl _ _⟩
theorem Rn.take {N : Nat} {types : List Int} {l : List Event} {n m : Nat} {a : List Call} {oa : List Int} (R : Rn N types l n a oa) (h : n ≤ m) : Rn N types (l.take m) n a oa := by
  induction R with
  | zero => exact .zero
  | @succ k out out' op op' R hk S ih =>
    refine .succ (ih (by omega)) (by rw [List.length_take]; omega) ?_
    have e : (l.take m).getD k Event.z = l.getD k Event.z := by
      rw [List.getD_eq_getElem?_getD, List.getElem?_take, if_pos (by omega), ← List.getD_eq_getElem?_getD]
    rw [e]; exact S
end Sr

namespace Tk
open Hs
theorem pe_sorted (c : List Call) : ∀ k, (pe c k).Pairwise (· < ·)
  | 0 => .nil
  | k + 1 => by
    unfold pe
    split
    · refine List.pairwise_append.2 ⟨pe_sorted c k, List.pairwise_singleton _ _, fun a ha b hb => ?_⟩
      obtain ⟨m, h1, rfl, _⟩ := pe_mem.1 ha
      rw [List.mem_singleton.1 hb]; omega
    · exact pe_sorted c k
theorem mi_mem {c : List Call} {L : Nat} {i : Int} : ∀ {k : Nat}, i ∈ mi c L k ↔ ∃ m : Nat, m < k ∧ i = m ∧ hasU c m L = false
  | 0 => ⟨fun h => (nomatch h), fun ⟨_, h, _⟩ => absurd h (Nat.not_lt_zero _)⟩
  | k + 1 => by
    unfold mi
    by_cases h : hasU c k L = true
    · rw [if_pos h, mi_mem]
      constructor
      · rintro ⟨m, h1, h2⟩
        exact ⟨m, by omega, h2⟩
      · rintro ⟨m, h1, h2, h3⟩
        rcases Nat.lt_or_ge m k with g | g
        · exact ⟨m, g, h2, h3⟩
        · obtain rfl : m = k := by omega
          rw [h] at h3; cases h3
    · rw [if_neg h, List.mem_append, mi_mem, List.mem_singleton]
      constructor
      · rintro (⟨m, h1, h2⟩ | rfl)
        · exact ⟨m, by omega, h2⟩
        · exact ⟨k, by omega, rfl, Bool.eq_false_iff.2 h⟩
      · rintro ⟨m, h1, h2, h3⟩
        rcases Nat.lt_or_ge m k with g | g
        · exact .inl ⟨m, g, h2, h3⟩
        · obtain rfl : m = k := by omega
          exact .inr h2
theorem mi_sorted (c : List Call) (L : Nat) : ∀ k, (mi c L k).Pairwise (· < ·)
  | 0 => .nil
  | k + 1 => by
    unfold mi
    split
    · exact mi_sorted c L k
    · refine List.pairwise_append.2 ⟨mi_sorted c L k, List.pairwise_singleton _ _, fun a ha b hb => ?_⟩
      obtain ⟨m, h1, rfl, _⟩ := mi_mem.1 ha
      rw [List.mem_singleton.1 hb]; omega
theorem pig {l m : List Int} (h : l.Nodup) (hs : ∀ x ∈ l, x ∈ m) : l.length ≤ m.length := by
  induction l generalizing m with
  | nil => exact Nat.zero_le _
  | cons a l ih =>
    have ha := hs a (List.mem_cons_self ..)
    obtain ⟨h1, h2⟩ := List.nodup_cons.1 h
    have := ih (m := m.erase a) h2 fun x hx => (List.mem_erase_of_ne (fun e : x = a => h1 (e ▸ hx))).2 (hs x (List.mem_cons_of_mem _ hx))
    rw [List.length_erase_of_mem ha] at this
    have : 0 < m.length := List.length_pos_of_mem ha
    simp only [List.length_cons]; omega
theorem nodup_map {f : Int → Int} : ∀ {l : List Int}, l.Nodup → (∀ a ∈ l, ∀ b ∈ l, f a = f b → a = b) → (l.map f).Nodup
  | [], _, _ => .nil
  | a :: l, h, hf => by
    obtain ⟨h1, h2⟩ := List.nodup_cons.1 h
    rw [List.map_cons, List.nodup_cons]
    refine ⟨fun hm => ?_, nodup_map h2 fun x hx y hy => hf x (List.mem_cons_of_mem _ hx) y (List.mem_cons_of_mem _ hy)⟩
    obtain ⟨b, hb, e⟩ := List.mem_map.1 hm
    have := hf b (List.mem_cons_of_mem _ hb) a (List.mem_cons_self ..) e
    exact h1 (this ▸ hb)
theorem sorted_get {l : List Int} (h : l.Pairwise (· < ·)) {i j : Nat} (hij : i ≤ j) (hj : j < l.length) : l.getD i 0 ≤ l.getD j 0 := by
  rcases Nat.lt_or_ge i j with h1 | h1
  · have := List.pairwise_iff_getElem.1 h i j (by omega) hj h1
    rw [getD_of (show i < l.length by omega), getD_of hj]; omega
  · obtain rfl : i = j := by omega
    exact Int.le_refl _
/-- If each can have one, the first can have the first, and so on. -/
theorem greedy {P M : List Int} (hP : P.Pairwise (· < ·)) (hM : M.Pairwise (· < ·)) (ok : Int → Int → Prop) (f : Int → Int)
    (h1 : ∀ m ∈ M, f m ∈ P ∧ ok (f m) m) (h2 : ∀ a ∈ M, ∀ b ∈ M, f a = f b → a = b)
    (h3 : ∀ p ∈ P, ∀ q ∈ P, ∀ m n, p ≤ q → m ≤ n → ok q m → ok p n) : ∀ k, k < M.length → k < P.length ∧ ok (P.getD k 0) (M.getD k 0) := by
  intro k hk
  have hn : ∀ {l : List Int}, l.Pairwise (· < ·) → l.Nodup := fun h => h.imp fun h e => absurd h (by omega)
  have : ∃ m ∈ M.take (k + 1), f m ∉ P.take k := by
    refine Classical.byContradiction fun hc => ?_
    have := pig (l := (M.take (k + 1)).map f) (m := P.take k) (nodup_map (hn (hM.sublist (List.take_sublist _ _))) fun a ha b hb => h2 a (List.mem_of_mem_take ha) b (List.mem_of_mem_take hb)) fun x hx => by
      obtain ⟨m, hm, rfl⟩ := List.mem_map.1 hx
      exact Classical.byContradiction fun hq => hc ⟨m, hm, hq⟩
    rw [List.length_map, List.length_take, List.length_take] at this
    omega
  obtain ⟨m, hm, hq⟩ := this
  have hmM := List.mem_of_mem_take hm
  obtain ⟨g1, g2⟩ := h1 m hmM
  obtain ⟨j, hj, e⟩ := List.getElem_of_mem g1
  have hjk : k ≤ j := by
    refine Nat.le_of_not_lt fun h => hq ?_
    rw [← e]
    exact List.mem_take_iff_getElem.2 ⟨j, by omega, rfl⟩
  obtain ⟨i, hi, e2⟩ := List.mem_take_iff_getElem.1 hm
  have hkP : k < P.length := by omega
  refine ⟨hkP, ?_⟩
  have e3 : P.getD j 0 = f m := by rw [getD_of hj, e]
  have e4 : M.getD i 0 = m := by rw [getD_of (show i < M.length by omega), e2]
  refine h3 _ (by rw [getD_of hkP]; exact List.getElem_mem _) _ g1 m _ ?_ ?_ g2
  · rw [← e3]; exact sorted_get hP hjk hj
  · rw [← e4]; exact sorted_get hM (by omega) hk
/-- What is known of calls. -/
structure Okl (c : List Call) : Prop where
  fr : ∀ i j, i < j → j < c.length → (c.getD i Call.z).from_ < (c.getD j Call.z).from_
  res : ∀ i, i < c.length → 0 ≤ (c.getD i Call.z).res ∧ (c.getD i Call.z).res ≤ 1000
theorem can_mono {c : List Call} (W : Okl c) {p q m n : Int} (hp : 0 ≤ p) (hq : q < c.length) (h : p ≤ q) (h2 : m ≤ n) (hc : can c q m) : can c p n := by
  intro x hx ha ht
  have hf : (c.getD p.toNat Call.z).from_ ≤ (c.getD q.toNat Call.z).from_ := by
    rcases Nat.lt_or_ge p.toNat q.toNat with h3 | h3
    · have := W.fr _ _ h3 (by omega); omega
    · have : p.toNat = q.toNat := by omega
      rw [this]; exact Int.le_refl _
  have := hc x hx ha (by omega)
  omega
theorem Good.nonneg {c : List Call} {m : Int} : m ∈ miss c ↔ 0 ≤ m ∧ m ≤ mo c c.length ∧ ∀ i, i < c.length → ans (c.getD i Call.z) → (c.getD i Call.z).res ≠ m := by
  unfold miss
  rw [mi_mem]
  constructor
  · rintro ⟨k, h1, rfl, h2⟩
    refine ⟨by omega, by omega, fun i hi ha e => ?_⟩
    rw [hasU_iff.2 ⟨i, hi, ha, e⟩] at h2; cases h2
  · rintro ⟨h1, h2, h3⟩
    refine ⟨m.toNat, by omega, by omega, Bool.eq_false_iff.2 fun h => ?_⟩
    obtain ⟨i, h4, h5, h6⟩ := hasU_iff.1 h
    exact h3 i h4 h5 (by rw [h6]; omega)
theorem good_front {n : Nat} {a c : List Call} (P : Sr.Pre n a c) (hto : ∀ i, i < a.length → ans (a.getD i Call.z) → (a.getD i Call.z).to_ < n) (W : Okl c) (Wa : Okl a) (G : Good c) : Good a := by
  have same : ∀ i, i < a.length → ans (a.getD i Call.z) → c.getD i Call.z = a.getD i Call.z := fun i hi h => (P.old i hi).2.1 h
  refine ⟨fun i j h1 h2 h3 h4 => ?_, fun i j h1 h2 h3 h4 => ?_, ?_⟩
  · rw [← same i h2 h3, ← same j (by omega) h4] at *
    exact G.twice i j h1 (by have := P.len; omega) h3 h4
  · rw [← same i h1 h3, ← same j h2 h4] at *
    exact G.ord i j (by have := P.len; omega) (by have := P.len; omega) h3 h4
  -- who has a number
  have ex : ∀ m, ∃ i : Int, m ∈ miss a → (i ∈ pe a a.length ∧ can a i m) ∧ ((∃ k : Nat, i = k ∧ k < c.length ∧ ans (c.getD k Call.z) ∧ (c.getD k Call.z).res = m) ∨ (m ∈ miss c ∧ ∃ k, k < (miss c).length ∧ (miss c).getD k 0 = m ∧ k < (pe c c.length).length ∧ (pe c c.length).getD k 0 = i)) := by
    intro m
    by_cases hm : m ∈ miss a
    case neg => exact ⟨0, fun h => absurd h hm⟩
    obtain ⟨m0, m1, m2⟩ := Good.nonneg.1 hm
    obtain ⟨t, t1, t2, t3⟩ := mo_at (c := a) (k := a.length) (by omega)
    have tc := same t t1 t2
    have tlt : m < (a.getD t Call.z).res := by
      have := m2 t t1 t2
      omega
    -- it is no later one
    have key : ∀ k : Nat, k < c.length → (∀ x, x < c.length → ans (c.getD x Call.z) → (c.getD x Call.z).to_ < (c.getD k Call.z).from_ → (c.getD x Call.z).res ≤ m) → (ans (c.getD k Call.z) → (c.getD k Call.z).res = m) → (k : Int) ∈ pe a a.length ∧ can a k m := by
      intro k hk h1 h2
      have hka : k < a.length := by
        refine Nat.lt_of_not_le fun h => ?_
        have f1 := P.new k h hk
        have f2 := hto t t1 t2
        have := h1 t (by have := P.len; omega) (by rw [tc]; exact t2) (by rw [tc]; omega)
        rw [tc] at this; omega
      have hop : (a.getD k Call.z).to_ = -1 := by
        refine Classical.byContradiction fun h => ?_
        have e := same k hka h
        have := h2 (by rw [e]; exact h)
        rw [e] at this
        exact m2 k hka h this
      refine ⟨pe_mem.2 ⟨k, hka, rfl, hop⟩, fun x hx ha hlt => ?_⟩
      rw [Int.toNat_natCast] at hlt
      have e := same x hx ha
      have := h1 x (by have := P.len; omega) (by rw [e]; exact ha) (by rw [e, (P.old k hka).1.2.2.2.2]; exact hlt)
      rw [e] at this
      have := m2 x hx ha
      omega
    by_cases hc : ∃ k, k < c.length ∧ ans (c.getD k Call.z) ∧ (c.getD k Call.z).res = m
    · obtain ⟨k, k1, k2, k3⟩ := hc
      refine ⟨k, fun _ => ⟨key k k1 (fun x hx ha hlt => ?_) fun _ => k3, .inl ⟨k, rfl, k1, k2, k3⟩⟩⟩
      have := G.ord x k hx k1 ha k2 hlt
      omega
    · have hmc : m ∈ miss c := by
        refine Good.nonneg.2 ⟨m0, ?_, fun i hi ha e => hc ⟨i, hi, ha, e⟩⟩
        have := mo_up (c := c) (i := t) (k := c.length) (by have := P.len; omega) (by rw [tc]; exact t2)
        rw [tc] at this; omega
      obtain ⟨k, hk, e⟩ := List.getElem_of_mem hmc
      have e' : (miss c).getD k 0 = m := by rw [getD_of hk, e]
      obtain ⟨g1, g2⟩ := G.gap k hk
      have hp : (pe c c.length).getD k 0 ∈ pe c c.length := by rw [getD_of g1]; exact List.getElem_mem _
      obtain ⟨i, i1, i2, i3⟩ := pe_mem.1 hp
      rw [i2, e'] at g2
      refine ⟨(i : Int), fun _ => ⟨key i i1 (fun x hx ha hlt => ?_) fun h => absurd i3 h, .inr ⟨hmc, k, hk, e', g1, i2⟩⟩⟩
      have := g2 x hx ha (by rw [Int.toNat_natCast]; exact hlt)
      omega
  obtain ⟨f, hf⟩ := Classical.axiomOfChoice ex
  refine greedy (pe_sorted a _) (mi_sorted a _ _) (can a) f (fun m hm => (hf m hm).1) (fun x hx y hy e => ?_) fun p hp q hq m n h1 h2 h3 => ?_
  · have pend : ∀ {k : Nat}, k < (pe c c.length).length → ∃ i : Nat, (pe c c.length).getD k 0 = i ∧ (c.getD i Call.z).to_ = -1 := fun {k} h => by
      have hp : (pe c c.length).getD k 0 ∈ pe c c.length := by rw [getD_of h]; exact List.getElem_mem _
      obtain ⟨i, _, i2, i3⟩ := pe_mem.1 hp
      exact ⟨i, i2, i3⟩
    rcases (hf x hx).2 with ⟨k, k1, _, k3, k4⟩ | ⟨_, k, k1, k2, k3, k4⟩ <;> rcases (hf y hy).2 with ⟨j, j1, _, j3, j4⟩ | ⟨_, j, j1, j2, j3, j4⟩
    · have : k = j := by omega
      subst this
      rw [← k4, ← j4]
    · obtain ⟨i, i1, i2⟩ := pend j3
      have : k = i := by omega
      subst this
      exact absurd i2 k3
    · obtain ⟨i, i1, i2⟩ := pend k3
      have : j = i := by omega
      subst this
      exact absurd i2 j3
    · have : k = j := by
        have hs := pe_sorted c c.length
        rcases Nat.lt_trichotomy k j with h | h | h
        · have := List.pairwise_iff_getElem.1 hs k j k3 j3 h
          rw [getD_of k3] at k4; rw [getD_of j3] at j4; omega
        · exact h
        · have := List.pairwise_iff_getElem.1 hs j k j3 k3 h
          rw [getD_of k3] at k4; rw [getD_of j3] at j4; omega
      subst this
      rw [← k2, ← j2]
  · obtain ⟨i, i1, rfl, _⟩ := pe_mem.1 hp
    obtain ⟨j, j1, rfl, _⟩ := pe_mem.1 hq
    exact can_mono Wa (by omega) (by omega) h1 h2 h3
theorem good_more {c : List Call} {x : Call} (hx : x.to_ = -1) (G : Good c) : Good (c ++ [x]) := by
  have hl : (c ++ [x]).length = c.length + 1 := by rw [List.length_append, List.length_singleton]
  have g : ∀ i, i < c.length → (c ++ [x]).getD i Call.z = c.getD i Call.z := fun i h => by rw [getD_app, if_pos h]
  have gl : (c ++ [x]).getD c.length Call.z = x := by rw [getD_app, if_neg (by omega), if_pos rfl]
  have ga : ∀ i, i < (c ++ [x]).length → ans ((c ++ [x]).getD i Call.z) → i < c.length := by
    intro i h1 h2
    refine Nat.lt_of_not_le fun h => ?_
    obtain rfl : i = c.length := by omega
    rw [gl] at h2
    exact h2 hx
  have hp : pe (c ++ [x]) c.length = pe c c.length := by
    have : ∀ k, k ≤ c.length → pe (c ++ [x]) k = pe c k := by
      intro k
      induction k with
      | zero => intro _; rfl
      | succ k ih =>
        intro h
        rw [pe, pe, ih (by omega), g k (by omega)]
    exact this _ (Nat.le_refl _)
  have hm : mo (c ++ [x]) c.length = mo c c.length := by
    have : ∀ k, k ≤ c.length → mo (c ++ [x]) k = mo c k := by
      intro k
      induction k with
      | zero => intro _; rfl
      | succ k ih =>
        intro h
        rw [mo, mo, ih (by omega), g k (by omega)]
    exact this _ (Nat.le_refl _)
  have hh : ∀ n, hasU (c ++ [x]) n (c.length + 1) = hasU c n c.length := by
    intro n
    have : ∀ k, k ≤ c.length → hasU (c ++ [x]) n k = hasU c n k := by
      intro k
      induction k with
      | zero => intro _; rfl
      | succ k ih =>
        intro h
        rw [hasU, hasU, ih (by omega), g k (by omega)]
    rw [hasU, this _ (Nat.le_refl _), gl, decide_eq_false (fun z => z.1 hx), Bool.or_false]
  have hmi : miss (c ++ [x]) = miss c := by
    unfold miss
    rw [hl, mo, gl, if_pos hx, hm]
    generalize (mo c c.length + 1).toNat = K
    induction K with
    | zero => rfl
    | succ K ih => rw [mi, mi, hh, ih]
  refine ⟨fun i j h1 h2 h3 h4 => ?_, fun i j h1 h2 h3 h4 h5 => ?_, fun k hk => ?_⟩
  · have i1 := ga i h2 h3
    rw [g i i1, g j (by omega)] at *
    exact G.twice i j h1 i1 h3 h4
  · have i1 := ga i h1 h3
    have j1 := ga j h2 h4
    rw [g i i1, g j j1] at *
    exact G.ord i j i1 j1 h3 h4 h5
  · rw [hmi] at hk ⊢
    obtain ⟨k1, k2⟩ := G.gap k hk
    have e : pe (c ++ [x]) (c ++ [x]).length = pe c c.length ++ [(c.length : Int)] := by rw [hl, pe, gl, if_pos hx, hp]
    have e2 : (pe (c ++ [x]) (c ++ [x]).length).getD k 0 = (pe c c.length).getD k 0 := by rw [e, getD_app, if_pos k1]
    refine ⟨by rw [e, List.length_append]; omega, ?_⟩
    rw [e2]
    have hpm : (pe c c.length).getD k 0 ∈ pe c c.length := by rw [getD_of k1]; exact List.getElem_mem _
    obtain ⟨i, i1, i2, i3⟩ := pe_mem.1 hpm
    rw [i2] at k2 ⊢
    intro y hy ha hlt
    have y1 := ga y hy ha
    rw [g y y1] at *
    rw [Int.toNat_natCast, g i i1] at hlt
    exact k2 y y1 ha (by rw [Int.toNat_natCast]; exact hlt)
/-- What is read: numbers that may be. -/
theorem rn_res {N : Nat} {l : List Event} {k : Nat} {c : List Call} {op : List Int} (R : Rn N [5] l k c op) : (∀ i, i < c.length → 0 ≤ (c.getD i Call.z).res ∧ (c.getD i Call.z).res ≤ 1000) ∧ ∀ i, i < c.length → ans (c.getD i Call.z) → (c.getD i Call.z).to_ < k := by
  induction R with
  | zero => exact ⟨fun i h => absurd h (Nat.not_lt_zero _), fun i h => absurd h (Nat.not_lt_zero _)⟩
  | @succ k out out' op op' R hk S ih =>
    have W := R.wf
    rcases S.how with ⟨_, _, _, _, rfl, _⟩ | ⟨_, m, _, hm, ht, hr, rfl, _⟩
    · refine ⟨fun i hi => ?_, fun i hi ha => ?_⟩
      · rw [getD_app]
        rcases Nat.lt_or_ge i out.length with h | h
        · rw [if_pos h]; exact ih.1 i h
        · rw [List.length_append, List.length_singleton] at hi
          rw [if_neg (by omega), if_pos (by omega)]
          exact ⟨Int.le_refl _, by show (0 : Int) ≤ 1000; omega⟩
      · rw [getD_app] at ha ⊢
        rcases Nat.lt_or_ge i out.length with h | h
        · rw [if_pos h] at ha ⊢; have := ih.2 i h ha; omega
        · rw [List.length_append, List.length_singleton] at hi
          rw [if_neg (by omega), if_pos (by omega)] at ha
          exact (ha rfl).elim
    · have hfit := (W.one m hm).fit
      have ht0 := (W.one m hm).thing
      have e0 : (out.getD m Call.z).thing.toNat = 0 := by
        simp only [List.length_singleton] at ht0; omega
      rw [e0] at hfit
      have hk10 : (out.getD m Call.z).kind = 10 := by
        have h5 : tyF (out.getD m Call.z).kind = 5 := hfit.2
        unfold tyF at h5
        by_cases h : (out.getD m Call.z).kind = 10
        · exact h
        · split at h5 <;> (try omega)
      have hres : 0 ≤ (l.getD k Event.z).value ∧ (l.getD k Event.z).value ≤ 1000 := by
        rw [hk10] at hr
        have : some (decide (0 ≤ (l.getD k Event.z).value) && decide ((l.getD k Event.z).value ≤ 1000)) = some true := hr
        simpa using this
      refine ⟨fun i hi => ?_, fun i hi ha => ?_⟩
      · rw [getD_set2 hm]
        split
        · exact hres
        · exact ih.1 i (by simpa using hi)
      · rw [getD_set2 hm] at ha ⊢
        split
        · show ((k : Int)) < ((k + 1 : Nat) : Int); omega
        · rw [if_neg (by assumption)] at ha
          have := ih.2 i (by simpa using hi) ha; omega
theorem okl {N : Nat} {l : List Event} {k : Nat} {c : List Call} {op : List Int} (R : Rn N [5] l k c op) : Okl c := ⟨fun i j h1 h2 => (R.wf.two i j h1 h2).fr, (rn_res R).1⟩
/-- What Check says of calls that are told. -/
theorem check_ok {N : Nat} (hN : 5000 < N) {l : List Event} {c : List Call} {op : List Int} {e : Int} (hl : l.length ≤ 200) (hc : history_Calls N [5] l = some (c, e, 0)) (R : Rn N [5] l l.length c op) : Wp (tickets_Check N l) fun r => r.2.2.2.2 = 0 ∧ (r.1 = true ↔ Good c) := by
  have hlen := R.wf.len
  have hr := (okl R).res
  unfold tickets_Check
  refine .bdO (read_ok hN hc (by omega) fun i hi => (hr i hi).2) (.condF rfl (.ck rfl (.seq (check_wp (c := c) hN (by omega) fun i hi => (hr i hi).2) fun r _ h => .one ⟨rfl, ?_⟩)))
  rw [decide_eq_true_eq]; exact h.1
theorem check_all {N : Nat} (hN : 5000 < N) (l : List Event) : Wp (tickets_Check N l) fun r => (r.2.2.2.2 ≠ 0 ∧ r.1 = false) ∨ (r.2.2.2.2 = 0 ∧ ∃ c op, history_Types N [5] = some 0 ∧ l.length ≤ 200 ∧ Rn N [5] l l.length c op ∧ (r.1 = true ↔ Good c)) := by
  obtain ⟨⟨c, e, er⟩, h1, h2⟩ := calls_rn (N := N) (types := [5]) (l := l) (by omega)
  by_cases h0 : er = 0
  · subst h0
    obtain ⟨ht, _, hl, _, op, R⟩ := h2 rfl
    refine (check_ok hN hl h1 R).mono fun r h => .inr ⟨h.1, c, op, ht, hl, R, h.2⟩
  · unfold tickets_Check
    have hrd : tickets_read N l = some (false, [], [], [], er) := by
      unfold tickets_read
      refine Wp.eq (.bdO h1 (.condT ?_ (.one rfl)))
      simp only [Bool.not_eq_true', decide_eq_false_iff_not]; exact h0
    refine .bdO hrd (.condT ?_ (.one (.inl ⟨h0, rfl⟩)))
    simp only [Bool.not_eq_true', decide_eq_false_iff_not]; exact h0
end Tk

namespace Tk
open Hs Go.Sort
/-- The calls that are answered, as steps. -/
def an (c : List Call) : Nat → List Step
  | 0 => []
  | k + 1 => if (c.getD k Call.z).to_ = -1 then an c k else an c k ++ [⟨(k : Int), (c.getD k Call.z).res⟩]
/-- The others. -/
def fi (p m : List Int) : Nat → List Step
  | 0 => []
  | k + 1 => fi p m k ++ [⟨p.getD k 0, m.getD k 0⟩]
def steps (c : List Call) : List Step := an c c.length ++ fi (pe c c.length) (miss c) (miss c).length
theorem an_mem {c : List Call} {s : Step} : ∀ {k : Nat}, s ∈ an c k ↔ ∃ i : Nat, i < k ∧ ans (c.getD i Call.z) ∧ s = ⟨(i : Int), (c.getD i Call.z).res⟩
  | 0 => ⟨fun h => (nomatch h), fun ⟨_, h, _⟩ => absurd h (Nat.not_lt_zero _)⟩
  | k + 1 => by
    unfold an
    by_cases h : (c.getD k Call.z).to_ = -1
    · rw [if_pos h, an_mem]
      constructor
      · rintro ⟨m, h1, h2⟩
        exact ⟨m, by omega, h2⟩
      · rintro ⟨m, h1, h2, h3⟩
        rcases Nat.lt_or_ge m k with g | g
        · exact ⟨m, g, h2, h3⟩
        · obtain rfl : m = k := by omega
          exact absurd h h2
    · rw [if_neg h, List.mem_append, an_mem, List.mem_singleton]
      constructor
      · rintro (⟨m, h1, h2⟩ | rfl)
        · exact ⟨m, by omega, h2⟩
        · exact ⟨k, by omega, h, rfl⟩
      · rintro ⟨m, h1, h2, h3⟩
        rcases Nat.lt_or_ge m k with g | g
        · exact .inl ⟨m, g, h2, h3⟩
        · obtain rfl : m = k := by omega
          exact .inr h3
theorem an_len (c : List Call) : ∀ k, (an c k).length ≤ k
  | 0 => Nat.le_refl _
  | k + 1 => by
    have := an_len c k
    unfold an
    split
    · omega
    · rw [List.length_append, List.length_singleton]; omega
theorem fi_mem {p m : List Int} {s : Step} : ∀ {k : Nat}, s ∈ fi p m k ↔ ∃ i : Nat, i < k ∧ s = ⟨p.getD i 0, m.getD i 0⟩
  | 0 => ⟨fun h => (nomatch h), fun ⟨_, h, _⟩ => absurd h (Nat.not_lt_zero _)⟩
  | k + 1 => by
    unfold fi
    rw [List.mem_append, fi_mem, List.mem_singleton]
    constructor
    · rintro (⟨i, h1, h2⟩ | rfl)
      · exact ⟨i, by omega, h2⟩
      · exact ⟨k, by omega, rfl⟩
    · rintro ⟨i, h1, h2⟩
      rcases Nat.lt_or_ge i k with g | g
      · exact .inl ⟨i, g, h2⟩
      · obtain rfl : i = k := by omega
        exact .inr h2
theorem fi_len (p m : List Int) : ∀ k, (fi p m k).length = k
  | 0 => rfl
  | k + 1 => by rw [fi, List.length_append, fi_len p m k, List.length_singleton]
theorem an_pair (c : List Call) (f : Step → Int) (hf : ∀ i j, i < j → j < c.length → ans (c.getD i Call.z) → ans (c.getD j Call.z) → f ⟨(i : Int), (c.getD i Call.z).res⟩ ≠ f ⟨(j : Int), (c.getD j Call.z).res⟩) : ∀ k, k ≤ c.length → ((an c k).map f).Nodup
  | 0, _ => .nil
  | k + 1, hk => by
    unfold an
    by_cases h : (c.getD k Call.z).to_ = -1
    · rw [if_pos h]; exact an_pair c f hf k (by omega)
    · rw [if_neg h, List.map_append]
      refine List.nodup_append.2 ⟨an_pair c f hf k (by omega), List.nodup_cons.2 ⟨by simp, .nil⟩, fun a ha b hb => ?_⟩
      obtain ⟨s, hs, rfl⟩ := List.mem_map.1 ha
      obtain ⟨i, i1, i2, rfl⟩ := an_mem.1 hs
      rw [List.map_cons, List.map_nil, List.mem_singleton] at hb
      rw [hb]
      exact hf i k i1 (by omega) i2 h
theorem fi_pair (p m : List Int) (f : Step → Int) (n : Nat) (hf : ∀ i j, i < j → j < n → f ⟨p.getD i 0, m.getD i 0⟩ ≠ f ⟨p.getD j 0, m.getD j 0⟩) : ∀ k, k ≤ n → ((fi p m k).map f).Nodup
  | 0, _ => .nil
  | k + 1, hk => by
    unfold fi
    rw [List.map_append]
    refine List.nodup_append.2 ⟨fi_pair p m f n hf k (by omega), List.nodup_cons.2 ⟨by simp, .nil⟩, fun a ha b hb => ?_⟩
    obtain ⟨s, hs, rfl⟩ := List.mem_map.1 ha
    obtain ⟨i, i1, rfl⟩ := fi_mem.1 hs
    rw [List.map_cons, List.map_nil, List.mem_singleton] at hb
    rw [hb]
    exact hf i k i1 (by omega)
theorem sorted_lt {l : List Int} (h : l.Pairwise (· < ·)) {i j : Nat} (hij : i < j) (hj : j < l.length) : l.getD i 0 < l.getD j 0 := by
  have := List.pairwise_iff_getElem.1 h i j (by omega) hj hij
  rw [getD_of (show i < l.length by omega), getD_of hj]; exact this
theorem pe_at {c : List Call} {k : Nat} (h : k < (pe c c.length).length) : ∃ i : Nat, i < c.length ∧ (pe c c.length).getD k 0 = i ∧ (c.getD i Call.z).to_ = -1 := by
  have hp : (pe c c.length).getD k 0 ∈ pe c c.length := by rw [getD_of h]; exact List.getElem_mem _
  obtain ⟨i, i1, i2, i3⟩ := pe_mem.1 hp
  exact ⟨i, i1, i2, i3⟩
theorem miss_at {c : List Call} {k : Nat} (h : k < (miss c).length) : (miss c).getD k 0 ∈ miss c := by rw [getD_of h]; exact List.getElem_mem _
theorem steps_call {c : List Call} (G : Good c) : ((steps c).map (·.call)).Nodup := by
  unfold steps
  rw [List.map_append]
  refine List.nodup_append.2 ⟨an_pair c _ (fun i j h _ _ _ e => ?_) _ (Nat.le_refl _), fi_pair _ _ _ (miss c).length (fun i j h1 h2 e => ?_) _ (Nat.le_refl _), fun a ha b hb => ?_⟩
  · have : (i : Int) = j := e
    omega
  · have := sorted_lt (pe_sorted c c.length) h1 (G.gap j h2).1
    have e : (pe c c.length).getD i 0 = (pe c c.length).getD j 0 := e
    omega
  · obtain ⟨s, hs, rfl⟩ := List.mem_map.1 ha
    obtain ⟨i, i1, i2, rfl⟩ := an_mem.1 hs
    obtain ⟨s, hs, rfl⟩ := List.mem_map.1 hb
    obtain ⟨k, k1, rfl⟩ := fi_mem.1 hs
    obtain ⟨j, j1, j2, j3⟩ := pe_at (G.gap k k1).1
    intro e
    have e : (i : Int) = (pe c c.length).getD k 0 := e
    have : i = j := by omega
    subst this
    exact i2 j3
theorem steps_res {c : List Call} (G : Good c) : ((steps c).map (·.res)).Nodup := by
  unfold steps
  rw [List.map_append]
  refine List.nodup_append.2 ⟨an_pair c _ (fun i j h h2 h3 h4 e => ?_) _ (Nat.le_refl _), fi_pair _ _ _ (miss c).length (fun i j h1 h2 e => ?_) _ (Nat.le_refl _), fun a ha b hb => ?_⟩
  · exact G.twice j i h h2 h4 h3 e.symm
  · have := sorted_lt (mi_sorted c c.length (mo c c.length + 1).toNat) h1 h2
    have e : (miss c).getD i 0 = (miss c).getD j 0 := e
    unfold miss at e
    omega
  · obtain ⟨s, hs, rfl⟩ := List.mem_map.1 ha
    obtain ⟨i, i1, i2, rfl⟩ := an_mem.1 hs
    obtain ⟨s, hs, rfl⟩ := List.mem_map.1 hb
    obtain ⟨k, k1, rfl⟩ := fi_mem.1 hs
    exact (Good.nonneg.1 (miss_at k1)).2.2 i i1 i2
theorem steps_mem {c : List Call} (W : Okl c) {m : Int} : m ∈ (steps c).map (·.res) ↔ 0 ≤ m ∧ m < mo c c.length + 1 := by
  unfold steps
  rw [List.map_append, List.mem_append]
  constructor
  · rintro (h | h)
    · obtain ⟨s, hs, rfl⟩ := List.mem_map.1 h
      obtain ⟨i, i1, i2, rfl⟩ := an_mem.1 hs
      have := mo_up i1 i2
      exact ⟨(W.res i i1).1, by show (c.getD i Call.z).res < _; omega⟩
    · obtain ⟨s, hs, rfl⟩ := List.mem_map.1 h
      obtain ⟨k, k1, rfl⟩ := fi_mem.1 hs
      have := Good.nonneg.1 (miss_at k1)
      exact ⟨this.1, by show (miss c).getD k 0 < _; omega⟩
  · rintro ⟨h1, h2⟩
    by_cases h : ∃ i, i < c.length ∧ ans (c.getD i Call.z) ∧ (c.getD i Call.z).res = m
    · obtain ⟨i, i1, i2, rfl⟩ := h
      exact .inl (List.mem_map.2 ⟨_, an_mem.2 ⟨i, i1, i2, rfl⟩, rfl⟩)
    · have hm : m ∈ miss c := Good.nonneg.2 ⟨h1, by omega, fun i hi ha e => h ⟨i, hi, ha, e⟩⟩
      obtain ⟨k, hk, e⟩ := List.getElem_of_mem hm
      exact .inr (List.mem_map.2 ⟨_, fi_mem.2 ⟨k, hk, rfl⟩, by show (miss c).getD k 0 = m; rw [getD_of hk, e]⟩)
/-- All numbers from 0 on, in order. -/
theorem count_up {l : List Int} {K : Int} (h : l.Pairwise (· ≤ ·)) (hn : l.Nodup) (hm : ∀ x, x ∈ l ↔ 0 ≤ x ∧ x < K) : ∀ i, i < l.length → l.getD i 0 = i := by
  have hs : l.Pairwise (· < ·) := List.pairwise_iff_getElem.2 fun i j hi hj hij => by
    have h1 := List.pairwise_iff_getElem.1 h i j hi hj hij
    have h2 := List.pairwise_iff_getElem.1 hn i j hi hj hij
    omega
  intro i
  induction i using Nat.strongRecOn with
  | _ i ih =>
    intro hi
    have lo : (i : Int) ≤ l.getD i 0 := by
      cases i with
      | zero =>
        have := (hm (l.getD 0 0)).1 (by rw [getD_of hi]; exact List.getElem_mem _)
        omega
      | succ i =>
        have e := ih i (by omega) (by omega)
        have := sorted_lt hs (show i < i + 1 by omega) hi
        omega
    have hx := (hm (l.getD i 0)).1 (by rw [getD_of hi]; exact List.getElem_mem _)
    obtain ⟨j, hj, e⟩ := List.getElem_of_mem ((hm (i : Int)).2 ⟨by omega, by omega⟩)
    have e2 : l.getD j 0 = i := by rw [getD_of hj, e]
    rcases Nat.lt_trichotomy j i with h1 | h1 | h1
    · have := ih j h1 hj
      omega
    · subst h1; exact e2
    · have := sorted_lt hs h1 hj
      omega
theorem small {c : List Call} (W : Okl c) : (steps c).all sort46S = true := by
  rw [List.all_eq_true]
  intro s hs
  have h := (steps_mem W).1 (List.mem_map.2 ⟨s, hs, rfl⟩)
  have := mo_le (fun i hi => (W.res i hi).2) c.length (Nat.le_refl _)
  exact decide_eq_true ⟨by omega, by omega⟩
/-- What Order says. -/
theorem order_all {N : Nat} (hN : 5000 < N) (l : List Event) : Wp (tickets_Order_2 N l) fun r => (r.2 ≠ 0 ∧ r.1 = [] ∧ ∀ c e er, history_Calls N [5] l = some (c, e, er) → (er ≠ 0 → r.2 = er) ∧ (er = 0 → ¬ Good c)) ∨ (r.2 = 0 ∧ ∃ c op, history_Types N [5] = some 0 ∧ l.length ≤ 200 ∧ Rn N [5] l l.length c op ∧ Good c ∧ r.1 = sortL sort46S sort46C (steps c)) := by
  obtain ⟨⟨c, e, er⟩, h1, h2⟩ := calls_rn (N := N) (types := [5]) (l := l) (by omega)
  unfold tickets_Order_2
  by_cases h0 : er = 0
  case neg =>
    have hrd : tickets_read N l = some (false, [], [], [], er) := by
      unfold tickets_read
      refine Wp.eq (.bdO h1 (.condT ?_ (.one rfl)))
      simp only [Bool.not_eq_true', decide_eq_false_iff_not]; exact h0
    refine .bdO hrd (.condT ?_ (.one (.inl ⟨h0, rfl, fun c2 e2 er2 h => by rw [h1] at h; cases h; exact ⟨fun _ => rfl, fun z => absurd z h0⟩⟩)))
    simp only [Bool.not_eq_true', decide_eq_false_iff_not]; exact h0
  subst h0
  obtain ⟨ht, _, hl, _, op, R⟩ := h2 rfl
  have R : Rn N [5] l l.length c op := R
  have hlen := R.wf.len
  have W := okl R
  have hr := W.res
  refine .bdO (read_ok hN h1 (by omega) fun i hi => (hr i hi).2) (.condF rfl (.ck rfl (.seq (check_wp (c := c) hN (by omega) fun i hi => (hr i hi).2) fun r _ hg => .cond (fun hcd => .one (.inl ⟨by show (4 : Int) ≠ 0; decide, rfl, fun c2 e2 er2 h => by rw [h1] at h; cases h; exact ⟨fun z => absurd rfl z, fun _ G => by have := hg.1.2 G; rw [this] at hcd; exact absurd hcd (by decide)⟩⟩)) fun h => ?_)))
  have G : Good c := hg.1.1 (by simpa using h)
  have hml : (miss c).length ≤ 1001 := by
    have := mi_len c c.length (mo c c.length + 1).toNat
    have g2 := mo_le (fun i hi => (hr i hi).2) c.length (Nat.le_refl _)
    unfold miss; omega
  have hal := an_len c c.length
  refine .seq (P := fun s => s = an c c.length) (.iter c.length (fun k st => st = (an c k, (k : Int))) (by omega) rfl ?_ ?_) fun s _ hs => ?_
  · rintro k st hk rfl
    have := an_len c k
    simp only [tickets_Order_2_L5]
    refine .condT (decide_eq_true (by show (k : Int) < (c.length : Int); omega)) (.ixD Call.z (by omega) (by show (k : Int) < (c.length : Int); omega) ?_)
    simp only [Int.toNat_natCast]
    refine .cond (fun h => .ck (limB_of ⟨?_, ?_⟩) (.ck64 (by omega) (.one ?_))) fun h => .ck64 (by omega) (.one ?_)
    · simp only [List.length_singleton]; exact Nat.le_trans (m := 2000) (by omega) (by decide)
    · simp only [List.length_singleton]; omega
    · show (_, _) = (_, _)
      rw [an, if_neg (by simpa using h)]; simp
    · show (_, _) = (_, _)
      rw [an, if_pos (by simpa using h)]; simp
  · rintro st rfl
    simp only [tickets_Order_2_L5]
    exact .condF (decide_eq_false (by show ¬ (c.length : Int) < (c.length : Int); omega)) (.one rfl)
  subst hs
  refine .seq (P := fun s => s = steps c) (.iter (miss c).length (fun k st => st = (an c c.length ++ fi (pe c c.length) (miss c) k, (k : Int))) (by omega) (by rw [fi, List.append_nil]; rfl) ?_ ?_) fun s _ hs => ?_
  · rintro k st hk rfl
    have hfl := fi_len (pe c c.length) (miss c) k
    have hg1 := (G.gap k hk).1
    simp only [tickets_Order_2_L7]
    refine .condT (decide_eq_true (by show (k : Int) < ((miss c).length : Int); omega)) (.ixD 0 (by omega) (by show (k : Int) < ((miss c).length : Int); omega) (.ixD 0 (by omega) (by show (k : Int) < ((pe c c.length).length : Int); omega) ?_))
    simp only [Int.toNat_natCast]
    refine .ck (limB_of ⟨?_, ?_⟩) (.ck64 (by omega) (.one ?_))
    · simp only [List.length_singleton, List.length_append, hfl]; exact Nat.le_trans (m := 2000) (by omega) (by decide)
    · simp only [List.length_singleton, List.length_append, hfl]; omega
    · show (_, _) = (_, _)
      rw [fi, List.append_assoc]; simp
  · rintro st rfl
    simp only [tickets_Order_2_L7]
    exact .condF (decide_eq_false (by show ¬ ((miss c).length : Int) < ((miss c).length : Int); omega)) (.one rfl)
  subst hs
  have hs : sort46 N (steps c) = some (sortL sort46S sort46C (steps c)) := by
    unfold sort46 sortO
    rw [if_pos ⟨small W, by rw [steps, List.length_append, fi_len]; omega⟩]
  exact .bdO hs (.one (.inr ⟨rfl, c, op, ht, hl, R, G, rfl⟩))
/-- The order has each number once. -/
theorem order_facts {c : List Call} (W : Okl c) (G : Good c) : (∀ i, i < (sortL sort46S sort46C (steps c)).length → ((sortL sort46S sort46C (steps c)).getD i Step.z).res = i) ∧ ∀ i j, i < j → j < (sortL sort46S sort46C (steps c)).length → ((sortL sort46S sort46C (steps c)).getD i Step.z).call ≠ ((sortL sort46S sort46C (steps c)).getD j Step.z).call := by
  obtain ⟨h1, h2⟩ := sortL_facts sort46_swo (small W)
  generalize sortL sort46S sort46C (steps c) = w at h1 h2
  have hg : ∀ (f : Step → Int) i, i < w.length → (w.map f).getD i 0 = f (w.getD i Step.z) := by
    intro f i hi
    rw [getD_of (by rw [List.length_map]; exact hi), getD_of hi, List.getElem_map]
  refine ⟨fun i hi => ?_, fun i j hij hj e => ?_⟩
  · rw [← hg (·.res) i hi]
    refine count_up (K := mo c c.length + 1) ?_ ((h1.map (·.res)).nodup_iff.2 (steps_res G)) (fun x => (h1.map (·.res)).mem_iff.trans (steps_mem W)) i (by rw [List.length_map]; exact hi)
    rw [List.pairwise_map]
    refine h2.imp fun {a b} h => ?_
    have h : ¬ b.res - a.res < 0 := h
    omega
  · have hn := (h1.map (·.call)).nodup_iff.2 (steps_call G)
    have := List.pairwise_iff_getElem.1 hn i j (by rw [List.length_map]; omega) (by rw [List.length_map]; exact hj) hij
    rw [List.getElem_map, List.getElem_map] at this
    rw [getD_of (show i < w.length by omega), getD_of hj] at e
    exact this e
end Tk

end Go.Proofs.Ytolneilkgjglkaa
