/- Tickets, plainly. -/
import Derived.Test.YtkmmagekepoapaaO1
set_option linter.unusedVariables false
set_option linter.unusedSimpArgs false
set_option linter.unusedSectionVars false
set_option maxRecDepth 100000
namespace Go.Proofs.Ytkmmagekepoapaa
open Go.RowKit
namespace Tk
open Hs
theorem mget_put {α : Type} (v : α) (k j : Int) : ∀ m : List (Int × α), mget (mput m k v) j = if k = j then some v else mget m j
  | [] => by
    unfold mput mget
    by_cases h : k = j
    · rw [if_pos h, if_pos h]
    · rw [if_neg h, if_neg h]; rfl
  | (a, u) :: r => by
    unfold mput
    by_cases h : a = k
    · subst h
      rw [if_pos rfl]
      unfold mget
      by_cases h2 : a = j
      · rw [if_pos h2, if_pos h2]
      · rw [if_neg h2, if_neg h2]
        rw [if_neg h2]
    · rw [if_neg h]
      unfold mget
      by_cases h2 : a = j
      · rw [if_pos h2, if_pos h2, if_neg (fun e => h (h2.trans e.symm))]
      · rw [if_neg h2, if_neg h2]
        exact mget_put v k j r
/-- Is it answered? -/
def ans (x : Call) : Prop := x.to_ ≠ -1
/-- Does one of so many say this number? -/
def hasU (c : List Call) (n : Int) : Nat → Bool
  | 0 => false
  | k + 1 => hasU c n k || decide ((c.getD k Call.z).to_ ≠ -1 ∧ (c.getD k Call.z).res = n)
def mo (c : List Call) : Nat → Int
  | 0 => -1
  | k + 1 => if (c.getD k Call.z).to_ = -1 then mo c k else max (mo c k) (c.getD k Call.z).res
def pe (c : List Call) : Nat → List Int
  | 0 => []
  | k + 1 => if (c.getD k Call.z).to_ = -1 then pe c k ++ [(k : Int)] else pe c k
def mi (c : List Call) (L : Nat) : Nat → List Int
  | 0 => []
  | k + 1 => if hasU c k L then mi c L k else mi c L k ++ [(k : Int)]
theorem hasU_iff {c : List Call} {n : Int} : ∀ {k : Nat}, hasU c n k = true ↔ ∃ i, i < k ∧ ans (c.getD i Call.z) ∧ (c.getD i Call.z).res = n
  | 0 => ⟨fun h => (nomatch h), fun ⟨_, h, _⟩ => absurd h (Nat.not_lt_zero _)⟩
  | k + 1 => by
    unfold hasU
    rw [Bool.or_eq_true, hasU_iff, decide_eq_true_eq]
    constructor
    · rintro (⟨i, h1, h2⟩ | h)
      · exact ⟨i, by omega, h2⟩
      · exact ⟨k, by omega, h⟩
    · rintro ⟨i, h1, h2⟩
      rcases Nat.lt_or_ge i k with h | h
      · exact .inl ⟨i, h, h2⟩
      · obtain rfl : i = k := by omega
        exact .inr h2
theorem pe_len (c : List Call) : ∀ k, (pe c k).length ≤ k
  | 0 => Nat.le_refl _
  | k + 1 => by
    have := pe_len c k
    unfold pe
    split
    · rw [List.length_append, List.length_singleton]; omega
    · omega
theorem mi_len (c : List Call) (L : Nat) : ∀ k, (mi c L k).length ≤ k
  | 0 => Nat.le_refl _
  | k + 1 => by
    have := mi_len c L k
    unfold mi
    split
    · omega
    · rw [List.length_append, List.length_singleton]; omega
theorem mo_ge (c : List Call) : ∀ k, -1 ≤ mo c k
  | 0 => Int.le_refl _
  | k + 1 => by
    have := mo_ge c k
    unfold mo
    split
    · exact this
    · omega
theorem mo_le {c : List Call} (h : ∀ i, i < c.length → (c.getD i Call.z).res ≤ 1000) : ∀ k, k ≤ c.length → mo c k ≤ 1000
  | 0, _ => by show (-1 : Int) ≤ 1000; omega
  | k + 1, hk => by
    have h1 := mo_le h k (by omega)
    have h2 := h k (by omega)
    unfold mo
    split
    · exact h1
    · omega
theorem mo_at {c : List Call} : ∀ {k : Nat}, 0 ≤ mo c k → ∃ i, i < k ∧ ans (c.getD i Call.z) ∧ (c.getD i Call.z).res = mo c k
  | 0, h => absurd h (by show ¬ (0 : Int) ≤ -1; omega)
  | k + 1, h => by
    unfold mo at h ⊢
    by_cases h1 : (c.getD k Call.z).to_ = -1
    · rw [if_pos h1] at h ⊢
      obtain ⟨i, h2, h3⟩ := mo_at h
      exact ⟨i, by omega, h3⟩
    · rw [if_neg h1] at h ⊢
      rcases Int.le_total (mo c k) (c.getD k Call.z).res with h2 | h2
      · exact ⟨k, by omega, h1, by omega⟩
      · obtain ⟨i, h3, h4, h5⟩ := mo_at (c := c) (k := k) (by omega)
        exact ⟨i, by omega, h4, by omega⟩
/-- The numbers that are missing. -/
def miss (c : List Call) : List Int := mi c c.length (mo c c.length + 1).toNat
theorem read_ok {N : Nat} (hN : 5000 < N) {l : List Event} {c : List Call} {e : Int} (hc : history_Calls N [5] l = some (c, e, 0)) (h200 : c.length ≤ 200) (hr : ∀ i, i < c.length → (c.getD i Call.z).res ≤ 1000) : tickets_read N l = some (true, c, pe c c.length, miss c, 0) := by
  unfold tickets_read
  refine Wp.eq (.bdO hc (.condF rfl ?_))
  refine .seq (P := fun s => s.1 = pe c c.length ∧ s.2.1 = mo c c.length ∧ ∀ n, (mget s.2.2 n).getD false = hasU c n c.length) (.iter c.length (fun k st => st.1 = pe c k ∧ st.2.1 = mo c k ∧ (∀ n, (mget st.2.2.1 n).getD false = hasU c n k) ∧ st.2.2.2 = (k : Int)) (by omega) ⟨rfl, rfl, fun n => rfl, rfl⟩ ?_ ?_) fun s _ hs => ?_
  · rintro k ⟨p, m, h, v⟩ hk ⟨h1, h2, h3, h4⟩
    dsimp only at h1 h2 h3 h4
    subst h1; subst h2; subst h4
    have hl := pe_len c k
    simp only [tickets_read_L5]
    refine .condT (decide_eq_true (by omega)) (.ixD Call.z (by omega) (by omega) ?_)
    simp only [Int.toNat_natCast]
    refine .cond (fun h => ?_) fun h => ?_
    · have h := of_decide_eq_true h
      refine .ck (limB_of ⟨?_, ?_⟩) (.ck64 (by omega) (.one ⟨?_, ?_, fun n => ?_, by simp⟩))
      · simp only [List.length_singleton]; exact Nat.le_trans (m := 2000) (by omega) (by decide)
      · simp only [List.length_singleton]; omega
      · show _ = pe c (k + 1)
        rw [pe, if_pos h]
      · show _ = mo c (k + 1)
        rw [mo, if_pos h]
      · show _ = hasU c n (k + 1)
        rw [hasU, decide_eq_false (fun z => z.1 h), Bool.or_false]
        exact h3 n
    · have h := of_decide_eq_false h
      refine .ck64 (by omega) (.one ⟨?_, ?_, fun n => ?_, by simp⟩)
      · show _ = pe c (k + 1)
        rw [pe, if_neg h]
      · show _ = mo c (k + 1)
        rw [mo, if_neg h]
      · show _ = hasU c n (k + 1)
        rw [hasU]
        show (mget (mput _ _ true) n).getD false = _
        rw [mget_put]
        by_cases e : (c.getD k Call.z).res = n
        · rw [if_pos e, decide_eq_true ⟨h, e⟩, Bool.or_true]; rfl
        · rw [if_neg e, decide_eq_false (fun z => e z.2), Bool.or_false]
          exact h3 n
  · rintro ⟨p, m, h, v⟩ ⟨h1, h2, h3, h4⟩
    dsimp only at h1 h2 h3 h4
    subst h1; subst h2; subst h4
    simp only [tickets_read_L5]
    exact .condF (decide_eq_false (by omega)) (.one ⟨rfl, rfl, h3⟩)
  · obtain ⟨p, m, h⟩ := s
    obtain ⟨h1, h2, h3⟩ := hs
    dsimp only at h1 h2 h3
    subst h1; subst h2
    have g1 := mo_ge c c.length
    have g2 := mo_le hr c.length (Nat.le_refl _)
    dsimp only
    refine .seq (P := fun s => s = miss c) (.ck64 (by omega) (.iter (mo c c.length + 1).toNat (fun k st => st = (mi c c.length k, (k : Int))) (by omega) rfl ?_ ?_)) fun s _ hs => .one (by rw [hs])
    · rintro k st hk rfl
      have hl := mi_len c c.length k
      simp only [tickets_read_L7]
      refine .condT (decide_eq_true (by omega)) (.cond (fun h4 => ?_) fun h4 => ?_)
      · rw [h3, Bool.not_eq_true'] at h4
        refine .ck (limB_of ⟨?_, ?_⟩) (.ck64 (by omega) (.one ?_))
        · simp only [List.length_singleton]; exact Nat.le_trans (m := 2000) (by omega) (by decide)
        · simp only [List.length_singleton]; omega
        · show (_, _) = (_, _)
          rw [mi, h4]; simp
      · rw [h3, Bool.not_eq_false'] at h4
        refine .ck64 (by omega) (.one ?_)
        show (_, _) = (_, _)
        rw [mi, h4]; simp
    · rintro st rfl
      simp only [tickets_read_L7]
      exact .condF (decide_eq_false (by omega)) (.one rfl)
/-- May an operation without an answer have this number? -/
def can (c : List Call) (i n : Int) : Prop := ∀ x, x < c.length → ans (c.getD x Call.z) → (c.getD x Call.z).to_ < (c.getD i.toNat Call.z).from_ → (c.getD x Call.z).res < n
/-- It may be. -/
structure Good (c : List Call) : Prop where
  twice : ∀ i j, j < i → i < c.length → ans (c.getD i Call.z) → ans (c.getD j Call.z) → (c.getD i Call.z).res ≠ (c.getD j Call.z).res
  ord : ∀ i j, i < c.length → j < c.length → ans (c.getD i Call.z) → ans (c.getD j Call.z) → (c.getD i Call.z).to_ < (c.getD j Call.z).from_ → (c.getD i Call.z).res ≤ (c.getD j Call.z).res
  gap : ∀ k, k < (miss c).length → k < (pe c c.length).length ∧ can c ((pe c c.length).getD k 0) ((miss c).getD k 0)
theorem pe_mem {c : List Call} {i : Int} : ∀ {k : Nat}, i ∈ pe c k ↔ ∃ m : Nat, m < k ∧ i = m ∧ (c.getD m Call.z).to_ = -1
  | 0 => ⟨fun h => (nomatch h), fun ⟨_, h, _⟩ => absurd h (Nat.not_lt_zero _)⟩
  | k + 1 => by
    unfold pe
    by_cases h : (c.getD k Call.z).to_ = -1
    · rw [if_pos h, List.mem_append, pe_mem, List.mem_singleton]
      constructor
      · rintro (⟨m, h1, h2⟩ | rfl)
        · exact ⟨m, by omega, h2⟩
        · exact ⟨k, by omega, rfl, h⟩
      · rintro ⟨m, h1, h2, h3⟩
        rcases Nat.lt_or_ge m k with g | g
        · exact .inl ⟨m, g, h2, h3⟩
        · obtain rfl : m = k := by omega
          exact .inr h2
    · rw [if_neg h, pe_mem]
      constructor
      · rintro ⟨m, h1, h2⟩
        exact ⟨m, by omega, h2⟩
      · rintro ⟨m, h1, h2, h3⟩
        rcases Nat.lt_or_ge m k with g | g
        · exact ⟨m, g, h2, h3⟩
        · obtain rfl : m = k := by omega
          exact absurd h3 h
theorem can_ok {N : Nat} (hN : 5000 < N) {c : List Call} (h200 : c.length ≤ 200) {p m : List Int} {i n : Int} (hi : 0 ≤ i ∧ i < c.length) : Wp (tickets_log_can N c p m i n) fun b => b = true ↔ can c i n := by
  unfold tickets_log_can slices_ContainsFunc_api_Call_api_Call slices_IndexFunc_api_Call_api_Call
  have hb : ∀ x : Call, tickets_log_can_1 N x c p m i n = some (decide (x.to_ ≠ -1 ∧ x.to_ < (c.getD i.toNat Call.z).from_ ∧ n ≤ x.res)) := by
    intro x
    refine Wp.eq ?_
    unfold tickets_log_can_1
    refine .gix Call.z (fun _ => hi) fun y hy => .one ?_
    by_cases h : x.to_ = -1
    · simp [h]
    · rw [hy (by simp [h])]
      simp [h, Bool.and_assoc]
  refine .seq (P := fun b => b = true ↔ ¬ can c i n) (.seq (P := fun r => 0 ≤ r ↔ ¬ can c i n) (.elim (P := fun t => match t with | .inl _ => can c i n | .inr r => 0 ≤ r ∧ ¬ can c i n) (.iter c.length (fun k v => v = (k : Int) ∧ ∀ x, x < k → ans (c.getD x Call.z) → (c.getD x Call.z).to_ < (c.getD i.toNat Call.z).from_ → (c.getD x Call.z).res < n) (by omega) ⟨rfl, fun _ h => absurd h (Nat.not_lt_zero _)⟩ ?_ ?_) (fun _ _ h => .one ⟨fun h2 => absurd h2 (by decide), fun h2 => absurd h h2⟩) (fun r _ h => .one ⟨fun _ => h.2, fun _ => h.1⟩)) fun r _ h => .one (by rw [decide_eq_true_eq]; exact h)) fun b _ h => .one ?_
  · rintro k v hk ⟨rfl, hr⟩
    simp only [slices_IndexFunc_api_Call_api_Call_L3]
    refine .condT (decide_eq_true (by omega)) (.ixD Call.z (by omega) (by omega) (.bdO (hb _) ?_))
    simp only [Int.toNat_natCast]
    refine .cond (fun h => .one ⟨by omega, fun h2 => ?_⟩) fun h => .ck64 (by omega) (.one ⟨by simp, fun x hx h1 h2 => ?_⟩)
    · have h := of_decide_eq_true h
      have := h2 k hk h.1 h.2.1
      omega
    · have h := of_decide_eq_false h
      rcases Nat.lt_or_ge x k with g | g
      · exact hr x g h1 h2
      · obtain rfl : x = k := by omega
        exact Int.not_le.1 fun h3 => h ⟨h1, h2, h3⟩
  · rintro v ⟨rfl, hr⟩
    simp only [slices_IndexFunc_api_Call_api_Call_L3]
    exact .condF (decide_eq_false (by omega)) (.one hr)
  · cases b with
    | true => exact ⟨fun h2 => (nomatch h2), fun h2 => absurd h2 (h.1 rfl)⟩
    | false => exact ⟨fun _ => Classical.byContradiction fun h2 => (nomatch h.2 h2), fun _ => rfl⟩
theorem check_wp {N : Nat} (hN : 5000 < N) {c : List Call} (h200 : c.length ≤ 200) (hr : ∀ i, i < c.length → (c.getD i Call.z).res ≤ 1000) : Wp (tickets_log_check N c (pe c c.length) (miss c)) fun r => (r.1 = 0 ↔ Good c) ∧ (r.1 = 0 → r = (0, 0, 0)) := by
  have hml : (miss c).length ≤ 1001 := by
    have := mi_len c c.length (mo c c.length + 1).toNat
    have g2 := mo_le hr c.length (Nat.le_refl _)
    unfold miss; omega
  unfold tickets_log_check
  refine .elim (P := fun t => match t with | .inl _ => ∀ i j, j < i → i < c.length → ans (c.getD i Call.z) → ans (c.getD j Call.z) → (c.getD i Call.z).res ≠ (c.getD j Call.z).res | .inr r => r.1 = 2 ∧ ¬ Good c) (.iter c.length (fun k v => v = (k : Int) ∧ ∀ i j, j < i → i < k → ans (c.getD i Call.z) → ans (c.getD j Call.z) → (c.getD i Call.z).res ≠ (c.getD j Call.z).res) (by omega) ⟨rfl, fun i j _ h => absurd h (Nat.not_lt_zero _)⟩ ?_ ?_) (fun _ _ t1 => ?_) (fun r _ h => .one ⟨⟨fun h2 => absurd h2 (by have := h.1; omega), fun h2 => absurd h2 h.2⟩, fun h2 => absurd h2 (by have := h.1; omega)⟩)
  · rintro k v hk ⟨rfl, hi⟩
    simp only [tickets_log_check_L41]
    refine .elim (P := fun t => match t with | .inl _ => ∀ j, j < k → ans (c.getD k Call.z) → ans (c.getD j Call.z) → (c.getD k Call.z).res ≠ (c.getD j Call.z).res | .inr r => r.1 = 2 ∧ ¬ Good c) ?_ ?_ ?_ |> .condT (decide_eq_true (by omega))
    · refine .ixD Call.z (by omega) (by omega) (.ck (by simp [slB]; omega) ?_)
      simp only [Int.toNat_natCast]
      refine .iter k (fun q v => v = (q : Int) ∧ ∀ j, j < q → ans (c.getD k Call.z) → ans (c.getD j Call.z) → (c.getD k Call.z).res ≠ (c.getD j Call.z).res) (by omega) ⟨rfl, fun j h => absurd h (Nat.not_lt_zero _)⟩ ?_ ?_
      · rintro q v hq ⟨rfl, hj⟩
        have hg : (c.take k).getD q Call.z = c.getD q Call.z := by
          rw [getD_of (show q < (c.take k).length by rw [List.length_take]; omega), getD_of (show q < c.length by omega), List.getElem_take]
        simp only [tickets_log_check_L43, Int.toNat_natCast]
        refine .condT (decide_eq_true (by rw [List.length_take]; omega)) (.ixD Call.z (by omega) (by rw [List.length_take]; omega) ?_)
        simp only [Int.toNat_natCast, hg]
        refine .cond (fun h => .one ⟨rfl, fun G => ?_⟩) fun h => .ck64 (by omega) (.one ⟨by simp, fun j hjq h1 h2 h3 => ?_⟩)
        · simp only [Bool.and_eq_true, Bool.not_eq_true', decide_eq_false_iff_not, decide_eq_true_eq] at h
          exact G.twice k q hq hk h.1.1 h.1.2 h.2
        · rcases Nat.lt_or_ge j q with g | g
          · exact hj j g h1 h2 h3
          · obtain rfl : j = q := by omega
            have hh : (!decide ((c.getD k Call.z).to_ = -1)) = true ∧ (!decide ((c.getD j Call.z).to_ = -1)) = true := by
              unfold ans at h1 h2
              simp only [Bool.not_eq_true', decide_eq_false_iff_not]; exact ⟨h1, h2⟩
            rw [hh.1, hh.2, h3] at h
            simp at h
      · rintro v ⟨rfl, hj⟩
        simp only [tickets_log_check_L43, Int.toNat_natCast]
        exact .condF (decide_eq_false (by rw [List.length_take]; omega)) (.one hj)
    · intro _ _ h
      refine .ck64 (by omega) (.one ⟨by simp, fun i j h1 h2 h3 h4 => ?_⟩)
      rcases Nat.lt_or_ge i k with g | g
      · exact hi i j h1 g h3 h4
      · obtain rfl : i = k := by omega
        exact h j h1 h3 h4
    · intro r _ h
      exact .one h
  · rintro v ⟨rfl, hi⟩
    simp only [tickets_log_check_L41]
    exact .condF (decide_eq_false (by omega)) (.one hi)
  refine .elim (P := fun t => match t with | .inl _ => ∀ i j, i < c.length → j < c.length → ans (c.getD i Call.z) → ans (c.getD j Call.z) → (c.getD i Call.z).to_ < (c.getD j Call.z).from_ → (c.getD i Call.z).res ≤ (c.getD j Call.z).res | .inr r => r.1 = 6 ∧ ¬ Good c) (.iter c.length (fun k v => v = (k : Int) ∧ ∀ i j, i < k → j < c.length → ans (c.getD i Call.z) → ans (c.getD j Call.z) → (c.getD i Call.z).to_ < (c.getD j Call.z).from_ → (c.getD i Call.z).res ≤ (c.getD j Call.z).res) (by omega) ⟨rfl, fun i j h => absurd h (Nat.not_lt_zero _)⟩ ?_ ?_) (fun _ _ t2 => ?_) (fun r _ h => .one ⟨⟨fun h2 => absurd h2 (by have := h.1; omega), fun h2 => absurd h2 h.2⟩, fun h2 => absurd h2 (by have := h.1; omega)⟩)
  · rintro k v hk ⟨rfl, hi⟩
    simp only [tickets_log_check_L55]
    refine .elim (P := fun t => match t with | .inl _ => ∀ j, j < c.length → ans (c.getD k Call.z) → ans (c.getD j Call.z) → (c.getD k Call.z).to_ < (c.getD j Call.z).from_ → (c.getD k Call.z).res ≤ (c.getD j Call.z).res | .inr r => r.1 = 6 ∧ ¬ Good c) ?_ ?_ ?_ |> .condT (decide_eq_true (by omega))
    · refine .ixD Call.z (by omega) (by omega) ?_
      simp only [Int.toNat_natCast]
      refine .iter c.length (fun q v => v = (q : Int) ∧ ∀ j, j < q → ans (c.getD k Call.z) → ans (c.getD j Call.z) → (c.getD k Call.z).to_ < (c.getD j Call.z).from_ → (c.getD k Call.z).res ≤ (c.getD j Call.z).res) (by omega) ⟨rfl, fun j h => absurd h (Nat.not_lt_zero _)⟩ ?_ ?_
      · rintro q v hq ⟨rfl, hj⟩
        simp only [tickets_log_check_L57]
        refine .condT (decide_eq_true (by omega)) (.ixD Call.z (by omega) (by omega) ?_)
        simp only [Int.toNat_natCast]
        refine .cond (fun h => .one ⟨rfl, fun G => ?_⟩) fun h => .ck64 (by omega) (.one ⟨by simp, fun j hjq h1 h2 h3 => ?_⟩)
        · simp only [Bool.and_eq_true, Bool.not_eq_true', decide_eq_false_iff_not, decide_eq_true_eq] at h
          have := G.ord k q hk hq h.1.1.1 h.1.1.2 h.1.2
          omega
        · rcases Nat.lt_or_ge j q with g | g
          · exact hj j g h1 h2 h3
          · obtain rfl : j = q := by omega
            have hh : (!decide ((c.getD k Call.z).to_ = -1)) = true ∧ (!decide ((c.getD j Call.z).to_ = -1)) = true := by
              unfold ans at h1 h2
              simp only [Bool.not_eq_true', decide_eq_false_iff_not]; exact ⟨h1, h2⟩
            rw [hh.1, hh.2, decide_eq_true h3] at h
            simp only [Bool.true_and, decide_eq_false_iff_not] at h
            omega
      · rintro v ⟨rfl, hj⟩
        simp only [tickets_log_check_L57]
        exact .condF (decide_eq_false (by omega)) (.one hj)
    · intro _ _ h
      refine .ck64 (by omega) (.one ⟨by simp, fun i j h1 h2 h3 h4 => ?_⟩)
      rcases Nat.lt_or_ge i k with g | g
      · exact hi i j g h2 h3 h4
      · obtain rfl : i = k := by omega
        exact h j h2 h3 h4
    · intro r _ h
      exact .one h
  · rintro v ⟨rfl, hi⟩
    simp only [tickets_log_check_L55]
    exact .condF (decide_eq_false (by omega)) (.one hi)
  refine .elim (P := fun t => match t with | .inl _ => ∀ k, k < (miss c).length → k < (pe c c.length).length ∧ can c ((pe c c.length).getD k 0) ((miss c).getD k 0) | .inr r => r.1 = 8 ∧ ¬ Good c) (.iter (miss c).length (fun q v => v = (q : Int) ∧ ∀ k, k < q → k < (pe c c.length).length ∧ can c ((pe c c.length).getD k 0) ((miss c).getD k 0)) (by omega) ⟨rfl, fun i h => absurd h (Nat.not_lt_zero _)⟩ ?_ ?_) (fun _ _ t3 => .one ⟨⟨fun _ => ⟨t1, t2, t3⟩, fun _ => rfl⟩, fun _ => rfl⟩) (fun r _ h => .one ⟨⟨fun h2 => absurd h2 (by have := h.1; omega), fun h2 => absurd h2 h.2⟩, fun h2 => absurd h2 (by have := h.1; omega)⟩)
  · rintro q v hq ⟨rfl, hi⟩
    simp only [tickets_log_check_L59]
    refine .condT (decide_eq_true (by omega)) (.ixD 0 (by omega) (by omega) ?_)
    simp only [Int.toNat_natCast]
    refine .seq (P := fun b => b = false ↔ (q < (pe c c.length).length ∧ can c ((pe c c.length).getD q 0) ((miss c).getD q 0))) ?_ fun b _ hb => .cond (fun h => .one ⟨rfl, fun G => ?_⟩) fun h => .ck64 (by omega) (.one ⟨by simp, fun k hk => ?_⟩)
    · rcases Nat.lt_or_ge q (pe c c.length).length with g | g
      · have e : decide (((pe c c.length).length : Int) ≤ (q : Int)) = false := decide_eq_false (by omega)
        simp only [e]
        refine .gix 0 (fun _ => ⟨by omega, by omega⟩) fun y hy => ?_
        rw [hy rfl]
        simp only [Int.toNat_natCast]
        have hm : (pe c c.length).getD q 0 ∈ pe c c.length := by rw [getD_of g]; exact List.getElem_mem _
        obtain ⟨m, m1, m2, m3⟩ := pe_mem.1 hm
        refine .condT rfl (.seq (can_ok hN h200 ⟨by omega, by omega⟩) fun b _ h => .one ?_)
        cases b with
        | true => exact ⟨fun _ => ⟨g, h.1 rfl⟩, fun _ => rfl⟩
        | false => exact ⟨fun z => (nomatch z), fun z => (nomatch h.2 z.2)⟩
      · have e : decide (((pe c c.length).length : Int) ≤ (q : Int)) = true := decide_eq_true (by omega)
        simp only [e]
        refine .gix 0 (fun h => (nomatch h)) fun y hy => .condF rfl (.one ⟨fun z => (nomatch z), fun z => absurd z.1 (by omega)⟩)
    · have := hb.2 (G.gap q hq)
      rw [h] at this
      cases this
    · rcases Nat.lt_or_ge k q with g | g
      · exact hi k g
      · obtain rfl : k = q := by omega
        exact hb.1 h
  · rintro v ⟨rfl, hi⟩
    simp only [tickets_log_check_L59]
    exact .condF (decide_eq_false (by omega)) (.one hi)
end Tk

namespace Tk
open Hs
theorem pe_sorted (c : List Call) : ∀ k, (pe c k).Pairwise (· < ·)
  | 0 => .nil
  | k + 1 => by
    unfold pe
    split
    · refine List.pairwise_append.2 ⟨pe_sorted c k, List.pairwise_singleton _ _, fun a ha b hb => ?_⟩
      obtain ⟨m, h1, rfl, _⟩ := pe_mem.1 ha
      rw [List.mem_singleton.1 hb]; omega
    · exact pe_sorted c k
theorem mi_mem {c : List Call} {L : Nat} {i : Int} : ∀ {k : Nat}, i ∈ mi c L k ↔ ∃ m : Nat, m < k ∧ i = m ∧ hasU c m L = false
  | 0 => ⟨fun h => (nomatch h), fun ⟨_, h, _⟩ => absurd h (Nat.not_lt_zero _)⟩
  | k + 1 => by
    unfold mi
    by_cases h : hasU c k L = true
    · rw [if_pos h, mi_mem]
      constructor
      · rintro ⟨m, h1, h2⟩
        exact ⟨m, by omega, h2⟩
      · rintro ⟨m, h1, h2, h3⟩
        rcases Nat.lt_or_ge m k with g | g
        · exact ⟨m, g, h2, h3⟩
        · obtain rfl : m = k := by omega
          rw [h] at h3; cases h3
    · rw [if_neg h, List.mem_append, mi_mem, List.mem_singleton]
      constructor
      · rintro (⟨m, h1, h2⟩ | rfl)
        · exact ⟨m, by omega, h2⟩
        · exact ⟨k, by omega, rfl, Bool.eq_false_iff.2 h⟩
      · rintro ⟨m, h1, h2, h3⟩
        rcases Nat.lt_or_ge m k with g | g
        · exact .inl ⟨m, g, h2, h3⟩
        · obtain rfl : m = k := by omega
          exact .inr h2
theorem mi_sorted (c : List Call) (L : Nat) : ∀ k, (mi c L k).Pairwise (· < ·)
  | 0 => .nil
  | k + 1 => by
    unfold mi
    split
    · exact mi_sorted c L k
    · refine List.pairwise_append.2 ⟨mi_sorted c L k, List.pairwise_singleton _ _, fun a ha b hb => ?_⟩
      obtain ⟨m, h1, rfl, _⟩ := mi_mem.1 ha
      rw [List.mem_singleton.1 hb]; omega
theorem pig {l m : List Int} (h : l.Nodup) (hs : ∀ x ∈ l, x ∈ m) : l.length ≤ m.length := by
  induction l generalizing m with
  | nil => exact Nat.zero_le _
  | cons a l ih =>
    have ha := hs a (List.mem_cons_self ..)
    obtain ⟨h1, h2⟩ := List.nodup_cons.1 h
    have := ih (m := m.erase a) h2 fun x hx => (List.mem_erase_of_ne (fun e : x = a => h1 (e ▸ hx))).2 (hs x (List.mem_cons_of_mem _ hx))
    rw [List.length_erase_of_mem ha] at this
    have : 0 < m.length := List.length_pos_of_mem ha
    simp only [List.length_cons]; omega
theorem nodup_map {f : Int → Int} : ∀ {l : List Int}, l.Nodup → (∀ a ∈ l, ∀ b ∈ l, f a = f b → a = b) → (l.map f).Nodup
  | [], _, _ => .nil
  | a :: l, h, hf => by
    obtain ⟨h1, h2⟩ := List.nodup_cons.1 h
    rw [List.map_cons, List.nodup_cons]
    refine ⟨fun hm => ?_, nodup_map h2 fun x hx y hy => hf x (List.mem_cons_of_mem _ hx) y (List.mem_cons_of_mem _ hy)⟩
    obtain ⟨b, hb, e⟩ := List.mem_map.1 hm
    have := hf b (List.mem_cons_of_mem _ hb) a (List.mem_cons_self ..) e
    exact h1 (this ▸ hb)
theorem sorted_get {l : List Int} (h : l.Pairwise (· < ·)) {i j : Nat} (hij : i ≤ j) (hj : j < l.length) : l.getD i 0 ≤ l.getD j 0 := by
  rcases Nat.lt_or_ge i j with h1 | h1
  · have := List.pairwise_iff_getElem.1 h i j (by omega) hj h1
    rw [getD_of (show i < l.length by omega), getD_of hj]; omega
  · obtain rfl : i = j := by omega
    exact Int.le_refl _
/-- If each can have one, the first can have the first, and so on. -/
theorem greedy {P M : List Int} (hP : P.Pairwise (· < ·)) (hM : M.Pairwise (· < ·)) (ok : Int → Int → Prop) (f : Int → Int)
    (h1 : ∀ m ∈ M, f m ∈ P ∧ ok (f m) m) (h2 : ∀ a ∈ M, ∀ b ∈ M, f a = f b → a = b)
    (h3 : ∀ p ∈ P, ∀ q ∈ P, ∀ m n, p ≤ q → m ≤ n → ok q m → ok p n) : ∀ k, k < M.length → k < P.length ∧ ok (P.getD k 0) (M.getD k 0) := by
  intro k hk
  have hn : ∀ {l : List Int}, l.Pairwise (· < ·) → l.Nodup := fun h => h.imp fun h e => absurd h (by omega)
  have : ∃ m ∈ M.take (k + 1), f m ∉ P.take k := by
    refine Classical.byContradiction fun hc => ?_
    have := pig (l := (M.take (k + 1)).map f) (m := P.take k) (nodup_map (hn (hM.sublist (List.take_sublist _ _))) fun a ha b hb => h2 a (List.mem_of_mem_take ha) b (List.mem_of_mem_take hb)) fun x hx => by
      obtain ⟨m, hm, rfl⟩ := List.mem_map.1 hx
      exact Classical.byContradiction fun hq => hc ⟨m, hm, hq⟩
    rw [List.length_map, List.length_take, List.length_take] at this
    omega
  obtain ⟨m, hm, hq⟩ := this
  have hmM := List.mem_of_mem_take hm
  obtain ⟨g1, g2⟩ := h1 m hmM
  obtain ⟨j, hj, e⟩ := List.getElem_of_mem g1
  have hjk : k ≤ j := by
    refine Nat.le_of_not_lt fun h => hq ?_
    rw [← e]
    exact List.mem_take_iff_getElem.2 ⟨j, by omega, rfl⟩
  obtain ⟨i, hi, e2⟩ := List.mem_take_iff_getElem.1 hm
  have hkP : k < P.length := by omega
  refine ⟨hkP, ?_⟩
  have e3 : P.getD j 0 = f m := by rw [getD_of hj, e]
  have e4 : M.getD i 0 = m := by rw [getD_of (show i < M.length by omega), e2]
  refine h3 _ (by rw [getD_of hkP]; exact List.getElem_mem _) _ g1 m _ ?_ ?_ g2
  · rw [← e3]; exact sorted_get hP hjk hj
  · rw [← e4]; exact sorted_get hM (by omega) hk
/-- What is known of calls. -/
structure Okl (c : List Call) : Prop where
  fr : ∀ i j, i < j → j < c.length → (c.getD i Call.z).from_ < (c.getD j Call.z).from_
  res : ∀ i, i < c.length → 0 ≤ (c.getD i Call.z).res ∧ (c.getD i Call.z).res ≤ 1000
theorem can_mono {c : List Call} (W : Okl c) {p q m n : Int} (hp : 0 ≤ p) (hq : q < c.length) (h : p ≤ q) (h2 : m ≤ n) (hc : can c q m) : can c p n := by
  intro x hx ha ht
  have hf : (c.getD p.toNat Call.z).from_ ≤ (c.getD q.toNat Call.z).from_ := by
    rcases Nat.lt_or_ge p.toNat q.toNat with h3 | h3
    · have := W.fr _ _ h3 (by omega); omega
    · have : p.toNat = q.toNat := by omega
      rw [this]; exact Int.le_refl _
  have := hc x hx ha (by omega)
  omega
theorem Good.nonneg {c : List Call} {m : Int} : m ∈ miss c ↔ 0 ≤ m ∧ m ≤ mo c c.length ∧ ∀ i, i < c.length → ans (c.getD i Call.z) → (c.getD i Call.z).res ≠ m := by
  unfold miss
  rw [mi_mem]
  constructor
  · rintro ⟨k, h1, rfl, h2⟩
    refine ⟨by omega, by omega, fun i hi ha e => ?_⟩
    rw [hasU_iff.2 ⟨i, hi, ha, e⟩] at h2; cases h2
  · rintro ⟨h1, h2, h3⟩
    refine ⟨m.toNat, by omega, by omega, Bool.eq_false_iff.2 fun h => ?_⟩
    obtain ⟨i, h4, h5, h6⟩ := hasU_iff.1 h
    exact h3 i h4 h5 (by rw [h6]; omega)
theorem rn_res {N : Nat} {l : List Event} {k : Nat} {c : List Call} {op : List Int} (R : Rn N [5] l k c op) : (∀ i, i < c.length → 0 ≤ (c.getD i Call.z).res ∧ (c.getD i Call.z).res ≤ 1000) ∧ ∀ i, i < c.length → ans (c.getD i Call.z) → (c.getD i Call.z).to_ < k := by
  induction R with
  | zero => exact ⟨fun i h => absurd h (Nat.not_lt_zero _), fun i h => absurd h (Nat.not_lt_zero _)⟩
  | @succ k out out' op op' R hk S ih =>
    have W := R.wf
    rcases S.how with ⟨_, _, _, _, rfl, _⟩ | ⟨_, m, _, hm, ht, hr, rfl, _⟩
    · refine ⟨fun i hi => ?_, fun i hi ha => ?_⟩
      · rw [getD_app]
        rcases Nat.lt_or_ge i out.length with h | h
        · rw [if_pos h]; exact ih.1 i h
        · rw [List.length_append, List.length_singleton] at hi
          rw [if_neg (by omega), if_pos (by omega)]
          exact ⟨Int.le_refl _, by show (0 : Int) ≤ 1000; omega⟩
      · rw [getD_app] at ha ⊢
        rcases Nat.lt_or_ge i out.length with h | h
        · rw [if_pos h] at ha ⊢; have := ih.2 i h ha; omega
        · rw [List.length_append, List.length_singleton] at hi
          rw [if_neg (by omega), if_pos (by omega)] at ha
          exact (ha rfl).elim
    · have hfit := (W.one m hm).fit
      have ht0 := (W.one m hm).thing
      have e0 : (out.getD m Call.z).thing.toNat = 0 := by
        simp only [List.length_singleton] at ht0; omega
      rw [e0] at hfit
      have hk10 : (out.getD m Call.z).kind = 10 := by
        have h5 : tyF (out.getD m Call.z).kind = 5 := hfit.2
        unfold tyF at h5
        by_cases h : (out.getD m Call.z).kind = 10
        · exact h
        · split at h5 <;> (try omega)
      have hres : 0 ≤ (l.getD k Event.z).value ∧ (l.getD k Event.z).value ≤ 1000 := by
        rw [hk10] at hr
        have : some (decide (0 ≤ (l.getD k Event.z).value) && decide ((l.getD k Event.z).value ≤ 1000)) = some true := hr
        simpa using this
      refine ⟨fun i hi => ?_, fun i hi ha => ?_⟩
      · rw [getD_set2 hm]
        split
        · exact hres
        · exact ih.1 i (by simpa using hi)
      · rw [getD_set2 hm] at ha ⊢
        split
        · show ((k : Int)) < ((k + 1 : Nat) : Int); omega
        · rw [if_neg (by assumption)] at ha
          have := ih.2 i (by simpa using hi) ha; omega
theorem okl {N : Nat} {l : List Event} {k : Nat} {c : List Call} {op : List Int} (R : Rn N [5] l k c op) : Okl c := ⟨fun i j h1 h2 => (R.wf.two i j h1 h2).fr, (rn_res R).1⟩
/-- What Check says of calls that are told. -/
theorem check_ok {N : Nat} (hN : 5000 < N) {l : List Event} {c : List Call} {op : List Int} {e : Int} (hl : l.length ≤ 200) (hc : history_Calls N [5] l = some (c, e, 0)) (R : Rn N [5] l l.length c op) : Wp (tickets_Check N l) fun r => r.2.2.2.2 = 0 ∧ (r.1 = true ↔ Good c) := by
  have hlen := R.wf.len
  have hr := (okl R).res
  unfold tickets_Check
  refine .bdO (read_ok hN hc (by omega) fun i hi => (hr i hi).2) (.condF rfl (.ck rfl (.seq (check_wp (c := c) hN (by omega) fun i hi => (hr i hi).2) fun r _ h => .one ⟨rfl, ?_⟩)))
  rw [decide_eq_true_eq]; exact h.1
theorem ac_ix {c : List Call} {q : Nat → Nat → Bool} : ∀ {t : List Step} {w : List Nat}, Sr.Ac c q w t → ∀ i, i < t.length → ∃ k : Nat, (t.getD i Step.z).call = k ∧ k < c.length ∧ k ∉ w ∧ (∀ j, j ∈ w → q k j = false) ∧ ((c.getD k Call.z).to_ ≠ -1 → (t.getD i Step.z).res = (c.getD k Call.z).res) ∧ ∀ j, j < i → (t.getD j Step.z).call ≠ k ∧ q k (t.getD j Step.z).call.toNat = false
  | [], _, _, i, h => absurd h (Nat.not_lt_zero _)
  | s :: t, w, ⟨k, a1, a2, a3, a4, a5, a6⟩, i, hi => by
    cases i with
    | zero => exact ⟨k, a1, a2, a3, a4, a5, fun j h => absurd h (Nat.not_lt_zero _)⟩
    | succ i =>
      obtain ⟨m, b1, b2, b3, b4, b5, b6⟩ := ac_ix a6 i (by simpa using hi)
      refine ⟨m, b1, b2, fun h => b3 (List.mem_append.2 (.inl h)), fun j h => b4 j (List.mem_append.2 (.inl h)), b5, fun j hj => ?_⟩
      cases j with
      | zero =>
        show s.call ≠ m ∧ q m s.call.toNat = false
        rw [a1, Int.toNat_natCast]
        refine ⟨fun e => b3 (List.mem_append.2 (.inr (List.mem_singleton.2 (by omega)))), b4 k (List.mem_append.2 (.inr (List.mem_singleton.2 rfl)))⟩
      | succ j => exact b6 j (by omega)
theorem bfA_iff {c : List Call} {i j : Nat} : bfA c i j = true ↔ i < c.length ∧ j < c.length ∧ (c.getD i Call.z).to_ ≠ -1 ∧ (c.getD i Call.z).to_ < (c.getD j Call.z).from_ := by unfold bfA; exact decide_eq_true_iff
theorem good_of {c : List Call} (W : Okl c) {t : List Step} (a : Sr.Ac c (bfA c) [] t) (hr : ∀ i, i < t.length → (t.getD i Step.z).res = i) (g2 : ∀ i, i < c.length → (c.getD i Call.z).to_ ≠ -1 → i ∈ [] ++ Sr.nums t) : Good c := by
  have ix := ac_ix a
  -- where an answered one stands
  have pl : ∀ x, x < c.length → ans (c.getD x Call.z) → ∃ p, p < t.length ∧ (t.getD p Step.z).call = x ∧ (c.getD x Call.z).res = p := by
    intro x hx ha
    have := g2 x hx ha
    rw [List.nil_append] at this
    obtain ⟨s, hs, e⟩ := List.mem_map.1 this
    obtain ⟨p, hp, e2⟩ := List.getElem_of_mem hs
    obtain ⟨k, k1, k2, _, _, k5, _⟩ := ix p hp
    have e3 : t.getD p Step.z = s := by rw [getD_of hp, e2]
    have : k = x := by rw [e3] at k1; rw [k1] at e; simpa using e
    subst this
    exact ⟨p, hp, k1, by rw [← k5 ha, hr p hp]⟩
  have no : ∀ x p, x < c.length → p < t.length → ∀ k : Nat, (t.getD p Step.z).call = k → ∀ u, u < t.length → (t.getD u Step.z).call = x → p < u → bfA c x k = false := by
    intro x p hx hp k hk u hu hxu hpu
    obtain ⟨m, m1, m2, _, _, _, m6⟩ := ix u hu
    have : m = x := by omega
    subst this
    have := (m6 p hpu).2
    rw [hk, Int.toNat_natCast] at this
    exact this
  refine ⟨fun i j h1 h2 h3 h4 e => ?_, fun i j h1 h2 h3 h4 h5 => ?_, ?_⟩
  · obtain ⟨p, p1, p2, p3⟩ := pl i h2 h3
    obtain ⟨u, u1, u2, u3⟩ := pl j (by omega) h4
    have : p = u := by omega
    subst this
    omega
  · obtain ⟨p, p1, p2, p3⟩ := pl i h1 h3
    obtain ⟨u, u1, u2, u3⟩ := pl j h2 h4
    refine Int.not_lt.1 fun h => ?_
    have := no i u h1 u1 j u2 p p1 p2 (by omega)
    rw [bfA_iff.2 ⟨h1, h2, h3, h5⟩] at this
    cases this
  have fm : ∀ m, m ∈ miss c → ∃ k : Nat, m.toNat < t.length ∧ 0 ≤ m ∧ (t.getD m.toNat Step.z).call = k ∧ k < c.length ∧ (c.getD k Call.z).to_ = -1 := by
    intro m hm
    obtain ⟨m0, m1, m2⟩ := Good.nonneg.1 hm
    obtain ⟨x, x1, x2, x3⟩ := mo_at (c := c) (k := c.length) (by omega)
    obtain ⟨p, p1, p2, p3⟩ := pl x x1 x2
    have hlt : m.toNat < t.length := by omega
    obtain ⟨k, k1, k2, _, _, k5, _⟩ := ix m.toNat hlt
    refine ⟨k, hlt, m0, k1, k2, Classical.byContradiction fun h => ?_⟩
    have := k5 h
    rw [hr _ hlt] at this
    exact m2 k k2 h (by omega)
  refine greedy (pe_sorted c _) (mi_sorted c _ _) (can c) (fun m => (t.getD m.toNat Step.z).call) (fun m hm => ?_) (fun x hx y hy e => ?_) fun p hp q hq m n h1 h2 h3 => ?_
  · obtain ⟨k, k0, k1, k2, k3, k4⟩ := fm m hm
    show (t.getD m.toNat Step.z).call ∈ _ ∧ can c (t.getD m.toNat Step.z).call m
    rw [k2]
    refine ⟨pe_mem.2 ⟨k, k3, rfl, k4⟩, fun x hx ha hlt => ?_⟩
    rw [Int.toNat_natCast] at hlt
    obtain ⟨p, p1, p2, p3⟩ := pl x hx ha
    refine Int.not_le.1 fun h => ?_
    rcases Int.lt_or_eq_of_le h with h4 | h4
    · have := no x m.toNat hx k0 k k2 p p1 p2 (by omega)
      rw [bfA_iff.2 ⟨hx, k3, ha, hlt⟩] at this
      cases this
    · have : p = m.toNat := by omega
      subst this
      have : x = k := by omega
      subst this
      exact ha k4
  · obtain ⟨k, k0, k1, k2, _⟩ := fm x hx
    obtain ⟨j, j0, j1, j2, _⟩ := fm y hy
    have e : (t.getD x.toNat Step.z).call = (t.getD y.toNat Step.z).call := e
    obtain ⟨a, a1, _, _, _, _, a6⟩ := ix x.toNat k0
    obtain ⟨b, b1, _, _, _, _, b6⟩ := ix y.toNat j0
    rcases Nat.lt_trichotomy x.toNat y.toNat with h | h | h
    · exact absurd (by rw [e, b1]) (b6 _ h).1
    · omega
    · exact absurd (by rw [← e, a1]) (a6 _ h).1
  · obtain ⟨i, i1, rfl, _⟩ := pe_mem.1 hp
    obtain ⟨j, j1, rfl, _⟩ := pe_mem.1 hq
    exact can_mono W (by omega) (by omega) h1 h2 h3
end Tk

end Go.Proofs.Ytkmmagekepoapaa
