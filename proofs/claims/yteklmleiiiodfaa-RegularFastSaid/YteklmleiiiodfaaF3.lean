/- Regular registers, plainly: what is judged. -/
import Derived.Test.YteklmleiiiodfaaF1
import Derived.Test.YteklmleiiiodfaaH1
set_option linter.unusedVariables false
set_option linter.unusedSimpArgs false
set_option linter.unusedSectionVars false
set_option maxRecDepth 100000
namespace Go.Proofs.Yteklmleiiiodfaa
open Go.RowKit
namespace Rg
/-- Answered ahead of the other's call. -/
def prec (a b : Call) : Prop := a.to_ ≠ -1 ∧ a.to_ < b.from_
instance (a b : Call) : Decidable (prec a b) := by unfold prec; infer_instance
theorem prec_b (a b : Call) : ((!decide (a.to_ = -1)) && decide (a.to_ < b.from_)) = decide (prec a b) := by
  unfold prec
  by_cases h : a.to_ = -1 <;> simp [h]
/-- The writes. -/
def ws (c : List Call) : List Call := c.filter fun x => decide (x.kind = 1)
/-- Writes one behind the other, no value twice. -/
def Lin (l : List Call) : Prop := ∀ i j, i < j → j < l.length → (l.getD i Call.z).arg ≠ (l.getD j Call.z).arg ∧ prec (l.getD i Call.z) (l.getD j Call.z)
theorem ws_take {c : List Call} {k : Nat} (hk : k < c.length) : ws (c.take (k + 1)) = if c[k].kind = 1 then ws (c.take k) ++ [c[k]] else ws (c.take k) := by
  unfold ws
  rw [← List.take_append_getElem hk, List.filter_append]
  by_cases h : c[k].kind = 1
  · simp [h]
  · simp [h]
theorem lin_app {l : List Call} {x : Call} : Lin (l ++ [x]) ↔ Lin l ∧ ∀ i, i < l.length → (l.getD i Call.z).arg ≠ x.arg ∧ prec (l.getD i Call.z) x := by
  have g : ∀ i, i < l.length → (l ++ [x]).getD i Call.z = l.getD i Call.z := fun i hi => by rw [Hs.getD_app, if_pos hi]
  have gx : (l ++ [x]).getD l.length Call.z = x := by rw [Hs.getD_app, if_neg (by omega), if_pos rfl]
  constructor
  · intro h
    refine ⟨fun i j hij hj => ?_, fun i hi => ?_⟩
    · have := h i j hij (by simp; omega)
      rwa [g i (by omega), g j hj] at this
    · have := h i l.length hi (by simp)
      rwa [g i hi, gx] at this
  · rintro ⟨h1, h2⟩ i j hij hj
    rcases Nat.lt_or_ge j l.length with h | h
    · rw [g i (by omega), g j h]; exact h1 i j hij h
    · have : j = l.length := by simp at hj; omega
      subst this
      rw [g i hij, gx]; exact h2 i hij
/-- What is read: all calls, and the writes. -/
theorem read_wp {N : Nat} (hN : 300 < N) {l : List Event} {c : List Call} {e0 : Int × Int} (hc : history_Calls N [1] l = some (c, e0)) (hl : e0.2 = 0 → c.length ≤ 200) : Wp (regular_read N l) fun r => (e0.2 ≠ 0 ∧ r = (false, [], [], e0.2)) ∨ (e0.2 = 0 ∧ Lin (ws c) ∧ r = (true, c, ws c, 0)) ∨ (e0.2 = 0 ∧ ¬ Lin (ws c) ∧ r = (false, [], [], 6)) := by
  unfold regular_read
  refine .bdO hc (.cond (fun h => .one (.inl ⟨by simpa using h, rfl⟩)) fun h => ?_)
  have h0 : e0.2 = 0 := by simpa using h
  have hl := hl h0
  have hwl : ∀ k, (ws (c.take k)).length ≤ k := fun k => by
    have := List.length_filter_le (fun x : Call => decide (x.kind = 1)) (c.take k)
    have := List.length_take_le k c
    unfold ws; omega
  have hsub : ∀ k, Lin (ws c) → Lin (ws (c.take k)) := by
    intro k hL
    have hp : ws (c.take k) <+: ws c := by
      unfold ws
      exact (List.take_prefix k c).filter _
    obtain ⟨t, ht⟩ := hp
    intro i j hij hj
    have := hL i j hij (by rw [← ht]; simp; omega)
    rw [← ht] at this
    rwa [show (ws (c.take k) ++ t).getD i Call.z = (ws (c.take k)).getD i Call.z by simp [List.getD_eq_getElem?_getD, List.getElem?_append_left (show i < (ws (c.take k)).length by omega)],
      show (ws (c.take k) ++ t).getD j Call.z = (ws (c.take k)).getD j Call.z by simp [List.getD_eq_getElem?_getD, List.getElem?_append_left hj]] at this
  refine .elim (P := fun t => match t with | .inl s => Lin (ws c) ∧ s = ws c | .inr r => ¬ Lin (ws c) ∧ r = (false, [], [], 6))
    (.iter c.length (fun k st => Lin (ws (c.take k)) ∧ st = (ws (c.take k), (k : Int))) (by omega) ⟨fun i j _ h => by simp [ws] at h, rfl⟩ ?_ ?_) (fun s _ hs => .one (.inr (.inl ⟨h0, hs.1, by rw [hs.2]⟩))) (fun r _ hr => .one (.inr (.inr ⟨h0, hr.1, hr.2⟩)))
  · rintro k st hk ⟨hL, rfl⟩
    simp only [regular_read_L47]
    refine .condT (decide_eq_true (by omega)) ?_
    have hwk := hwl k
    have hws := ws_take hk
    refine .elim (P := fun t => match t with | .inl s => Lin (ws (c.take (k + 1))) ∧ s = ws (c.take (k + 1)) | .inr r => ¬ Lin (ws c) ∧ r = (false, [], [], 6)) (.ix hk (.cond (fun h1 => .one ?_) fun h1 => ?_)) (fun s _ hs => .ck64 (by omega) (.one ⟨hs.1, by rw [hs.2]; simp⟩)) (fun r _ hr => .one hr)
    · have h1 : ¬ c[k].kind = 1 := by simpa using h1
      rw [hws, if_neg h1]; exact ⟨hL, rfl⟩
    · have h1 : c[k].kind = 1 := by simpa using h1
      rw [if_pos h1] at hws
      refine .elim (P := fun t => match t with | .inl _ => ∀ i, i < (ws (c.take k)).length → ((ws (c.take k)).getD i Call.z).arg ≠ c[k].arg ∧ prec ((ws (c.take k)).getD i Call.z) c[k] | .inr r => ¬ Lin (ws c) ∧ r = (false, [], [], 6))
        (.iter (ws (c.take k)).length (fun i v => v = (i : Int) ∧ ∀ j, j < i → ((ws (c.take k)).getD j Call.z).arg ≠ c[k].arg ∧ prec ((ws (c.take k)).getD j Call.z) c[k]) (by omega) ⟨rfl, fun j h => absurd h (Nat.not_lt_zero _)⟩ ?_ ?_) (fun _ _ hall => .ck (limB_of ⟨?_, ?_⟩) (.one ?_)) (fun r _ hr => .one hr)
      · rintro i v hi ⟨rfl, hI⟩
        simp only [regular_read_L51]
        refine .condT (decide_eq_true (by omega)) (.ixD Call.z (by omega) (by omega) ?_)
        simp only [Int.toNat_natCast]
        have ev : (bif (decide (((ws (c.take k)).getD i Call.z).arg = c[k].arg)) == false then regular_precedes N ((ws (c.take k)).getD i Call.z) c[k] else some ()) = some () := by
          cases (decide (((ws (c.take k)).getD i Call.z).arg = c[k].arg)) <;> rfl
        refine .bdO ev ?_
        rw [prec_b]
        refine .cond (fun hb => .one ⟨fun hLin => ?_, rfl⟩) fun hg => .ck64 (by omega) (.one ⟨by simp, fun j hj => ?_⟩)
        · have h5 := hsub (k + 1) hLin
          rw [hws] at h5
          have := (lin_app.1 h5).2 i hi
          simp only [Bool.or_eq_true, decide_eq_true_eq, Bool.not_eq_true', decide_eq_false_iff_not] at hb
          rcases hb with hb | hb
          · exact this.1 hb
          · exact hb this.2
        · rcases Nat.lt_or_ge j i with h4 | h4
          · exact hI j h4
          · obtain rfl : j = i := by omega
            simpa using hg
      · rintro v ⟨rfl, hI⟩
        simp only [regular_read_L51]
        exact .condF (decide_eq_false (by omega)) (.one hI)
      · simp only [List.length_singleton]; exact Nat.le_trans (m := 2000) (by omega) (by unfold maxLen; decide)
      · simp only [List.length_singleton]; omega
      · rw [hws]
        exact ⟨lin_app.2 ⟨hL, hall⟩, rfl⟩
  · rintro st ⟨hL, rfl⟩
    simp only [regular_read_L47]
    refine .condF (decide_eq_false (by omega)) (.one ?_)
    rw [List.take_length] at hL ⊢
    exact ⟨hL, rfl⟩
/-- Which write the value is of: 0: none was needed; -1: there is none. -/
def wrk (w : List Call) (res : Int) : Nat → Int
  | 0 => if res = 0 then 0 else -1
  | k + 1 => if (w.getD k Call.z).arg = res then ((k + 1 : Nat) : Int) else wrk w res k
def lak (w : List Call) (x : Call) : Nat → Int
  | 0 => 0
  | k + 1 => if prec (w.getD k Call.z) x then ((k + 1 : Nat) : Int) else lak w x k
def ovk (w : List Call) (x : Call) : Nat → List (Int × Bool)
  | 0 => []
  | k + 1 => if prec (w.getD k Call.z) x then ovk w x k else if prec x (w.getD k Call.z) then ovk w x k else ovk w x k ++ [(((k + 1 : Nat) : Int), true)]
theorem ovk_le (w : List Call) (x : Call) : ∀ k, (ovk w x k).length ≤ k ∧ ∀ p ∈ ovk w x k, 1 ≤ p.1 ∧ p.1 ≤ (k : Int)
  | 0 => ⟨Nat.le_refl _, fun p hp => by cases hp⟩
  | k + 1 => by
    obtain ⟨h1, h2⟩ := ovk_le w x k
    unfold ovk
    split
    · exact ⟨by omega, fun p hp => by have := h2 p hp; omega⟩
    split
    · exact ⟨by omega, fun p hp => by have := h2 p hp; omega⟩
    · refine ⟨by simp; omega, fun p hp => ?_⟩
      rcases List.mem_append.1 hp with hp | hp
      · have := h2 p hp; omega
      · rw [List.mem_singleton.1 hp]; simp only; omega
theorem mput_new {k : Int} {v : Bool} : ∀ {m : List (Int × Bool)}, (∀ p ∈ m, p.1 ≠ k) → mput m k v = m ++ [(k, v)]
  | [], _ => rfl
  | (a, u) :: m, h => by
    simp only [mput, List.cons_append]
    rw [if_neg (h (a, u) (.head _)), mput_new fun p hp => h p (.tail _ hp)]
/-- A read, judged. -/
def judge (w : List Call) (x : Call) (n : Int) : RegularJudged :=
  ⟨n, wrk w x.res w.length, decide (0 ≤ wrk w x.res w.length) && (decide (wrk w x.res w.length = lak w x w.length) || (mget (ovk w x w.length) (wrk w x.res w.length)).getD false),
    (decide (0 ≤ wrk w x.res w.length) && (decide (wrk w x.res w.length = lak w x w.length) || (mget (ovk w x w.length) (wrk w x.res w.length)).getD false)) || decide (0 < ((ovk w x w.length).length : Int))⟩
def isRead (x : Call) : Prop := x.kind = 2 ∧ x.to_ ≠ -1
instance (x : Call) : Decidable (isRead x) := by unfold isRead; infer_instance
def rdk (c w : List Call) : Nat → List RegularJudged
  | 0 => []
  | k + 1 => if isRead (c.getD k Call.z) then rdk c w k ++ [judge w (c.getD k Call.z) (k : Int)] else rdk c w k
theorem rdk_len (c w : List Call) : ∀ k, (rdk c w k).length ≤ k
  | 0 => Nat.le_refl _
  | k + 1 => by
    have := rdk_len c w k
    unfold rdk
    split
    · simp; omega
    · omega
theorem rdk_mem {c w : List Call} {j : RegularJudged} : ∀ {k : Nat}, j ∈ rdk c w k ↔ ∃ i, i < k ∧ isRead (c.getD i Call.z) ∧ j = judge w (c.getD i Call.z) (i : Int)
  | 0 => ⟨fun h => (by cases h), fun ⟨i, h, _⟩ => absurd h (Nat.not_lt_zero _)⟩
  | k + 1 => by
    have ih := rdk_mem (c := c) (w := w) (j := j) (k := k)
    unfold rdk
    constructor
    · intro h
      split at h
      · rename_i hr
        rcases List.mem_append.1 h with h | h
        · obtain ⟨i, h1, h2⟩ := ih.1 h
          exact ⟨i, by omega, h2⟩
        · exact ⟨k, by omega, hr, List.mem_singleton.1 h⟩
      · obtain ⟨i, h1, h2⟩ := ih.1 h
        exact ⟨i, by omega, h2⟩
    · rintro ⟨i, h1, h2, h3⟩
      by_cases e : i = k
      · subst e
        rw [if_pos h2]
        exact List.mem_append_right _ (by rw [h3]; exact .head _)
      · have := ih.2 ⟨i, by omega, h2, h3⟩
        split
        · exact List.mem_append_left _ this
        · exact this
theorem reads_ok {N : Nat} (hN : 300 < N) {c w : List Call} (hc : c.length ≤ 200) (hw : w.length ≤ 200) : regular_log_reads N c w = some (rdk c w c.length) := by
  unfold regular_log_reads
  refine Wp.eq (.seq (P := fun s => s = rdk c w c.length) (.iter c.length (fun k st => st = (rdk c w k, (k : Int))) (by omega) rfl ?_ ?_) fun s _ hs => .one hs)
  · rintro k st hk rfl
    simp only [regular_log_reads_L47]
    refine .condT (decide_eq_true (by omega)) (.seq (P := fun s => s = rdk c w (k + 1)) (.ixD Call.z (by omega) (by omega) ?_) fun s _ hs => .ck64 (by omega) (.one (by rw [hs]; simp)))
    simp only [Int.toNat_natCast]
    obtain ⟨x, hx⟩ : ∃ x, c.getD k Call.z = x := ⟨_, rfl⟩
    have hrd : rdk c w (k + 1) = if isRead x then rdk c w k ++ [judge w x (k : Int)] else rdk c w k := by rw [← hx]; rfl
    rw [hrd]
    simp only [hx]
    refine .cond (fun h => .one ?_) fun h => ?_
    · have : ¬ isRead x := by
        unfold isRead
        simp only [Bool.or_eq_true, Bool.not_eq_true', decide_eq_false_iff_not, decide_eq_true_eq] at h
        rintro ⟨h1, h2⟩
        rcases h with h | h
        · exact h h1
        · exact h2 h
      rw [if_neg this]
    · have hr : isRead x := by
        unfold isRead
        simpa using h
      rw [if_pos hr]
      refine .seq (P := fun v => v = wrk w x.res 0) (.cond (fun h => .one ?_) fun h => .one ?_) fun v _ hv => ?_
      · unfold wrk; rw [if_pos (of_decide_eq_true h)]
      · unfold wrk; rw [if_neg (of_decide_eq_false h)]
      subst hv
      refine .seq (P := fun s => s = (wrk w x.res w.length, lak w x w.length, ovk w x w.length)) (.iter w.length (fun i st => st = (wrk w x.res i, lak w x i, ovk w x i, (i : Int))) (by omega) rfl ?_ ?_) fun s _ hs => ?_
      · rintro i st hi rfl
        simp only [regular_log_reads_L51]
        refine .condT (decide_eq_true (by omega)) (.ixD Call.z (by omega) (by omega) ?_)
        simp only [Int.toNat_natCast]
        have e1 : ((i : Int) + 1) = ((i + 1 : Nat) : Int) := by omega
        refine .seq (P := fun v => v = wrk w x.res (i + 1)) (.cond (fun h => .ck64 (by omega) (.one ?_)) fun h => .one ?_) fun v _ hv => ?_
        · conv => rhs; unfold wrk
          rw [if_pos (of_decide_eq_true h), e1]
        · conv => rhs; unfold wrk
          rw [if_neg (of_decide_eq_false h)]
        subst hv
        refine .bdO (a := ()) rfl ?_
        rw [prec_b]
        refine .cond (fun h1 => .ck64 (by omega) (.ck64 (by omega) (.one ?_))) fun h1 => .bdO (a := ()) rfl ?_
        · have h1 := of_decide_eq_true h1
          show _ = (_, lak w x (i + 1), ovk w x (i + 1), _)
          conv => rhs; unfold lak ovk
          rw [if_pos h1, if_pos h1, e1]
        · have h1 := of_decide_eq_false h1
          rw [prec_b]
          refine .cond (fun h2 => .ck64 (by omega) (.ck64 (by omega) (.one ?_))) fun h2 => .ck64 (by omega) (.one ?_)
          · have h2 : ¬ prec x (w.getD i Call.z) := by simpa using h2
            show _ = (_, lak w x (i + 1), ovk w x (i + 1), _)
            conv => rhs; unfold lak ovk
            rw [if_neg h1, if_neg h1, if_neg h2, e1, mput_new fun p hp => by have := (ovk_le w x i).2 p hp; omega]
          · have h2 : prec x (w.getD i Call.z) := by simpa using h2
            show _ = (_, lak w x (i + 1), ovk w x (i + 1), _)
            conv => rhs; unfold lak ovk
            rw [if_neg h1, if_neg h1, if_pos h2, e1]
      · rintro st rfl
        simp only [regular_log_reads_L51]
        exact .condF (decide_eq_false (by omega)) (.one rfl)
      · subst hs
        have := rdk_len c w k
        refine .ck (limB_of ⟨?_, ?_⟩) (.one rfl)
        · simp only [List.length_singleton]; exact Nat.le_trans (m := 2000) (by omega) (by unfold maxLen; decide)
        · simp only [List.length_singleton]; omega
  · rintro st rfl
    simp only [regular_log_reads_L47]
    exact .condF (decide_eq_false (by omega)) (.one rfl)
theorem delete_ok {N : Nat} (hN : 1000 < N) {s : List RegularJudged} (hs : s.length ≤ 300) : slices_DeleteFunc_regular_judged_regular_judged N s = some (s.filter (·.regular)) := by
  unfold slices_DeleteFunc_regular_judged_regular_judged slices_IndexFunc_regular_judged_regular_judged
  refine Wp.eq (.seq (P := fun (i : Int) => (i = -1 ∧ ∀ x ∈ s, x.regular = true) ∨ ∃ k : Nat, i = k ∧ k < s.length ∧ (∀ j, j < k → (s.getD j RegularJudged.z).regular = true) ∧ (s.getD k RegularJudged.z).regular = false) ?_ fun i _ hi => ?_)
  · refine .elim (P := fun t => match t with | .inl _ => ∀ x ∈ s, x.regular = true | .inr i => ∃ k : Nat, i = k ∧ k < s.length ∧ (∀ j, j < k → (s.getD j RegularJudged.z).regular = true) ∧ (s.getD k RegularJudged.z).regular = false)
      (.iter s.length (fun k v => v = (k : Int) ∧ ∀ j, j < k → (s.getD j RegularJudged.z).regular = true) (by omega) ⟨rfl, fun j h => absurd h (Nat.not_lt_zero _)⟩ ?_ ?_) (fun _ _ h => .one (.inl ⟨rfl, h⟩)) (fun r _ h => .one (.inr h))
    · rintro k v hk ⟨rfl, hI⟩
      simp only [slices_IndexFunc_regular_judged_regular_judged_L3]
      refine .condT (decide_eq_true (by omega)) (.ixD RegularJudged.z (by omega) (by omega) (.bdO (a := ()) rfl ?_))
      simp only [Int.toNat_natCast]
      refine .cond (fun h => .one ⟨k, rfl, hk, hI, by simpa using h⟩) fun h => .ck64 (by omega) (.one ⟨by simp, fun j hj => ?_⟩)
      rcases Nat.lt_or_ge j k with h4 | h4
      · exact hI j h4
      · obtain rfl : j = k := by omega
        simpa using h
    · rintro v ⟨rfl, hI⟩
      simp only [slices_IndexFunc_regular_judged_regular_judged_L3]
      refine .condF (decide_eq_false (by omega)) (.one fun x hx => ?_)
      obtain ⟨j, hj, rfl⟩ := List.getElem_of_mem hx
      have := hI j hj
      rwa [getD_of hj] at this
  rcases hi with ⟨rfl, hall⟩ | ⟨k, rfl, hk, hlt, hk0⟩
  · refine .condT rfl (.one ?_)
    exact (List.filter_eq_self.2 hall).symm
  · refine .condF (decide_eq_false (by omega)) ?_
    have hf0 : (s.take k).filter (·.regular) = s.take k := List.filter_eq_self.2 fun x hx => by
      obtain ⟨j, hj, rfl⟩ := List.getElem_of_mem hx
      have hj' : j < k := by simp at hj; omega
      have := hlt j hj'
      rw [getD_of (by omega)] at this
      simpa using this
    have hf1 : (s.take (k + 1)).filter (·.regular) = s.take k := by
      rw [← List.take_append_getElem hk, List.filter_append, hf0]
      have : s[k].regular = false := by rw [getD_of hk] at hk0; exact hk0
      simp [this]
    refine .seq (P := fun (st : List RegularJudged × Int) => st.1.length = s.length ∧ ∃ i : Nat, st.2 = (i : Int) ∧ i ≤ s.length ∧ st.1.take i = s.filter (·.regular) ∧ i = (s.filter (·.regular)).length)
      (.ck64 (by omega) (.iter (s.length - (k + 1)) (fun q (st : List RegularJudged × Int × Int) => ∃ i j : Nat, st = (st.1, (i : Int), (j : Int)) ∧ j = k + 1 + q ∧ i < j ∧ st.1.length = s.length ∧ st.1.take i = (s.take j).filter (·.regular) ∧ i = ((s.take j).filter (·.regular)).length ∧ ∀ m, j ≤ m → st.1.getD m RegularJudged.z = s.getD m RegularJudged.z) (by omega) ⟨k, k + 1, by simp, rfl, by omega, rfl, by rw [hf1], by rw [hf1]; simp; omega, fun m _ => rfl⟩ ?_ ?_)) fun st _ hst => ?_
    · rintro q st hq ⟨i, j, e, hj, hij, hlen, h1, h2, h3⟩
      obtain ⟨t, a, b⟩ := st
      simp only [Prod.mk.injEq, true_and] at e
      obtain ⟨rfl, rfl⟩ := e
      simp only at hlen h1 h3
      simp only [slices_DeleteFunc_regular_judged_regular_judged_L3]
      refine .condT (decide_eq_true (by omega)) (.ixD RegularJudged.z (by omega) (by omega) (.bdO (a := ()) rfl ?_))
      simp only [Int.toNat_natCast]
      have hjs : j < s.length := by omega
      have e1 : (s.take (j + 1)).filter (·.regular) = (s.take j).filter (·.regular) ++ [s.getD j RegularJudged.z].filter (·.regular) := by
        rw [← List.take_append_getElem hjs, List.filter_append, getD_of hjs]
      have hj3 := h3 j (Nat.le_refl _)
      rw [hj3]
      refine .cond (fun h => ?_) fun h => ?_
      · have h : (s.getD j RegularJudged.z).regular = true := by simpa using h
        have e2 : [s.getD j RegularJudged.z].filter (·.regular) = [s.getD j RegularJudged.z] := by rw [List.filter_cons_of_pos h]; rfl
        refine .ixD RegularJudged.z (by omega) (by omega) (.ck64 (by omega) (.ck64 (by omega) (.one ⟨i + 1, j + 1, by simp, by omega, by omega, by simpa using hlen, ?_, ?_, fun m hm => ?_⟩)))
        · show (t.set i (s.getD j RegularJudged.z)).take (i + 1) = _
          rw [e1, e2, ← h1]
          have hi : i < (t.set i (s.getD j RegularJudged.z)).length := by rw [List.length_set]; omega
          rw [← List.take_append_getElem hi, List.getElem_set_self, List.take_set_of_le (Nat.le_refl _)]
        · rw [e1, e2, List.length_append, ← h2]; rfl
        · show (t.set i (s.getD j RegularJudged.z)).getD m RegularJudged.z = _
          rw [← h3 m (by omega)]
          simp only [List.getD_eq_getElem?_getD]
          rw [List.getElem?_set_ne (by omega)]
      · have h : (s.getD j RegularJudged.z).regular = false := by simpa using h
        have e2 : [s.getD j RegularJudged.z].filter (·.regular) = [] := by rw [List.filter_cons_of_neg (by rw [h]; simp)]; rfl
        refine .ck64 (by omega) (.one ⟨i, j + 1, by simp, by omega, by omega, hlen, ?_, ?_, fun m hm => h3 m (by omega)⟩)
        · rw [e1, e2, List.append_nil]; exact h1
        · rw [e1, e2, List.append_nil]; exact h2
    · rintro st ⟨i, j, e, hj, hij, hlen, h1, h2, h3⟩
      obtain ⟨t, a, b⟩ := st
      simp only [Prod.mk.injEq, true_and] at e
      obtain ⟨rfl, rfl⟩ := e
      simp only at hlen h1 h3
      simp only [slices_DeleteFunc_regular_judged_regular_judged_L3]
      have hjs : j = s.length := by omega
      subst hjs
      rw [List.take_length] at h1 h2
      exact .condF (decide_eq_false (by omega)) (.one ⟨hlen, i, rfl, by omega, h1, h2⟩)
    · obtain ⟨t, a⟩ := st
      obtain ⟨hlen, i, rfl, hi, h1, h2⟩ := hst
      simp only at hlen h1
      refine .ck (by simp [slB]; omega) ?_
      have ho := ovr_len t i (List.replicate ((t.drop i)).length (RegularJudged.z : RegularJudged))
      simp only [Int.toNat_natCast]
      refine .ck (by simp only [slB, decide_eq_true_eq, Bool.and_eq_true]; rw [ho]; omega) (.one ?_)
      rw [← h1]
      unfold ovr
      rw [List.take_take, Nat.min_eq_left (by omega), List.take_append_of_le_length (by simp; omega), List.take_take, Nat.min_self]
/-- Which two reads are turned, if any are. -/
def Tn (c w : List Call) (r : Int × Int × Bool) : Prop := (r = (0, 0, false) ∧ ∀ i j, i < c.length → j < c.length → isRead (c.getD i Call.z) → isRead (c.getD j Call.z) → (judge w (c.getD i Call.z) (i : Int)).regular = true → (judge w (c.getD j Call.z) (j : Int)).regular = true → ¬ (prec (c.getD i Call.z) (c.getD j Call.z) ∧ wrk w (c.getD j Call.z).res w.length < wrk w (c.getD i Call.z).res w.length)) ∨
  ∃ i j : Nat, r = ((i : Int), (j : Int), true) ∧ i < c.length ∧ j < c.length ∧ isRead (c.getD i Call.z) ∧ isRead (c.getD j Call.z) ∧ (judge w (c.getD i Call.z) (i : Int)).regular = true ∧ (judge w (c.getD j Call.z) (j : Int)).regular = true ∧ prec (c.getD i Call.z) (c.getD j Call.z) ∧ wrk w (c.getD j Call.z).res w.length < wrk w (c.getD i Call.z).res w.length
theorem turned_wp {N : Nat} (hN : 1000 < N) {c w : List Call} (hc : c.length ≤ 200) (hw : w.length ≤ 200) : Wp (regular_log_turned N c w) (Tn c w) := by
  unfold regular_log_turned
  have hlen := rdk_len c w c.length
  refine .bdO (reads_ok (by omega) hc hw) (.bdO (delete_ok hN (by omega)) ?_)
  have hmem : ∀ j ∈ (rdk c w c.length).filter (·.regular), ∃ i, i < c.length ∧ isRead (c.getD i Call.z) ∧ j = judge w (c.getD i Call.z) (i : Int) ∧ j.regular = true := fun j hj => by
    obtain ⟨h1, h2⟩ := List.mem_filter.1 hj
    obtain ⟨i, g1, g2, g3⟩ := rdk_mem.1 h1
    exact ⟨i, g1, g2, g3, h2⟩
  have hfl : ((rdk c w c.length).filter (·.regular)).length ≤ 200 := by
    have := List.length_filter_le (·.regular) (rdk c w c.length)
    omega
  have hback : ∀ i, i < c.length → isRead (c.getD i Call.z) → (judge w (c.getD i Call.z) (i : Int)).regular = true → judge w (c.getD i Call.z) (i : Int) ∈ (rdk c w c.length).filter (·.regular) := fun i hi hr hg => List.mem_filter.2 ⟨rdk_mem.2 ⟨i, hi, hr, rfl⟩, hg⟩
  generalize (rdk c w c.length).filter (·.regular) = L at hmem hfl hback ⊢
  -- two of them
  have two : ∀ (a b : RegularJudged), a ∈ L → b ∈ L → ∃ i j : Nat, a.n = i ∧ b.n = j ∧ i < c.length ∧ j < c.length ∧ isRead (c.getD i Call.z) ∧ isRead (c.getD j Call.z) ∧ (judge w (c.getD i Call.z) (i : Int)).regular = true ∧ (judge w (c.getD j Call.z) (j : Int)).regular = true ∧ a.write = wrk w (c.getD i Call.z).res w.length ∧ b.write = wrk w (c.getD j Call.z).res w.length := by
    intro a b ha hb
    obtain ⟨i, g1, g2, rfl, g4⟩ := hmem a ha
    obtain ⟨j, k1, k2, rfl, k4⟩ := hmem b hb
    exact ⟨i, j, rfl, rfl, g1, k1, g2, k2, g4, k4, rfl, rfl⟩
  refine .elim (P := fun t => match t with | .inl _ => ∀ a ∈ L, ∀ b ∈ L, ¬ (prec (c.getD a.n.toNat Call.z) (c.getD b.n.toNat Call.z) ∧ b.write < a.write) | .inr r => ∃ a ∈ L, ∃ b ∈ L, r = (a.n, b.n, true) ∧ prec (c.getD a.n.toNat Call.z) (c.getD b.n.toNat Call.z) ∧ b.write < a.write)
    (.iter L.length (fun k v => v = (k : Int) ∧ ∀ q, q < k → ∀ b ∈ L, ¬ (prec (c.getD (L.getD q RegularJudged.z).n.toNat Call.z) (c.getD b.n.toNat Call.z) ∧ b.write < (L.getD q RegularJudged.z).write)) (by omega) ⟨rfl, fun j h => absurd h (Nat.not_lt_zero _)⟩ ?_ ?_) (fun _ _ h => .one ?_) (fun r _ h => .one ?_)
  · rintro k v hk ⟨rfl, hI⟩
    simp only [regular_log_turned_L25]
    refine .condT (decide_eq_true (by omega)) ?_
    refine .elim (P := fun t => match t with | .inl _ => ∀ b ∈ L, ¬ (prec (c.getD (L.getD k RegularJudged.z).n.toNat Call.z) (c.getD b.n.toNat Call.z) ∧ b.write < (L.getD k RegularJudged.z).write) | .inr r => ∃ a ∈ L, ∃ b ∈ L, r = (a.n, b.n, true) ∧ prec (c.getD a.n.toNat Call.z) (c.getD b.n.toNat Call.z) ∧ b.write < a.write) (.ixD RegularJudged.z (by omega) (by omega) ?_) (fun _ _ h => .ck64 (by omega) (.one ⟨by simp, fun q hq => ?_⟩)) (fun r _ h => .one h)
    · simp only [Int.toNat_natCast]
      have hkm : L.getD k RegularJudged.z ∈ L := by rw [getD_of hk]; exact List.getElem_mem hk
      refine .iter L.length (fun q v => v = (q : Int) ∧ ∀ p, p < q → ¬ (prec (c.getD (L.getD k RegularJudged.z).n.toNat Call.z) (c.getD (L.getD p RegularJudged.z).n.toNat Call.z) ∧ (L.getD p RegularJudged.z).write < (L.getD k RegularJudged.z).write)) (by omega) ⟨rfl, fun j h => absurd h (Nat.not_lt_zero _)⟩ ?_ ?_
      · rintro q v hq ⟨rfl, hJ⟩
        simp only [regular_log_turned_L27]
        have hqm : L.getD q RegularJudged.z ∈ L := by rw [getD_of hq]; exact List.getElem_mem hq
        obtain ⟨i, j, g1, g2, g3, g4, _⟩ := two _ _ hkm hqm
        refine .condT (decide_eq_true (by omega)) (.ixD RegularJudged.z (by omega) (by omega) ?_)
        simp only [Int.toNat_natCast]
        refine .ixD Call.z (by omega) (by omega) (.ixD Call.z (by omega) (by omega) (.bdO (a := ()) rfl ?_))
        rw [prec_b]
        refine .cond (fun h => .one ⟨_, hkm, _, hqm, rfl, by simpa using h⟩) fun h => .ck64 (by omega) (.one ⟨by simp, fun p hp => ?_⟩)
        rcases Nat.lt_or_ge p q with h4 | h4
        · exact hJ p h4
        · obtain rfl : p = q := by omega
          intro h5
          rw [decide_eq_true h5.1, decide_eq_true h5.2] at h
          cases h
      · rintro v ⟨rfl, hJ⟩
        simp only [regular_log_turned_L27]
        refine .condF (decide_eq_false (by omega)) (.one fun b hb => ?_)
        obtain ⟨p, hp, rfl⟩ := List.getElem_of_mem hb
        have := hJ p hp
        rwa [getD_of hp] at this
    · rcases Nat.lt_or_ge q k with h4 | h4
      · exact hI q h4
      · obtain rfl : q = k := by omega
        exact h
  · rintro v ⟨rfl, hI⟩
    simp only [regular_log_turned_L25]
    refine .condF (decide_eq_false (by omega)) (.one fun a ha b hb => ?_)
    obtain ⟨p, hp, rfl⟩ := List.getElem_of_mem ha
    have := hI p hp b hb
    rwa [getD_of hp] at this
  · refine .inl ⟨rfl, fun i j hi hj ri rj gi gj hbad => ?_⟩
    have := h _ (hback i hi ri gi) _ (hback j hj rj gj)
    exact this hbad
  · obtain ⟨a, ha, b, hb, rfl, h1, h2⟩ := h
    obtain ⟨i, j, g1, g2, g3, g4, g5, g6, g7, g8, g9, g10⟩ := two a b ha hb
    refine .inr ⟨i, j, by rw [g1, g2], g3, g4, g5, g6, g7, g8, ?_, by rw [← g9, ← g10]; exact h2⟩
    rw [g1, g2] at h1
    exact h1
end Rg

namespace Rg
theorem wrk_of {w : List Call} (hL : Lin w) {res : Int} {j : Nat} (h : (w.getD j Call.z).arg = res) : ∀ {k : Nat}, j < k → k ≤ w.length → wrk w res k = ((j + 1 : Nat) : Int)
  | 0, hj, _ => absurd hj (Nat.not_lt_zero _)
  | k + 1, hj, hk => by
    unfold wrk
    by_cases e : j = k
    · subst e; rw [if_pos h]
    · rw [if_neg fun e2 => (hL j k (by omega) (by omega)).1 (by rw [h, e2]), wrk_of hL h (by omega) (by omega)]
theorem wrk_zero {w : List Call} (h1 : ∀ x ∈ w, 1 ≤ x.arg) : ∀ k, k ≤ w.length → wrk w 0 k = 0
  | 0, _ => rfl
  | k + 1, hk => by
    unfold wrk
    rw [if_neg fun e => by have := h1 (w.getD k Call.z) (by rw [getD_of (by omega)]; exact List.getElem_mem _); omega, wrk_zero h1 k (by omega)]
end Rg

end Go.Proofs.Yteklmleiiiodfaa
