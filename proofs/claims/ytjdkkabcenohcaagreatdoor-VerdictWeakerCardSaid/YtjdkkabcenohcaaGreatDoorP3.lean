/- Reading, plainly. -/
import Derived.Test.YtjdkkabcenohcaaGreatDoorP2
set_option linter.unusedVariables false
set_option linter.unusedSimpArgs false
set_option linter.unusedSectionVars false
set_option maxRecDepth 100000
namespace Go.Proofs.YtjdkkabcenohcaaGreatDoor
open Go.RowKit
namespace Tx
open Hs
theorem arg_rng {N : Nat} {k n : Int} (h : history_Argument N k n = some true) : if bareK k = true then n = 0 else 1 ≤ n ∧ n ≤ 1000 := by
  unfold history_Argument at h
  by_cases h1 : k = 2; · subst h1; exact of_decide_eq_true (Option.some.inj h)
  by_cases h2 : k = 4; · subst h2; exact of_decide_eq_true (Option.some.inj h)
  by_cases h3 : k = 6; · subst h3; exact of_decide_eq_true (Option.some.inj h)
  by_cases h4 : k = 10; · subst h4; exact of_decide_eq_true (Option.some.inj h)
  simp only [h1, h2, h3, h4, decide_false, cond_false] at h
  have h := Option.some.inj h
  simp only [Bool.and_eq_true, decide_eq_true_eq] at h
  simp only [bareK, h1, h2, h3, h4, decide_false, Bool.or_false, Bool.false_eq_true, if_false]
  exact h
theorem res_rng {N : Nat} {k n : Int} (h : history_result N k n = some true) : -1 ≤ n ∧ n ≤ 1000 := by
  unfold history_result at h
  have fin : ∀ {b : Bool}, some b = some true → b = true := fun h => Option.some.inj h
  by_cases h1 : k = 2
  · subst h1
    have h := fin h
    simp only [Bool.and_eq_true, decide_eq_true_eq] at h; omega
  by_cases h2 : k = 10
  · subst h2
    have h := fin h
    simp only [Bool.and_eq_true, decide_eq_true_eq] at h; omega
  by_cases h3 : k = 4
  · subst h3
    have h := fin h
    simp only [Bool.and_eq_true, Bool.or_eq_true, decide_eq_true_eq] at h; omega
  by_cases h4 : k = 6
  · subst h4
    have h := fin h
    simp only [Bool.and_eq_true, Bool.or_eq_true, decide_eq_true_eq] at h; omega
  by_cases h5 : k = 7
  · subst h5
    have h := fin h
    simp only [Bool.or_eq_true, decide_eq_true_eq] at h; omega
  by_cases h6 : k = 8
  · subst h6
    have h := fin h
    simp only [Bool.or_eq_true, decide_eq_true_eq] at h; omega
  by_cases h7 : k = 9
  · subst h7
    have h := fin h
    simp only [Bool.or_eq_true, decide_eq_true_eq] at h; omega
  simp only [h1, h2, h3, h4, h5, h6, h7, decide_false, cond_false] at h
  have h := fin h
  simp only [decide_eq_true_eq] at h; omega
theorem tyF_rng {k : Int} (h : tyF k ≠ 0) : 1 ≤ k ∧ k ≤ 10 := by
  unfold tyF at h
  repeat' split at h
  all_goals first | omega | exact absurd rfl h
theorem evok_rn {N : Nat} {types : List Int} {l : List Event} {k : Nat} {out : List Call} {op : List Int} (R : RnH N types l k out op) : types.length ≤ 4 → ∀ j, j < k → EvOk (l.getD j Event.z) := by
  induction R with
  | zero => exact fun _ j h => absurd h (Nat.not_lt_zero _)
  | @succ k out out' op op' R hk S ih =>
    intro h4 j hj
    rcases Nat.lt_or_ge j k with h | h
    · exact ih h4 j h
    obtain rfl : j = k := by omega
    have hw := S.who
    have ht := S.thing
    rcases S.how with ⟨hk0, hf, ha, _⟩ | ⟨hk0, m, _, _, _, hr, _⟩
    · have h1 := tyF_rng (by rw [hf.2]; exact hf.1)
      have h2 := arg_rng ha
      refine ⟨by omega, by omega, by omega, ?_⟩
      split at h2
      · rename_i hb; rw [if_pos hb]; exact h2
      · rename_i hb; rw [if_neg hb]; omega
    · have h2 := res_rng hr
      refine ⟨by omega, by omega, by omega, ?_⟩
      rw [if_neg (by rw [hk0]; decide)]
      omega
theorem types_e {N : Nat} {types : List Int} (hN : 300 < N) : Wp (history_Types N types) fun e => e = 0 ∨ e = 1 := by
  obtain ⟨e, he, _⟩ := types_wp (types := types) hN
  refine ⟨e, he, ?_⟩
  unfold history_Types at he
  obtain ⟨r, hr, he⟩ := bnd he
  cases hc : (((decide (((types).length : Int) < 1)) || (decide (4 < ((types).length : Int)))) || r) with
  | true => rw [hc] at he; cases he; exact .inr rfl
  | false => rw [hc] at he; cases he; exact .inl rfl
theorem event_e {N : Nat} {types : List Int} {out : List Call} {op : List Int} {i : Int} {v : Event} (hl : out.length ≤ 1000) (ho : ∀ w, w < 8 → 0 ≤ op.getD w 0 ∧ op.getD w 0 ≤ out.length) :
    Wp (history_reader_event N types out op i v) fun r => r.2.2 = 0 ∨ r.2.2 = 3 ∨ r.2.2 = 4 ∨ r.2.2 = 5 := by
  unfold history_reader_event
  refine .cond (fun _ => .one (by simp)) (fun h => ?_)
  simp only [Bool.or_eq_true, Bool.and_eq_true, Bool.not_eq_true', Bool.not_eq_false', Bool.or_eq_false_iff, Bool.and_eq_false_imp, decide_eq_true_eq, decide_eq_false_iff_not, beq_iff_eq, not_or, Int.not_lt, Int.not_le, Bool.false_eq_true, not_false_eq_true, not_true_eq_false, Decidable.not_not] at *
  have h8 := ho v.who.toNat (by omega)
  refine .ax (by omega) (by omega) (.cond (fun hk => ?_) (fun hk => ?_))
  · refine .ixD 0 (by omega) (by omega) (.bdO (fits_eq ..) ?_)
    obtain ⟨b, hb⟩ := argument_some N v.kind v.value
    refine .gd b (fun _ => hb) fun x hx => .cond (fun _ => .one (by simp)) (fun hf => .cond (fun _ => .one (by simp)) (fun hn => .ck (limB_of ⟨?_, ?_⟩) (.ax (by omega) (by omega) (.one (by simp)))))
    · simp only [List.length_singleton]; exact Nat.le_trans (m := 2000) (by omega) (by decide)
    · simp only [List.length_singleton]; omega
  · refine .cond (fun _ => .one (by simp)) (fun hn => ?_)
    simp only [decide_eq_false_iff_not, Bool.not_eq_false', decide_eq_true_eq] at hn hk
    obtain ⟨m, hm⟩ : ∃ m : Nat, op.getD v.who.toNat 0 = m + 1 := ⟨(op.getD v.who.toNat 0 - 1).toNat, by omega⟩
    rw [hm]
    simp only [show ((m : Int) + 1 - 1) = (m : Int) by omega]
    refine .ck64 (by omega) (.ixD Call.z (by omega) (by omega) ?_)
    simp only [Int.toNat_natCast]
    obtain ⟨b, hb⟩ := result_some N (out.getD m Call.z).kind v.value
    exact .gd b (fun _ => hb) fun x hx => .cond (fun _ => .one (by simp)) (fun hf => .ax (by omega) (by omega) (.one (by simp)))
theorem Wp.and {α : Type} {m : Option α} {P Q : α → Prop} (h : Wp m P) (k : Wp m Q) : Wp m fun a => P a ∧ Q a := by
  obtain ⟨a, ha, hp⟩ := h
  obtain ⟨b, hb, hq⟩ := k
  rw [ha] at hb
  cases hb
  exact ⟨a, ha, hp, hq⟩
theorem calls_text {N : Nat} {types : List Int} {l : List Event} (hN : 300 < N) : Wp (history_Calls N types l) fun r => (r.2.2 = 0 → TyOk types ∧ (∀ e ∈ l, EvOk e) ∧ l.length ≤ 200) ∧ (r.2.2 ≠ 0 → r.2.2 ≠ 7 ∧ (0 ≤ r.2.1 ∧ r.2.1 ≤ l.length)) := by
  refine Wp.and ?_ ?_
  · refine (Wp.and (calls_rn hN) (calls_wp hN)).mono fun r ⟨h1, h2⟩ h0 => ?_
    obtain ⟨_, hl, hle, _, op, R⟩ := h1 h0
    have hH := (h2 h0).1
    refine ⟨⟨hH.tys.1 |> fun _ => ⟨hH.tys.1, hH.tys.2.1⟩, hH.tys.2.2⟩, fun e he => ?_, hle⟩
    obtain ⟨j, hj, rfl⟩ := List.mem_iff_getElem.1 he
    have := evok_rn R hl.2 j hj
    rwa [getD_of hj] at this
  · unfold history_Calls
    refine .seq (types_e hN) fun e hte ht => .cond (fun h => .one fun h2 => ?_) (fun h => .cond (fun _ => .one (by simp)) (fun hl => ?_))
    · simp only at h2 ⊢
      rcases ht with rfl | rfl
      · exact absurd rfl h2
      · exact ⟨by decide, by simp⟩
    · simp only [Bool.or_eq_true, Bool.and_eq_true, Bool.not_eq_true', Bool.not_eq_false', Bool.or_eq_false_iff, Bool.and_eq_false_imp, decide_eq_true_eq, decide_eq_false_iff_not, beq_iff_eq, not_or, Int.not_lt, Int.not_le, Bool.false_eq_true, not_false_eq_true, not_true_eq_false, Decidable.not_not] at *
      refine .elim (P := fun t => match t with | .inl s => True | .inr r => r.2.2 ≠ 7 ∧ 0 ≤ r.2.1 ∧ r.2.1 ≤ l.length) (.iter l.length (fun k s => s.2.2 = (k : Int) ∧ RnH N types l k s.1 s.2.1) (by omega) ⟨rfl, .zero⟩ ?_ ?_) (fun s _ h => .one fun h2 => absurd rfl h2) (fun r _ h => .one fun h2 => h)
      · rintro k ⟨out, op, v⟩ hk ⟨hv, R⟩
        simp only at hv R
        subst hv
        simp only [history_Calls_L3]
        have W := R.wf
        have hle := W.len
        refine .condT (decide_eq_true (by omega)) (.ix hk (.seq (Wp.and (event_x (by omega) fun w hw => ⟨(W.pen w hw).1, (W.pen w hw).2.1⟩) (event_e (by omega) fun w hw => ⟨(W.pen w hw).1, (W.pen w hw).2.1⟩)) fun r _ hr => .cond (fun h => .one ?_) (fun h => .ck64 (by omega) (.one ⟨by simp, ?_⟩))))
        · simp only
          refine ⟨by rcases hr.2 with h | h | h | h <;> rw [h] <;> decide, by omega, by omega⟩
        · simp only [Bool.or_eq_true, Bool.and_eq_true, Bool.not_eq_true', Bool.not_eq_false', Bool.or_eq_false_iff, Bool.and_eq_false_imp, decide_eq_true_eq, decide_eq_false_iff_not, beq_iff_eq, not_or, Int.not_lt, Int.not_le, Bool.false_eq_true, not_false_eq_true, not_true_eq_false, Decidable.not_not] at *
          exact .succ R hk (by rw [getD_of hk]; exact hr.1 h)
      · rintro ⟨out, op, v⟩ ⟨hv, R⟩
        simp only at hv R
        subst hv
        simp only [history_Calls_L3]
        exact .condF (decide_eq_false (by omega)) (.one trivial)
end Tx

namespace Tx
open Hs
def LineOk (i : Nat) (x : List UInt8) : Prop := if i = 0 then ∃ t, TyOk t ∧ x = hdL t else ∃ e, EvOk e ∧ x = evL e
def J (ls : List (List UInt8)) (k : Nat) (types : List Int) (l : List Event) : Prop :=
  if k = 0 then types = [] ∧ l = [] else TyOk types ∧ (∀ e ∈ l, EvOk e) ∧ (if k = ls.length then ls = hdL types :: (l.map evL ++ [[]]) else ls.take k = hdL types :: l.map evL)
theorem line_ok_of {ls : List (List UInt8)} {t : List Int} {l : List Event} {r : List (List UInt8)} (ht : TyOk t) (hl : ∀ e ∈ l, EvOk e) (h : ls = hdL t :: (l.map evL ++ r)) {j : Nat} {x : List UInt8} (hj : j < l.length + 1) (hx : ls[j]? = some x) : LineOk j x := by
  subst h
  unfold LineOk
  cases j with
  | zero =>
    rw [List.getElem?_cons_zero] at hx
    cases hx
    exact ⟨t, ht, rfl⟩
  | succ j =>
    rw [if_neg (by omega)]
    rw [List.getElem?_cons_succ, List.getElem?_append_left (by simp; omega), List.getElem?_map] at hx
    have hj2 : j < l.length := by omega
    rw [List.getElem?_eq_getElem hj2] at hx
    exact ⟨l[j], hl _ (List.getElem_mem hj2), (Option.some.inj hx).symm⟩
theorem J_len {ls : List (List UInt8)} {k : Nat} {types : List Int} {l : List Event} (h : J ls k types l) (hk : k ≤ ls.length) : l.length ≤ k := by
  unfold J at h
  split at h
  · rw [h.2]; simp
  · obtain ⟨_, _, h⟩ := h
    split at h
    · have := congrArg List.length h; simp at this; omega
    · have := congrArg List.length h; simp at this; omega
theorem J_ok {ls : List (List UInt8)} {k : Nat} {types : List Int} {l : List Event} (h : J ls k types l) (hk : k < ls.length) {j : Nat} {x : List UInt8} (hj : j < k) (hx : ls[j]? = some x) : LineOk j x := by
  unfold J at h
  rw [if_neg (by omega)] at h
  obtain ⟨ht, hl, h⟩ := h
  rw [if_neg (by omega)] at h
  have hlen := congrArg List.length h
  simp at hlen
  refine line_ok_of (ls := ls.take k) (r := []) ht hl (by simpa using h) (by omega) ?_
  rw [List.getElem?_take, if_pos hj, hx]
def Bad (ls : List (List UInt8)) (k : Nat) : Prop :=
  k < ls.length ∧ (∀ j x, j < k → ls[j]? = some x → LineOk j x) ∧ (if k + 1 = ls.length then ¬ (ls[k]? = some [] ∧ 1 < ls.length) else ∀ x, ls[k]? = some x → ¬ LineOk k x)
theorem lines_wp {N : Nat} {ls : List (List UInt8)} (hN : 10000 < N) (hn : ls ≠ []) (h9 : ls.length ≤ 9000) (hsz : ∀ p ∈ ls, p.length ≤ 8192) :
    Wp (iter (text_Read_L3 N (ls.map mkB)) N ([], [], 0)) fun x => match x with
      | .inl s => TyOk s.1 ∧ (∀ e ∈ s.2, EvOk e) ∧ ls = hdL s.1 :: (s.2.map evL ++ [[]])
      | .inr r => ∃ k : Nat, r = ([], [], (k : Int), 7) ∧ Bad ls k := by
  have hpos : 0 < ls.length := List.length_pos_iff.2 hn
  refine .iter ls.length (fun k s => s.2.2 = (k : Int) ∧ J ls k s.1 s.2.1) (by omega) ⟨rfl, by unfold J; exact ⟨rfl, rfl⟩⟩ ?_ ?_
  · rintro k ⟨types, l, v⟩ hk ⟨hv, hJ⟩
    simp only at hv hJ
    subst hv
    simp only [text_Read_L3, List.length_map]
    have hll := J_len hJ (by omega)
    have hx : ls[k]? = some ls[k] := List.getElem?_eq_getElem hk
    have hsk := hsz _ (List.getElem_mem hk)
    refine .condT (decide_eq_true (by omega)) (.ix (by simpa using hk) ?_)
    rw [List.getElem_map]
    generalize ls[k] = x at hx hsk ⊢
    have htk : ls.take (k + 1) = ls.take k ++ [x] := by rw [List.take_add_one, hx]; rfl
    refine .seq (P := fun t => (t.2.2 = true → J ls (k + 1) t.1 t.2.1) ∧ (t.2.2 = false → if k + 1 = ls.length then ¬ (x = [] ∧ 1 < ls.length) else ¬ LineOk k x)) (.cond (fun hlast => .one ⟨fun h => ?_, fun h => ?_⟩) (fun hlast => .cond (fun h0 => .seq (things_wp (by omega) (by rw [mkB_size]; exact hsk)) fun r _ hr => .one ⟨fun h => ?_, fun h => ?_⟩) (fun h0 => .seq (event_wp (by omega) (by rw [mkB_size]; exact hsk)) fun r _ hr => .ck (limB_of ⟨?_, ?_⟩) (.one ⟨fun h => ?_, fun h => ?_⟩)))) fun t _ ht => .cond (fun hok => .one ⟨k, rfl, hk, fun j y hj hy => J_ok hJ hk hj hy, ?_⟩) (fun hok => .ck64 (by omega) (.one ⟨by simp, ht.1 (by simpa using hok)⟩))
    · have hlast : (k : Int) = (ls.length : Int) - 1 := of_decide_eq_true hlast
      simp only [Bool.and_eq_true, decide_eq_true_eq] at h
      have hx0 : x = [] := by rw [← bs_mk x, h.1]; rfl
      have hk1 : k + 1 = ls.length := by omega
      unfold J at hJ ⊢
      rw [if_neg (by omega)] at hJ
      rw [if_neg (by omega), if_pos hk1]
      rw [if_neg (show ¬ k = ls.length by omega)] at hJ
      refine ⟨hJ.1, hJ.2.1, ?_⟩
      rw [hk1, List.take_length] at htk
      rw [htk, hJ.2.2, hx0]
      rfl
    · have hlast : (k : Int) = (ls.length : Int) - 1 := of_decide_eq_true hlast
      rw [if_pos (by omega)]
      rintro ⟨rfl, h1⟩
      simp only [Bool.and_eq_false_iff, decide_eq_false_iff_not] at h
      rcases h with h | h
      · exact h rfl
      · omega
    · have hlast : ¬ (k : Int) = (ls.length : Int) - 1 := of_decide_eq_false hlast
      have h0 : (k : Int) = 0 := of_decide_eq_true h0
      obtain rfl : k = 0 := by omega
      simp only [bs_mk] at hr
      have h2 := hr.1 h
      unfold J at hJ ⊢
      rw [if_pos rfl] at hJ
      rw [if_neg (by omega), if_neg (by omega), hJ.2]
      refine ⟨h2.1, by simp, ?_⟩
      rw [htk, ← h2.2]; rfl
    · have hlast : ¬ (k : Int) = (ls.length : Int) - 1 := of_decide_eq_false hlast
      have h0 : (k : Int) = 0 := of_decide_eq_true h0
      obtain rfl : k = 0 := by omega
      rw [if_neg (by omega)]
      rintro ⟨t, ht, rfl⟩
      simp only [bs_mk] at hr
      rw [hr.2 t ht rfl] at h
      simp at h
    · simp only [List.length_singleton]; exact Nat.le_trans (m := 400000) (by omega) (by decide)
    · simp only [List.length_singleton]; omega
    · have hlast : ¬ (k : Int) = (ls.length : Int) - 1 := of_decide_eq_false hlast
      have h0 : ¬ (k : Int) = 0 := of_decide_eq_false h0
      simp only [bs_mk] at hr
      have h2 := hr.1 h
      unfold J at hJ ⊢
      rw [if_neg (by omega), if_neg (by omega)] at hJ
      rw [if_neg (by omega), if_neg (by omega)]
      refine ⟨hJ.1, fun e he => ?_, ?_⟩
      · rcases List.mem_append.1 he with he | he
        · exact hJ.2.1 e he
        · rw [List.mem_singleton.1 he]; exact h2.1
      · rw [htk, hJ.2.2, List.map_append, List.map_cons, List.map_nil, ← h2.2]; rfl
    · have hlast : ¬ (k : Int) = (ls.length : Int) - 1 := of_decide_eq_false hlast
      have h0 : ¬ (k : Int) = 0 := of_decide_eq_false h0
      rw [if_neg (by omega)]
      intro hL
      unfold LineOk at hL
      rw [if_neg (by omega)] at hL
      obtain ⟨e, he, rfl⟩ := hL
      simp only [bs_mk] at hr
      rw [hr.2 e he rfl] at h
      simp at h
    · have h2 := ht.2 (by simpa using hok)
      split at h2
      · rename_i hk1
        rw [if_pos hk1, hx]
        rintro ⟨h3, h4⟩
        exact h2 ⟨Option.some.inj h3, h4⟩
      · rename_i hk1
        rw [if_neg hk1, hx]
        intro y hy
        cases hy
        exact h2
  · rintro ⟨types, l, v⟩ ⟨hv, hJ⟩
    simp only at hv hJ
    subst hv
    simp only [text_Read_L3, List.length_map]
    refine .condF (decide_eq_false (by omega)) (.one ?_)
    unfold J at hJ
    rw [if_neg (by omega), if_pos rfl] at hJ
    exact hJ
structure Lines (s : ByteArray) (types : List Int) (l : List Event) : Prop where
  ty : TyOk types
  ev : ∀ e ∈ l, EvOk e
  ls : spl 10 (bs s) = hdL types :: (l.map evL ++ [[]])
theorem read_wp {N : Nat} {s : ByteArray} (hN : 10000 < N) : Wp (text_Read N s) fun r => (8192 < s.size ∧ r = ([], [], 0, 2)) ∨ (s.size ≤ 8192 ∧ ((∃ k : Nat, r = ([], [], (k : Int), 7) ∧ Bad (spl 10 (bs s)) k) ∨
    ∃ types l q, Lines s types l ∧ history_Calls N types l = some q ∧ ((q.2.2 = 2 ∧ r = ([], [], 0, 2)) ∨ (q.2.2 ≠ 2 ∧ q.2.2 ≠ 0 ∧ q.2.2 ≠ 7 ∧ 0 ≤ q.2.1 ∧ q.2.1 ≤ l.length ∧ r = ([], [], q.2.1 + 1, q.2.2)) ∨ (q.2.2 = 0 ∧ r = (types, l, 0, 0))))) := by
  unfold text_Read
  refine .cond (fun h => .one (.inl ⟨by have := of_decide_eq_true h; omega, rfl⟩)) (fun h => ?_)
  have hs : s.size ≤ 8192 := by have := of_decide_eq_false h; omega
  have hl := spl_len 10 (bs s)
  have hc : (bs s).count 10 ≤ (bs s).length := List.count_le_length
  have hbl := bs_len s
  refine .bdO (split_eq 10 (by omega)) (.ck64 (by simp only [List.length_map]; omega) (.elim (lines_wp hN (spl_ne 10 _) (by omega) (fun p hp => by have := spl_le hp; omega)) ?_ ?_))
  · rintro ⟨types, l⟩ _ ⟨h1, h2, h3⟩
    obtain ⟨q, hq, hq1, hq2⟩ := calls_text (types := types) (l := l) (show 300 < N by omega)
    have hL : Lines s types l := ⟨h1, h2, h3⟩
    have hll : l.length + 2 = (spl 10 (bs s)).length := by rw [h3]; simp
    refine .bdO hq (.cond (fun he => .one (.inr ⟨hs, .inr ⟨types, l, q, hL, hq, .inl ⟨of_decide_eq_true he, by rw [of_decide_eq_true he]⟩⟩⟩)) (fun he => .cond (fun he2 => ?_) (fun he2 => .one (.inr ⟨hs, .inr ⟨types, l, q, hL, hq, .inr (.inr ⟨by simpa using he2, rfl⟩)⟩⟩))))
    have he2 : q.2.2 ≠ 0 := by simpa using he2
    obtain ⟨h7, h0, hle⟩ := hq2 he2
    exact .ck64 (by omega) (.one (.inr ⟨hs, .inr ⟨types, l, q, hL, hq, .inr (.inl ⟨of_decide_eq_false he, he2, h7, h0, hle, rfl⟩)⟩⟩))
  · rintro r _ ⟨k, rfl, hB⟩
    exact .one (.inr ⟨hs, .inl ⟨k, rfl, hB⟩⟩)
theorem read_ok {N : Nat} {s : ByteArray} (hN : 10000 < N) {r : List Int × List Event × Int × Int} (h : text_Read N s = some r) (h0 : r.2.2.2 = 0) : s.size ≤ 8192 ∧ Lines s r.1 r.2.1 ∧ r.2.1.length ≤ 200 ∧ r.2.2.1 = 0 ∧ ∃ q, history_Calls N r.1 r.2.1 = some q ∧ q.2.2 = 0 := by
  obtain ⟨r', hr', hw⟩ := read_wp (s := s) hN
  rw [h] at hr'
  cases hr'
  rcases hw with ⟨_, rfl⟩ | ⟨hs, ⟨k, rfl, _⟩ | ⟨types, l, q, hL, hq, hh⟩⟩
  · exact absurd h0 (by decide)
  · exact absurd (show (7 : Int) = 0 from h0) (by decide)
  · rcases hh with ⟨_, rfl⟩ | ⟨_, h2, _, _, _, rfl⟩ | ⟨hq0, rfl⟩
    · exact absurd h0 (by decide)
    · exact absurd h0 h2
    · obtain ⟨q', hq', hq1, _⟩ := calls_text (types := types) (l := l) (show 300 < N by omega)
      rw [hq] at hq'
      cases hq'
      exact ⟨hs, hL, (hq1 hq0).2.2, rfl, q, hq, hq0⟩
end Tx

end Go.Proofs.YtjdkkabcenohcaaGreatDoor
