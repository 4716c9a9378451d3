/- Reading and printing, plainly. -/
import Derived.Test.YtjdkkabcenohcaaDoorT7
import Derived.Test.YtjdkkabcenohcaaDoorT3
set_option linter.unusedVariables false
set_option linter.unusedSimpArgs false
set_option linter.unusedSectionVars false
set_option maxRecDepth 100000
namespace Go.Proofs.YtjdkkabcenohcaaDoor
open Go.RowKit
namespace Tx
open Hs
def LineOk (i : Nat) (x : List UInt8) : Prop := if i = 0 then ∃ t, TyOk t ∧ x = hdL t else ∃ e, EvOk e ∧ x = evL e
def J (ls : List (List UInt8)) (k : Nat) (types : List Int) (l : List Event) : Prop :=
  if k = 0 then types = [] ∧ l = [] else TyOk types ∧ (∀ e ∈ l, EvOk e) ∧ (if k = ls.length then ls = hdL types :: (l.map evL ++ [[]]) else ls.take k = hdL types :: l.map evL)
theorem line_ok_of {ls : List (List UInt8)} {t : List Int} {l : List Event} {r : List (List UInt8)} (ht : TyOk t) (hl : ∀ e ∈ l, EvOk e) (h : ls = hdL t :: (l.map evL ++ r)) {j : Nat} {x : List UInt8} (hj : j < l.length + 1) (hx : ls[j]? = some x) : LineOk j x := by
  subst h
  unfold LineOk
  cases j with
  | zero =>
    rw [List.getElem?_cons_zero] at hx
    cases hx
    exact ⟨t, ht, rfl⟩
  | succ j =>
    rw [if_neg (by omega)]
    rw [List.getElem?_cons_succ, List.getElem?_append_left (by simp; omega), List.getElem?_map] at hx
    have hj2 : j < l.length := by omega
    rw [List.getElem?_eq_getElem hj2] at hx
    exact ⟨l[j], hl _ (List.getElem_mem hj2), (Option.some.inj hx).symm⟩
theorem J_len {ls : List (List UInt8)} {k : Nat} {types : List Int} {l : List Event} (h : J ls k types l) (hk : k ≤ ls.length) : l.length ≤ k := by
  unfold J at h
  split at h
  · rw [h.2]; simp
  · obtain ⟨_, _, h⟩ := h
    split at h
    · have := congrArg List.length h; simp at this; omega
    · have := congrArg List.length h; simp at this; omega
theorem J_ok {ls : List (List UInt8)} {k : Nat} {types : List Int} {l : List Event} (h : J ls k types l) (hk : k < ls.length) {j : Nat} {x : List UInt8} (hj : j < k) (hx : ls[j]? = some x) : LineOk j x := by
  unfold J at h
  rw [if_neg (by omega)] at h
  obtain ⟨ht, hl, h⟩ := h
  rw [if_neg (by omega)] at h
  have hlen := congrArg List.length h
  simp at hlen
  refine line_ok_of (ls := ls.take k) (r := []) ht hl (by simpa using h) (by omega) ?_
  rw [List.getElem?_take, if_pos hj, hx]
def Bad (ls : List (List UInt8)) (k : Nat) : Prop :=
  k < ls.length ∧ (∀ j x, j < k → ls[j]? = some x → LineOk j x) ∧ (if k + 1 = ls.length then ¬ (ls[k]? = some [] ∧ 1 < ls.length) else ∀ x, ls[k]? = some x → ¬ LineOk k x)
theorem lines_wp {N : Nat} {ls : List (List UInt8)} (hN : 10000 < N) (hn : ls ≠ []) (h9 : ls.length ≤ 9000) (hsz : ∀ p ∈ ls, p.length ≤ 8192) :
    Wp (iter (text_Read_L3 N (ls.map mkB)) N ([], [], 0)) fun x => match x with
      | .inl s => TyOk s.1 ∧ (∀ e ∈ s.2, EvOk e) ∧ ls = hdL s.1 :: (s.2.map evL ++ [[]])
      | .inr r => ∃ k : Nat, r = ([], [], (k : Int), 7) ∧ Bad ls k := by
  have hpos : 0 < ls.length := List.length_pos_iff.2 hn
  refine .iter ls.length (fun k s => s.2.2 = (k : Int) ∧ J ls k s.1 s.2.1) (by omega) ⟨rfl, by unfold J; exact ⟨rfl, rfl⟩⟩ ?_ ?_
  · rintro k ⟨types, l, v⟩ hk ⟨hv, hJ⟩
    simp only at hv hJ
    subst hv
    simp only [text_Read_L3, List.length_map]
    have hll := J_len hJ (by omega)
    have hx : ls[k]? = some ls[k] := List.getElem?_eq_getElem hk
    have hsk := hsz _ (List.getElem_mem hk)
    refine .condT (decide_eq_true (by omega)) (.ix (by simpa using hk) ?_)
    rw [List.getElem_map]
    generalize ls[k] = x at hx hsk ⊢
    have htk : ls.take (k + 1) = ls.take k ++ [x] := by rw [List.take_add_one, hx]; rfl
    refine .seq (P := fun t => (t.2.2 = true → J ls (k + 1) t.1 t.2.1) ∧ (t.2.2 = false → if k + 1 = ls.length then ¬ (x = [] ∧ 1 < ls.length) else ¬ LineOk k x)) (.cond (fun hlast => .one ⟨fun h => ?_, fun h => ?_⟩) (fun hlast => .cond (fun h0 => .seq (things_wp (by omega) (by rw [mkB_size]; exact hsk)) fun r _ hr => .one ⟨fun h => ?_, fun h => ?_⟩) (fun h0 => .seq (event_wp (by omega) (by rw [mkB_size]; exact hsk)) fun r _ hr => .ck (limB_of ⟨?_, ?_⟩) (.one ⟨fun h => ?_, fun h => ?_⟩)))) fun t _ ht => .cond (fun hok => .one ⟨k, rfl, hk, fun j y hj hy => J_ok hJ hk hj hy, ?_⟩) (fun hok => .ck64 (by omega) (.one ⟨by simp, ht.1 (by simpa using hok)⟩))
    · have hlast : (k : Int) = (ls.length : Int) - 1 := of_decide_eq_true hlast
      simp only [Bool.and_eq_true, decide_eq_true_eq] at h
      have hx0 : x = [] := by rw [← bs_mk x, h.1]; rfl
      have hk1 : k + 1 = ls.length := by omega
      unfold J at hJ ⊢
      rw [if_neg (by omega)] at hJ
      rw [if_neg (by omega), if_pos hk1]
      rw [if_neg (show ¬ k = ls.length by omega)] at hJ
      refine ⟨hJ.1, hJ.2.1, ?_⟩
      rw [hk1, List.take_length] at htk
      rw [htk, hJ.2.2, hx0]
      rfl
    · have hlast : (k : Int) = (ls.length : Int) - 1 := of_decide_eq_true hlast
      rw [if_pos (by omega)]
      rintro ⟨rfl, h1⟩
      simp only [Bool.and_eq_false_iff, decide_eq_false_iff_not] at h
      rcases h with h | h
      · exact h rfl
      · omega
    · have hlast : ¬ (k : Int) = (ls.length : Int) - 1 := of_decide_eq_false hlast
      have h0 : (k : Int) = 0 := of_decide_eq_true h0
      obtain rfl : k = 0 := by omega
      simp only [bs_mk] at hr
      have h2 := hr.1 h
      unfold J at hJ ⊢
      rw [if_pos rfl] at hJ
      rw [if_neg (by omega), if_neg (by omega), hJ.2]
      refine ⟨h2.1, by simp, ?_⟩
      rw [htk, ← h2.2]; rfl
    · have hlast : ¬ (k : Int) = (ls.length : Int) - 1 := of_decide_eq_false hlast
      have h0 : (k : Int) = 0 := of_decide_eq_true h0
      obtain rfl : k = 0 := by omega
      rw [if_neg (by omega)]
      rintro ⟨t, ht, rfl⟩
      simp only [bs_mk] at hr
      rw [hr.2 t ht rfl] at h
      simp at h
    · simp only [List.length_singleton]; exact Nat.le_trans (m := 400000) (by omega) (by decide)
    · simp only [List.length_singleton]; omega
    · have hlast : ¬ (k : Int) = (ls.length : Int) - 1 := of_decide_eq_false hlast
      have h0 : ¬ (k : Int) = 0 := of_decide_eq_false h0
      simp only [bs_mk] at hr
      have h2 := hr.1 h
      unfold J at hJ ⊢
      rw [if_neg (by omega), if_neg (by omega)] at hJ
      rw [if_neg (by omega), if_neg (by omega)]
      refine ⟨hJ.1, fun e he => ?_, ?_⟩
      · rcases List.mem_append.1 he with he | he
        · exact hJ.2.1 e he
        · rw [List.mem_singleton.1 he]; exact h2.1
      · rw [htk, hJ.2.2, List.map_append, List.map_cons, List.map_nil, ← h2.2]; rfl
    · have hlast : ¬ (k : Int) = (ls.length : Int) - 1 := of_decide_eq_false hlast
      have h0 : ¬ (k : Int) = 0 := of_decide_eq_false h0
      rw [if_neg (by omega)]
      intro hL
      unfold LineOk at hL
      rw [if_neg (by omega)] at hL
      obtain ⟨e, he, rfl⟩ := hL
      simp only [bs_mk] at hr
      rw [hr.2 e he rfl] at h
      simp at h
    · have h2 := ht.2 (by simpa using hok)
      split at h2
      · rename_i hk1
        rw [if_pos hk1, hx]
        rintro ⟨h3, h4⟩
        exact h2 ⟨Option.some.inj h3, h4⟩
      · rename_i hk1
        rw [if_neg hk1, hx]
        intro y hy
        cases hy
        exact h2
  · rintro ⟨types, l, v⟩ ⟨hv, hJ⟩
    simp only at hv hJ
    subst hv
    simp only [text_Read_L3, List.length_map]
    refine .condF (decide_eq_false (by omega)) (.one ?_)
    unfold J at hJ
    rw [if_neg (by omega), if_pos rfl] at hJ
    exact hJ
structure Lines (s : ByteArray) (types : List Int) (l : List Event) : Prop where
  ty : TyOk types
  ev : ∀ e ∈ l, EvOk e
  ls : spl 10 (bs s) = hdL types :: (l.map evL ++ [[]])
theorem read_wp {N : Nat} {s : ByteArray} (hN : 10000 < N) : Wp (text_Read N s) fun r => (8192 < s.size ∧ r = ([], [], 0, 2)) ∨ (s.size ≤ 8192 ∧ ((∃ k : Nat, r = ([], [], (k : Int), 7) ∧ Bad (spl 10 (bs s)) k) ∨
    ∃ types l q, Lines s types l ∧ history_Calls N types l = some q ∧ ((q.2.2 = 2 ∧ r = ([], [], 0, 2)) ∨ (q.2.2 ≠ 2 ∧ q.2.2 ≠ 0 ∧ q.2.2 ≠ 7 ∧ 0 ≤ q.2.1 ∧ q.2.1 ≤ l.length ∧ r = ([], [], q.2.1 + 1, q.2.2)) ∨ (q.2.2 = 0 ∧ r = (types, l, 0, 0))))) := by
  unfold text_Read
  refine .cond (fun h => .one (.inl ⟨by have := of_decide_eq_true h; omega, rfl⟩)) (fun h => ?_)
  have hs : s.size ≤ 8192 := by have := of_decide_eq_false h; omega
  have hl := spl_len 10 (bs s)
  have hc : (bs s).count 10 ≤ (bs s).length := List.count_le_length
  have hbl := bs_len s
  refine .bdO (split_eq 10 (by omega)) (.ck64 (by simp only [List.length_map]; omega) (.elim (lines_wp hN (spl_ne 10 _) (by omega) (fun p hp => by have := spl_le hp; omega)) ?_ ?_))
  · rintro ⟨types, l⟩ _ ⟨h1, h2, h3⟩
    obtain ⟨q, hq, hq1, hq2⟩ := calls_text (types := types) (l := l) (show 300 < N by omega)
    have hL : Lines s types l := ⟨h1, h2, h3⟩
    have hll : l.length + 2 = (spl 10 (bs s)).length := by rw [h3]; simp
    refine .bdO hq (.cond (fun he => .one (.inr ⟨hs, .inr ⟨types, l, q, hL, hq, .inl ⟨of_decide_eq_true he, by rw [of_decide_eq_true he]⟩⟩⟩)) (fun he => .cond (fun he2 => ?_) (fun he2 => .one (.inr ⟨hs, .inr ⟨types, l, q, hL, hq, .inr (.inr ⟨by simpa using he2, rfl⟩)⟩⟩))))
    have he2 : q.2.2 ≠ 0 := by simpa using he2
    obtain ⟨h7, h0, hle⟩ := hq2 he2
    exact .ck64 (by omega) (.one (.inr ⟨hs, .inr ⟨types, l, q, hL, hq, .inr (.inl ⟨of_decide_eq_false he, he2, h7, h0, hle, rfl⟩)⟩⟩))
  · rintro r _ ⟨k, rfl, hB⟩
    exact .one (.inr ⟨hs, .inl ⟨k, rfl, hB⟩⟩)
def prL (types : List Int) (l : List Event) : List UInt8 := hdL types ++ 10 :: l.flatMap fun e => evL e ++ [10]
theorem prL_spl {types : List Int} {l : List Event} (ht : TyOk types) (hl : ∀ e ∈ l, EvOk e) : spl 10 (prL types l) = hdL types :: (l.map evL ++ [[]]) := by
  have e : prL types l = (hdL types :: l.map evL).flatMap (· ++ [10]) ++ [] := by
    simp [prL, List.flatMap_map]
  rw [e, spl_lines]
  · rfl
  · intro x hx
    rcases List.mem_cons.1 hx with rfl | hx
    · exact hdL_no ht
    · obtain ⟨v, hv, rfl⟩ := List.mem_map.1 hx
      exact evL_no (hl v hv)
theorem Lines.pr {s : ByteArray} {types : List Int} {l : List Event} (h : Lines s types l) : bs s = prL types l := by
  have := spl_jn 10 (bs s)
  rw [h.ls] at this
  rw [← this, ← List.cons_append, jn_lines]
  simp [prL, List.flatMap_map]
theorem kwl_len {x : List UInt8} (h : x ∈ kwl) : x.length ≤ 6 := by
  have : ∀ x ∈ kwl, x.length ≤ 6 := by decide
  exact this x h
theorem twl_len {x : List UInt8} (h : x ∈ twl) : x.length ≤ 6 := by
  have : ∀ x ∈ twl, x.length ≤ 6 := by decide
  exact this x h
theorem itoa_eq {N : Nat} {n : Int} (h : -1000000 ≤ n ∧ n ≤ 1000000) : itoaO N n = some (mkB (it n)) := by
  unfold itoaO
  rw [if_pos (by omega)]; rfl
theorem catB_of {a b : ByteArray} (h : a.size + b.size ≤ 1000000) : catB a b = true := by
  unfold catB
  exact decide_eq_true (by omega)
theorem sbw_eq {N : Nat} {a b : ByteArray} (h : a.size + b.size ≤ 1000000) : sbw N a b = some (a ++ b) := by
  unfold sbw
  rw [if_pos (by omega)]
theorem ix_word {xs : List (List UInt8)} {i : Int} (h0 : 0 ≤ i) (h : i.toNat < xs.length) : ix (xs.map mkB) i = some (mkB (xs.getD i.toNat [])) := by
  rw [ix_int h0 (by rw [List.length_map]; omega), List.getElem_map, getD_of h]
theorem tyW_take {types : List Int} {k : Nat} (hk : k < types.length) : tyW (types.take (k + 1)) = tyW (types.take k) ++ [twl.getD types[k].toNat []] := by
  rw [List.take_add_one, List.getElem?_eq_getElem hk]
  simp only [tyW, List.map_append, Option.toList_some, List.map_cons, List.map_nil]
theorem size_app (a b : ByteArray) : (a ++ b).size = a.size + b.size := ByteArray.size_append
theorem print_wp {N : Nat} {types : List Int} {l : List Event} (hN : 10000 < N) : Wp (text_Print N types l) fun r => ∃ q, history_Calls N types l = some q ∧ (q.2.2 ≠ 0 → r = (⟨#[]⟩, q.2.2)) ∧ (q.2.2 = 0 → TyOk types ∧ (∀ e ∈ l, EvOk e) ∧ r.2 = 0 ∧ bs r.1 = prL types l) := by
  obtain ⟨q, hq, hq1, hq2⟩ := calls_text (types := types) (l := l) (show 300 < N by omega)
  unfold text_Print
  refine .bdO hq (.cond (fun he => .one ⟨q, hq, fun _ => rfl, fun h => by rw [h] at he; simp at he⟩) (fun he => ?_))
  have he : q.2.2 = 0 := by simpa using he
  obtain ⟨ht, hl, hle⟩ := hq1 he
  have htl := ht.len
  have s6 : (⟨#[116, 104, 105, 110, 103, 115]⟩ : ByteArray).size = 6 := rfl
  have s1 : (⟨#[10]⟩ : ByteArray).size = 1 := rfl
  have s32 : (⟨#[32]⟩ : ByteArray).size = 1 := rfl
  have s0 : (⟨#[]⟩ : ByteArray).size = 0 := rfl
  have b32 : bs (⟨#[32]⟩ : ByteArray) = [32] := rfl
  have b10 : bs (⟨#[10]⟩ : ByteArray) = [10] := rfl
  refine .bdO (sbw_eq (by rw [s0, s6]; decide)) ?_
  refine .seq (P := fun out => bs out = hdL types) (.iter types.length (fun k s => s.2 = (k : Int) ∧ bs s.1 = thingsL ++ (tyW (types.take k)).flatMap (32 :: ·) ∧ s.1.size ≤ 10 + 10 * k) (by omega) ⟨rfl, rfl, by rw [size_app, s0, s6]; omega⟩ ?_ ?_) fun out _ hout => ?_
  · rintro k ⟨out, v⟩ hk ⟨hv, ho, hsz⟩
    simp only at hv ho hsz
    subst hv
    simp only [text_Print_L5]
    have hb := ht.all _ (List.getElem_mem hk)
    have hm : twl.getD types[k].toNat [] ∈ twl := getD_mem (by simp [twl]; omega)
    have hw := twl_len hm
    have hix : ix (twl.map mkB) types[k] = some (mkB (twl.getD types[k].toNat [])) := ix_word (by omega) (by simp [twl]; omega)
    refine .condT (decide_eq_true (by omega)) (.ix hk (.bdO rfl (.bdO (a := mkB (twl.getD types[k].toNat [])) hix (.ck (catB_of (by rw [s32, mkB_size]; omega)) (.bdO (sbw_eq (by rw [size_app, s32, mkB_size]; omega)) (.ck64 (by omega) (.one ⟨by simp, ?_, ?_⟩)))))))
    · simp only [bs_app, ho, b32, bs_mk]
      rw [tyW_take hk, List.flatMap_append]
      simp
    · simp only [size_app, s32, mkB_size]; omega
  · rintro ⟨out, v⟩ ⟨hv, ho, hsz⟩
    simp only at hv ho hsz
    subst hv
    simp only [text_Print_L5]
    exact .condF (decide_eq_false (by omega)) (.one (by show bs out = _; rw [ho, List.take_length]; rfl))
  have hsz : out.size ≤ 60 := by
    rw [bs_len, hout]
    unfold hdL
    have : ∀ (t : List Int), (∀ x ∈ t, 1 ≤ x ∧ x ≤ 5) → ((tyW t).flatMap (32 :: ·)).length ≤ 7 * t.length := by
      intro t
      induction t with
      | nil => intro _; simp [tyW]
      | cons a t ih =>
        intro h
        have h1 := ih fun x hx => h x (by simp [hx])
        have ha := h a (by simp)
        have := twl_len (getD_mem (l := twl) (i := a.toNat) (d := []) (by simp [twl]; omega))
        simp only [tyW, List.map_cons, List.flatMap_cons, List.length_append, List.length_cons] at h1 ⊢
        omega
    have := this types ht.all
    rw [List.length_append, show thingsL.length = 6 from rfl]
    omega
  refine .bdO (sbw_eq (by rw [s1]; omega)) ?_
  refine .seq (P := fun o2 => bs o2 = prL types l) (.iter l.length (fun k s => s.2 = (k : Int) ∧ bs s.1 = hdL types ++ 10 :: (l.take k).flatMap (fun e => evL e ++ [10]) ∧ s.1.size ≤ 100 + 100 * k) (by omega) ⟨rfl, by simp only [bs_app, hout, b10]; rfl, by simp only [size_app, s1]; omega⟩ ?_ ?_) fun o2 _ ho2 => ?_
  · rintro k ⟨out, v⟩ hk ⟨hv, ho, hsz⟩
    simp only at hv ho hsz
    subst hv
    simp only [text_Print_L7]
    refine .condT (decide_eq_true (by omega)) (.ix hk ?_)
    have htk : l.take (k + 1) = l.take k ++ [l[k]] := by rw [List.take_add_one, List.getElem?_eq_getElem hk]; rfl
    have hE := hl _ (List.getElem_mem hk)
    generalize l[k] = e at hE htk ⊢
    have hkd := hE.kind
    have hm : kwl.getD e.kind.toNat [] ∈ kwl := getD_mem (by simp [kwl]; omega)
    have hw := kwl_len hm
    have l1 := it_len hE.who
    have l2 := it_len hE.thing
    have hix : ix (kwl.map mkB) e.kind = some (mkB (kwl.getD e.kind.toNat [])) := ix_word (by omega) (by simp [kwl]; omega)
    refine .bdO (itoa_eq hE.who) (.ck (catB_of (by rw [s32, mkB_size]; omega)) (.bdO (itoa_eq hE.thing) (.ck (catB_of (by rw [size_app, s32, mkB_size, mkB_size]; omega)) (.ck (catB_of (by rw [size_app, size_app, s32, mkB_size, mkB_size]; omega)) (.bdO rfl (.bdO (a := mkB (kwl.getD e.kind.toNat [])) hix (.ck (catB_of (by simp only [size_app, s32, mkB_size]; omega)) (.bdO (sbw_eq (by simp only [size_app, s32, mkB_size]; omega)) (.bdO rfl (.cond (fun hb => ?_) (fun hb => ?_)))))))))))
    · have hbk : ¬ bareK e.kind = true := by
        intro h
        unfold bareK at h
        rw [h] at hb
        simp at hb
      have hv := hE.value
      rw [if_neg hbk] at hv
      have l3 := it_len hv
      refine .bdO (itoa_eq hv) (.ck (catB_of (by rw [s32, mkB_size]; omega)) (.bdO (sbw_eq (by simp only [size_app, s32, mkB_size]; omega)) (.bdO (sbw_eq (by simp only [size_app, s32, s1, mkB_size]; omega)) (.ck64 (by omega) (.one ⟨by simp, ?_, ?_⟩)))))
      · simp only [bs_app, ho, b32, b10, bs_mk]
        rw [htk, List.flatMap_append]
        simp [evL, evW, hbk]
      · simp only [size_app, s32, s1, mkB_size]; omega
    · have hbk : bareK e.kind = true := by rw [Bool.not_eq_false'] at hb; exact hb
      refine .bdO (sbw_eq (by simp only [size_app, s32, s1, mkB_size]; omega)) (.ck64 (by omega) (.one ⟨by simp, ?_, ?_⟩))
      · simp only [bs_app, ho, b32, b10, bs_mk]
        rw [htk, List.flatMap_append]
        simp [evL, evW, hbk]
      · simp only [size_app, s32, s1, mkB_size]; omega
  · rintro ⟨out, v⟩ ⟨hv, ho, hsz⟩
    simp only at hv ho hsz
    subst hv
    simp only [text_Print_L7]
    exact .condF (decide_eq_false (by omega)) (.one (by show bs out = _; rw [ho, List.take_length]; rfl))
  have hne : o2.size ≠ 0 := by rw [bs_len, ho2]; simp [prL]
  exact .bdO (a := o2) (by unfold sbs; rw [if_neg hne]) (.one ⟨q, hq, fun h => absurd he h, fun _ => ⟨ht, hl, rfl, ho2⟩⟩)
end Tx

end Go.Proofs.YtjdkkabcenohcaaDoor
