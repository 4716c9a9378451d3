/- What the code of serial.View computes, plainly. -/
import Derived.Test.YtkmmagekepoapaaQ4
set_option linter.unusedVariables false
set_option linter.unusedSimpArgs false
set_option linter.unusedSectionVars false
set_option maxRecDepth 100000
namespace Go.Proofs.Ytkmmagekepoapaa
open Go.RowKit
namespace Se
open Rl
theorem getD_set3 {α : Type} {l : List α} {i j : Nat} {v d : α} (h : i < l.length) : (l.set i v).getD j d = if j = i then v else l.getD j d := by
  simp only [List.getD_eq_getElem?_getD, List.getElem?_set, h, if_true]
  by_cases hj : i = j
  · subst hj; simp
  · rw [if_neg hj, if_neg (fun e => hj e.symm)]
theorem rep_all : ((List.range 67).all fun (n : Nat) => decide (slices_Repeat_int_int 18446744073709551616 ([(-1)] : List Int) (n : Int) = some (List.replicate n (-1)))) = true := by kernel_rfl
theorem rep_ok {n : Nat} (h : n ≤ 66) : slices_Repeat_int_int 18446744073709551616 ([(-1)] : List Int) (n : Int) = some (List.replicate n (-1)) :=
  of_decide_eq_true (List.all_eq_true.1 rep_all n (List.mem_range.2 (by omega)))
/-- What sources hands back. -/
def SrcOf (l : List Deed) (r : List Nat) (R : List Int) : Prop := R.length = l.length + 6 ∧ (∀ x : Nat, x < 6 → R.getD (l.length + x) 0 = lastR l (x : Int) r) ∧ ∀ i, i < l.length → R.getD i 0 = srcR l r i
theorem ints_get {s : List Nat} {k : Nat} (h : k < s.length) : (ints_ s).getD k 0 = (s[k] : Int) := by
  rw [getD_of (by simpa [ints_] using h)]; simp [ints_]
theorem take_rev {s : List Nat} {k : Nat} (h : k < s.length) : (s.take (k + 1)).reverse = s[k] :: (s.take k).reverse := by
  rw [List.take_succ_eq_append_getElem h, List.reverse_append]; rfl
theorem sources_wp {l : List Deed} (D : Dd l) {s : List Nat} (hs : ∀ i ∈ s, i < l.length) (hl : s.length ≤ 60) : Wp (serial_sources 18446744073709551616 l (ints_ s)) (SrcOf l s.reverse) := by
  have hlen := D.1
  have hil : (ints_ s).length = s.length := by simp [ints_]
  unfold serial_sources
  refine .ck64 (by omega) (.bdO (a := List.replicate (l.length + 6) (-1)) (rep_ok (n := l.length + 6) (by omega)) (.ck (by simp [slB]; omega) ?_))
  refine .seq (P := SrcOf l s.reverse) ?_ fun R _ h => .one h
  refine .iter s.length (fun k st => st.2 = (k : Int) ∧ SrcOf l (s.take k).reverse st.1) (by omega) ⟨rfl, by simp, fun x hx => ?_, fun i hi => ?_⟩ ?_ ?_
  · rw [getD_of (by simp; omega)]; simp [lastR]
  · rw [getD_of (by simp; omega)]; simp [srcR]
  · rintro k ⟨out, v⟩ hk ⟨hv, hS⟩
    simp only at hv hS
    subst hv
    obtain ⟨h1, h2, h3⟩ := hS
    have hj := hs s[k] (List.getElem_mem hk)
    have ok := D.2 s[k] hj
    unfold OkD at ok
    have ht := take_rev hk
    simp only [serial_sources_L3]
    refine .condT (decide_eq_true (by omega)) (.ixD 0 (by omega) (by omega) ?_)
    rw [Int.toNat_natCast, ints_get hk]
    refine .ixD Deed.z (by omega) (by omega) ?_
    rw [Int.toNat_natCast]
    obtain ⟨x, hx⟩ : ∃ x : Nat, (l.getD s[k] Deed.z).item = x := ⟨(l.getD s[k] Deed.z).item.toNat, by omega⟩
    have hd : (out.drop ((l.length : Int)).toNat).length = 6 := by rw [Int.toNat_natCast, List.length_drop, h1]; omega
    have hg : ∀ y, (out.drop l.length).getD y 0 = out.getD (l.length + y) 0 := fun y => by rw [List.getD_eq_getElem?_getD, List.getD_eq_getElem?_getD, List.getElem?_drop]
    refine .cond (fun hk0 => ?_) (fun hk0 => ?_)
    · have hk0 := of_decide_eq_true hk0
      refine .ixD 0 (by omega) (by omega) (.ixD 0 (by omega) (by omega) (.ck64 (by omega) (.one ⟨by simp, ?_⟩)))
      rw [hx, Int.toNat_natCast, Int.toNat_natCast, hg, h2 x (by omega), ht]
      refine ⟨by simpa using h1, fun y hy => ?_, fun i hi => ?_⟩
      · rw [getD_set3 (by omega), if_neg (by omega), h2 y hy]
        simp only [lastR]
        rw [if_neg]
        rw [wr_iff]; omega
      · rw [getD_set3 (by omega)]
        simp only [srcR]
        by_cases e : i = s[k]
        · rw [if_pos e, if_pos ⟨e, hk0⟩, hx]
        · rw [if_neg e, if_neg (fun h => e h.1)]; exact h3 i hi
    · have hk0 := of_decide_eq_false hk0
      refine .cond (fun hk1 => ?_) (fun hk1 => ?_)
      · have hk1 := of_decide_eq_true hk1
        refine .ixD 0 (by omega) (by omega) (.ck64 (by omega) (.one ⟨by simp, ?_⟩))
        have hpos : ((l.length : Int) + (l.getD s[k] Deed.z).item).toNat = l.length + x := by omega
        simp only
        rw [hpos, ht]
        refine ⟨by simpa using h1, fun y hy => ?_, fun i hi => ?_⟩
        · rw [getD_set3 (by omega), h2 y hy]
          simp only [lastR]
          by_cases e : y = x
          · rw [if_pos (by omega), if_pos (wr_iff.2 ⟨hk1, by omega⟩)]
          · rw [if_neg (by omega), if_neg]
            rw [wr_iff]; omega
        · rw [getD_set3 (by omega), if_neg (by omega), h3 i hi]
          simp only [srcR]
          rw [if_neg fun h => hk0 h.2]
      · have hk1 := of_decide_eq_false hk1
        refine .ck64 (by omega) (.one ⟨by simp, ?_⟩)
        simp only
        rw [ht]
        refine ⟨h1, fun y hy => ?_, fun i hi => ?_⟩
        · rw [h2 y hy]
          simp only [lastR]
          rw [if_neg]
          rw [wr_iff]; omega
        · rw [h3 i hi]
          simp only [srcR]
          rw [if_neg fun h => hk0 h.2]
  · rintro ⟨out, v⟩ ⟨hv, hS⟩
    simp only at hv hS
    subst hv
    simp only [serial_sources_L3]
    rw [List.take_length] at hS
    exact .condF (decide_eq_false (by omega)) (.one hS)
theorem filter_succ (f : Nat → Bool) (m : Nat) : (List.range (m + 1)).filter f = (List.range m).filter f ++ if f m = true then [m] else [] := by
  rw [List.range_succ, List.filter_append]
  by_cases h : f m = true
  · rw [if_pos h, List.filter_cons_of_pos h]; rfl
  · rw [if_neg h, List.filter_cons_of_neg h]; rfl
theorem ints_app (a b : List Nat) : ints_ (a ++ b) = ints_ a ++ ints_ b := by simp [ints_]
theorem blk_len (l : List Deed) (w : Nat) : (blk l w).length ≤ l.length := by
  have := List.length_filter_le (fun i => decide (wh l i = w)) (List.range l.length)
  simpa [blk] using this
theorem sequence_wp {l : List Deed} (D : Dd l) {p : List Nat} (hp : p.length ≤ 6) : Wp (serial_sequence 18446744073709551616 l (ints_ p)) (· = ints_ (revS l p.reverse).reverse) := by
  have hlen := D.1
  have hil : (ints_ p).length = p.length := by simp [ints_]
  unfold serial_sequence
  refine .seq (P := (· = ints_ (revS l p.reverse).reverse)) ?_ fun R _ h => .one h
  refine .iter p.length (fun k st => st.2 = (k : Int) ∧ st.1 = ints_ (revS l (p.take k).reverse).reverse ∧ st.1.length ≤ 60 * k) (by omega) ⟨rfl, by simp [revS, ints_], by simp⟩ ?_ ?_
  · rintro k ⟨out, v⟩ hk ⟨hv, hS, hL⟩
    simp only at hv hS hL
    subst hv
    simp only [serial_sequence_L25]
    refine .condT (decide_eq_true (by omega)) (.seq (P := fun o => o = out ++ ints_ (blk l p[k])) (.ixD 0 (by omega) (by omega) ?_) fun o _ ho => .ck64 (by omega) (.one ⟨by simp, ?_, ?_⟩))
    · rw [Int.toNat_natCast, ints_get hk]
      refine .iter l.length (fun m st => st.2 = (m : Int) ∧ st.1 = out ++ ints_ ((List.range m).filter fun i => decide (wh l i = p[k])) ∧ st.1.length ≤ 60 * k + m) (by omega) ⟨rfl, by simp [ints_], by simpa using hL⟩ ?_ ?_
      · rintro m ⟨o, v⟩ hm ⟨hv, ho, hL2⟩
        simp only at hv ho hL2
        subst hv
        simp only [serial_sequence_L27]
        refine .condT (decide_eq_true (by omega)) (.ixD Deed.z (by omega) (by omega) ?_)
        rw [Int.toNat_natCast]
        have hw := wh_lt D hm
        refine .cond (fun h => .ck (limB_of ⟨Nat.le_trans (m := 1000) (by simp; omega) (by decide), by simp; omega⟩) (.ck64 (by omega) (.one ⟨by simp, ?_, by simp; omega⟩))) (fun h => .ck64 (by omega) (.one ⟨by simp, ?_, by show o.length ≤ _; omega⟩))
        · have h := of_decide_eq_true h
          simp only
          rw [filter_succ, if_pos (by simp only [decide_eq_true_eq]; omega), ints_app, ho, List.append_assoc]
          rfl
        · have h := of_decide_eq_false h
          simp only
          rw [filter_succ, if_neg (by simp only [decide_eq_true_eq]; omega), List.append_nil, ho]
      · rintro ⟨o, v⟩ ⟨hv, ho, hL2⟩
        simp only at hv ho hL2
        subst hv
        simp only [serial_sequence_L27]
        exact .condF (decide_eq_false (by omega)) (.one ho)
    · simp only
      rw [ho, hS, take_rev hk]
      simp only [revS, List.reverse_append, List.reverse_reverse, ints_app]
    · have := blk_len l p[k]
      simp only
      rw [ho, List.length_append, show (ints_ (blk l p[k])).length = (blk l p[k]).length by simp [ints_]]
      omega
  · rintro ⟨out, v⟩ ⟨hv, hS, _⟩
    simp only at hv hS
    subst hv
    simp only [serial_sequence_L25]
    rw [List.take_length] at hS
    exact .condF (decide_eq_false (by omega)) (.one hS)
/-- People's order p reads as time does. -/
def Same (l : List Deed) (p : List Nat) : Prop := (∀ i, i < l.length → srcR l (revS l p.reverse) i = srcR l (List.range l.length).reverse i) ∧ ∀ x : Nat, x < 6 → lastR l (x : Int) (revS l p.reverse) = lastR l (x : Int) (List.range l.length).reverse
theorem same_iff {l : List Deed} {p : List Nat} {R W : List Int} (hR : SrcOf l (revS l p.reverse) R) (hW : SrcOf l (List.range l.length).reverse W) : R = W ↔ Same l p := by
  constructor
  · rintro rfl
    exact ⟨fun i hi => by rw [← hR.2.2 i hi, hW.2.2 i hi], fun x hx => by rw [← hR.2.1 x hx, hW.2.1 x hx]⟩
  · rintro ⟨h1, h2⟩
    refine List.ext_getElem (by rw [hR.1, hW.1]) fun i a b => ?_
    rw [← getD_of (d := 0) a, ← getD_of (d := 0) b]
    rw [hR.1] at a
    rcases Nat.lt_or_ge i l.length with h | h
    · rw [hR.2.2 i h, hW.2.2 i h, h1 i h]
    · obtain ⟨x, rfl⟩ : ∃ x, i = l.length + x := ⟨i - l.length, by omega⟩
      rw [hR.2.1 x (by omega), hW.2.1 x (by omega), h2 x (by omega)]
/-- One order behind the other one. -/
def chk : List Nat → List (List Nat) → Bool
  | a, [] => match serial_next 18446744073709551616 (ints_ a) with | some (_, b) => !b | none => false
  | a, b :: r => decide (serial_next 18446744073709551616 (ints_ a) = some (ints_ b, true)) && chk b r
theorem pl_cons : PL = [0, 1, 2, 3, 4, 5] :: PL.tail := by kernel_rfl
theorem chk_PL : chk [0, 1, 2, 3, 4, 5] PL.tail = true := by kernel_rfl
theorem chk_at : ∀ (r : List (List Nat)) (a : List Nat), chk a r = true → ∀ k, (k < r.length → serial_next 18446744073709551616 (ints_ ((a :: r).getD k [])) = some (ints_ ((a :: r).getD (k + 1) []), true)) ∧ (k = r.length → ∃ q, serial_next 18446744073709551616 (ints_ ((a :: r).getD k [])) = some (q, false))
  | [], a, h, k => by
    refine ⟨fun h => absurd h (Nat.not_lt_zero _), fun hk => ?_⟩
    simp only [List.length_nil] at hk
    subst hk
    simp only [chk] at h
    cases hn : serial_next 18446744073709551616 (ints_ a) with
    | none => rw [hn] at h; cases h
    | some t =>
      obtain ⟨q, b⟩ := t
      rw [hn] at h
      have h : (!b) = true := h
      cases b with
      | true => cases h
      | false => exact ⟨q, hn⟩
  | b :: r, a, h, k => by
    simp only [chk, Bool.and_eq_true, decide_eq_true_eq] at h
    cases k with
    | zero => exact ⟨fun _ => h.1, fun e => by simp at e⟩
    | succ k =>
      have := chk_at r b h.2 k
      exact ⟨fun hk => this.1 (by simpa using hk), fun hk => this.2 (by simpa using hk)⟩
theorem next_at (k : Nat) : (k < 719 → serial_next 18446744073709551616 (ints_ (PL.getD k [])) = some (ints_ (PL.getD (k + 1) []), true)) ∧ (k = 719 → ∃ q, serial_next 18446744073709551616 (ints_ (PL.getD k [])) = some (q, false)) := by
  have h := chk_at _ _ chk_PL k
  rw [← pl_cons, List.length_tail, pl_len] at h
  exact h
theorem revS_len {l : List Deed} {L : List Nat} (hn : L.Nodup) : (revS l L).Nodup ∧ (revS l L).length ≤ l.length := by
  have h : (revS l L).Nodup := (revS_pw hn).imp fun {a b} h e => by subst e; exact Bp.irr hn _ h
  exact ⟨h, pig_lt h fun i hi => (mem_revS.1 hi).1⟩
theorem view_wp {l : List Deed} (D : Dd l) : Wp (serial_View 18446744073709551616 l) fun r => r.2.2 = 0 ∧ ((r.2.1 = true ∧ ∃ p ∈ PL, Same l p) ∨ (r.2.1 = false ∧ ∀ p ∈ PL, ¬ Same l p)) := by
  have hlen := D.1
  unfold serial_View
  refine .seq (check_wp (by decide)) fun r _ hr => ?_
  have h0 : r.2 = 0 := by
    rcases hr with ⟨h, _⟩ | ⟨_, h⟩
    · exact h
    · exact (h D).elim
  refine .condF (by simp [h0]) ?_
  refine .seq (P := (· = ints_ (List.range l.length))) (.iter l.length (fun k st => st.2 = (k : Int) ∧ st.1 = ints_ (List.range k)) (by omega) ⟨rfl, rfl⟩ ?_ ?_) fun all _ hall => ?_
  · rintro k ⟨o, v⟩ hk ⟨hv, ho⟩
    simp only at hv ho
    subst hv; subst ho
    simp only [serial_View_L5]
    refine .condT (decide_eq_true (by omega)) (.ck (limB_of ⟨Nat.le_trans (m := 1000) (by simp [ints_]; omega) (by decide), by simp [ints_]; omega⟩) (.ck64 (by omega) (.one ⟨by simp, ?_⟩)))
    simp only
    rw [List.range_succ, ints_app]; rfl
  · rintro ⟨o, v⟩ ⟨hv, ho⟩
    simp only at hv ho
    subst hv
    simp only [serial_View_L5]
    exact .condF (decide_eq_false (by omega)) (.one ho)
  subst hall
  refine .seq (sources_wp D (fun i hi => List.mem_range.1 hi) (by simpa using hlen)) fun W _ hW => ?_
  refine .elim (P := fun t => match t with | .inl _ => ∀ p ∈ PL, ¬ Same l p | .inr r => r.2.2 = 0 ∧ r.2.1 = true ∧ ∃ p ∈ PL, Same l p) ?_ (fun _ _ h => .one ⟨rfl, .inr ⟨rfl, h⟩⟩) (fun r _ h => .one ⟨h.1, .inl h.2⟩)
  refine .iter 720 (fun k st => (∀ j, j < k → ¬ Same l (PL.getD j [])) ∧ (k < 720 → st.2 = true ∧ st.1 = ints_ (PL.getD k [])) ∧ (k = 720 → st.2 = false)) (by decide) ⟨fun j h => absurd h (Nat.not_lt_zero _), fun _ => ⟨rfl, by rw [pl_cons]; rfl⟩, fun h => by omega⟩ ?_ ?_
  · rintro k ⟨p, more⟩ hk ⟨hno, hI, _⟩
    obtain ⟨h1, h2⟩ := hI hk
    simp only at h1 h2
    subst h1
    have hk2 : k < PL.length := by rw [pl_len]; exact hk
    have hmem : PL.getD k [] ∈ PL := by rw [getD_of hk2]; exact List.getElem_mem hk2
    obtain ⟨q, hq⟩ : ∃ q, q = PL.getD k [] := ⟨_, rfl⟩
    have hnx := next_at k
    rw [← hq] at hmem h2 hnx
    subst h2
    obtain ⟨hq6, hF⟩ := pl_full hmem
    simp only [serial_View_L7]
    refine .condT rfl (.seq (sequence_wp D (by omega)) fun s _ hs => ?_)
    subst hs
    refine .seq (sources_wp D (fun i hi => (mem_revS.1 (List.mem_reverse.1 hi)).1) (by rw [List.length_reverse]; have := (revS_len (l := l) hF.1).2; omega)) fun R _ hR => ?_
    rw [List.reverse_reverse] at hR
    have hsame := same_iff hR hW
    refine .bdO (eq_ok (by decide) (by rw [hR.1]; omega)) (.cond (fun h => .one ⟨rfl, rfl, q, hmem, hsame.1 (of_decide_eq_true h)⟩) fun h => ?_)
    have hnot : ¬ Same l q := fun hs => of_decide_eq_false h (hsame.2 hs)
    have hno' : ∀ j, j < k + 1 → ¬ Same l (PL.getD j []) := fun j hj => by
      rcases Nat.lt_or_ge j k with g | g
      · exact hno j g
      · obtain rfl : j = k := by omega
        rw [← hq]; exact hnot
    rcases Nat.lt_or_ge k 719 with g | g
    · exact .bdO (hnx.1 g) (.one ⟨hno', fun _ => ⟨rfl, rfl⟩, fun e => by omega⟩)
    · obtain ⟨q', hq'⟩ := hnx.2 (by omega)
      exact .bdO hq' (.one ⟨hno', fun e => by omega, fun _ => rfl⟩)
  · rintro ⟨p, more⟩ ⟨hno, _, hI⟩
    have hI := hI rfl
    simp only at hI
    subst hI
    simp only [serial_View_L7]
    refine .condF rfl (.one fun p hp => ?_)
    obtain ⟨j, hj, rfl⟩ := List.mem_iff_getElem.1 hp
    have := hno j (by rw [pl_len] at hj; exact hj)
    rwa [getD_of hj] at this
end Se

end Go.Proofs.Ytkmmagekepoapaa
