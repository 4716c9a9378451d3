/- ObjectRows, plainly. -/
import Derived.Test.YtpakplmpihhmbaaRL2
import Derived.Test.YtpakplmpihhmbaaRA2
set_option linter.unusedVariables false
set_option linter.unusedSimpArgs false
set_option linter.unusedSectionVars false
set_option maxRecDepth 100000
namespace Go.Proofs.Ytpakplmpihhmbaa
open Go.RowKit
namespace Ob
theorem okr_wp {N : Nat} {l : List Int} (hN : l.length < N) (hl : l.length ≤ 1000) : Wp (alibkeep_ok N l) fun r => r = true ↔ ∀ x ∈ l, x = 0 := by
  unfold alibkeep_ok
  refine .elim (P := fun t => match t with | .inl _ => ∀ x ∈ l, x = 0 | .inr r => r = false ∧ ∃ x ∈ l, x ≠ 0) (.iter l.length (fun k v => v = (k : Int) ∧ ∀ j, (h : j < l.length) → j < k → l[j] = 0) hN ⟨rfl, fun j _ h => absurd h (Nat.not_lt_zero _)⟩ ?_ ?_) (fun _ _ h => .one ⟨fun _ => h, fun _ => rfl⟩) (fun r _ h => .one ?_)
  · rintro k v hk ⟨rfl, hr⟩
    simp only [alibkeep_ok_L3]
    refine .condT (decide_eq_true (by omega)) (.ix hk (.cond (fun h => .one ⟨rfl, l[k], List.getElem_mem hk, by simpa using h⟩) (fun h => .ck64 (by omega) (.one ⟨by simp, fun j hj hjk => ?_⟩))))
    rcases Nat.lt_or_ge j k with h1 | h1
    · exact hr j hj h1
    · obtain rfl : j = k := by omega
      simpa using h
  · rintro v ⟨rfl, hr⟩
    simp only [alibkeep_ok_L3]
    refine .condF (decide_eq_false (by omega)) (.one fun x hx => ?_)
    obtain ⟨j, hj, rfl⟩ := List.mem_iff_getElem.1 hx
    exact hr j hj hj
  · obtain ⟨rfl, x, hx, h0⟩ := h
    exact ⟨fun h => (by cases h), fun h => (h0 (h x hx)).elim⟩
theorem cont_wp {N : Nat} (hN : 300 < N) {s : List Int} (hs : s.length ≤ 60) : Wp (slices_ContainsFunc_int_int_1 N s) fun b => (b = false ∧ ∀ n ∈ s, Num n) ∨ b = true := by
  unfold slices_ContainsFunc_int_int_1 slices_IndexFunc_int_int_1
  refine .seq (P := fun i => (i = -1 ∧ ∀ n ∈ s, Num n) ∨ 0 ≤ i) ?_ fun i _ hi => .one ?_
  · refine .elim (P := fun t => match t with | .inl _ => ∀ n ∈ s, Num n | .inr i => 0 ≤ i) (.iter s.length (fun k v => v = (k : Int) ∧ ∀ j, j < k → Num (s.getD j 0)) (by omega) ⟨rfl, fun j h => absurd h (Nat.not_lt_zero _)⟩ ?_ ?_) (fun _ _ h => .one (.inl ⟨rfl, h⟩)) (fun i _ h => .one (.inr h))
    · rintro k v hk ⟨rfl, hr⟩
      simp only [slices_IndexFunc_int_int_1_L3]
      refine .condT (decide_eq_true (by omega)) (.ixD 0 (by omega) (by omega) ?_)
      simp only [Int.toNat_natCast]
      refine .bdO (a := ()) rfl (.cond (fun h => .one (by show (0 : Int) ≤ k; omega)) fun h => .ck64 (by omega) (.one ⟨by simp, fun j hj => ?_⟩))
      rcases Nat.lt_or_ge j k with h1 | h1
      · exact hr j h1
      · obtain rfl : j = k := by omega
        simp only [Bool.or_eq_false_iff, decide_eq_false_iff_not] at h
        unfold Num
        omega
    · rintro v ⟨rfl, hr⟩
      simp only [slices_IndexFunc_int_int_1_L3]
      refine .condF (decide_eq_false (by omega)) (.one ?_)
      intro n hn
      obtain ⟨j, hj, rfl⟩ := List.getElem_of_mem hn
      have := hr j hj
      rwa [getD_of hj] at this
  · rcases hi with ⟨rfl, h⟩ | h0
    · exact .inl ⟨rfl, h⟩
    · exact .inr (decide_eq_true h0)
theorem lives : alibkeep_objectLives 18446744073709551616 = some true := by kernel_rfl
theorem rowsLaw {N : Nat} (hN : 5000 < N) (hL : alibkeep_objectLives N = some true) (l : List Int) : alibkeep_ObjectRows N l = some true := by
  refine Wp.eq ?_
  unfold alibkeep_ObjectRows
  refine .bdO hL ?_
  by_cases h50 : 50 < (l.length : Int)
  · rw [decide_eq_true h50]
    exact .bdO (a := false) rfl (.condT rfl (.bdO hL (.one rfl)))
  rw [decide_eq_false h50]
  refine .seq (P := fun b => (b = false ∧ ∀ n ∈ l, Num n) ∨ b = true) (.condT rfl (cont_wp (by omega) (by omega))) fun b _ hb => ?_
  rcases hb with ⟨rfl, hl⟩ | rfl
  · refine .condF rfl ?_
    have hll : l.length ≤ 50 := by omega
    refine .seq (P := fun st => st = (l.map fun n => (⟨3, n, 0⟩ : Do), l.map fun n => (⟨5, n, 0⟩ : Do))) (.iter l.length (fun k st => st = ((l.take k).map fun n => (⟨3, n, 0⟩ : Do), (l.take k).map fun n => (⟨5, n, 0⟩ : Do), (k : Int))) (by omega) rfl ?_ ?_) fun st _ hst => ?_
    · rintro k st hk rfl
      simp only [alibkeep_ObjectRows_L5]
      refine .condT (decide_eq_true (by omega)) (.ix hk (.ck (limB_of ⟨?_, ?_⟩) (.ck (limB_of ⟨?_, ?_⟩) (.ck64 (by omega) (.one ?_)))))
      · simp only [List.length_map, List.length_take, List.length_singleton]; exact Nat.le_trans (m := 2000) (by omega) (by decide)
      · simp only [List.length_map, List.length_take, List.length_singleton]; omega
      · simp only [List.length_map, List.length_take, List.length_singleton]; exact Nat.le_trans (m := 2000) (by omega) (by decide)
      · simp only [List.length_map, List.length_take, List.length_singleton]; omega
      · show (_, _, _) = (_, _, _)
        rw [← List.take_append_getElem hk, List.map_append, List.map_append]
        simp
    · rintro st rfl
      simp only [alibkeep_ObjectRows_L5]
      refine .condF (decide_eq_false (by omega)) (.one ?_)
      rw [List.take_length]
    subst hst
    dsimp only
    refine .seq (P := fun st => st = ((l.map fun n => (⟨3, n, 0⟩ : Do)) ++ l.map fun n => (⟨4, 0, n⟩ : Do), (l.map fun n => (⟨5, n, 0⟩ : Do)) ++ l.reverse.map fun n => (⟨6, 0, n⟩ : Do))) (.iter l.length (fun k st => st = ((l.map fun n => (⟨3, n, 0⟩ : Do)) ++ (l.take k).map fun n => (⟨4, 0, n⟩ : Do), (l.map fun n => (⟨5, n, 0⟩ : Do)) ++ (l.reverse.take k).map fun n => (⟨6, 0, n⟩ : Do), (k : Int))) (by omega) (by simp) ?_ ?_) fun st _ hst => ?_
    · rintro k st hk rfl
      simp only [alibkeep_ObjectRows_L7]
      refine .condT (decide_eq_true (by omega)) (.ix hk (.ck64 (by omega) (.ck64 (by omega) (.ixD 0 (by omega) (by omega) (.ck (limB_of ⟨?_, ?_⟩) (.ck (limB_of ⟨?_, ?_⟩) (.ck64 (by omega) (.one ?_))))))))
      · simp only [List.length_append, List.length_map, List.length_take, List.length_singleton]; exact Nat.le_trans (m := 2000) (by omega) (by decide)
      · simp only [List.length_append, List.length_map, List.length_take, List.length_singleton]; omega
      · simp only [List.length_append, List.length_map, List.length_take, List.length_reverse, List.length_singleton]; exact Nat.le_trans (m := 2000) (by omega) (by decide)
      · simp only [List.length_append, List.length_map, List.length_take, List.length_reverse, List.length_singleton]; omega
      · show (_, _, _) = (_, _, _)
        have hr : k < l.reverse.length := by rw [List.length_reverse]; exact hk
        have e : l.getD ((l.length : Int) - 1 - (k : Int)).toNat 0 = l.reverse[k] := by
          rw [List.getElem_reverse, getD_of (by omega)]
          congr 1
          omega
        rw [e, ← List.take_append_getElem hk, ← List.take_append_getElem hr, List.map_append, List.map_append]
        simp
    · rintro st rfl
      simp only [alibkeep_ObjectRows_L7]
      refine .condF (decide_eq_false (by omega)) (.one ?_)
      rw [List.take_length, List.take_of_length_le (l := l.reverse) (by simp)]
    subst hst
    dsimp only
    have hq : (qd l).length ≤ 200 := by unfold qd; simp; omega
    have hs : (sd l).length ≤ 200 := by unfold sd; simp; omega
    have P1 := play_whole (N := N) (by omega) (typ := 2) (by unfold Ty; omega) hq ⟨_, run_qd hll hl⟩
    have P2 := play_whole (N := N) (by omega) (typ := 3) (by unfold Ty; omega) hs ⟨_, run_sd hll hl⟩
    unfold qd at P1
    unfold sd at P2
    refine .ck (limB_of ⟨?_, ?_⟩) (.ck (limB_of ⟨?_, ?_⟩) (.seq P1 fun r1 _ ⟨a1, a2⟩ => .seq P2 fun r2 _ ⟨b1, b2⟩ => .seq (okr_wp (by simp; omega) (by simp)) fun t _ ht => .one ?_))
    · simp only [List.length_append, List.length_map, List.length_singleton]; exact Nat.le_trans (m := 2000) (by omega) (by decide)
    · simp only [List.length_append, List.length_map, List.length_singleton]; omega
    · simp only [List.length_append, List.length_map, List.length_reverse, List.length_singleton]; exact Nat.le_trans (m := 2000) (by omega) (by decide)
    · simp only [List.length_append, List.length_map, List.length_reverse, List.length_singleton]; omega
    · rw [ht.2 (fun x hx => by
        rcases List.mem_cons.1 hx with rfl | hx
        · exact a2
        · rcases List.mem_cons.1 hx with rfl | hx
          · exact b2
          · cases hx), a1, b1]
      simp
  · exact .condT rfl (.bdO hL (.one rfl))
end Ob

end Go.Proofs.Ytpakplmpihhmbaa
