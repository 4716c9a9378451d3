/- BagsOwn, plainly. -/
import Derived.Test.YtolneilkgjglkaaB6
set_option linter.unusedVariables false
set_option linter.unusedSimpArgs false
set_option linter.unusedSectionVars false
set_option maxRecDepth 100000
namespace Go.Proofs.Ytolneilkgjglkaa
open Go.RowKit
namespace Bg
open Hs Rl Sr
theorem Part_wp {N : Nat} (hN : 300 < N) (l : List Event) (n : Int) : Wp (bags_Part N l n) fun r => r.2 ≠ 0 ∨ (r.2 = 0 ∧ (1 ≤ n ∧ n ≤ 1000) ∧ bags_part N l n = some r.1) := by
  obtain ⟨⟨c, e, er⟩, hc, h⟩ := calls_rn (types := [4]) (l := l) hN
  unfold bags_Part
  refine .bdO (a := ()) rfl (.bdO hc ?_)
  by_cases h0 : er = 0
  · subst h0
    obtain ⟨ht, _, hl, _, op, R⟩ := h rfl
    obtain ⟨p, h1, _⟩ := part_wp hN hl R n
    refine .condF rfl (.cond (fun _ => .one (.inl (by simp))) fun h2 => .bdO h1 (.one (.inr ⟨rfl, ?_, h1⟩)))
    simp only [Bool.or_eq_false_iff, decide_eq_false_iff_not] at h2
    omega
  · exact .condT (by simpa using h0) (.one (.inl h0))
theorem Part_ok {N : Nat} (hN : 300 < N) (ht : history_Types N [4] = some 0) {l : List Event} {c : List Call} {op : List Int} (hl : l.length ≤ 200) (R : Rn N [4] l l.length c op) {n : Int} (hn : 1 ≤ n ∧ n ≤ 1000) {p : List Event} (hp : bags_part N l n = some p) : bags_Part N l n = some (p, 0) := by
  unfold bags_Part
  refine Wp.eq (.bdO (a := ()) rfl (.bdO (calls_of hN ht hl R) (.condF rfl (.condF ?_ (.bdO hp (.one rfl))))))
  rw [decide_eq_false (by omega), decide_eq_false (by omega)]; rfl
theorem eqE_ok {N : Nat} {a b : List Event} (hN : b.length < N) (hb : b.length ≤ 1000) (h : a = b) : slices_Equal_api_Event_api_Event N a b = some true := by
  subst h
  unfold slices_Equal_api_Event_api_Event
  refine Wp.eq (.condF (by simp) (.elim (P := fun t => match t with | .inl _ => True | .inr _ => False) (.iter a.length (fun k v => v = (k : Int)) hN rfl ?_ ?_) (fun _ _ _ => .one rfl) (fun _ _ h => h.elim)))
  · rintro k v hk rfl
    simp only [slices_Equal_api_Event_api_Event_L3]
    exact .condT (decide_eq_true (by omega)) (.ix hk (.ix hk (.condF (by simp) (.ck64 (by omega) (.one (by simp))))))
  · rintro v rfl
    simp only [slices_Equal_api_Event_api_Event_L3]
    exact .condF (decide_eq_false (by omega)) (.one trivial)
theorem contains_wp {N : Nat} {s : List Int} (hN : s.length < N) (hs : s.length ≤ 1000) (n : Int) : Wp (slices_Contains_int_int N s n) fun b => b = decide (n ∈ s) := by
  unfold slices_Contains_int_int slices_Index_int_int
  refine .seq (P := fun r => decide (0 ≤ r) = decide (n ∈ s)) (.elim (P := fun t => match t with | .inl _ => n ∉ s | .inr r => 0 ≤ r ∧ n ∈ s) (.iter s.length (fun k v => v = (k : Int) ∧ n ∉ s.take k) hN ⟨rfl, by simp⟩ ?_ ?_) (fun _ _ h => .one ?_) (fun r _ h => .one ?_)) fun r _ h => .one h
  · rintro k v hk ⟨rfl, h⟩
    simp only [slices_Index_int_int_L3]
    refine .condT (decide_eq_true (by omega)) (.ix hk (.cond (fun h2 => .one ⟨by omega, ?_⟩) fun h2 => .ck64 (by omega) (.one ⟨by simp, ?_⟩)))
    · rw [of_decide_eq_true h2]; exact List.getElem_mem hk
    · rw [List.take_add_one, List.getElem?_eq_getElem hk]
      intro h3
      rcases List.mem_append.1 h3 with h3 | h3
      · exact h h3
      · exact (of_decide_eq_false h2) (by simpa using h3)
  · rintro v ⟨rfl, h⟩
    simp only [slices_Index_int_int_L3]
    rw [List.take_length] at h
    exact .condF (decide_eq_false (by omega)) (.one h)
  · rw [decide_eq_false h]; rfl
  · rw [decide_eq_true h.1, decide_eq_true h.2]
theorem alone {K : List Int} {n : Int} (h : K.Pairwise (· < ·)) (h2 : ∀ x ∈ K, x = n) : K = [] ∨ K = [n] := by
  cases K with
  | nil => exact .inl rfl
  | cons a K =>
    cases K with
    | nil => exact .inr (by rw [h2 a (.head _)])
    | cons b K =>
      have h3 := (List.pairwise_cons.1 h).1 b (.head _)
      have := h2 a (.head _)
      have := h2 b (.tail _ (.head _))
      omega
theorem sub_arg {N : Nat} {types : List Int} {n : Int} {p : List Event} {k : Nat} {out out' : List Call} {op op' : List Int} {idx pos : List Nat} (P : SubH N types (gA n) p k out out' op op' idx pos) : ∀ i, i < out'.length → (out'.getD i Call.z).arg = n := by
  intro i hi
  have hil := P.ilen
  have hm := mem_getD (idx := idx) (i := i) (by omega)
  have := (P.cov _ (P.ilt _ hm)).1 hm
  rw [(P.one i hi).arg]
  exact of_decide_eq_true this
theorem ownLaw {N : Nat} (hN : 5000 < N) (hL : alibkeep_bagsLives N = some true) (l : List Event) (n : Int) : alibkeep_BagsOwn N l n = some true := by
  refine Wp.eq ?_
  unfold alibkeep_BagsOwn
  refine .seq (check_all (by omega) l) fun r _ hr => .seq (Part_wp (by omega) l n) fun r2 _ hr2 => ?_
  refine .seq (P := fun v => v = !(decide (r.2 = 0 ∧ r2.2 = 0))) (.bdO hL (.condT rfl (.bdO (Ob.ok2 (by omega) _ _) (.one rfl)))) fun v _ hv => ?_
  subst hv
  by_cases hok : r.2 = 0 ∧ r2.2 = 0
  · rw [decide_eq_true hok]
    refine .condF rfl ?_
    rcases hr with ⟨h, _⟩ | ⟨_, ht, hl, c, op, R, F, K, hK, hKm, hr1⟩
    · exact (h hok.1).elim
    rcases hr2 with h | ⟨_, hn, hp⟩
    · exact (h hok.2).elim
    obtain ⟨p, rf, c', op', idx, pos, q1, q2, q3, q4, P, q5⟩ := okF_wp (by omega) ht hl R (F n)
    rw [hp] at q1
    obtain rfl : r2.1 = p := Option.some.inj q1
    have hle := sub_cnt P
    have F' : Few c' := fun m => by
      have := List.count_le_length (a := m) (l := c'.map (·.arg))
      have := F n
      rw [List.length_map] at *
      omega
    have ha := sub_arg P
    have hps := part_same (by omega) (by omega) P.run ha
    refine .seq (check_rn (by omega) ht (by omega) P.run) fun r3 _ hr3 => .bdO (Part_ok (by omega) ht (by omega) P.run hn hps) ?_
    rcases hr3 with ⟨h, _⟩ | ⟨_, h3, K', hK', hKm', hr3⟩
    · exact (h F').elim
    have hb : okF N r2.1 n = okF N l n := by unfold okF; rw [hps, hp]
    refine .bdO (Ob.ok2 (by omega) _ _) ?_
    rw [decide_eq_true ⟨h3, rfl⟩]
    refine .bdO (a := true) (cond_of rfl |>.trans (eqE_ok (by omega) (by omega) rfl)) (.condF rfl ?_)
    have hKl : K'.length ≤ 1 := by
      rcases alone hK' (fun x hx => by obtain ⟨i, hi, e⟩ := (hKm' x).1 hx; rw [← e]; exact ha i hi) with h | h <;> rw [h] <;> simp
    have hrl : r.1.length ≤ 1000 := by
      have h1 : K.Nodup := hK.imp fun h => by omega
      have h2 : K.length ≤ c.length := by
        have h4 : ∀ x ∈ K, x ∈ c.map (·.arg) := fun x hx => by
          obtain ⟨i, hi, e⟩ := (hKm x).1 hx
          rw [getD_of hi] at e
          exact List.mem_map.2 ⟨_, List.getElem_mem hi, e⟩
        have := List.Nodup.length_le_of_subset h1 h4
        rwa [List.length_map] at this
      have := R.wf.len
      have := List.length_filter_le (fun n => !okF N l n) K
      rw [hr1]; omega
    refine .seq (contains_wp (by omega) hrl n) fun b _ hb2 => ?_
    subst hb2
    have hK2 : n ∈ K ↔ K' = [n] := by
      rw [hKm]
      constructor
      · rintro ⟨i, hi, e⟩
        rcases alone hK' (fun x hx => by obtain ⟨i, hi, e⟩ := (hKm' x).1 hx; rw [← e]; exact ha i hi) with h | h
        · exfalso
          have h5 : 0 < (c.map (·.arg)).count n := List.count_pos_iff.2 (by rw [getD_of hi] at e; exact List.mem_map.2 ⟨_, List.getElem_mem hi, e⟩)
          have h6 : n ∈ K' := (hKm' n).2 ⟨0, by omega, ha 0 (by omega)⟩
          rw [h] at h6; cases h6
        · exact h
      · intro h
        obtain ⟨i, hi, e⟩ := (hKm' n).1 (by rw [h]; simp)
        have hil := P.ilen
        have hm := mem_getD (idx := idx) (i := i) (by omega)
        exact ⟨_, P.ilt _ hm, by rw [← (P.one i hi).arg]; exact e⟩
    by_cases hm : n ∈ r.1
    · rw [decide_eq_true hm]
      rw [hr1, List.mem_filter] at hm
      have e : r3.1 = [n] := by
        rw [hr3, hK2.1 hm.1, List.filter_cons, if_pos (by rw [hb]; exact hm.2)]; rfl
      rw [e]
      exact .condT rfl (.bdO (a := true) (by obtain ⟨M, rfl⟩ : ∃ M, N = M + 2 := ⟨N - 2, by omega⟩; simp [slices_Equal_int_int, slices_Equal_int_int_L3, iter, bd, ix, ck, ok64]) (.one rfl))
    · rw [decide_eq_false hm]
      refine .condF rfl (.one (decide_eq_true ?_))
      have e : r3.1 = [] := by
        rw [hr3]
        refine filter_none fun x hx => ?_
        rcases alone hK' (fun x hx => by obtain ⟨i, hi, e⟩ := (hKm' x).1 hx; rw [← e]; exact ha i hi) with h | h
        · rw [h] at hx; cases hx
        · rw [h] at hx
          rw [List.mem_singleton.1 hx, hb]
          have h7 := hK2.2 h
          rw [hr1, List.mem_filter] at hm
          cases h8 : okF N l n with
          | true => rfl
          | false => exact (hm ⟨h7, by rw [h8]; rfl⟩).elim
      rw [e]; rfl
  · rw [decide_eq_false hok]
    exact .condT rfl (.bdO hL (.one rfl))
/-! Sorted so that it can be worked out. -/
def ins1 (a : Int) : List Int → List Int
  | [] => [a]
  | b :: l => if a ≤ b then a :: b :: l else b :: ins1 a l
def isort : List Int → List Int
  | [] => []
  | a :: l => ins1 a (isort l)
theorem ins1_perm (a : Int) : ∀ l, (ins1 a l).Perm (a :: l)
  | [] => .refl _
  | b :: l => by
    unfold ins1
    split
    · exact .refl _
    · exact ((ins1_perm a l).cons b).trans (.swap a b l)
theorem isort_perm : ∀ l, (isort l).Perm l
  | [] => .refl _
  | a :: l => (ins1_perm a _).trans ((isort_perm l).cons a)
theorem ins1_sorted (a : Int) : ∀ {l : List Int}, l.Pairwise (· ≤ ·) → (ins1 a l).Pairwise (· ≤ ·)
  | [], _ => by simp [ins1]
  | b :: l, h => by
    obtain ⟨h1, h2⟩ := List.pairwise_cons.1 h
    unfold ins1
    split
    · rename_i e
      refine List.pairwise_cons.2 ⟨fun x hx => ?_, h⟩
      rcases List.mem_cons.1 hx with rfl | hx
      · exact e
      · have := h1 x hx; omega
    · rename_i e
      refine List.pairwise_cons.2 ⟨fun x hx => ?_, ins1_sorted a h2⟩
      rcases List.mem_cons.1 ((ins1_perm a l).mem_iff.1 hx) with rfl | hx
      · omega
      · exact h1 x hx
theorem isort_sorted : ∀ l, (isort l).Pairwise (· ≤ ·)
  | [] => .nil
  | a :: l => ins1_sorted a (isort_sorted l)
theorem isort_eq (l : List Int) : (l.mergeSort fun x y => decide (x ≤ y)) = isort l := by
  have h : (l.mergeSort fun x y => decide (x ≤ y)).Pairwise fun x y => decide (x ≤ y) = true := List.pairwise_mergeSort (fun a b c h1 h2 => by simp only [decide_eq_true_eq] at *; omega) (fun a b => by simp only [Bool.or_eq_true, decide_eq_true_eq]; omega) _
  exact List.Perm.eq_of_pairwise (le := (· ≤ ·)) (fun a b _ _ h1 h2 => by omega) (h.imp fun h => of_decide_eq_true h) (isort_sorted l) ((List.mergeSort_perm ..).trans (isort_perm l).symm)
def skeys2 (m : List (Int × Int)) : Option (List Int) := if (m.all fun p => wfI p.1 && wfI p.2) = true ∧ m.length ≤ 1000000 then some (isort (m.map (·.1))) else none
theorem skeys_eq : skeys = skeys2 := by
  funext m
  unfold skeys skeys2
  rw [isort_eq]
theorem lives : alibkeep_bagsLives 18446744073709551616 = some true := by
  unfold alibkeep_bagsLives bags_Check sortedKeys73
  rw [skeys_eq]
  kernel_rfl
end Bg

end Go.Proofs.Ytolneilkgjglkaa
