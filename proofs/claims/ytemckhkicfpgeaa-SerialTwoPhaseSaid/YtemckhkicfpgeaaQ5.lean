/- SerialFront, plainly. -/
import Derived.Test.YtemckhkicfpgeaaQ3
set_option linter.unusedVariables false
set_option linter.unusedSimpArgs false
set_option linter.unusedSectionVars false
set_option maxRecDepth 100000
namespace Go.Proofs.Ytemckhkicfpgeaa
open Go.RowKit
namespace Se
open Rl
theorem ok_wp {N : Nat} {l : List Int} (hN : l.length < N) (hl : l.length ≤ 1000) : Wp (alibkeep_ok N l) fun r => r = true ↔ ∀ x ∈ l, x = 0 := by
  unfold alibkeep_ok
  refine .elim (P := fun t => match t with | .inl _ => ∀ x ∈ l, x = 0 | .inr r => r = false ∧ ∃ x ∈ l, x ≠ 0) (.iter l.length (fun k v => v = (k : Int) ∧ ∀ j, (h : j < l.length) → j < k → l[j] = 0) hN ⟨rfl, fun j _ h => absurd h (Nat.not_lt_zero _)⟩ ?_ ?_) (fun _ _ h => .one ⟨fun _ => h, fun _ => rfl⟩) (fun r _ h => .one ?_)
  · rintro k v hk ⟨rfl, hr⟩
    simp only [alibkeep_ok_L3]
    refine .condT (decide_eq_true (by omega)) (.ix hk (.cond (fun h => .one ⟨rfl, l[k], List.getElem_mem hk, by simpa using h⟩) (fun h => .ck64 (by omega) (.one ⟨by simp, fun j hj hjk => ?_⟩))))
    rcases Nat.lt_or_ge j k with h1 | h1
    · exact hr j hj h1
    · obtain rfl : j = k := by omega
      simpa using h
  · rintro v ⟨rfl, hr⟩
    simp only [alibkeep_ok_L3]
    refine .condF (decide_eq_false (by omega)) (.one fun x hx => ?_)
    obtain ⟨j, hj, rfl⟩ := List.mem_iff_getElem.1 hx
    exact hr j hj hj
  · have h : r = false ∧ ∃ x ∈ l, x ≠ 0 := h
    obtain ⟨rfl, x, hx, hn⟩ := h
    exact ⟨fun h => (by cases h), fun h => absurd (h x hx) hn⟩
theorem others_wp {N : Nat} (hN : 300 < N) {t : List (List Int)} {who item : Int} (hi : 0 ≤ item ∧ item < 6) : Wp (serial_table_others N t who item) fun _ => True := by
  unfold serial_table_others
  refine .seq (P := fun _ => True) (.iter 6 (fun k st => st.2 = (k : Int)) (by omega) rfl ?_ ?_) fun _ _ _ => .one trivial
  · rintro k ⟨o, v⟩ hk hv
    simp only at hv
    subst hv
    simp only [serial_table_others_L3]
    exact .condT (decide_eq_true (by omega)) (.cond (fun _ => .ax (by omega) (by omega) (.ax (by omega) (by omega) (.ck64 (by omega) (.one (by simp))))) fun _ => .ck64 (by omega) (.one (by simp)))
  · rintro ⟨o, v⟩ hv
    simp only at hv
    subst hv
    simp only [serial_table_others_L3]
    exact .condF (decide_eq_false (by omega)) (.one trivial)
theorem can_wp {N : Nat} (hN : 300 < N) {t : List (List Int)} {d : Deed} (h : OkD d) : Wp (serial_table_can N t d) fun _ => True := by
  unfold OkD at h
  unfold serial_table_can
  refine .ax (by omega) (by omega) (.ax (by omega) (by omega) (.seq (others_wp hN (by omega)) fun r _ _ => ?_))
  have hk : d.kind = 0 ∨ d.kind = 1 ∨ d.kind = 2 ∨ d.kind = 3 ∨ d.kind = 4 := by omega
  rcases hk with h | h | h | h | h <;> rw [h] <;> exact ⟨_, rfl, trivial⟩
theorem step_wp {N : Nat} (hN : 300 < N) {l : List Deed} {k : Nat} (hk : k < l.length) (hl : l.length ≤ 60) (h : OkD (l.getD k Deed.z)) (T : List (List Int)) (R : List Bool) (a b : Bool) :
    Wp (serial_Locks_L3 N l (T, R, a, b, (k : Int))) fun t => ∃ T' R' a' b', t = .inl (T', R', a', b', (k : Int) + 1) ∧ (a' = true → a = true) ∧ (b' = true → b = true) := by
  have h' := h
  unfold OkD at h'
  simp only [serial_Locks_L3]
  refine .condT (decide_eq_true (by omega)) (.ixD Deed.z (Int.natCast_nonneg k) (by omega) ?_)
  simp only [Int.toNat_natCast]
  refine .seq (P := fun x => x = true → a = true) (.cond (fun _ => .seq (can_wp hN h) fun r _ _ => .one fun hx => (Bool.and_eq_true .. ▸ hx).1) fun _ => .one fun hx => by simp at hx) fun a' _ ha => ?_
  refine .seq (P := fun _ => True) (.cond (fun _ => .one trivial) fun _ => .one trivial) fun v _ _ => .cond (fun _ => ?_) fun _ => .cond (fun _ => ?_) fun _ => ?_
  · exact .gd _ (fun _ => ax_int h'.1 (by omega)) fun x _ => .ax (by omega) (by omega) (.ax (by omega) (by omega) (.ax (by omega) (by omega) (.ax (by omega) (by omega) (.ck64 (by omega) (.one ⟨_, _, _, _, rfl, ha, fun hx => (Bool.and_eq_true .. ▸ hx).1⟩)))))
  · exact .ax (by omega) (by omega) (.ax (by omega) (by omega) (.ax (by omega) (by omega) (.ck64 (by omega) (.one ⟨_, _, _, _, rfl, ha, id⟩))))
  · exact .ck64 (by omega) (.one ⟨_, _, _, _, rfl, ha, id⟩)
/-- The locks behind so many deeds. -/
inductive Lk (N : Nat) (l : List Deed) : Nat → (List (List Int) × List Bool × Bool × Bool) → Prop
  | zero : Lk N l 0 ([], [], true, true)
  | succ {k : Nat} {T T' : List (List Int)} {R R' : List Bool} {a a' b b' : Bool} : Lk N l k (T, R, a, b) → k < l.length → serial_Locks_L3 N l (T, R, a, b, (k : Int)) = some (.inl (T', R', a', b', (k : Int) + 1)) → Lk N l (k + 1) (T', R', a', b')
theorem Lk.det {N : Nat} {l : List Deed} {k : Nat} {s s' : List (List Int) × List Bool × Bool × Bool} (h : Lk N l k s) (h' : Lk N l k s') : s = s' := by
  induction h generalizing s' with
  | zero => cases h'; rfl
  | succ h1 _ h2 ih =>
    cases h' with
    | succ h3 _ h4 =>
      have := ih h3
      cases this
      rw [h2] at h4
      cases h4
      rfl
theorem Lk.take {N : Nat} {l : List Deed} {n k : Nat} {s : List (List Int) × List Bool × Bool × Bool} (h : Lk N (l.take n) k s) : Lk N l k s := by
  induction h with
  | zero => exact .zero
  | @succ k T T' R R' a a' b b' _ hk h2 ih =>
    have hk2 : k < l.length ∧ k < n := by rw [List.length_take] at hk; omega
    refine .succ ih hk2.1 ?_
    rw [← h2]
    simp only [serial_Locks_L3]
    rw [decide_eq_true (show (k : Int) < (l.length : Int) by omega), decide_eq_true (show (k : Int) < ((l.take n).length : Int) by omega), ix_nat, ix_nat, List.getElem?_take, if_pos hk2.2]
theorem Lk.mono {N : Nat} (hN : 300 < N) {l : List Deed} (D : Dd l) {k m : Nat} {s s' : List (List Int) × List Bool × Bool × Bool} (h : Lk N l k s) (h' : Lk N l m s') (hkm : k ≤ m) : (s'.2.2.1 = true → s.2.2.1 = true) ∧ (s'.2.2.2 = true → s.2.2.2 = true) := by
  induction h' with
  | zero =>
    obtain rfl : k = 0 := by omega
    rw [h.det .zero]; exact ⟨id, id⟩
  | @succ m T T' R R' a a' b b' h1 hm h2 ih =>
    rcases Nat.lt_or_ge m k with hk | hk
    · obtain rfl : k = m + 1 := by omega
      rw [h.det (.succ h1 hm h2)]; exact ⟨id, id⟩
    · obtain ⟨t, e, T2, R2, a2, b2, rfl, ha, hb⟩ := step_wp hN hm D.1 (D.2 m hm) T R a b
      rw [h2] at e
      cases e
      exact ⟨fun hx => (ih hk).1 (ha hx), fun hx => (ih hk).2 (hb hx)⟩
theorem locks_wp {N : Nat} {l : List Deed} (hN : 300 < N) : Wp (serial_Locks N l) fun r => (Dd l ∧ r.2.2 = 0 ∧ ∃ T R, Lk N l l.length (T, R, r.1, r.2.1)) ∨ (¬ Dd l ∧ r.2.2 ≠ 0) := by
  unfold serial_Locks
  refine .seq (check_wp hN) fun r _ hr => .cond (fun h => .one (.inr ?_)) fun h => ?_
  · rcases hr with ⟨h0, _⟩ | ⟨h0, hn⟩
    · rw [h0] at h; cases h
    · exact ⟨hn, h0⟩
  · obtain ⟨h0, D⟩ : r.2 = 0 ∧ Dd l := by
      rcases hr with h0 | ⟨h0, hn⟩
      · exact h0
      · simp [h0] at h
    refine .seq (P := fun s => ∃ T R, Lk N l l.length (T, R, s.1, s.2)) (.iter l.length (fun k s => s.2.2.2.2 = (k : Int) ∧ Lk N l k (s.1, s.2.1, s.2.2.1, s.2.2.2.1)) (by have := D.1; omega) ⟨rfl, .zero⟩ ?_ ?_) fun s _ hs => .one (.inl ⟨D, rfl, hs⟩)
    · rintro k ⟨T, R, a, b, v⟩ hk ⟨hv, hL⟩
      simp only at hv hL
      subst hv
      obtain ⟨t, e, T2, R2, a2, b2, rfl, _, _⟩ := step_wp hN hk D.1 (D.2 k hk) T R a b
      exact ⟨_, e, by simp, .succ hL hk e⟩
    · rintro ⟨T, R, a, b, v⟩ ⟨hv, hL⟩
      simp only at hv hL
      subst hv
      simp only [serial_Locks_L3]
      exact .condF (decide_eq_false (by omega)) (.one ⟨T, R, hL⟩)
theorem dd_take {l : List Deed} (D : Dd l) (n : Nat) : Dd (l.take n) := by
  refine ⟨by rw [List.length_take]; have := D.1; omega, fun i hi => ?_⟩
  rw [List.length_take] at hi
  have := D.2 i (by omega)
  rwa [List.getD_eq_getElem?_getD, List.getElem?_take, if_pos (by omega), ← List.getD_eq_getElem?_getD]
theorem gr_take {l : List Deed} {n i j : Nat} (h : gr (l.take n) (l.take n).length i j = true) : gr l l.length i j = true := by
  rw [gr_iff] at h ⊢
  obtain ⟨p, q, hq, h⟩ := h
  have hpq : p < q := by unfold cf at h; simp only [Bool.and_eq_true, decide_eq_true_eq] at h; exact h.1.1.1
  rw [List.length_take] at hq
  refine ⟨p, q, by omega, ?_⟩
  unfold cf at h ⊢
  have e : ∀ x, x < n → (l.take n).getD x Deed.z = l.getD x Deed.z := fun x hx => by rw [List.getD_eq_getElem?_getD, List.getElem?_take, if_pos hx, ← List.getD_eq_getElem?_getD]
  rwa [e p (by omega), e q (by omega)] at h
theorem frontLaw {N : Nat} (hN : 300 < N) (hL : alibkeep_serialLives N = some true) (l : List Deed) (n : Int) : alibkeep_SerialFront N l n = some true := by
  refine Wp.eq ?_
  unfold alibkeep_SerialFront
  refine .seq (graph_wp (l := l) hN) fun r _ hr => .seq (locks_wp (l := l) hN) fun s _ hs => ?_
  refine .seq (P := fun b => b = false → r.2.2 = 0 ∧ s.2.2 = 0 ∧ 0 ≤ n ∧ n ≤ l.length) (.bdO hL (.condT rfl (.seq (ok_wp (by simp; omega) (by simp)) fun o _ ho => .one fun hb => ?_))) fun b _ hb => .cond (fun _ => .bdO hL (.one rfl)) fun hf => ?_
  · simp only [Bool.or_eq_false_iff, decide_eq_false_iff_not, Bool.not_eq_false'] at hb
    have h2 := ho.1 hb.1.1.2
    exact ⟨h2 _ (by simp), h2 _ (by simp), by omega, by omega⟩
  · obtain ⟨h1, h2, h3, h4⟩ := hb hf
    obtain ⟨D, hn, hA⟩ : Dd l ∧ r.1 = 6 ∧ ∀ i, i < 12 → Row (r.2.1.getD i 0) (gr l l.length i) := by
      rcases hr with ⟨D, hn, _, hA⟩ | ⟨_, he⟩
      · exact ⟨D, hn, hA⟩
      · exact (he h1).elim
    obtain ⟨T, R, hLk⟩ : ∃ T R, Lk N l l.length (T, R, s.1, s.2.1) := by
      rcases hs with ⟨_, _, h⟩ | ⟨_, he⟩
      · exact h
      · exact (he h2).elim
    obtain ⟨n, rfl⟩ : ∃ m : Nat, n = m := ⟨n.toNat, by omega⟩
    simp only [Int.toNat_natCast]
    refine .ck (show slB _ _ _ = true by simp [slB]; omega) (.seq (graph_wp (l := l.take n) hN) fun r2 _ hr2 => .ck (show slB _ _ _ = true by simp [slB]; omega) (.seq (locks_wp (l := l.take n) hN) fun s2 _ hs2 => ?_))
    rcases hr2 with ⟨_, hn2, he2, hA2⟩ | ⟨hno, _⟩
    · rcases hs2 with ⟨_, he3, T2, R2, hLk2⟩ | ⟨hno, _⟩
      · have hlt : (l.take n).length = n := by rw [List.length_take]; omega
        rw [hlt] at hLk2
        have hm := Lk.mono hN D hLk2.take hLk (by omega)
        simp only at hm
        refine .elim (P := fun t => t = .inl ()) (.iter 12 (fun k v => v = (k : Int)) (by omega) rfl ?_ ?_) (fun _ _ _ => ?_) (fun _ _ h => by cases h)
        · rintro k v hk rfl
          simp only [alibkeep_SerialFront_L3]
          refine .condT (decide_eq_true (by omega)) (.axN hk (.axN hk (.condF ?_ (.ck64 (by omega) (.one (by simp))))))
          rw [((hA2 k hk).clr (hA k hk)).empty.2 fun j => ?_]
          · rfl
          · cases hg : gr (l.take n) (l.take n).length k j with
            | false => rfl
            | true => rw [gr_take hg]; rfl
        · rintro v rfl
          simp only [alibkeep_SerialFront_L3]
          exact .condF (decide_eq_false (by omega)) (.one rfl)
        · refine .seq (ok_wp (by simp; omega) (by simp)) fun o _ ho => ?_
          have ho2 : o = true := ho.2 (by simp [he2, he3])
          have hu : RelU ⟨r.1, r.2.1⟩ := fun i hi => (hA i hi).rng
          have hV : RelV ⟨r.1, r.2.1⟩ 6 := ⟨hu, hn, by decide, fun i j hp => by
            have hi := pOf_lt hp
            have hg : gr l l.length i j = true := by rw [← (hu.row hi).uniq (hA i hi) j]; exact hp
            obtain ⟨p, q, hq, h⟩ := gr_iff.1 hg
            unfold cf at h
            simp only [Bool.and_eq_true, decide_eq_true_eq] at h
            have d1 := D.2 p (by omega)
            have d2 := D.2 q hq
            unfold OkD at d1 d2
            omega⟩
          have hck : order_Check N ⟨r.1, r.2.1⟩ = some 0 := by
            obtain ⟨e, h5, h6⟩ := ordCheck_wp (N := N) hN hu
            rcases h6 with ⟨rfl, _⟩ | ⟨_, hv⟩
            · exact h5
            · exact (hv 6 hV).elim
          have g1 : ((!s.1) || s2.1) = true := by
            cases hx : s.1 with
            | false => rfl
            | true => rw [hm.1 hx]; rfl
          have g2 : ((!s.2.1) || s2.2.1) = true := by
            cases hx : s.2.1 with
            | false => rfl
            | true => rw [hm.2 hx]; rfl
          rw [ho2, g1, g2]
          exact .gd 0 (fun _ => hck) fun x hx => .one (by rw [hx rfl]; rfl)
      · exact (hno (dd_take D n)).elim
    · exact (hno (dd_take D n)).elim
end Se

end Go.Proofs.Ytemckhkicfpgeaa
