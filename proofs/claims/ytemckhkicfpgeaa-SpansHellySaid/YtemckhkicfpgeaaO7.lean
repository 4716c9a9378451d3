/- Chain; OrderMirsky. -/
import Derived.Test.YtemckhkicfpgeaaO6
set_option linter.unusedVariables false
set_option linter.unusedSimpArgs false
set_option linter.unusedSectionVars false
set_option maxRecDepth 100000
namespace Go.Proofs.Ytemckhkicfpgeaa
open Go.RowKit
namespace Rl
/-- What is known of the lengths. -/
structure Lk (n : Nat) (q : Nat → Nat → Bool) (k : List Int) : Prop where
  len : k.length = n
  rg : ∀ x, x < n → 1 ≤ at_ k x ∧ at_ k x ≤ n
  less : ∀ x y, q x y = true → at_ k y + 1 ≤ at_ k x
  on : ∀ x (v : Nat), x < n → at_ k x = (v : Int) + 1 → 1 ≤ v → ∃ y, q x y = true ∧ at_ k y = v
  is : ∀ x, x < n → ch (tp q) ((at_ k x).toNat - 1) x
  most : ∀ m x, x < n → ch (tp q) m x → (m : Int) + 1 ≤ at_ k x
theorem lk_of {n : Nat} {q : Nat → Nat → Bool} (H : Acy n q) {k : List Int} (R : Ln n q k) (hm : ∀ m x, x < n → ch (tp q) m x → (m : Int) + 1 ≤ at_ k x) : Lk n q k := by
  have h1 : ∀ x, x < n → 1 ≤ at_ k x := fun x hx => by have := hm 0 x hx trivial; omega
  have is : ∀ x, x < n → ch (tp q) ((at_ k x).toNat - 1) x := fun x hx => R.is x hx (by have := h1 x hx; omega)
  have less : ∀ x y, q x y = true → at_ k y + 1 ≤ at_ k x := fun x y hq => by
    obtain ⟨hx, hy⟩ := H.inn x y hq
    have g1 := h1 y hy
    have := hm ((at_ k y).toNat - 1 + 1) x hx ⟨y, hq, is y hy⟩
    omega
  refine ⟨R.len, fun x hx => ⟨h1 x hx, (R.nn x hx).2⟩, less, fun x v hx hv h1v => ?_, is, hm⟩
  have h2 := is x hx
  rw [show (at_ k x).toNat - 1 = (v - 1) + 1 by omega] at h2
  obtain ⟨y, hy, hc⟩ := h2
  have g1 := less x y hy
  have g2 := hm _ y (H.inn x y hy).2 hc
  exact ⟨y, hy, by omega⟩
structure Cha (n : Nat) (q : Nat → Nat → Bool) (o : List Nat) : Prop where
  lt : ∀ i, i < o.length → o.getD i 0 < n
  up : ∀ i, i + 1 < o.length → q (o.getD i 0) (o.getD (i + 1) 0) = true
abbrev ints_ (o : List Nat) : List Int := o.map fun (x : Nat) => (x : Int)
theorem ints_at {o : List Nat} {i : Nat} (h : i < o.length) : (ints_ o).getD i 0 = (o.getD i 0 : Nat) := by
  simp only [ints_, List.getD_eq_getElem?_getD, List.getElem?_map, List.getElem?_eq_getElem h]
  rfl
theorem getD_snoc {o : List Nat} {x i : Nat} : (o ++ [x]).getD i 0 = if i < o.length then o.getD i 0 else if i = o.length then x else 0 := by
  simp only [List.getD_eq_getElem?_getD]
  split
  · rw [List.getElem?_append_left (by assumption)]
  · rw [List.getElem?_append_right (by omega)]
    split
    · rename_i h; subst h; simp
    · rw [List.getElem?_eq_none (by simp; omega)]; rfl
theorem Cha.snoc {n : Nat} {q : Nat → Nat → Bool} {o : List Nat} (h : Cha n q o) {x : Nat} (hx : x < n) (hu : o ≠ [] → q (o.getD (o.length - 1) 0) x = true) : Cha n q (o ++ [x]) := by
  refine ⟨fun i hi => ?_, fun i hi => ?_⟩ <;> simp only [List.length_append, List.length_cons, List.length_nil] at hi
  · rw [getD_snoc]
    split
    · exact h.lt i (by assumption)
    · rw [if_pos (by omega)]; exact hx
  · rw [getD_snoc, getD_snoc, if_pos (by omega)]
    split
    · exact h.up i (by assumption)
    · rw [if_pos (by omega), show i = o.length - 1 by omega]
      exact hu (fun e => by subst e; simp at hi)
theorem chainMax {N : Nat} (hN : 5000 < N) {n : Nat} (hle : n ≤ 12) {q : Nat → Nat → Bool} {k : List Int} (K : Lk n q k) : ∃ M : Nat, iter (order_Chain_L17 N k) N (0, 0) = some (M : Int) ∧ M ≤ n ∧ (∀ x, x < n → at_ k x ≤ M) ∧ (M = 0 ∨ ∃ x, x < n ∧ at_ k x = M) := by
  have hlen := K.len
  have key : Wp (iter (order_Chain_L17 N k) N (0, 0)) fun M => 0 ≤ M ∧ (∀ x, x < n → at_ k x ≤ M) ∧ (M = 0 ∨ ∃ x, x < n ∧ at_ k x = M) := by
    refine .iter n (fun t st => st.2 = (t : Int) ∧ 0 ≤ st.1 ∧ (∀ x, x < t → at_ k x ≤ st.1) ∧ (st.1 = 0 ∨ ∃ x, x < n ∧ at_ k x = st.1)) (by omega) ⟨rfl, Int.le_refl _, fun x h => absurd h (Nat.not_lt_zero _), .inl rfl⟩ ?_ ?_
    · rintro t ⟨M, v⟩ ht ⟨hv, h0, h1, h2⟩
      simp only at hv h0 h1 h2
      subst hv
      simp only [order_Chain_L17]
      refine .condT (decide_eq_true (by omega)) (.ixD 0 (by omega) (by omega) (.ck64 (by omega) (.one ⟨by simp, ?_, fun x hx => ?_, ?_⟩)))
      · simp only; omega
      · simp only [Int.toNat_natCast]
        by_cases e : x = t
        · subst e; unfold at_; omega
        · have := h1 x (by omega); omega
      · simp only [Int.toNat_natCast]
        have := K.rg t ht
        unfold at_ at this
        rcases Int.le_total M (k.getD t 0) with h3 | h3
        · exact .inr ⟨t, ht, by rw [Int.max_eq_right h3]⟩
        · rw [Int.max_eq_left h3]; exact h2
    · rintro ⟨M, v⟩ ⟨hv, h0, h1, h2⟩
      simp only at hv h0 h1 h2
      subst hv
      simp only [order_Chain_L17]
      exact .condF (decide_eq_false (by omega)) (.one ⟨h0, h1, h2⟩)
  obtain ⟨M, h1, h2, h3, h4⟩ := key
  obtain ⟨m, rfl⟩ : ∃ m : Nat, M = m := ⟨M.toNat, by omega⟩
  refine ⟨m, h1, ?_, h3, ?_⟩
  · rcases h4 with h4 | ⟨x, hx, h4⟩
    · omega
    · have := (K.rg x hx).2; omega
  · rcases h4 with h4 | h4
    · exact .inl (by omega)
    · exact .inr h4
theorem chain_in {N : Nat} (hN : 5000 < N) {n : Nat} {A : List Int} {q : Nat → Nat → Bool} (C : CR ⟨n, A⟩ n q) (H : Acy n q) {k : List Int} (K : Lk n q k) {o : List Nat} {left : Int} (h1 : Cha n q o) (hlo : o.length ≤ 12)
    (hex : ∃ x, x < n ∧ at_ k x = left ∧ (o ≠ [] → q (o.getD (o.length - 1) 0) x = true)) :
    Wp (iter (order_Chain_L31 N ((n : Int), A, 0) k left (ints_ o)) N 0) fun o' => ∃ x, o' = ints_ (o ++ [x]) ∧ Cha n q (o ++ [x]) ∧ x < n ∧ at_ k x = left := by
  have hle := C.le; have hlen := K.len
  have hlo2 : (ints_ o).length = o.length := by simp [ints_]
  refine .iter n (fun t v => v = (t : Int) ∧ ∀ x, x < t → ¬ (at_ k x = left ∧ (o ≠ [] → q (o.getD (o.length - 1) 0) x = true))) (by omega) ⟨rfl, fun x h => absurd h (Nat.not_lt_zero _)⟩ ?_ ?_
  · rintro t v ht ⟨rfl, hI⟩
    simp only [order_Chain_L31]
    have hok : ok64 (((ints_ o).length : Int) - 1) = true := ok64_of (by omega)
    refine .condT (decide_eq_true (by omega)) (.ixD 0 (by omega) (by omega) (.ck (by rw [hok]; simp) ?_))
    rw [Int.toNat_natCast, hlo2]
    have hnil : o = [] ↔ o.length = 0 := List.length_eq_zero_iff.symm
    refine .gix 0 (fun hb => ?_) fun x hx => ?_
    · simp only [Bool.and_eq_true, beq_iff_eq, decide_eq_false_iff_not, decide_eq_true_eq] at hb
      omega
    have hx2 : at_ k t = left → o ≠ [] → x = (o.getD (o.length - 1) 0 : Nat) := by
      intro g1 g2
      have g3 : ¬ o.length = 0 := fun h => g2 (hnil.2 h)
      have g1' : k.getD t 0 = left := g1
      have := hx (by rw [decide_eq_true g1', decide_eq_false (show ¬ (o.length : Int) = 0 by omega)]; rfl)
      rw [this, show ((o.length : Int) - 1).toNat = o.length - 1 by omega, ints_at (by omega)]
    refine .gd (q (o.getD (o.length - 1) 0) t) (fun hb => ?_) fun b hb => ?_
    · simp only [Bool.and_eq_true, beq_iff_eq, decide_eq_false_iff_not, decide_eq_true_eq] at hb
      have g2 : o ≠ [] := fun h => hb.2 (by rw [h]; rfl)
      rw [hx2 hb.1 g2]
      exact has_ok C (by have := h1.lt (o.length - 1) (by omega); omega) (by omega)
    have hcond : (decide (k.getD t 0 = left) && (decide ((o.length : Int) = 0) || b)) = true ↔ (at_ k t = left ∧ (o ≠ [] → q (o.getD (o.length - 1) 0) t = true)) := by
      simp only [Bool.and_eq_true, decide_eq_true_eq, Bool.or_eq_true]
      constructor
      · rintro ⟨g1, g2⟩
        refine ⟨g1, fun g3 => ?_⟩
        have g4 : ¬ o.length = 0 := fun h => g3 (hnil.2 h)
        rcases g2 with g2 | g2
        · omega
        · have e := hb (by rw [decide_eq_true g1, decide_eq_false (show ¬ (o.length : Int) = 0 by omega)]; rfl)
          rw [← e]; exact g2
      · rintro ⟨g1, g2⟩
        have g1' : k.getD t 0 = left := g1
        refine ⟨g1, ?_⟩
        by_cases g4 : o.length = 0
        · exact .inl (by omega)
        · refine .inr ?_
          rw [hb (by rw [decide_eq_true g1', decide_eq_false (show ¬ (o.length : Int) = 0 by omega)]; rfl)]
          exact g2 fun h => g4 (hnil.1 h)
    refine .cond (fun h => ?_) fun h => .ck64 (by omega) (.one ⟨by simp, fun x hx => ?_⟩)
    · obtain ⟨g1, g2⟩ := hcond.1 h
      exact .ck (limB_of (by simp only [List.length_append, hlo2, List.length_cons, List.length_nil]; unfold maxLen; omega)) (.one ⟨t, by simp [ints_], h1.snoc ht g2, ht, g1⟩)
    · by_cases e : x = t
      · subst e
        intro hh
        rw [hcond.2 hh] at h; cases h
      · exact hI x (by omega)
  · rintro v ⟨rfl, hI⟩
    obtain ⟨x, g1, g2⟩ := hex
    exact (hI x g1 g2).elim
theorem chain_wp {N : Nat} (hN : 5000 < N) {r : Rel} {n : Nat} {A : List Int} {q : Nat → Nat → Bool} (C : CR ⟨n, A⟩ n q) (H : Acy n q) (ha : order_acyclic N r = some ((n : Int), A, 0)) :
    ∃ (k : List Int) (M : Nat) (o : List Nat), order_Chain N r = some (ints_ o, 0) ∧ Lk n q k ∧ M ≤ n ∧ (∀ x, x < n → at_ k x ≤ M) ∧ (M = 0 ∨ ∃ x, x < n ∧ at_ k x = M) ∧ Cha n q o ∧ o.length = M := by
  have hle := C.le
  obtain ⟨k, hk1, hk2, hk3⟩ := longest_wp hN C H
  have K := lk_of H hk2 hk3
  obtain ⟨M, m1, m2, m3, m4⟩ := chainMax hN hle K
  have key : Wp (order_Chain N r) fun t => t.2 = 0 ∧ ∃ o, t.1 = ints_ o ∧ Cha n q o ∧ o.length = M := by
    unfold order_Chain
    refine .bdO ha (.condF rfl (.bdO hk1 (.bdO m1 ?_)))
    refine .seq (P := fun t => ∃ o, t = ints_ o ∧ Cha n q o ∧ o.length = M) ?_ fun o _ ho => .one ⟨rfl, ho⟩
    refine .iter M (fun t st => st.2 = (M : Int) - t ∧ ∃ o, st.1 = ints_ o ∧ Cha n q o ∧ o.length = t ∧ (o ≠ [] → at_ k (o.getD (o.length - 1) 0) = (M : Int) - t + 1)) (by omega) ⟨by simp, [], rfl, ⟨fun i h => absurd h (Nat.not_lt_zero _), fun i h => absurd h (Nat.not_lt_zero _)⟩, rfl, fun h => (h rfl).elim⟩ ?_ ?_
    · rintro t ⟨o', left⟩ ht ⟨hv, o, ho, h1, h2, h3⟩
      simp only at hv ho
      subst hv; subst ho
      simp only [order_Chain_L29]
      refine .condT (decide_eq_true (by omega)) (.seq (chain_in hN C H K h1 (by omega) ?_) fun o'' _ ho'' => ?_)
      · by_cases e : o = []
        · subst e
          rcases m4 with m4 | ⟨x, hx, m4⟩
          · omega
          · simp at h2
            exact ⟨x, hx, by omega, fun h => (h rfl).elim⟩
        · have g0 : ¬ o.length = 0 := fun h => e (List.length_eq_zero_iff.1 h)
          obtain ⟨y, hy, gy⟩ := K.on (o.getD (o.length - 1) 0) (M - t) (h1.lt _ (by omega)) (by rw [h3 e]; omega) (by omega)
          exact ⟨y, (H.inn _ _ hy).2, by omega, fun _ => hy⟩
      · obtain ⟨x, rfl, g1, g2, g3⟩ := ho''
        refine .ck64 (by omega) (.one ⟨by simp; omega, o ++ [x], rfl, g1, by simp [h2], fun _ => ?_⟩)
        rw [getD_snoc, if_neg (by simp), if_pos (by simp), g3]; omega
    · rintro ⟨o', left⟩ ⟨hv, o, ho, h1, h2, h3⟩
      simp only at hv ho
      subst hv; subst ho
      simp only [order_Chain_L29]
      exact .condF (decide_eq_false (by omega)) (.one ⟨o, rfl, h1, h2⟩)
  obtain ⟨⟨t, e⟩, h1, h2, o, h3, h4, h5⟩ := key
  simp only at h2 h3
  subst h2; subst h3
  exact ⟨k, M, o, h1, K, m2, m3, m4, h4, h5⟩
theorem chain_err {N : Nat} {r : Rel} {e : Int} (he : e ≠ 0) (ha : order_acyclic N r = some (0, [], e)) : order_Chain N r = some ([], e) := by
  unfold order_Chain
  rw [bd_of ha]
  exact cond_of (by simpa using he)
theorem ok3 {N : Nat} (hN : 1000 < N) : alibkeep_ok N [0, 0, 0] = some true := by
  obtain ⟨M, rfl⟩ : ∃ M, N = M + 4 := ⟨N - 4, by omega⟩
  rfl
theorem ok3_bad {N : Nat} (hN : 1000 < N) {e : Int} (he : e ≠ 0) (f g : Int) : alibkeep_ok N [e, f, g] = some false := by
  obtain ⟨M, rfl⟩ : ∃ M, N = M + 4 := ⟨N - 4, by omega⟩
  refine Wp.eq ?_
  unfold alibkeep_ok
  refine .elim (P := fun t => t = .inr false) ?_ (fun a _ h => by cases h) fun a _ h => .one (by cases h; rfl)
  refine ⟨.inr false, ?_, rfl⟩
  have : alibkeep_ok_L3 (M + 4) [e, f, g] 0 = some (.inr (.inr false)) := by
    refine Wp.eq ?_
    unfold alibkeep_ok_L3
    exact .condT (by simp) (.ix (k := 0) (by simp) (.condT (by simpa using he) (.one rfl)))
  simp only [iter, this]
/-- OrderMirsky, plainly. -/
theorem mirskyLaw {N : Nat} (hN : 5000 < N) (hl : alibkeep_orderLives N = some true) {r : Rel} (hu : RelU r) : alibkeep_OrderMirsky N r = some true := by
  refine Wp.eq ?_
  unfold alibkeep_OrderMirsky
  rcases acyclic (N := N) (by omega) hu with ⟨n, A, V, hA, hno, hc, ha⟩ | ⟨n, A, V, hA, hcy, hc, ha⟩ | ⟨e, he, hv, hc, ha⟩
  · have hn := V.is
    have hle := V.le
    have C := CR.of V hA
    have H := acy_of V hno
    obtain ⟨rk, r1, r2, r3⟩ := ranks_wp hN C H ha
    obtain ⟨k, M, o, c1, K, c2, c3, c4, c5, c6⟩ := chain_wp hN C H ha
    have hrl := r2.len
    have rup : ∀ x y, cl r n x y = true → at_ rk x + 1 ≤ at_ rk y := fun x y hq => by
      obtain ⟨hx, hy⟩ := H.inn x y hq
      have := r3 ((at_ rk x).toNat + 1) y hy ⟨x, hq, r2.is x hx⟩
      have := (r2.nn x hx).1
      omega
    have hlo : (ints_ o).length = o.length := by simp [ints_]
    refine .bdO r1 (.bdO c1 (.bdO hc (.bd (.bdO hl (.condT rfl (.bdO (ok3 (by omega)) (.one ?_)))))))
    refine .condF (by simp [hrl, hn]) ?_
    -- the ranks
    refine .elim (P := fun t => ∃ most : Int, t = .inl most ∧ (∀ x, x < n → at_ rk x ≤ most) ∧ (most = -1 ∨ ∃ x, x < n ∧ at_ rk x = most) ∧ (0 < n → 0 ≤ most)) ?_ (fun most _ hm => ?_) (fun b _ hm => by obtain ⟨_, h, _⟩ := hm; cases h)
    · refine .iter n (fun t st => st.2 = (t : Int) ∧ -1 ≤ st.1 ∧ st.1 ≤ 13 ∧ (∀ x, x < t → at_ rk x ≤ st.1) ∧ (st.1 = -1 ∨ ∃ x, x < n ∧ at_ rk x = st.1)) (by omega) ⟨rfl, by simp, by simp, fun x h => absurd h (Nat.not_lt_zero _), .inl rfl⟩ ?_ ?_
      · rintro t ⟨most, v⟩ ht ⟨hv, h0, h0', h1, h2⟩
        simp only at hv h0 h0' h1 h2
        subst hv
        simp only [alibkeep_OrderMirsky_L27]
        have hrt := r2.nn t ht
        refine .condT (decide_eq_true (by omega)) (.bd (.ixD 0 (by omega) (by omega) ?_))
        rw [Int.toNat_natCast]
        refine .mono (P := fun t' => t' = .inl (max most (rk.getD t 0))) ?_ fun t' ht' => ?_
        · refine .iter n (fun s v => v = (s : Int)) (by omega) rfl ?_ ?_
          · rintro s v hs rfl
            simp only [alibkeep_OrderMirsky_L29]
            refine .condT (decide_eq_true (by omega)) (.bdO (ahead_ok C (by omega)) ?_)
            refine .gix 0 (fun _ => by omega) fun x hx => .gix 0 (fun _ => by omega) fun y hy => .condF ?_ (.ck64 (by omega) (.one (by simp)))
            cases hq : cl r n t s with
            | false => rfl
            | true =>
              have hx := hx (by rw [hq]; rfl)
              have hy := hy (by rw [hq]; rfl)
              rw [Int.toNat_natCast] at hx hy
              have := rup t s hq
              unfold at_ at this
              rw [Bool.true_and]
              exact decide_eq_false (by omega)
          · rintro v rfl
            simp only [alibkeep_OrderMirsky_L29]
            exact .condF (decide_eq_false (by omega)) (.one rfl)
        · subst ht'
          unfold at_ at hrt
          refine .inlE (.ck64 (by omega) (.one ⟨by simp, by simp only; omega, by simp only; omega, fun x hx => ?_, ?_⟩))
          · simp only
            by_cases e : x = t
            · subst e; unfold at_; omega
            · have := h1 x (by omega); omega
          · simp only
            rcases Int.le_total most (rk.getD t 0) with h3 | h3
            · exact .inr ⟨t, ht, by rw [Int.max_eq_right h3]⟩
            · rw [Int.max_eq_left h3]; exact h2
      · rintro ⟨most, v⟩ ⟨hv, h0, h0', h1, h2⟩
        simp only at hv h0 h0' h1 h2
        subst hv
        simp only [alibkeep_OrderMirsky_L27]
        refine .condF (decide_eq_false (by omega)) (.one ⟨most, rfl, h1, h2, fun h => ?_⟩)
        have := h1 0 h
        have := (r2.nn 0 h).1
        omega
    · obtain ⟨m, hm0, hm1, hm2, hm3⟩ := hm
      obtain rfl := Sum.inl.inj hm0
      -- the chain
      have hit : iter (alibkeep_OrderMirsky_L31 N (ints_ o, 0) r ((n : Int), A, false, 0)) N 1 = some (.inl ()) := by
        refine iter_up (fun i => ((i + 1 : Nat) : Int)) _ (o.length - 1) _ rfl (fun i hi => Wp.eq ?_) ?_ N (by omega)
        · have g1 := c5.lt i (by omega)
          have g2 := c5.lt (i + 1) (by omega)
          have g3 := c5.up i (by omega)
          simp only [alibkeep_OrderMirsky_L31]
          have ei : (((i + 1 : Nat) : Int) - 1).toNat = i := by omega
          have v1 : (ints_ o).getD (((i + 1 : Nat) : Int) - 1).toNat 0 = ((o.getD i 0 : Nat) : Int) := by rw [ei]; exact ints_at (by omega)
          have v2 : (ints_ o).getD (((i + 1 : Nat) : Int)).toNat 0 = ((o.getD (i + 1) 0 : Nat) : Int) := by rw [Int.toNat_natCast]; exact ints_at (by omega)
          have hok : ok64 (((i + 1 : Nat) : Int) - 1) = true := ok64_of (by omega)
          refine .condT (decide_eq_true (by omega)) (.ck hok (.ixD 0 (by omega) (by omega) ?_))
          rw [v1]
          have d1 : decide (((o.getD i 0 : Nat) : Int) < 0) = false := decide_eq_false (by omega)
          have d2 : decide (((o.getD (i + 1) 0 : Nat) : Int) < 0) = false := decide_eq_false (by omega)
          have d3 : decide (r.n ≤ ((o.getD i 0 : Nat) : Int)) = false := decide_eq_false (by omega)
          have d4 : decide (r.n ≤ ((o.getD (i + 1) 0 : Nat) : Int)) = false := decide_eq_false (by omega)
          rw [d1]
          refine .gix 0 (fun _ => by omega) fun x hx => ?_
          have hx := hx rfl
          rw [v2] at hx; subst hx
          rw [d2]
          refine .ck (by rw [hok]; simp) (.gix 0 (fun _ => by omega) fun x hx => ?_)
          have hx := hx rfl
          rw [v1] at hx; subst hx
          rw [d3]
          refine .gix 0 (fun _ => by omega) fun x hx => ?_
          have hx := hx rfl
          rw [v2] at hx; subst hx
          rw [d4]
          refine .ck (by rw [hok]; simp) (.gix 0 (fun _ => by omega) fun x hx => ?_)
          have hx := hx rfl
          rw [v1] at hx; subst hx
          refine .gix 0 (fun _ => by omega) fun x hx => ?_
          have hx := hx rfl
          rw [v2] at hx; subst hx
          refine .gd true (fun _ => by rw [ahead_ok C (by omega), g3]) fun b hb => ?_
          have hb := hb rfl
          subst hb
          exact .condF rfl (.ck64 (by omega) (.one (by simp)))
        · refine Wp.eq ?_
          simp only [alibkeep_OrderMirsky_L31]
          exact .condF (decide_eq_false (by omega)) (.one rfl)
      refine .bdO hit (.inlE (.ck64 ?_ (.one (decide_eq_true ?_))))
      · rcases hm2 with h | ⟨x, hx, h⟩
        · omega
        · have := (r2.nn x hx); omega
      · rw [hlo, c6]
        by_cases h0 : n = 0
        · rcases hm2 with h | ⟨x, hx, h⟩
          · omega
          · omega
        · have hmm := hm3 (by omega)
          rcases hm2 with h | ⟨x, hx, h⟩
          · omega
          · -- a chain of that length
            obtain ⟨s, hs, hcs⟩ := ch_flip H hx (r2.is x hx)
            have g1 := K.most _ s hs hcs
            have g2 := c3 s hs
            rcases c4 with c4 | ⟨y, hy, c4⟩
            · omega
            · obtain ⟨z, hz, hcz⟩ := ch_flip H.tp hy (K.is y hy)
              have g3 := r3 _ z hz hcz
              have g4 := hm1 z hz
              have g5 := (K.rg y hy).1
              omega
  · refine .bdO (ranks_err (by decide) ha) (.bdO (chain_err (by decide) ha) (.bdO hc (.bd (.bdO hl (.condT rfl (.bdO (ok3_bad (by omega) (by decide) _ _) (.one ?_)))))))
    exact .condT rfl (.bdO hl (.one rfl))
  · refine .bdO (ranks_err he ha) (.bdO (chain_err he ha) (.bdO hc (.bd (.bdO hl (.condT rfl (.bdO (ok3_bad (by omega) he _ _) (.one ?_)))))))
    exact .condT rfl (.bdO hl (.one (by simp)))
end Rl

end Go.Proofs.Ytemckhkicfpgeaa
