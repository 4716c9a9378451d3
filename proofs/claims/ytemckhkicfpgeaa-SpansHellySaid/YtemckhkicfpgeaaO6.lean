/- Ranks; longest chains. -/
import Derived.Test.YtemckhkicfpgeaaO5
set_option linter.unusedVariables false
set_option linter.unusedSimpArgs false
set_option linter.unusedSectionVars false
set_option maxRecDepth 100000
namespace Go.Proofs.Ytemckhkicfpgeaa
open Go.RowKit
namespace Rl
/-- A chain of so many steps that ends there. -/
def ch (q : Nat → Nat → Bool) : Nat → Nat → Prop
  | 0, _ => True
  | m + 1, j => ∃ i, q i j = true ∧ ch q m i
def tp (q : Nat → Nat → Bool) : Nat → Nat → Bool := fun i j => q j i
theorem Acy.tp {n : Nat} {q : Nat → Nat → Bool} (H : Acy n q) : Acy n (tp q) := ⟨fun i j h => ⟨(H.inn j i h).2, (H.inn j i h).1⟩, fun {i m j} h1 h2 => H.tr (i := j) (m := m) (j := i) h2 h1, H.irr⟩
theorem ch_le {n : Nat} {q : Nat → Nat → Bool} (H : Acy n q) : ∀ {m j}, ch q m j → m ≤ cnt n q j
  | 0, _, _ => Nat.zero_le _
  | m + 1, j, ⟨i, h1, h2⟩ => by
    have := ch_le H h2
    have := cnt_lt H h1
    omega
theorem cnt_n {n : Nat} {q : Nat → Nat → Bool} (H : Acy n q) {j : Nat} (hj : j < n) : cnt n q j < n := by
  unfold cnt
  have := pig (l := j :: (List.range n).filter fun z => q z j) (m := List.range n) ?_ fun x hx => ?_
  · simp only [List.length_cons, List.length_range] at this; omega
  · refine List.nodup_cons.2 ⟨fun hm => ?_, List.nodup_range.filter _⟩
    have := (List.mem_filter.1 hm).2
    rw [H.irr] at this; cases this
  · rcases List.mem_cons.1 hx with rfl | hx
    · exact List.mem_range.2 hj
    · exact (List.mem_filter.1 hx).1
def path (q : Nat → Nat → Bool) : Nat → Nat → Nat → Prop
  | 0, s, x => s = x
  | m + 1, s, x => ∃ i, path q m s i ∧ q i x = true
theorem path_of {q : Nat → Nat → Bool} : ∀ {m x}, ch q m x → ∃ s, path q m s x
  | 0, x, _ => ⟨x, rfl⟩
  | m + 1, x, ⟨i, h1, h2⟩ => by
    obtain ⟨s, hs⟩ := path_of h2
    exact ⟨s, i, hs, h1⟩
theorem path_left {q : Nat → Nat → Bool} : ∀ {m s x}, path q (m + 1) s x → ∃ i, q s i = true ∧ path q m i x
  | 0, s, x, ⟨i, h1, h2⟩ => by
    have h1 : s = i := h1
    subst h1; exact ⟨x, h2, rfl⟩
  | m + 1, s, x, ⟨i, h1, h2⟩ => by
    obtain ⟨j, g1, g2⟩ := path_left h1
    exact ⟨j, g1, i, g2, h2⟩
theorem ch_of_path {q : Nat → Nat → Bool} : ∀ {m s x}, path q m s x → ch (tp q) m s
  | 0, _, _, _ => trivial
  | m + 1, s, x, h => by
    obtain ⟨i, h1, h2⟩ := path_left h
    exact ⟨i, h1, ch_of_path h2⟩
theorem ch_flip {n : Nat} {q : Nat → Nat → Bool} (H : Acy n q) {m x : Nat} (hx : x < n) (h : ch q m x) : ∃ s, s < n ∧ ch (tp q) m s := by
  obtain ⟨s, hs⟩ := path_of h
  refine ⟨s, ?_, ch_of_path hs⟩
  cases m with
  | zero => have hs : s = x := hs
            omega
  | succ m =>
    obtain ⟨i, h1, _⟩ := path_left hs
    exact (H.inn s i h1).1
/-- The element of a list of numbers. -/
abbrev at_ (l : List Int) (x : Nat) : Int := l.getD x 0
theorem at_set {l : List Int} {i x : Nat} {v : Int} (hi : i < l.length) : at_ (l.set i v) x = if x = i then v else at_ l x := by
  unfold at_
  simp only [List.getD_eq_getElem?_getD, List.getElem?_set]
  by_cases e : i = x
  · subst e; simp [hi]
  · have e' : ¬ x = i := fun h => e h.symm
    simp [e, e']
/-- What ranks are told. -/
structure Rk (n : Nat) (q : Nat → Nat → Bool) (k : List Int) : Prop where
  len : k.length = n
  nn : ∀ x, x < n → 0 ≤ at_ k x ∧ at_ k x ≤ n
  is : ∀ x, x < n → ch q (at_ k x).toNat x
theorem rk_up {n : Nat} {q : Nat → Nat → Bool} (H : Acy n q) {k : List Int} (R : Rk n q k) {i j : Nat} (h : q i j = true) : Rk n q (k.set j (max (at_ k j) (at_ k i + 1))) := by
  obtain ⟨hi, hj⟩ := H.inn i j h
  have hl := R.len
  have h1 := R.nn i hi; have h2 := R.nn j hj
  have hc : ch q ((at_ k i).toNat + 1) j := ⟨i, h, R.is i hi⟩
  have hle := ch_le H hc
  have hcn := cnt_n H hj
  refine ⟨by simpa using hl, fun x hx => ?_, fun x hx => ?_⟩ <;> rw [at_set (by omega)] <;> by_cases e : x = j <;> simp only [e, if_true, if_false]
  · omega
  · exact R.nn x hx
  · rcases Int.le_total (at_ k j) (at_ k i + 1) with h3 | h3
    · rw [Int.max_eq_right h3, show (at_ k i + 1).toNat = (at_ k i).toNat + 1 by omega]; exact hc
    · rw [Int.max_eq_left h3]; exact R.is j hj
  · exact R.is x hx
theorem ranks_wp {N : Nat} (hN : 5000 < N) {r : Rel} {n : Nat} {A : List Int} {q : Nat → Nat → Bool} (C : CR ⟨n, A⟩ n q) (H : Acy n q) (ha : order_acyclic N r = some ((n : Int), A, 0)) : ∃ k, order_Ranks N r = some (k, 0) ∧ Rk n q k ∧ ∀ m x, x < n → ch q m x → (m : Int) ≤ at_ k x := by
  have hle := C.le
  have key : Wp (order_Ranks N r) fun t => t.2 = 0 ∧ Rk n q t.1 ∧ ∀ m x, x < n → ch q m x → (m : Int) ≤ at_ t.1 x := by
    unfold order_Ranks
    refine .bdO ha (.condF rfl (.ck (mkB_of (by omega) (by omega) (by omega)) ?_))
    refine .seq (P := fun k => Rk n q k ∧ ∀ m x, x < n → ch q m x → (m : Int) ≤ at_ k x) ?_ fun k _ hk => .one ⟨rfl, hk⟩
    have z : ∀ x, at_ (List.replicate (n : Int).toNat (0 : Int)) x = 0 := fun x => by
      unfold at_
      simp only [List.getD_eq_getElem?_getD, List.getElem?_replicate]
      split <;> rfl
    refine .iter n (fun t st => st.2 = (t : Int) ∧ Rk n q st.1 ∧ ∀ m x, m ≤ t → x < n → ch q m x → (m : Int) ≤ at_ st.1 x) (by omega) ⟨rfl, ⟨by simp, fun x hx => ?_, fun x hx => ?_⟩, fun m x hm hx _ => ?_⟩ ?_ ?_
    · rw [z]; omega
    · rw [z]; trivial
    · rw [z]; omega
    · rintro t ⟨B, v⟩ ht ⟨hv, R, hB⟩
      simp only at hv R hB
      subst hv
      simp only [order_Ranks_L157]
      refine .condT (decide_eq_true (by omega)) ?_
      refine .seq (P := fun k => Rk n q k ∧ ∀ x y, q x y = true → at_ B x + 1 ≤ at_ k y) ?_ fun k _ hk => .ck64 (by omega) (.one ⟨by simp, hk.1, fun m x hm hx hc => ?_⟩)
      · refine .iter n (fun i st => st.2 = (i : Int) ∧ Rk n q st.1 ∧ (∀ x, x < n → at_ B x ≤ at_ st.1 x) ∧ ∀ x y, q x y = true → x < i → at_ B x + 1 ≤ at_ st.1 y) (by omega) ⟨rfl, R, fun x _ => Int.le_refl _, fun x y _ h => absurd h (Nat.not_lt_zero _)⟩ ?_ ?_
        · rintro i ⟨D, v⟩ hi ⟨hv, R1, h1, h2⟩
          simp only at hv R1 h1 h2
          subst hv
          simp only [order_Ranks_L169]
          refine .condT (decide_eq_true (by omega)) ?_
          refine .seq (P := fun k => Rk n q k ∧ (∀ x, x < n → at_ B x ≤ at_ k x) ∧ ∀ x y, q x y = true → x < i + 1 → at_ B x + 1 ≤ at_ k y) ?_ fun k _ hk => .ck64 (by omega) (.one ⟨by simp, hk⟩)
          refine .iter n (fun j st => st.2 = (j : Int) ∧ Rk n q st.1 ∧ (∀ x, x < n → at_ B x ≤ at_ st.1 x) ∧ ∀ x y, q x y = true → (x < i ∨ x = i ∧ y < j) → at_ B x + 1 ≤ at_ st.1 y) (by omega) ⟨rfl, R1, h1, fun x y h h' => h2 x y h (by omega)⟩ ?_ ?_
          · rintro j ⟨E, v⟩ hj ⟨hv, R2, h3, h4⟩
            simp only at hv R2 h3 h4
            subst hv
            simp only [order_Ranks_L171]
            have hlen := R2.len
            have b1 := R2.nn i hi; have b2 := R2.nn j hj
            refine .condT (decide_eq_true (by omega)) (.bdO (has_ok C (by omega) (by omega)) (.cond (fun h => ?_) fun h => .ck64 (by omega) (.one ⟨by simp, R2, h3, fun x y hq hxy => ?_⟩)))
            · refine .ixD 0 (by omega) (by omega) (.ixD 0 (by omega) (by omega) ?_)
              rw [Int.toNat_natCast, Int.toNat_natCast]
              refine .ck64 (by unfold at_ at b1 b2; omega) (.ixD 0 (by omega) (by omega) (.ck64 (by omega) (.one ⟨by simp, rk_up H R2 h, fun x hx => ?_, fun x y hq hxy => ?_⟩)))
              · show at_ B x ≤ at_ (E.set j (max (at_ E j) (at_ E i + 1))) x
                rw [at_set (by omega)]
                have := h3 x hx
                split
                · rename_i e; subst e; omega
                · exact this
              · show at_ B x + 1 ≤ at_ (E.set j (max (at_ E j) (at_ E i + 1))) y
                rw [at_set (by omega)]
                split
                · rename_i e; subst e
                  by_cases e2 : x = i
                  · subst e2; have := h3 x hi; omega
                  · have := h4 x y hq (by omega); omega
                · exact h4 x y hq (by omega)
            · by_cases e : x = i ∧ y = j
              · obtain ⟨rfl, rfl⟩ := e
                rw [h] at hq; cases hq
              · exact h4 x y hq (by omega)
          · rintro ⟨E, v⟩ ⟨hv, R2, h3, h4⟩
            simp only at hv R2 h3 h4
            subst hv
            simp only [order_Ranks_L171]
            exact .condF (decide_eq_false (by omega)) (.one ⟨R2, h3, fun x y hq hx => h4 x y hq (by have := (H.inn x y hq).2; omega)⟩)
        · rintro ⟨D, v⟩ ⟨hv, R1, h1, h2⟩
          simp only at hv R1 h1 h2
          subst hv
          simp only [order_Ranks_L169]
          exact .condF (decide_eq_false (by omega)) (.one ⟨R1, fun x y hq => h2 x y hq (H.inn x y hq).1⟩)
      · show (m : Int) ≤ at_ k x
        cases m with
        | zero => exact (hk.1.nn x hx).1
        | succ m =>
          obtain ⟨i, g1, g2⟩ := hc
          have := hk.2 i x g1
          have := hB m i (by omega) (H.inn i x g1).1 g2
          omega
    · rintro ⟨B, v⟩ ⟨hv, R, hB⟩
      simp only at hv R hB
      subst hv
      simp only [order_Ranks_L157]
      refine .condF (decide_eq_false (by omega)) (.one ⟨R, fun m x hx hc => hB m x ?_ hx hc⟩)
      have := ch_le H hc
      have := cnt_le n q x
      omega
  obtain ⟨⟨k, e⟩, h1, h2, h3⟩ := key
  simp only at h2 h3
  subst h2
  exact ⟨k, h1, h3⟩
theorem ranks_err {N : Nat} {r : Rel} {e : Int} (he : e ≠ 0) (ha : order_acyclic N r = some (0, [], e)) : order_Ranks N r = some ([], e) := by
  unfold order_Ranks
  rw [bd_of ha]
  exact cond_of (by simpa using he)
/-- What lengths are told: of the chains that begin there. -/
structure Ln (n : Nat) (q : Nat → Nat → Bool) (k : List Int) : Prop where
  len : k.length = n
  nn : ∀ x, x < n → 0 ≤ at_ k x ∧ at_ k x ≤ n
  is : ∀ x, x < n → at_ k x ≠ 0 → ch (tp q) ((at_ k x).toNat - 1) x
theorem ln_one {n : Nat} {q : Nat → Nat → Bool} {k : List Int} (R : Ln n q k) {i : Nat} (hi : i < n) : Ln n q (k.set i (max (at_ k i) 1)) := by
  have hl := R.len
  have h1 := R.nn i hi
  refine ⟨by simpa using hl, fun x hx => ?_, fun x hx => ?_⟩ <;> rw [at_set (by omega)] <;> by_cases e : x = i <;> simp only [e, if_true, if_false]
  · omega
  · exact R.nn x hx
  · intro _
    rcases Int.le_total (at_ k i) 1 with h3 | h3
    · rw [Int.max_eq_right h3]; trivial
    · rw [Int.max_eq_left h3]; exact R.is i hi (by omega)
  · exact R.is x hx
theorem ln_up {n : Nat} {q : Nat → Nat → Bool} (H : Acy n q) {k : List Int} (R : Ln n q k) {i j : Nat} (h : q i j = true) (h1' : 1 ≤ at_ k i) : Ln n q (k.set i (max (at_ k i) (at_ k j + 1))) := by
  obtain ⟨hi, hj⟩ := H.inn i j h
  have hl := R.len
  have h1 := R.nn i hi; have h2 := R.nn j hj
  have hc : at_ k j ≠ 0 → ch (tp q) ((at_ k j).toNat - 1 + 1) i := fun h' => ⟨j, h, R.is j hj h'⟩
  have hcn := cnt_n H.tp hi
  have hbd : at_ k j ≠ 0 → at_ k j + 1 ≤ n := fun h' => by
    have := ch_le H.tp (hc h')
    omega
  refine ⟨by simpa using hl, fun x hx => ?_, fun x hx => ?_⟩ <;> rw [at_set (by omega)] <;> by_cases e : x = i <;> simp only [e, if_true, if_false]
  · by_cases h0 : at_ k j = 0
    · omega
    · have := hbd h0; omega
  · exact R.nn x hx
  · intro _
    rcases Int.le_total (at_ k j + 1) (at_ k i) with h3 | h3
    · rw [Int.max_eq_left h3]; exact R.is i hi (by omega)
    · rw [Int.max_eq_right h3]
      by_cases h0 : at_ k j = 0
      · rw [h0]; trivial
      · rw [show (at_ k j + 1).toNat - 1 = (at_ k j).toNat - 1 + 1 by omega]; exact hc h0
  · exact R.is x hx
theorem longest_wp {N : Nat} (hN : 5000 < N) {n : Nat} {A : List Int} {q : Nat → Nat → Bool} (C : CR ⟨n, A⟩ n q) (H : Acy n q) : ∃ k, order_longest N ⟨n, A⟩ = some k ∧ Ln n q k ∧ ∀ m x, x < n → ch (tp q) m x → (m : Int) + 1 ≤ at_ k x := by
  have hle := C.le
  have key : Wp (order_longest N ⟨n, A⟩) fun t => Ln n q t ∧ ∀ m x, x < n → ch (tp q) m x → (m : Int) + 1 ≤ at_ t x := by
    unfold order_longest
    refine .ck (mkB_of (by simp only; omega) (by simp only; omega) (by simp only; omega)) ?_
    refine .seq (P := fun k => Ln n q k ∧ ∀ m x, x < n → ch (tp q) m x → (m : Int) + 1 ≤ at_ k x) ?_ fun k _ hk => .one hk
    have z : ∀ x, at_ (List.replicate (n : Int).toNat (0 : Int)) x = 0 := fun x => by
      unfold at_
      simp only [List.getD_eq_getElem?_getD, List.getElem?_replicate]
      split <;> rfl
    refine .iter n (fun t st => st.2 = (t : Int) ∧ Ln n q st.1 ∧ ∀ m x, m < t → x < n → ch (tp q) m x → (m : Int) + 1 ≤ at_ st.1 x) (by omega) ⟨rfl, ⟨by simp, fun x hx => ?_, fun x hx h => ?_⟩, fun m x hm => absurd hm (Nat.not_lt_zero _)⟩ ?_ ?_
    · rw [z]; omega
    · rw [z] at h; exact (h rfl).elim
    · rintro t ⟨B, v⟩ ht ⟨hv, R, hB⟩
      simp only at hv R hB
      subst hv
      simp only [order_longest_L157]
      refine .condT (decide_eq_true (by omega)) ?_
      refine .seq (P := fun k => Ln n q k ∧ (∀ x, x < n → 1 ≤ at_ k x) ∧ ∀ x y, q x y = true → at_ B y + 1 ≤ at_ k x) ?_ fun k _ hk => .ck64 (by omega) (.one ⟨by simp, hk.1, fun m x hm hx hc => ?_⟩)
      · refine .iter n (fun i st => st.2 = (i : Int) ∧ Ln n q st.1 ∧ (∀ x, x < n → at_ B x ≤ at_ st.1 x) ∧ (∀ x, x < i → 1 ≤ at_ st.1 x) ∧ ∀ x y, q x y = true → x < i → at_ B y + 1 ≤ at_ st.1 x) (by omega) ⟨rfl, R, fun x _ => Int.le_refl _, fun x h => absurd h (Nat.not_lt_zero _), fun x y _ h => absurd h (Nat.not_lt_zero _)⟩ ?_ ?_
        · rintro i ⟨D, v⟩ hi ⟨hv, R1, h1, h1', h2⟩
          simp only at hv R1 h1 h1' h2
          subst hv
          simp only [order_longest_L169]
          have hlenD := R1.len
          refine .condT (decide_eq_true (by omega)) ?_
          refine .seq (P := fun k => Ln n q k ∧ (∀ x, x < n → at_ B x ≤ at_ k x) ∧ (∀ x, x < i + 1 → 1 ≤ at_ k x) ∧ ∀ x y, q x y = true → x < i + 1 → at_ B y + 1 ≤ at_ k x) ?_ fun k _ hk => .ck64 (by omega) (.one ⟨by simp, hk⟩)
          refine .ixD 0 (by omega) (by omega) (.ixD 0 (by omega) (by omega) ?_)
          simp only [Int.toNat_natCast]
          have D1 : ∀ x, at_ (D.set i (max (at_ D i) 1)) x = if x = i then max (at_ D i) 1 else at_ D x := fun x => at_set (by omega)
          refine .iter n (fun j st => st.2 = (j : Int) ∧ Ln n q st.1 ∧ (∀ x, x < n → at_ B x ≤ at_ st.1 x) ∧ (∀ x, x < i + 1 → 1 ≤ at_ st.1 x) ∧ ∀ x y, q x y = true → (x < i ∨ x = i ∧ y < j) → at_ B y + 1 ≤ at_ st.1 x) (by omega) ⟨rfl, ln_one R1 hi, fun x hx => ?_, fun x hx => ?_, fun x y h h' => ?_⟩ ?_ ?_
          · show at_ B x ≤ at_ (D.set i (max (at_ D i) 1)) x
            rw [D1]
            have := h1 x hx
            split
            · rename_i e; subst e; omega
            · exact this
          · show 1 ≤ at_ (D.set i (max (at_ D i) 1)) x
            rw [D1]
            split
            · omega
            · exact h1' x (by omega)
          · show at_ B y + 1 ≤ at_ (D.set i (max (at_ D i) 1)) x
            rw [D1, if_neg (by omega)]
            exact h2 x y h (by omega)
          · rintro j ⟨E, v⟩ hj ⟨hv, R2, h3, h3', h4⟩
            simp only at hv R2 h3 h3' h4
            subst hv
            simp only [order_longest_L171]
            have hlen := R2.len
            have b1 := R2.nn i hi; have b2 := R2.nn j hj
            refine .condT (decide_eq_true (by omega)) (.bdO (has_ok C (by omega) (by omega)) (.cond (fun h => ?_) fun h => .ck64 (by omega) (.one ⟨by simp, R2, h3, h3', fun x y hq hxy => ?_⟩)))
            · refine .ixD 0 (by omega) (by omega) (.ixD 0 (by omega) (by omega) ?_)
              simp only [Int.toNat_natCast]
              have E1 : ∀ x, at_ (E.set i (max (at_ E i) (at_ E j + 1))) x = if x = i then max (at_ E i) (at_ E j + 1) else at_ E x := fun x => at_set (by omega)
              refine .ck64 (by unfold at_ at b1 b2; omega) (.ixD 0 (by omega) (by omega) (.ck64 (by omega) (.one ⟨by simp, ln_up H R2 h (h3' i (by omega)), fun x hx => ?_, fun x hx => ?_, fun x y hq hxy => ?_⟩)))
              · show at_ B x ≤ at_ (E.set i (max (at_ E i) (at_ E j + 1))) x
                rw [E1]
                have := h3 x hx
                split
                · rename_i e; subst e; omega
                · exact this
              · show 1 ≤ at_ (E.set i (max (at_ E i) (at_ E j + 1))) x
                rw [E1]
                have := h3' x hx
                split
                · rename_i e; subst e; omega
                · exact this
              · show at_ B y + 1 ≤ at_ (E.set i (max (at_ E i) (at_ E j + 1))) x
                rw [E1]
                split
                · rename_i e; subst e
                  by_cases e2 : y = j
                  · subst e2; have := h3 y hj; omega
                  · have := h4 x y hq (by omega); omega
                · exact h4 x y hq (by omega)
            · by_cases e : x = i ∧ y = j
              · obtain ⟨rfl, rfl⟩ := e
                rw [h] at hq; cases hq
              · exact h4 x y hq (by omega)
          · rintro ⟨E, v⟩ ⟨hv, R2, h3, h3', h4⟩
            simp only at hv R2 h3 h3' h4
            subst hv
            simp only [order_longest_L171]
            exact .condF (decide_eq_false (by omega)) (.one ⟨R2, h3, h3', fun x y hq hx => h4 x y hq (by have := (H.inn x y hq).2; omega)⟩)
        · rintro ⟨D, v⟩ ⟨hv, R1, h1, h1', h2⟩
          simp only at hv R1 h1 h1' h2
          subst hv
          simp only [order_longest_L169]
          exact .condF (decide_eq_false (by omega)) (.one ⟨R1, h1', fun x y hq => h2 x y hq (H.inn x y hq).1⟩)
      · show (m : Int) + 1 ≤ at_ k x
        cases m with
        | zero => have := hk.2.1 x hx; omega
        | succ m =>
          obtain ⟨i, g1, g2⟩ := hc
          have := hk.2.2 x i g1
          have := hB m i (by omega) (H.inn x i g1).2 g2
          omega
    · rintro ⟨B, v⟩ ⟨hv, R, hB⟩
      simp only at hv R hB
      subst hv
      simp only [order_longest_L157]
      refine .condF (decide_eq_false (by omega)) (.one ⟨R, fun m x hx hc => hB m x ?_ hx hc⟩)
      have := ch_le H.tp hc
      have := cnt_n H.tp hx
      omega
  obtain ⟨k, h1, h2⟩ := key
  exact ⟨k, h1, h2⟩
end Rl

end Go.Proofs.Ytemckhkicfpgeaa
