/- Count, plainly; OrderClosed. -/
import Derived.Test.YtemckhkicfpgeaaO2
import Derived.Test.YtemckhkicfpgeaaR2
set_option linter.unusedVariables false
set_option linter.unusedSimpArgs false
set_option linter.unusedSectionVars false
set_option maxRecDepth 100000
namespace Go.Proofs.Ytemckhkicfpgeaa
open Go.RowKit
namespace Rl
def card (s : Nat) : Nat := sumN (fun j => if s.testBit j = true then 1 else 0) 12
theorem card_le (s : Nat) : card s ≤ 12 := by
  have := sumN_le (f := fun j => if s.testBit j = true then 1 else 0) (b := 1) (n := 12) (fun i _ => by split <;> omega)
  unfold card; omega
theorem card_bk {s i : Nat} (hi : i < 12) (h : s.testBit i = true) : card s = card (s ^^^ 2 ^ i) + 1 := by
  unfold card
  refine sumN_one (k := i) hi (fun j _ hj => ?_) ?_
  · simp only [xor_bit]
    rw [decide_eq_false (fun e => hj e.symm), Bool.xor_false]
  · simp only [xor_bit]
    simp [h]
theorem fN_le {n : Nat} (hn : n ≤ 12) {q : Nat → Nat → Bool} : ∀ s, fN n q s ≤ 12 ^ card s := by
  intro s
  induction s using Nat.strongRecOn with
  | _ s ih =>
    by_cases hs : s = 0
    · subst hs; rw [fN_zero]; exact Nat.pow_pos (by decide)
    · rw [fN_step hs (Nat.le_refl s)]
      by_cases h0 : card s = 0
      · have : sumN (bk n q s s) n ≤ n * 0 := sumN_le fun i hi => by
          unfold bk
          split
          · rename_i h
            have := card_bk (s := s) (i := i) (by omega) h.1
            omega
          · exact Nat.le_refl _
        have := Nat.pow_pos (n := card s) (a := 12) (by decide)
        omega
      · have h1 : sumN (bk n q s s) n ≤ n * 12 ^ (card s - 1) := sumN_le fun i hi => by
          unfold bk
          split
          · rename_i h
            have h2 := card_bk (s := s) (i := i) (by omega) h.1
            have h3 := ih (s ^^^ 2 ^ i) h.2.2
            rw [show card s - 1 = card (s ^^^ 2 ^ i) by omega]
            exact h3
          · exact Nat.zero_le _
        have h2 : 12 ^ card s = 12 * 12 ^ (card s - 1) := by
          rw [show card s = (card s - 1) + 1 by omega, Nat.pow_succ, Nat.mul_comm]; simp
        have h3 : n * 12 ^ (card s - 1) ≤ 12 * 12 ^ (card s - 1) := Nat.mul_le_mul_right _ hn
        omega
theorem fN_big {n : Nat} (hn : n ≤ 12) {q : Nat → Nat → Bool} (s : Nat) : fN n q s ≤ 8916100448256 := by
  have h1 := fN_le hn (q := q) s
  have h2 : 12 ^ card s ≤ 12 ^ 12 := Nat.pow_le_pow_right (by decide) (card_le s)
  have h3 : 12 ^ 12 = 8916100448256 := by decide
  omega
/-- What is told of s so far: sets below k, and of k the items below i. -/
def bk2 (n : Nat) (q : Nat → Nat → Bool) (s k i j : Nat) : Nat := if s.testBit j = true ∧ pre n q (s ^^^ 2 ^ j) j = true ∧ (s ^^^ 2 ^ j < k ∨ s ^^^ 2 ^ j = k ∧ j < i) then fN n q (s ^^^ 2 ^ j) else 0
def V (n : Nat) (q : Nat → Nat → Bool) (k i s : Nat) : Nat := (if s = 0 then 1 else 0) + sumN (bk2 n q s k i) n
theorem V_next (n : Nat) (q : Nat → Nat → Bool) (k s : Nat) : V n q k n s = V n q (k + 1) 0 s := by
  unfold V
  congr 1
  refine sumN_cong fun j hj => ?_
  unfold bk2
  congr 1
  apply propext
  constructor
  · rintro ⟨h1, h2, h3⟩; exact ⟨h1, h2, by omega⟩
  · rintro ⟨h1, h2, h3⟩; exact ⟨h1, h2, by omega⟩
theorem V_at (n : Nat) (q : Nat → Nat → Bool) {k i s : Nat} (hs : s ≤ k) : V n q k i s = fN n q s := by
  unfold V
  by_cases h0 : s = 0
  · subst h0
    rw [fN_zero, sumN_cong (g := fun _ => 0) fun j hj => ?_]
    · have := sumN_le (f := fun _ => 0) (b := 0) (n := n) fun _ _ => Nat.le_refl _
      simp; omega
    · unfold bk2; rw [if_neg]; simp
  · rw [if_neg h0, Nat.zero_add, fN_step h0 hs]
    refine sumN_cong fun j hj => ?_
    unfold bk2 bk
    congr 1
    apply propext
    constructor
    · rintro ⟨h1, h2, h3⟩
      have := (sub_bit h1).1
      have h4 : 0 < 2 ^ j := Nat.pow_pos (by decide)
      exact ⟨h1, h2, by omega⟩
    · rintro ⟨h1, h2, h3⟩; exact ⟨h1, h2, .inl h3⟩
theorem V_le {n : Nat} (hn : n ≤ 12) (q : Nat → Nat → Bool) (k i s : Nat) : V n q k i s ≤ 106993205379073 := by
  unfold V
  have h1 : sumN (bk2 n q s k i) n ≤ n * 8916100448256 := sumN_le fun j hj => by
    unfold bk2
    split
    · exact fN_big hn _
    · omega
  have h2 : n * 8916100448256 ≤ 12 * 8916100448256 := Nat.mul_le_mul_right _ hn
  split <;> omega
theorem V_same {n : Nat} {q : Nat → Nat → Bool} {k i s : Nat} (h : ¬ (s.testBit i = true ∧ pre n q (s ^^^ 2 ^ i) i = true ∧ s ^^^ 2 ^ i = k)) : V n q k (i + 1) s = V n q k i s := by
  unfold V
  congr 1
  refine sumN_cong fun j hj => ?_
  unfold bk2
  congr 1
  apply propext
  constructor
  · rintro ⟨h1, h2, h3⟩
    refine ⟨h1, h2, ?_⟩
    rcases h3 with h3 | ⟨h3, h4⟩
    · exact .inl h3
    · by_cases e : j = i
      · subst e; exact (h ⟨h1, h2, h3⟩).elim
      · exact .inr ⟨h3, by omega⟩
  · rintro ⟨h1, h2, h3⟩; exact ⟨h1, h2, by omega⟩
theorem V_more {n : Nat} {q : Nat → Nat → Bool} {k i s : Nat} (hi : i < n) (h1 : s.testBit i = true) (h2 : pre n q k i = true) (h3 : s ^^^ 2 ^ i = k) : V n q k (i + 1) s = V n q k i s + fN n q k := by
  unfold V
  rw [Nat.add_assoc]
  congr 1
  refine sumN_one hi (fun j hj hji => ?_) ?_
  · unfold bk2
    congr 1
    apply propext
    constructor
    · rintro ⟨g1, g2, g3⟩; exact ⟨g1, g2, by omega⟩
    · rintro ⟨g1, g2, g3⟩; exact ⟨g1, g2, by omega⟩
  · unfold bk2
    rw [h3, if_pos ⟨h1, h2, .inr ⟨rfl, by omega⟩⟩, if_neg (by intro h; omega)]
    omega
/-- How many orders of all there are. -/
theorem count_in {N : Nat} (hN : 5000 < N) {n : Nat} {A : List Int} {q : Nat → Nat → Bool} (C : CR ⟨n, A⟩ n q) {k : Nat} (hk : k < 2 ^ n) {W : List Int} (hl : W.length = 2 ^ n) (hW : ∀ s, s < 2 ^ n → W.getD s 0 = ((V n q k 0 s : Nat) : Int)) :
    Wp (iter (order_Count_L27 N ((n : Int), A, 0) (k : Int)) N (W, 0)) fun W' => W'.length = 2 ^ n ∧ ∀ s, s < 2 ^ n → W'.getD s 0 = ((V n q (k + 1) 0 s : Nat) : Int) := by
  have hle := C.le
  have h12 : 2 ^ n ≤ 2 ^ 12 := Nat.pow_le_pow_right (by decide) hle
  have e12 : 2 ^ 12 = 4096 := by decide
  refine .iter n (fun i st => st.2 = (i : Int) ∧ st.1.length = 2 ^ n ∧ ∀ s, s < 2 ^ n → st.1.getD s 0 = ((V n q k i s : Nat) : Int)) (by omega) ⟨rfl, hl, hW⟩ ?_ ?_
  · rintro i ⟨U, v⟩ hi ⟨hv, hU, hS⟩
    simp only at hv hU hS
    subst hv
    simp only [order_Count_L27]
    refine .condT (decide_eq_true (by omega)) ?_
    rw [test64 (by omega) (by omega)]
    obtain ⟨x, hx, hrow⟩ := before_ok (N := N) (by omega) C (j := i) (by omega)
    refine .gd x (fun _ => hx) fun b hb => ?_
    have hwr : IntKind.u16.wrap (k : Int) = k := wrapU16 (by omega)
    rw [hwr]
    have hkr : Row (k : Int) fun j => k.testBit j := ⟨k, rfl, by omega, fun _ => rfl⟩
    have hpre : k.testBit i = false → (decide (bclrI .u16 b (k : Int) = 0) = pre n q k i) := by
      intro hbit
      rw [hb (by simp [hbit])]
      have e := (hrow.clr hkr).empty
      have e2 := pre_iff C.inn (s := k) (i := i)
      cases hp : pre n q k i with
      | true =>
        refine decide_eq_true (e.2 fun y => ?_)
        have := e2.1 hp y
        cases hq : q y i with
        | false => rfl
        | true => simp [this hq]
      | false =>
        refine decide_eq_false fun h0 => ?_
        have h1 := e.1 h0
        have : pre n q k i = true := e2.2 fun y hy => by
          have := h1 y
          simpa [hy] using this
        rw [hp] at this; cases this
    by_cases hbit : k.testBit i = true
    · refine .condF (by simp [hbit]) (.ck64 (by omega) (.one ⟨by simp, hU, fun s hs => ?_⟩))
      rw [hS s hs, V_same]
      rintro ⟨g1, g2, g3⟩
      have := (sub_bit g1).2
      rw [g3, hbit] at this; cases this
    · have hbit : k.testBit i = false := by simpa using hbit
      rw [hpre hbit, hbit]
      have hp2 : 2 ^ i < 2 ^ n := Nat.pow_lt_pow_right (by decide) hi
      have hor := Nat.or_lt_two_pow (n := n) hk hp2
      have ht : borI .i64 (k : Int) (shlI .i64 1 (IntKind.u64.wrap (i : Int))) = ((k ||| 2 ^ i : Nat) : Int) := by
        rw [wrapU64 (by omega) (by omega), shl64 (by omega), bor64 (by omega) (by omega)]
      rw [ht]
      have hb1 : (k ||| 2 ^ i).testBit i = true := by simp [Nat.testBit_or, Nat.testBit_two_pow]
      have hx1 : (k ||| 2 ^ i) ^^^ 2 ^ i = k := by
        apply Nat.eq_of_testBit_eq
        intro j
        rw [xor_bit, Nat.testBit_or, Nat.testBit_two_pow]
        by_cases e : i = j
        · subst e; simp [hbit]
        · simp [e]
      refine .cond (fun h => ?_) fun h => ?_
      · have hp : pre n q k i = true := by simpa using h
        have v1 := V_le hle q k i (k ||| 2 ^ i)
        have v2 := V_le hle q k i k
        refine .ixD 0 (by omega) (by omega) (.ixD 0 (by omega) (by omega) ?_)
        rw [Int.toNat_natCast, Int.toNat_natCast, hS _ hor, hS _ hk]
        refine .ck64 (by omega) (.ixD 0 (by omega) (by omega) (.ck64 (by omega) (.one ⟨by simp, by simpa using hU, fun s hs => ?_⟩)))
        simp only [List.getD_eq_getElem?_getD, List.getElem?_set]
        by_cases e : (k ||| 2 ^ i) = s
        · subst e
          rw [if_pos rfl, if_pos (by omega), V_more hi hb1 hp hx1, V_at n q (Nat.le_refl k)]
          simp
        · rw [if_neg e]
          rw [← List.getD_eq_getElem?_getD, hS s hs, V_same]
          rintro ⟨g1, g2, g3⟩
          refine e ?_
          have h5 := (sub_bit g1)
          rw [g3] at h5
          rw [add_bit hbit]; exact h5.1
      · have hp : ¬ pre n q k i = true := by simpa using h
        refine .ck64 (by omega) (.one ⟨by simp, hU, fun s hs => ?_⟩)
        rw [hS s hs, V_same]
        rintro ⟨g1, g2, g3⟩
        rw [g3] at g2; exact hp g2
  · rintro ⟨U, v⟩ ⟨hv, hU, hS⟩
    simp only at hv hU hS
    subst hv
    simp only [order_Count_L27]
    refine .condF (decide_eq_false (by omega)) (.one ⟨hU, fun s hs => ?_⟩)
    rw [hS s hs, V_next]
theorem count_wp {N : Nat} (hN : 5000 < N) {r : Rel} {n : Nat} {A : List Int} {q : Nat → Nat → Bool} (C : CR ⟨n, A⟩ n q) (ha : order_acyclic N r = some ((n : Int), A, 0)) : order_Count N r = some (((fN n q (2 ^ n - 1) : Nat) : Int), 0) := by
  have hle := C.le
  have h12 : 2 ^ n ≤ 2 ^ 12 := Nat.pow_le_pow_right (by decide) hle
  have e12 : 2 ^ 12 = 4096 := by decide
  have hpos : 0 < 2 ^ n := Nat.pow_pos (by decide)
  refine Wp.eq ?_
  unfold order_Count
  refine .bdO ha (.condF rfl ?_)
  have hsh : shlI .i64 1 (IntKind.u64.wrap (n : Int)) = ((2 ^ n : Nat) : Int) := by rw [wrapU64 (by omega) (by omega), shl64 (by omega)]
  rw [hsh, Int.toNat_natCast]
  refine .ck (mkB_of (by omega) (by omega) (by omega)) (.ixD 0 (by omega) (by rw [List.length_replicate]; exact Int.natCast_pos.2 hpos) ?_)
  refine .seq (P := fun W => W.length = 2 ^ n ∧ ∀ s, s < 2 ^ n → W.getD s 0 = ((V n q (2 ^ n) 0 s : Nat) : Int)) ?_ fun W _ hW => ?_
  · refine .iter (2 ^ n) (fun k st => st.2 = (k : Int) ∧ st.1.length = 2 ^ n ∧ ∀ s, s < 2 ^ n → st.1.getD s 0 = ((V n q k 0 s : Nat) : Int)) (by omega) ⟨rfl, by simp, fun s hs => ?_⟩ ?_ ?_
    · simp only [List.getD_eq_getElem?_getD, List.getElem?_set, List.length_replicate]
      unfold V
      rw [sumN_cong (g := fun _ => 0) fun j _ => ?_]
      · have h0 := sumN_le (f := fun _ => 0) (b := 0) (n := n) fun _ _ => Nat.le_refl _
        by_cases e : s = 0
        · subst e
          simp [hpos]; omega
        · rw [if_neg (by simpa using fun h => e h.symm), if_neg e, List.getElem?_replicate, if_pos hs]
          simp; omega
      · unfold bk2; rw [if_neg]; rintro ⟨_, _, h⟩; omega
    · rintro k ⟨U, v⟩ hk ⟨hv, hU, hS⟩
      simp only at hv hU hS
      subst hv
      simp only [order_Count_L25, hsh, Int.toNat_natCast]
      exact .condT (by simp; exact_mod_cast hk) (.seq (count_in hN C hk hU hS) fun W' _ hW' => .ck64 (by omega) (.one ⟨by simp, hW'⟩))
    · rintro ⟨U, v⟩ ⟨hv, hU, hS⟩
      simp only at hv hU hS
      subst hv
      simp only [order_Count_L25, hsh, Int.toNat_natCast]
      exact .condF (by simp) (.one ⟨hU, hS⟩)
  · refine .ck64 (by omega) (.ixD 0 (by omega) (by omega) (.one ?_))
    rw [show ((W.length : Int) - 1).toNat = 2 ^ n - 1 by omega, hW.2 _ (by omega), V_at n q (by omega)]
theorem count_err {N : Nat} {r : Rel} {e : Int} (he : e ≠ 0) (ha : order_acyclic N r = some (0, [], e)) : order_Count N r = some (0, e) := by
  unfold order_Count
  rw [bd_of ha]
  exact cond_of (by simpa using he)
theorem pOf_closed {r : Rel} {n : Nat} {A : List Int} (V : RelV r n) (h : Closed r n A) : RelV ⟨(n : Int), A⟩ n ∧ ∀ i j, pOf ⟨(n : Int), A⟩ i j = cl r n i j := by
  have hu : RelU ⟨(n : Int), A⟩ := fun i hi => (h i hi).rng
  have e : ∀ i j, pOf ⟨(n : Int), A⟩ i j = cl r n i j := by
    intro i j
    by_cases hi : i < 12
    · exact (hu.row hi).uniq (h i hi) j
    · cases h1 : cl r n i j with
      | false =>
        cases h2 : pOf ⟨(n : Int), A⟩ i j with
        | false => rfl
        | true => exact absurd (pOf_lt h2) hi
      | true => have := (war_in V.inn n i j h1).1; have := V.le; omega
  exact ⟨⟨hu, rfl, V.le, fun i j hp => war_in V.inn n i j ((e i j).symm.trans hp)⟩, e⟩
theorem cl_closed {r : Rel} {n : Nat} {A : List Int} (V : RelV r n) (h : Closed r n A) : cl ⟨(n : Int), A⟩ n = cl r n := by
  obtain ⟨_, e⟩ := pOf_closed V h
  have e2 : pOf ⟨(n : Int), A⟩ = cl r n := by funext i j; exact e i j
  unfold cl
  rw [e2]
  funext i j
  exact war_same (p := cl r n) (fun i m j _ h1 h2 => cl_tr V h1 h2) n (Nat.le_refl _) i j
/-- OrderClosed, plainly. -/
theorem closedLaw {N : Nat} (hN : 5000 < N) (hl : alibkeep_orderLives N = some true) {r : Rel} (hu : RelU r) : alibkeep_OrderClosed N r = some true := by
  refine Wp.eq ?_
  unfold alibkeep_OrderClosed
  have fin : ∀ {n : Nat} {A A' : List Int} {b : Bool} {x : Int × Int}, RelV r n → Closed r n A → Closed ⟨(n : Int), A⟩ n A' → order_Close N r = some ((n : Int), A, b, 0) → order_Close N ⟨(n : Int), A⟩ = some ((n : Int), A', b, 0) → order_Count N r = some x → order_Count N ⟨(n : Int), A⟩ = some x →
      Wp (bd (order_Close N r) fun (r3 : (Int × (List Int) × Bool × Int)) =>
  bd (alibkeep_orderLives N) fun (r5 : Bool) =>
  cond ((!r5) || (!(decide (r3.2.2.2 = 0))))
    (bd (alibkeep_orderLives N) fun (r6 : Bool) =>
    some (r6 && (decide (r3.1 = 0) && eqA 12 r3.2.1 [])))
    (bd (order_Close N (Rel.mk r3.1 r3.2.1)) fun (r7 : (Int × (List Int) × Bool × Int)) =>
    bd (α := (Unit ⊕ Bool)) (iter (alibkeep_OrderClosed_L3 N r r3) N 0) <|
    Sum.elim (fun _ => 
      bd (order_Count N r) fun (r13 : (Int × Int)) =>
      bd (order_Count N (Rel.mk r3.1 r3.2.1)) fun (r14 : (Int × Int)) =>
      some (((((decide (r7.2.2.2 = 0)) && (decide (r7.1 = r3.1) && eqA 12 r7.2.1 r3.2.1)) && (r7.2.2.1 == r3.2.2.1)) && (decide (r13.1 = r14.1))) && (decide (r13.2 = r14.2)))) (fun p => some p))) (· = true) := by
    intro n A A' b x V hA hA' hc hc' hx hx'
    refine .bdO hc (.bdO hl (.condF (by simp) (.bdO hc' ?_)))
    have hit : iter (alibkeep_OrderClosed_L3 N r ((n : Int), A, b, 0)) N 0 = some (.inl ()) := by
      refine iter_up (fun k => (k : Int)) _ 12 _ rfl (fun k hk => Wp.eq ?_) (Wp.eq ?_) N (by omega)
      · unfold alibkeep_OrderClosed_L3
        refine .condT (decide_eq_true (by omega)) (.axN hk (.axN hk (.condF ?_ (.ck64 (by omega) (.one (by simp))))))
        rw [((V.u.row hk).clr (hA k hk)).empty.2 fun j => ?_]
        · rfl
        · cases hp : pOf r k j with
          | false => rfl
          | true =>
            have : war (pOf r) n k j = true := war_up (Nat.zero_le n) hp
            rw [this]; rfl
      · unfold alibkeep_OrderClosed_L3
        exact .condF rfl (.one rfl)
    refine .bdO hit (.inlE (.bdO hx (.bdO hx' (.one ?_))))
    have he : eqA 12 A' A = true := eqA_of fun i hi => (hA' i hi).eq ((hA i hi).cong fun j => by rw [show war (pOf ⟨(n : Int), A⟩) n = war (pOf r) n from cl_closed V hA])
    simp [he]
  rcases acyclic (N := N) (by omega) hu with ⟨n, A, V, hA, hno, hc, ha⟩ | ⟨n, A, V, hA, ⟨i, hi, hcy⟩, hc, ha⟩ | ⟨e, he, hv, hc, ha⟩
  · obtain ⟨V', e'⟩ := pOf_closed V hA
    have ec := cl_closed V hA
    rcases acyclic (N := N) (by omega) V'.u with ⟨n', A', W, hA', hno', hc', ha'⟩ | ⟨n', A', W, hA', ⟨i, hi, hcy⟩, hc', ha'⟩ | ⟨e, he, hv, hc', ha'⟩
    · obtain rfl := V'.uniq W
      have h2 := count_wp hN (CR.of V' hA') ha'
      rw [ec] at h2
      exact fin V hA hA' hc hc' (count_wp hN (CR.of V hA) ha) h2
    · obtain rfl := V'.uniq W
      rw [ec, hno] at hcy; cases hcy
    · exact (hv n V').elim
  · obtain ⟨V', e'⟩ := pOf_closed V hA
    have ec := cl_closed V hA
    rcases acyclic (N := N) (by omega) V'.u with ⟨n', A', W, hA', hno', hc', ha'⟩ | ⟨n', A', W, hA', _, hc', ha'⟩ | ⟨e, he, hv, hc', ha'⟩
    · obtain rfl := V'.uniq W
      have := hno' i
      rw [ec, hcy] at this; cases this
    · obtain rfl := V'.uniq W
      exact fin V hA hA' hc hc' (count_err (by decide) ha) (count_err (by decide) ha')
    · exact (hv n V').elim
  · refine .bdO hc (.bdO hl (.condT (by simpa using he) (.bdO hl (.one ?_))))
    rw [eqA_of fun i _ => rfl]; rfl
theorem ordLives : alibkeep_orderLives 18446744073709551616 = some true := by kernel_rfl
end Rl

end Go.Proofs.Ytemckhkicfpgeaa
