/- Least; OrderSzpilrajn. -/
import Derived.Test.YtemckhkicfpgeaaO4
import Derived.Test.YtemckhkicfpgeaaR3
set_option linter.unusedVariables false
set_option linter.unusedSimpArgs false
set_option linter.unusedSectionVars false
set_option maxRecDepth 100000
namespace Go.Proofs.Ytemckhkicfpgeaa
open Go.RowKit
theorem Row.test0 {x : Int} {p : Nat → Bool} (h : Row x p) (j : Nat) : decide (bandI .u16 (shrI .u16 x (j : Int)) 1 = 0) = !p j := by
  obtain ⟨a, rfl, h2, ha⟩ := h
  rw [shr16 h2, show (1 : Int) = ((1 : Nat) : Int) from rfl, band16 (Nat.lt_of_le_of_lt (by rw [Nat.shiftRight_eq_div_pow]; exact Nat.div_le_self _ _) h2) (by decide), ← ha]
  rw [Nat.testBit]
  simp only [Nat.and_comm 1]
  have hx : (a >>> j) &&& 1 = (a >>> j) % 2 := Nat.and_one_is_mod _
  rw [hx]
  rcases Nat.mod_two_eq_zero_or_one (a >>> j) with h | h <;> rw [h] <;> rfl
namespace Rl
theorem leastBy (P : Nat → Prop) (f : Nat → Nat) : ∀ m, (∃ i, P i ∧ f i ≤ m) → ∃ i, P i ∧ ∀ j, P j → f i ≤ f j
  | 0, ⟨i, h1, h2⟩ => ⟨i, h1, fun j _ => by omega⟩
  | m + 1, ⟨i, h1, h2⟩ => by
    by_cases h : ∃ j, P j ∧ f j ≤ m
    · exact leastBy P f m h
    · exact ⟨i, h1, fun j hj => by
        have : ¬ f j ≤ m := fun h' => h ⟨j, hj, h'⟩
        omega⟩
/-- How many stand ahead. -/
def cnt (n : Nat) (q : Nat → Nat → Bool) (i : Nat) : Nat := ((List.range n).filter fun y => q y i).length
structure Acy (n : Nat) (q : Nat → Nat → Bool) : Prop where
  inn : ∀ i j, q i j = true → i < n ∧ j < n
  tr : ∀ {i m j}, q i m = true → q m j = true → q i j = true
  irr : ∀ i, q i i = false
theorem cnt_lt {n : Nat} {q : Nat → Nat → Bool} (H : Acy n q) {y i : Nat} (h : q y i = true) : cnt n q y < cnt n q i := by
  unfold cnt
  have := pig (l := y :: (List.range n).filter fun z => q z y) (m := (List.range n).filter fun z => q z i) ?_ fun x hx => ?_
  · simp only [List.length_cons] at this; omega
  · refine List.nodup_cons.2 ⟨fun hm => ?_, List.nodup_range.filter _⟩
    have := (List.mem_filter.1 hm).2
    rw [H.irr] at this; cases this
  · rw [List.mem_filter, List.mem_range]
    rcases List.mem_cons.1 hx with rfl | hx
    · exact ⟨(H.inn _ _ h).1, h⟩
    · have := (List.mem_filter.1 hx).2
      exact ⟨(H.inn _ _ this).1, H.tr this h⟩
theorem cnt_le (n : Nat) (q : Nat → Nat → Bool) (i : Nat) : cnt n q i ≤ n := by
  unfold cnt
  have := List.length_filter_le (fun y => q y i) (List.range n)
  simpa using this
/-- Something can come next. -/
theorem next_ex {n : Nat} {q : Nat → Nat → Bool} (H : Acy n q) {l : List Nat} (hl : l.length < n) : ∃ i, i < n ∧ i ∉ l ∧ ∀ y, q y i = true → y ∈ l := by
  obtain ⟨j, hj, hjl⟩ := pig_ex hl
  obtain ⟨i, ⟨hi, hil⟩, hmin⟩ := leastBy (fun i => i < n ∧ i ∉ l) (cnt n q) _ ⟨j, ⟨hj, hjl⟩, Nat.le_refl _⟩
  refine ⟨i, hi, hil, fun y hy => ?_⟩
  apply Classical.byContradiction
  intro hyl
  have h1 := hmin y ⟨(H.inn _ _ hy).1, hyl⟩
  have h2 := cnt_lt H hy
  omega
theorem lin_ex {n : Nat} {q : Nat → Nat → Bool} (H : Acy n q) : ∀ k, k ≤ n → ∃ l, Ok n q l ∧ l.length = k
  | 0, _ => ⟨[], trivial, rfl⟩
  | k + 1, h => by
    obtain ⟨l, h1, h2⟩ := lin_ex H k (by omega)
    obtain ⟨i, g1, g2, g3⟩ := next_ex H (l := l) (by omega)
    exact ⟨i :: l, ⟨h1, g1, g2, g3⟩, by simp [h2]⟩
theorem ok_lin {n : Nat} {q : Nat → Nat → Bool} (H : Acy n q) {l : List Nat} (h : Ok n q l) (hl : l.length = n) : Lin n q l := by
  obtain ⟨h1, h2, h3⟩ := Ok_iff.1 h
  have hm : ∀ j, j ∈ l ↔ j < n := fun j => ⟨h2 j, pig_all h1 h2 (by omega)⟩
  exact ⟨h1, hm, fun x y hq => h3 x y ((hm y).2 (H.inn _ _ hq).2) hq⟩
theorem fN_pos {n : Nat} {q : Nat → Nat → Bool} (H : Acy n q) : 1 ≤ fN n q (2 ^ n - 1) := by
  obtain ⟨l, h1, h2⟩ := lin_ex H n (Nat.le_refl n)
  have := (mem_full H.inn l).2 (ok_lin H h1 h2)
  unfold fN
  exact List.length_pos_of_mem this
theorem acy_of {r : Rel} {n : Nat} (V : RelV r n) (hno : ∀ i, cl r n i i = false) : Acy n (cl r n) := ⟨war_in V.inn n, fun h1 h2 => cl_tr V h1 h2, hno⟩
abbrev fwd (l : List Nat) : List Int := l.reverse.map fun (x : Nat) => (x : Int)
theorem least_in {N : Nat} (hN : 5000 < N) {n : Nat} {A : List Int} {q : Nat → Nat → Bool} (C : CR ⟨n, A⟩ n q) (H : Acy n q) {l : List Nat} (hl : Ok n q l) (hlen : l.length < n) {d : Int} (hd : Row d fun j => decide (j ∈ l)) :
    Wp (iter (order_Least_L15 N ((n : Int), A, 0) d (fwd l)) N 0) fun st => ∃ i, Ok n q (i :: l) ∧ st.1 = fwd (i :: l) ∧ Row st.2 fun j => decide (j ∈ i :: l) := by
  have hle := C.le
  obtain ⟨i0, g1, g2, g3⟩ := next_ex H hlen
  refine .iter n (fun k v => v = (k : Int) ∧ ∀ i, i < k → i ∉ l → ¬ ∀ y, q y i = true → y ∈ l) (by omega) ⟨rfl, fun i h => absurd h (Nat.not_lt_zero _)⟩ ?_ ?_
  · rintro k v hk ⟨rfl, hI⟩
    simp only [order_Least_L15]
    refine .condT (decide_eq_true (by omega)) ?_
    rw [wrapU64 (by omega) (by omega), hd.test0 k]
    obtain ⟨x, hx, hrow⟩ := before_ok (N := N) (by omega) C (j := k) (by omega)
    refine .gd x (fun _ => hx) fun b hb => ?_
    refine .cond (fun h => ?_) fun h => .ck64 (by omega) (.one ⟨by simp, fun i hi hil => ?_⟩)
    · simp only [Bool.and_eq_true, Bool.not_eq_true', decide_eq_false_iff_not, decide_eq_true_eq] at h
      obtain ⟨h1, h2⟩ := h
      rw [hb (by simp [h1])] at h2
      have h3 := (hrow.clr hd).empty.1 h2
      have hlen2 : (fwd l).length = l.length := by simp [fwd]
      have h4 : ∀ y, q y k = true → y ∈ l := fun y hy => by
        have := h3 y
        simpa [hy] using this
      refine .ck (limB_of (by simp only [List.length_append, hlen2, List.length_cons, List.length_nil]; unfold maxLen; omega)) (.one ⟨k, ⟨hl, hk, h1, h4⟩, by simp [fwd], ?_⟩)
      have h5 := hd.or (Row.one (j := k) (by omega))
      refine h5.cong fun j => ?_
      simp only [List.mem_cons]
      by_cases e : k = j
      · subst e; simp
      · have e' : ¬ j = k := fun h => e h.symm
        simp [e, e']
    · by_cases e : i = k
      · subst e
        intro hall
        have h1 : (!decide (i ∈ l)) = true := by simp [hil]
        rw [h1, hb (by rw [h1]; rfl), (hrow.clr hd).empty.2 fun y => ?_] at h
        · cases h
        · cases hy : q y i with
          | false => rfl
          | true => simp [hall y hy]
      · exact hI i (by omega) hil
  · rintro v ⟨rfl, hI⟩
    exact (hI i0 g1 g2 g3).elim
theorem least_wp {N : Nat} (hN : 5000 < N) {r : Rel} {n : Nat} {A : List Int} {q : Nat → Nat → Bool} (C : CR ⟨n, A⟩ n q) (H : Acy n q) (ha : order_acyclic N r = some ((n : Int), A, 0)) : ∃ l, order_Least N r = some (fwd l, 0) ∧ Lin n q l := by
  have hle := C.le
  have key : Wp (order_Least N r) fun x => x.2 = 0 ∧ ∃ l, x.1 = fwd l ∧ Lin n q l := by
    unfold order_Least
    refine .bdO ha (.condF rfl (.seq (P := fun o => ∃ l, o = fwd l ∧ Lin n q l) ?_ fun o _ ho => .one ⟨rfl, ho⟩))
    refine .iter n (fun k st => ∃ l, Ok n q l ∧ l.length = k ∧ st.1 = fwd l ∧ Row st.2 fun j => decide (j ∈ l)) (by omega) ⟨[], trivial, rfl, rfl, Row.zero.cong fun j => by simp⟩ ?_ ?_
    · rintro k ⟨o, d⟩ hk ⟨l, h1, h2, h3, h4⟩
      simp only at h3 h4
      subst h3
      simp only [order_Least_L14]
      refine .condT (decide_eq_true (by simp [fwd]; omega)) (.seq (least_in hN C H h1 (by omega) h4) fun st _ hst => .one ?_)
      obtain ⟨i, g1, g2, g3⟩ := hst
      exact ⟨i :: l, g1, by simp [h2], g2, g3⟩
    · rintro ⟨o, d⟩ ⟨l, h1, h2, h3, h4⟩
      simp only at h3 h4
      subst h3
      simp only [order_Least_L14]
      exact .condF (decide_eq_false (by simp [fwd]; omega)) (.one ⟨l, rfl, ok_lin H h1 h2⟩)
  obtain ⟨⟨o, e⟩, h1, h2, l, h3, h4⟩ := key
  simp only at h2 h3
  subst h2; subst h3
  exact ⟨l, h1, h4⟩
theorem least_err {N : Nat} {r : Rel} {e : Int} (he : e ≠ 0) (ha : order_acyclic N r = some (0, [], e)) : order_Least N r = some ([], e) := by
  unfold order_Least
  rw [bd_of ha]
  exact cond_of (by simpa using he)
/-- Where something stands. -/
theorem index_wp {N : Nat} {l : List Int} {x : Int} (hN : l.length < N) (hl : l.length ≤ 1000) {k : Nat} (hk : k < l.length) (hx : l[k] = x) (hb : ∀ j (h : j < l.length), j < k → l[j] ≠ x) : slices_Index_int_int N l x = some (k : Int) := by
  refine Wp.eq ?_
  unfold slices_Index_int_int
  refine .elim (P := fun t => t = .inr (k : Int)) ?_ (fun a _ h => by cases h) fun a _ h => .one (by cases h; rfl)
  refine .iter k (fun i v => v = (i : Int)) (by omega) rfl ?_ ?_
  · rintro i v hi rfl
    simp only [slices_Index_int_int_L3]
    refine .condT (decide_eq_true (by omega)) (.ix (by omega) (.condF (decide_eq_false fun h => hb i (by omega) hi h.symm) (.ck64 (by omega) (.one (by simp)))))
  · rintro v rfl
    simp only [slices_Index_int_int_L3]
    exact .condT (decide_eq_true (by omega)) (.ix hk (.condT (decide_eq_true hx.symm) (.one rfl)))
theorem split_at {l : List Nat} {x : Nat} (h : x ∈ l) (hn : l.Nodup) : ∃ k, k < l.length ∧ l[k]? = some x ∧ ∀ j, l[j]? = some x → j = k := by
  obtain ⟨k, hk, e⟩ := List.getElem_of_mem h
  refine ⟨k, hk, by rw [List.getElem?_eq_getElem hk, e], fun j hj => ?_⟩
  obtain ⟨hj1, hj2⟩ := List.getElem?_eq_some_iff.1 hj
  exact (List.getElem_inj hn).1 (hj2.trans e.symm)
/-- Who is ahead stands ahead. -/
theorem bef_at {l : List Nat} (hn : l.Nodup) {x y : Nat} (h : bef l x y = true) {a b : Nat} (ha : l[a]? = some x) (hb : l[b]? = some y) : b < a := by
  induction l generalizing a b with
  | nil => cases h
  | cons i l ih =>
    obtain ⟨g1, g2⟩ := List.nodup_cons.1 hn
    simp only [bef, Bool.or_eq_true, Bool.and_eq_true, decide_eq_true_eq] at h
    rcases h with ⟨rfl, h⟩ | h
    · cases b with
      | zero =>
        cases a with
        | zero => simp at ha; subst ha; exact (g1 h).elim
        | succ a => omega
      | succ b =>
        simp only [List.getElem?_cons_succ] at hb
        exact (g1 (List.mem_of_getElem? hb)).elim
    · have hx := (bef_mem h).1; have hy := (bef_mem h).2
      cases a with
      | zero => simp at ha; subst ha; exact (g1 hx).elim
      | succ a =>
        cases b with
        | zero => omega
        | succ b =>
          simp only [List.getElem?_cons_succ] at ha hb
          have := ih g2 h ha hb
          omega
theorem index_fwd {N : Nat} (hN : 5000 < N) {l : List Nat} (hn : l.Nodup) (hl : l.length ≤ 12) {x k : Nat} (h : l[k]? = some x) : slices_Index_int_int N (fwd l) (x : Int) = some ((l.length - 1 - k : Nat) : Int) := by
  obtain ⟨hk, he⟩ := List.getElem?_eq_some_iff.1 h
  have hlen : (fwd l).length = l.length := by simp [fwd]
  refine index_wp (by omega) (by omega) (by omega) ?_ fun j hj hjk hjx => ?_
  · simp only [fwd, List.getElem_map, List.getElem_reverse, Int.natCast_inj]
    rw [← he]
    congr 1
    omega
  · simp only [fwd, List.getElem_map, List.getElem_reverse, Int.natCast_inj] at hjx
    have := (List.getElem_inj hn).1 (hjx.trans he.symm)
    omega
theorem ahead_ok {N : Nat} {c : Rel} {n : Nat} {q : Nat → Nat → Bool} (C : CR c n q) {i j : Nat} (hi : i < 12) : alibref_Ahead N c (i : Int) (j : Int) = some (q i j) := by
  unfold alibref_Ahead
  rw [bd_of (ax_nat' hi), ck_of (by simp)]
  have h := (C.row i hi).shr j
  obtain ⟨a, ha, h1, h2⟩ := h
  rw [ha]
  unfold remI
  rw [Int.tmod_eq_emod_of_nonneg (by omega)]
  have : a.testBit 0 = q i (j + 0) := h2 0
  rw [Nat.add_zero, Nat.testBit_zero] at this
  rw [← this]
  congr 1
  exact decide_eq_decide.2 (by omega)
theorem ok2 {N : Nat} (hN : 1000 < N) : alibkeep_ok N [0, 0] = some true := by
  obtain ⟨M, rfl⟩ : ∃ M, N = M + 3 := ⟨N - 3, by omega⟩
  rfl
/-- With one more put in against nothing it is not round. -/
theorem plus_acy {r a : Rel} {n i j : Nat} (V : RelV r n) (hno : ∀ x, cl r n x x = false) (hi : i < n) (hj : j < n) (hij : i ≠ j) (hn : cl r n i j = false) (P : Plus r a j i) : ∀ x, cl a n x x = false := by
  have W := P.v V hj hi
  let q' : Nat → Nat → Bool := fun x y => cl r n x y || ((decide (x = j) || cl r n x j) && (decide (y = i) || cl r n i y))
  have h1 : ∀ x y, cl a n x y = true → q' x y = true := by
    intro x y h
    refine war_least (q := q') (n := n) (fun x y h => ?_) (fun x m y _ ha hb => ?_) n (Nat.le_refl _) x y h
    · rw [P.p] at h
      simp only [q', Bool.or_eq_true, Bool.and_eq_true, decide_eq_true_eq] at h ⊢
      rcases h with h | ⟨rfl, rfl⟩
      · exact .inl (war_up (Nat.zero_le n) h)
      · exact .inr ⟨.inl rfl, .inl rfl⟩
    · simp only [q', Bool.or_eq_true, Bool.and_eq_true, decide_eq_true_eq] at ha hb ⊢
      rcases ha with ha | ⟨a1, a2⟩ <;> rcases hb with hb | ⟨b1, b2⟩
      · exact .inl (cl_tr V ha hb)
      · refine .inr ⟨.inr ?_, b2⟩
        rcases b1 with rfl | b1
        · exact ha
        · exact cl_tr V ha b1
      · refine .inr ⟨a1, .inr ?_⟩
        rcases a2 with rfl | a2
        · exact hb
        · exact cl_tr V a2 hb
      · exact .inr ⟨a1, b2⟩
  intro x
  cases h : cl a n x x with
  | false => rfl
  | true =>
    have := h1 x x h
    simp only [q', Bool.or_eq_true, Bool.and_eq_true, decide_eq_true_eq] at this
    rcases this with h2 | ⟨h2, h3⟩
    · rw [hno] at h2; cases h2
    · rcases h2 with rfl | h2 <;> rcases h3 with rfl | h3
      · exact (hij rfl).elim
      · rw [hn] at h3; cases h3
      · rw [hn] at h2; cases h2
      · rw [cl_tr V h3 h2] at hn; cases hn
/-- OrderSzpilrajn, plainly. -/
theorem szpilrajnLaw {N : Nat} (hN : 5000 < N) (hl : alibkeep_orderLives N = some true) {r : Rel} (hu : RelU r) (i j : Int) : alibkeep_OrderSzpilrajn N r i j = some true := by
  refine Wp.eq ?_
  unfold alibkeep_OrderSzpilrajn
  rcases acyclic (N := N) (by omega) hu with ⟨n, A, V, hA, hno, hc, ha⟩ | ⟨n, A, V, hA, hcy, hc, ha⟩ | ⟨e, he, hv, hc, ha⟩
  · have hn := V.is
    have hle := V.le
    have C := CR.of V hA
    have H := acy_of V hno
    obtain ⟨l, hL, hlin⟩ := least_wp hN C H ha
    have h1 := count_wp hN C ha
    have g1 := fN_pos H
    have hlen : l.length = n := by
      have := pig_lt hlin.1 fun x hx => (hlin.2.1 x).1 hx
      have h2 := pig (l := List.range n) (m := l) List.nodup_range fun x hx => (hlin.2.1 x).2 (List.mem_range.1 hx)
      simp at h2; omega
    have hlen2 : ((fwd l).length : Int) = r.n := by simp [fwd]; omega
    refine .bdO hc (.bdO hL (.bdO h1 (.bdO hl (.condF (by simp) (.condF (by simp) (.condF rfl ?_))))))
    refine .cond (fun _ => .one ?_) fun hcn => ?_
    · simp only [hlen2, decide_true, Bool.and_true, decide_eq_true_eq]; omega
    simp only [Bool.or_eq_false_iff, Bool.not_eq_false', decide_eq_true_eq, decide_eq_false_iff_not] at hcn
    obtain ⟨⟨⟨⟨⟨⟨_, _⟩, c2⟩, c3⟩, c4⟩, c5⟩, c6⟩ := hcn
    obtain ⟨x, rfl⟩ : ∃ x : Nat, i = x := ⟨i.toNat, by omega⟩
    obtain ⟨y, rfl⟩ : ∃ y : Nat, j = y := ⟨j.toNat, by omega⟩
    have hx : x < n := by omega
    have hy : y < n := by omega
    have hxy : x ≠ y := fun h => c6 (by rw [h])
    refine .bdO (ahead_ok C (by omega)) (.cond (fun h => ?_) fun h => ?_)
    · have hb := hlin.2.2 x y h
      obtain ⟨a, a1, a2, _⟩ := split_at ((hlin.2.1 x).2 hx) hlin.1
      obtain ⟨b, b1, b2, _⟩ := split_at ((hlin.2.1 y).2 hy) hlin.1
      have := bef_at hlin.1 hb a2 b2
      refine .bdO (index_fwd hN hlin.1 (by omega) a2) (.bdO (index_fwd hN hlin.1 (by omega) b2) (.one ?_))
      simp only [decide_eq_true_eq]; omega
    · have P := plus_of V hy hx
      have W := P.v V hy hx
      have hno' := plus_acy V hno hx hy hxy h P
      rcases acyclic (N := N) (by omega) W.u with ⟨n', A', W', hA', _, hc', ha'⟩ | ⟨n', A', W', hA', ⟨z, _, hz⟩, hc', ha'⟩ | ⟨e, he, hv, hc', ha'⟩
      · obtain rfl := W.uniq W'
        have h3 := count_wp hN (CR.of W hA') ha'
        have g2 := fN_pos (acy_of W hno')
        have g3 : fN n (cl ⟨r.n, setA 12 0 r.after (y : Int) (borI .u16 (r.after.getD y 0) (shlI .u16 1 (x : Int)))⟩ n) (2 ^ n - 1) ≤ fN n (cl r n) (2 ^ n - 1) := by
          rw [P.count V hy hx]
          unfold fN
          exact List.countP_le_length
        refine .axN (by omega) (.ck (by simp) (.axN (by omega) (.bdO hc' (.bdO h3 (.bdO (ok2 (by omega)) (.one ?_))))))
        simp only [Bool.not_false, Bool.and_true, Bool.true_and, Bool.and_eq_true, decide_eq_true_eq]
        omega
      · obtain rfl := W.uniq W'
        rw [hno'] at hz; cases hz
      · exact (hv n W).elim
  · refine .bdO hc (.bdO (least_err (by decide) ha) (.bdO (count_err (by decide) ha) (.bdO hl (.condF (by simp) (.condF (by simp) (.condT rfl (.one rfl)))))))
  · refine .bdO hc (.bdO (least_err he ha) (.bdO (count_err he ha) (.bdO hl (.condT (by simp [he]) (.bdO hl (.one (by simp)))))))
end Rl

end Go.Proofs.Ytemckhkicfpgeaa
