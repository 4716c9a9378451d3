/- OrderDilworth, plainly. -/
import Derived.Test.YtemckhkicfpgeaaO10
set_option linter.unusedVariables false
set_option linter.unusedSimpArgs false
set_option linter.unusedSectionVars false
set_option maxRecDepth 100000
namespace Go.Proofs.Ytemckhkicfpgeaa
open Go.RowKit
namespace Rl
theorem bit_lt {n t : Nat} (ht : t < 2 ^ n) {i : Nat} (h : t.testBit i = true) : i < n := by
  apply Classical.byContradiction
  intro hi
  have h1 := Nat.ge_two_pow_of_testBit h
  have h2 : 2 ^ n ≤ 2 ^ i := Nat.pow_le_pow_right (by decide) (by omega)
  omega
theorem chains_wp {N : Nat} (hN : 5000 < N) {r : Rel} {n : Nat} {A : List Int} {q : Nat → Nat → Bool} (C : CR ⟨n, A⟩ n q) (H : Acy n q) (ha : order_acyclic N r = some ((n : Int), A, 0)) {t : Nat} (hw : order_widest N ⟨n, A⟩ = some (ints_ (its t)))
    (hm : ∀ s, s < 2 ^ n → Apt q s → (its s).length ≤ (its t).length) : ∃ (g : Nat → Nat) (out : List Int), order_Chains N r = some (out, 0) ∧ out.length = n ∧ (∀ x, x < n → g x < (its t).length ∧ at_ out x = (g x : Nat)) ∧ Com q g n := by
  have hle := C.le
  have htl := its_len t
  have hli : (ints_ (its t)).length = (its t).length := by simp [ints_]
  obtain ⟨g, hg1, hg2⟩ := dilworth H n (List.range n) (its t).length (by simp) List.nodup_range fun l hl => apt_list hle hm hl.1 (fun x hx => List.mem_range.1 (hl.2.1 x hx)) hl.2.2
  have key : Wp (order_Chains N r) fun x => x.2 = 0 ∧ x.1.length = n ∧ ∃ g : Nat → Nat, (∀ y, y < n → g y < (its t).length ∧ at_ x.1 y = (g y : Nat)) ∧ Com q g n := by
    unfold order_Chains
    refine .bdO ha (.condF rfl (.bd (.bdO hw (.ck (mkB_of (by omega) (by omega) (by omega)) (.one ?_)))))
    rw [hli, Int.toNat_natCast]
    have h := place_wp hN C (W := (its t).length) htl N 0 0 (fun _ => 0) (List.replicate n (0 : Int)) [] (by omega) (by omega) (by omega) ⟨fun x h => absurd h (Nat.not_lt_zero _), fun x h => absurd h (Nat.not_lt_zero _), fun x y h => absurd h (Nat.not_lt_zero _), rfl, fun x h => absurd h (Nat.not_lt_zero _)⟩ (by simp) (fun x h => absurd h (Nat.not_lt_zero _))
    refine .seq h fun x _ hx => .one ⟨rfl, hx.1, ?_⟩
    rcases hx.2 with ⟨_, g, e1, e2, e3⟩ | ⟨_, _, _, h4⟩
    · exact ⟨g, fun y hy => ⟨e1 y hy, e3 y hy⟩, e2⟩
    · exact (h4 ⟨g, fun x h => absurd h (Nat.not_lt_zero _), fun x hx => hg1 x (List.mem_range.2 hx), fun x y hx hy e => hg2 x (List.mem_range.2 hx) y (List.mem_range.2 hy) e⟩).elim
  obtain ⟨⟨out, e⟩, h1, h2, h3, g, h4, h5⟩ := key
  simp only at h2
  subst h2
  exact ⟨g, out, h1, h3, h4, h5⟩
theorem chains_err {N : Nat} {r : Rel} {e : Int} (he : e ≠ 0) (ha : order_acyclic N r = some (0, [], e)) : order_Chains N r = some ([], e) := by
  unfold order_Chains
  rw [bd_of ha]
  exact cond_of (by simpa using he)
/-- OrderDilworth, plainly. -/
theorem dilworthLaw {N : Nat} (hN : 5000 < N) (hl : alibkeep_orderLives N = some true) {r : Rel} (hu : RelU r) : alibkeep_OrderDilworth N r = some true := by
  refine Wp.eq ?_
  unfold alibkeep_OrderDilworth
  rcases acyclic (N := N) (by omega) hu with ⟨n, A, V, hA, hno, hc, ha⟩ | ⟨n, A, V, hA, hcy, hc, ha⟩ | ⟨e, he, hv, hc, ha⟩
  · have hn := V.is
    have hle := V.le
    have C := CR.of V hA
    have H := acy_of V hno
    have h12 : 2 ^ n ≤ 2 ^ 12 := Nat.pow_le_pow_right (by decide) hle
    have e12 : 2 ^ 12 = 4096 := by decide
    obtain ⟨t, t1, t2, t3, t4⟩ := widest_wp hN C
    have hap : order_Apart N r = some (ints_ (its t), 0) := by
      unfold order_Apart
      rw [bd_of ha]
      simp only
      rw [bd_of t2]; rfl
    obtain ⟨g, out, c1, c2, c3, c4⟩ := chains_wp hN C H ha t2 t4
    have htl := its_len t
    have hli : (ints_ (its t)).length = (its t).length := by simp [ints_]
    have hmem : ∀ k, k < (its t).length → (its t).getD k 0 ∈ its t := fun k hk => by rw [getD_of hk]; exact List.getElem_mem hk
    have hlt : ∀ x ∈ its t, x < n := fun x hx => bit_lt t1 ((mem_its (by omega)).1 hx)
    refine .bdO hap (.bdO c1 (.bdO hc (.bd (.bdO hl (.condT rfl (.bdO (ok3 (by omega)) (.one ?_)))))))
    refine .condF (by simp [c2, hn]) ?_
    refine .elim (P := fun s => ∃ many : Int, s = .inl many ∧ 0 ≤ many ∧ many ≤ ((its t).length : Int) ∧ ∀ x, x < n → ((g x : Nat) : Int) + 1 ≤ many) ?_ (fun many _ hm => ?_) (fun b _ hm => by obtain ⟨_, h, _⟩ := hm; cases h)
    · refine .iter n (fun i st => st.2 = (i : Int) ∧ 0 ≤ st.1 ∧ st.1 ≤ ((its t).length : Int) ∧ ∀ x, x < i → ((g x : Nat) : Int) + 1 ≤ st.1) (by omega) ⟨rfl, by simp, by simp, fun x h => absurd h (Nat.not_lt_zero _)⟩ ?_ ?_
      · rintro i ⟨many, v⟩ hi ⟨hv, h0, h1, h2⟩
        simp only at hv h0 h1 h2
        subst hv
        simp only [alibkeep_OrderDilworth_L39]
        obtain ⟨gi1, gi2⟩ := c3 i hi
        have gi2' : out.getD i 0 = ((g i : Nat) : Int) := gi2
        refine .condT (decide_eq_true (by omega)) (.bd (.ixD 0 (by omega) (by omega) ?_))
        rw [Int.toNat_natCast, gi2']
        refine .ck64 (by omega) (.ck (by simp [slB]; omega) ?_)
        refine .mono (P := fun s => s = .inl (max many (((g i : Nat) : Int) + 1))) ?_ fun s hs => ?_
        · have htk : (out.take i).length = i := by simp; omega
          refine .iter i (fun j v => v = (j : Int)) (by omega) rfl ?_ ?_
          · rintro j v hj rfl
            simp only [alibkeep_OrderDilworth_L41, Int.toNat_natCast]
            obtain ⟨gj1, gj2⟩ := c3 j (by omega)
            have hgj : (out.take i).getD j 0 = ((g j : Nat) : Int) := by
              rw [List.getD_eq_getElem?_getD, List.getElem?_take, if_pos hj, ← List.getD_eq_getElem?_getD]; exact gj2
            refine .condT (decide_eq_true (by omega)) (.ixD 0 (by omega) (by omega) ?_)
            rw [Int.toNat_natCast, hgj]
            refine .gd (cl r n i j) (fun _ => ahead_ok C (by omega)) fun b hb => .gd (cl r n j i) (fun _ => ahead_ok C (by omega)) fun b2 hb2 => .condF ?_ (.ck64 (by omega) (.one (by simp)))
            by_cases e : ((g i : Nat) : Int) = ((g j : Nat) : Int)
            · have hd : decide (((g i : Nat) : Int) = ((g j : Nat) : Int)) = true := decide_eq_true e
              rw [hd] at hb hb2 ⊢
              have hb := hb rfl
              subst hb
              rcases c4 i j hi (by omega) (by omega) with h | h | h
              · omega
              · rw [h]; rfl
              · cases h5 : cl r n i j with
                | true => rfl
                | false =>
                  rw [h5] at hb2
                  have hb2 := hb2 rfl
                  rw [hb2, h]; rfl
            · have hd : decide (((g i : Nat) : Int) = ((g j : Nat) : Int)) = false := decide_eq_false e
              rw [hd]; rfl
          · rintro v rfl
            simp only [alibkeep_OrderDilworth_L41, Int.toNat_natCast]
            exact .condF (decide_eq_false (by omega)) (.one rfl)
        · subst hs
          refine .inlE (.ck64 (by omega) (.one ⟨by simp, by simp only; omega, by simp only; omega, fun x hx => ?_⟩))
          simp only
          by_cases e : x = i
          · subst e; omega
          · have := h2 x (by omega); omega
      · rintro ⟨many, v⟩ ⟨hv, h0, h1, h2⟩
        simp only at hv h0 h1 h2
        subst hv
        simp only [alibkeep_OrderDilworth_L39]
        exact .condF (decide_eq_false (by omega)) (.one ⟨many, rfl, h0, h1, h2⟩)
    · obtain ⟨m, hm0, h0, hm1, hm2⟩ := hm
      obtain rfl := Sum.inl.inj hm0
      have hit : iter (alibkeep_OrderDilworth_L53 N (ints_ (its t), 0) r ((n : Int), A, false, 0)) N 0 = some (.inl ()) := by
        refine iter_up (fun i => (i : Int)) _ (its t).length _ rfl (fun i hi => Wp.eq ?_) (Wp.eq ?_) N (by omega)
        · simp only [alibkeep_OrderDilworth_L53]
          have li := hlt _ (hmem i hi)
          refine .condT (decide_eq_true (by omega)) (.bd (.ixD 0 (by omega) (by omega) ?_))
          rw [Int.toNat_natCast, ints_at hi]
          refine ⟨.inl (), ?_, .inlE (.ck64 (by omega) (.one (by simp)))⟩
          refine iter_up (fun j => (j : Int)) _ (its t).length _ rfl (fun j hj => Wp.eq ?_) (Wp.eq ?_) N (by omega)
          · simp only [alibkeep_OrderDilworth_L55]
            have lj := hlt _ (hmem j hj)
            have hq : cl r n ((its t).getD i 0) ((its t).getD j 0) = false := t3 _ _ ((mem_its (by omega)).1 (hmem i hi)) ((mem_its (by omega)).1 (hmem j hj))
            refine .condT (decide_eq_true (by omega)) (.ixD 0 (by omega) (by omega) ?_)
            rw [Int.toNat_natCast, ints_at hj]
            have hg : (((decide ((((its t).getD i 0 : Nat) : Int) < 0) || decide ((((its t).getD j 0 : Nat) : Int) < 0)) || decide (r.n ≤ (((its t).getD i 0 : Nat) : Int))) || decide (r.n ≤ (((its t).getD j 0 : Nat) : Int))) = false := by
              rw [decide_eq_false (by omega), decide_eq_false (by omega), decide_eq_false (by omega), decide_eq_false (by omega)]; rfl
            rw [hg]
            refine .gd false (fun _ => by rw [ahead_ok C (by omega), hq]) fun b hb => ?_
            have hb := hb rfl
            subst hb
            exact .condF rfl (.ck64 (by omega) (.one (by simp)))
          · simp only [alibkeep_OrderDilworth_L55]
            exact .condF (decide_eq_false (by omega)) (.one rfl)
        · simp only [alibkeep_OrderDilworth_L53]
          exact .condF (decide_eq_false (by omega)) (.one rfl)
      refine .bdO hit (.inlE (.one (decide_eq_true ?_)))
      rw [hli]
      -- unlike items of the widest lie in unlike chains
      have hnd : ((its t).map g).Nodup := by
        unfold List.Nodup
        rw [List.pairwise_map]
        refine List.Pairwise.imp_of_mem (fun {a b} hx hy hab e => ?_) (its_nodup t)
        have b1 := (mem_its (by omega)).1 hx; have b2 := (mem_its (by omega)).1 hy
        rcases c4 a b (hlt a hx) (hlt b hy) e with h | h | h
        · exact hab h
        · have := t3 a b b1 b2; rw [h] at this; cases this
        · have := t3 b a b2 b1; rw [h] at this; cases this
      have := pig_lt (l := (its t).map g) (n := many.toNat) hnd fun x hx => by
        obtain ⟨y, hy, rfl⟩ := List.mem_map.1 hx
        have := hm2 y (hlt y hy); omega
      rw [List.length_map] at this
      omega
  · refine .bdO (apart_err (by decide) ha) (.bdO (chains_err (by decide) ha) (.bdO hc (.bd (.bdO hl (.condT rfl (.bdO (ok3_bad (by omega) (by decide) _ _) (.one ?_)))))))
    exact .condT rfl (.bdO hl (.one rfl))
  · refine .bdO (apart_err he ha) (.bdO (chains_err he ha) (.bdO hc (.bd (.bdO hl (.condT rfl (.bdO (ok3_bad (by omega) he _ _) (.one ?_)))))))
    exact .condT rfl (.bdO hl (.one (by simp)))
end Rl

end Go.Proofs.Ytemckhkicfpgeaa
