/- SerialView, plainly. -/
import Derived.Test.YtkmmagekepoapaaQ5
set_option linter.unusedVariables false
set_option linter.unusedSimpArgs false
set_option linter.unusedSectionVars false
set_option maxRecDepth 100000
namespace Go.Proofs.Ytkmmagekepoapaa
open Go.RowKit
namespace Se
open Rl
theorem ok_wp {N : Nat} {l : List Int} (hN : l.length < N) (hl : l.length ≤ 1000) : Wp (alibkeep_ok N l) fun r => r = true ↔ ∀ x ∈ l, x = 0 := by
  unfold alibkeep_ok
  refine .elim (P := fun t => match t with | .inl _ => ∀ x ∈ l, x = 0 | .inr r => r = false ∧ ∃ x ∈ l, x ≠ 0) (.iter l.length (fun k v => v = (k : Int) ∧ ∀ j, (h : j < l.length) → j < k → l[j] = 0) hN ⟨rfl, fun j _ h => absurd h (Nat.not_lt_zero _)⟩ ?_ ?_) (fun _ _ h => .one ⟨fun _ => h, fun _ => rfl⟩) (fun r _ h => .one ?_)
  · rintro k v hk ⟨rfl, hr⟩
    simp only [alibkeep_ok_L3]
    refine .condT (decide_eq_true (by omega)) (.ix hk (.cond (fun h => .one ⟨rfl, l[k], List.getElem_mem hk, by simpa using h⟩) (fun h => .ck64 (by omega) (.one ⟨by simp, fun j hj hjk => ?_⟩))))
    rcases Nat.lt_or_ge j k with h1 | h1
    · exact hr j hj h1
    · obtain rfl : j = k := by omega
      simpa using h
  · rintro v ⟨rfl, hr⟩
    simp only [alibkeep_ok_L3]
    refine .condF (decide_eq_false (by omega)) (.one fun x hx => ?_)
    obtain ⟨j, hj, rfl⟩ := List.mem_iff_getElem.1 hx
    exact hr j hj hj
  · have h : r = false ∧ ∃ x ∈ l, x ≠ 0 := h
    obtain ⟨rfl, x, hx, hn⟩ := h
    exact ⟨fun h => (by cases h), fun h => absurd (h x hx) hn⟩

theorem contains_wp {s : List Deed} (hs : s.length ≤ 60) (c : Deed) : Wp (slices_ContainsFunc_api_Deed_api_Deed 18446744073709551616 s c) fun b => b = true → ∃ r, r < s.length ∧ (s.getD r Deed.z).who = c.who ∧ (s.getD r Deed.z).item = c.item ∧ (s.getD r Deed.z).kind = 0 := by
  unfold slices_ContainsFunc_api_Deed_api_Deed slices_IndexFunc_api_Deed_api_Deed
  refine .seq (P := fun i => 0 ≤ i → ∃ r, r < s.length ∧ (s.getD r Deed.z).who = c.who ∧ (s.getD r Deed.z).item = c.item ∧ (s.getD r Deed.z).kind = 0) ?_ fun i _ hi => .one fun h => hi (of_decide_eq_true h)
  refine .elim (P := fun t => match t with | .inl _ => True | .inr _ => ∃ r, r < s.length ∧ (s.getD r Deed.z).who = c.who ∧ (s.getD r Deed.z).item = c.item ∧ (s.getD r Deed.z).kind = 0) (.iter s.length (fun k v => v = (k : Int)) (by omega) rfl ?_ ?_) (fun _ _ _ => .one fun h => absurd h (by decide)) (fun i _ h => .one fun _ => h)
  · rintro k v hk rfl
    simp only [slices_IndexFunc_api_Deed_api_Deed_L3]
    refine .condT (decide_eq_true (by omega)) (.ixD Deed.z (by omega) (by omega) (.bdO (a := ()) rfl ?_))
    rw [Int.toNat_natCast]
    refine .cond (fun h => .one ?_) fun _ => .ck64 (by omega) (.one (by simp))
    simp only [Bool.and_eq_true, decide_eq_true_eq] at h
    exact ⟨k, hk, h.1.1, h.1.2, h.2⟩
  · rintro v rfl
    simp only [slices_IndexFunc_api_Deed_api_Deed_L3]
    exact .condF (decide_eq_false (by omega)) (.one trivial)
/-- One's deeds behind the other's. -/
def mOf (l : List Deed) (s : List Nat) : List Deed := s.map fun i => l.getD i Deed.z
theorem mOf_app (l : List Deed) (a b : List Nat) : mOf l (a ++ b) = mOf l a ++ mOf l b := by simp [mOf]
theorem mOf_len (l : List Deed) (s : List Nat) : (mOf l s).length = s.length := by simp [mOf]
theorem mOf_get {l : List Deed} {s : List Nat} {k : Nat} (h : k < s.length) : (mOf l s).getD k Deed.z = l.getD s[k] Deed.z := by
  rw [getD_of (by simpa [mOf] using h)]; simp [mOf]
theorem deeds_wp {l : List Deed} (D : Dd l) {p : List Nat} (hp : p.length ≤ 6) {r : List Int × Int} (hr : r.1 = ints_ p) : Wp (iter (alibkeep_SerialView_L55 18446744073709551616 r l) 18446744073709551616 ([], 0)) (· = mOf l (revS l p.reverse).reverse) := by
  have hlen := D.1
  have hil : r.1.length = p.length := by rw [hr]; simp [ints_]
  refine .iter p.length (fun k st => st.2 = (k : Int) ∧ st.1 = mOf l (revS l (p.take k).reverse).reverse ∧ st.1.length ≤ 60 * k) (by omega) ⟨rfl, by simp [revS, mOf], by simp⟩ ?_ ?_
  · rintro k ⟨out, v⟩ hk ⟨hv, hS, hL⟩
    simp only at hv hS hL
    subst hv
    simp only [alibkeep_SerialView_L55]
    refine .condT (decide_eq_true (by omega)) (.seq (P := fun o => o = out ++ mOf l (blk l p[k])) (.ixD 0 (by omega) (by omega) ?_) fun o _ ho => .ck64 (by omega) (.one ⟨by simp, ?_, ?_⟩))
    · rw [hr, Int.toNat_natCast, ints_get hk]
      refine .iter l.length (fun m st => st.2 = (m : Int) ∧ st.1 = out ++ mOf l ((List.range m).filter fun i => decide (wh l i = p[k])) ∧ st.1.length ≤ 60 * k + m) (by omega) ⟨rfl, by simp [mOf], by simpa using hL⟩ ?_ ?_
      · rintro m ⟨o, v⟩ hm ⟨hv, ho, hL2⟩
        simp only at hv ho hL2
        subst hv
        simp only [alibkeep_SerialView_L57]
        refine .condT (decide_eq_true (by omega)) (.ixD Deed.z (by omega) (by omega) ?_)
        rw [Int.toNat_natCast]
        have hw := wh_lt D hm
        refine .cond (fun h => .ck (limB_of ⟨Nat.le_trans (m := 1000) (by simp; omega) (by decide), by simp; omega⟩) (.ck64 (by omega) (.one ⟨by simp, ?_, by simp; omega⟩))) (fun h => .ck64 (by omega) (.one ⟨by simp, ?_, by show o.length ≤ _; omega⟩))
        · have h := of_decide_eq_true h
          simp only
          rw [filter_succ, if_pos (by simp only [decide_eq_true_eq]; omega), mOf_app, ho, List.append_assoc]
          rfl
        · have h := of_decide_eq_false h
          simp only
          rw [filter_succ, if_neg (by simp only [decide_eq_true_eq]; omega), List.append_nil, ho]
      · rintro ⟨o, v⟩ ⟨hv, ho, hL2⟩
        simp only at hv ho hL2
        subst hv
        simp only [alibkeep_SerialView_L57]
        exact .condF (decide_eq_false (by omega)) (.one ho)
    · simp only
      rw [ho, hS, take_rev hk]
      simp only [revS, List.reverse_append, List.reverse_reverse, mOf_app]
    · have := blk_len l p[k]
      simp only
      rw [ho, List.length_append, mOf_len]
      omega
  · rintro ⟨out, v⟩ ⟨hv, hS, _⟩
    simp only at hv hS
    subst hv
    simp only [alibkeep_SerialView_L55]
    rw [List.take_length] at hS
    exact .condF (decide_eq_false (by omega)) (.one hS)
theorem s_facts {l : List Deed} (D : Dd l) {L : List Nat} (F : Full L) : ∃ s, s = (revS l L).reverse ∧ s.length = l.length ∧ (∀ i, i ∈ s ↔ i < l.length) ∧ s.Pairwise (Bp l L) := by
  have hmem : ∀ i, i ∈ (revS l L).reverse ↔ i < l.length := fun i => by
    rw [List.mem_reverse, mem_revS]
    exact ⟨fun h => h.1, fun h => ⟨h, (F.2 _).2 (wh_lt D h).1⟩⟩
  refine ⟨_, rfl, ?_, hmem, ?_⟩
  · have h1 := (revS_len (l := l) F.1).2
    have h2 := pig (l := List.range l.length) (m := (revS l L).reverse) List.nodup_range fun x hx => (hmem x).2 (List.mem_range.1 hx)
    simp only [List.length_range, List.length_reverse] at h2 ⊢
    omega
  · rw [List.pairwise_reverse]
    exact revS_pw F.1
theorem gr_mOf {l : List Deed} (D : Dd l) {L : List Nat} (F : Full L) (R : Resp l L) : Dd (mOf l (revS l L).reverse) ∧ (mOf l (revS l L).reverse).length = l.length ∧ ∀ i j, gr (mOf l (revS l L).reverse) (mOf l (revS l L).reverse).length i j = gr l l.length i j := by
  obtain ⟨s, hs, hl, hm, hp⟩ := s_facts D F
  rw [← hs]
  have hlen := D.1
  refine ⟨⟨by rw [mOf_len]; omega, fun i hi => ?_⟩, by rw [mOf_len, hl], fun i j => ?_⟩
  · rw [mOf_len] at hi
    rw [mOf_get hi]
    exact D.2 _ ((hm _).1 (List.getElem_mem hi))
  · have hpg := List.pairwise_iff_getElem.1 hp
    rw [Bool.eq_iff_iff, gr_iff, gr_iff]
    constructor
    · rintro ⟨p, q, hq, h⟩
      rw [mOf_len] at hq
      unfold cf at h
      simp only [Bool.and_eq_true, decide_eq_true_eq] at h
      obtain ⟨⟨⟨h1, h2⟩, h3⟩, h4⟩ := h
      have hp' : p < s.length := by omega
      rw [mOf_get hp', mOf_get hq] at h2
      rw [mOf_get hp'] at h3
      rw [mOf_get hq] at h4
      have c := conf_iff.1 h2
      have a := (hm _).1 (List.getElem_mem hp')
      have b := (hm _).1 (List.getElem_mem hq)
      have := (R.iff D F a b c.2.2.1 c.2.2.2.1 c.2.1 c.2.2.2.2).1 (hpg p q hp' hq h1)
      refine ⟨s[p], s[q], b, ?_⟩
      unfold cf
      rw [decide_eq_true this, h2, decide_eq_true h3, decide_eq_true h4]
      rfl
    · rintro ⟨a, b, hb, h⟩
      unfold cf at h
      simp only [Bool.and_eq_true, decide_eq_true_eq] at h
      obtain ⟨⟨⟨h1, h2⟩, h3⟩, h4⟩ := h
      have ha : a < l.length := by omega
      have c := conf_iff.1 h2
      have hB := (R.iff D F ha hb c.2.2.1 c.2.2.2.1 c.2.1 c.2.2.2.2).2 h1
      obtain ⟨p, hp', e1⟩ := List.mem_iff_getElem.1 ((hm a).2 ha)
      obtain ⟨q, hq, e2⟩ := List.mem_iff_getElem.1 ((hm b).2 hb)
      have hpq : p < q := by
        rcases Nat.lt_trichotomy p q with g | g | g
        · exact g
        · subst g; omega
        · have := hpg q p hq hp' g
          rw [e1, e2] at this
          exact (Bp.asy F.1 _ _ hB this).elim
      refine ⟨p, q, by rw [mOf_len]; exact hq, ?_⟩
      unfold cf
      rw [mOf_get hp', mOf_get hq, e1, e2, decide_eq_true hpq, h2, decide_eq_true h3, decide_eq_true h4]
      rfl
theorem resp_same {l : List Deed} (D : Dd l) {L : List Nat} (F : Full L) (R : Resp l L) : L.reverse ∈ PL ∧ Same l L.reverse := by
  have h6 : L.length = 6 := by
    have h1 := pig_lt F.1 fun x hx => (F.2 x).1 hx
    have h2 := pig (l := List.range 6) (m := L) List.nodup_range fun x hx => (F.2 x).2 (List.mem_range.1 hx)
    simp only [List.length_range] at h2; omega
  refine ⟨mem_permsL 6 _ _ (by simpa using h6) (by unfold List.Nodup; rw [List.pairwise_reverse]; exact List.Pairwise.imp (fun h => Ne.symm h) F.1) fun a ha => ?_, ?_, ?_⟩
  · have := (F.2 a).1 (List.mem_reverse.1 ha)
    have : a = 0 ∨ a = 1 ∨ a = 2 ∨ a = 3 ∨ a = 4 ∨ a = 5 := by omega
    simpa using this
  · rw [List.reverse_reverse]; exact (resp_src D F R).1
  · rw [List.reverse_reverse]; exact fun x _ => (resp_src D F R).2 x
theorem order_core {l : List Deed} (D : Dd l) {r : Int × List Int × Int} (hr : serial_Graph 18446744073709551616 l = some r) (hn : r.1 = 6) (he : r.2.2 = 0) (hA : ∀ i, i < 12 → Row (r.2.1.getD i 0) (gr l l.length i)) :
    ∃ o e, serial_Order 18446744073709551616 l = some (o, e) ∧ ((e = 0 ∧ ∃ L, o = ints_ L.reverse ∧ Full L ∧ Resp l L) ∨ (e ≠ 0 ∧ ¬ ∃ L, Full L ∧ Resp l L)) := by
  obtain ⟨V, hV⟩ := relV_of D hn hA
  have hV2 : ∀ i j, i < 6 → gr l l.length i j = true → pOf ⟨r.1, r.2.1⟩ i j = true := fun i j hi h => by
    rw [(V.u.row (show i < 12 by omega)).uniq (hA i (by omega)) j]; exact h
  have hord : ∀ o e, order_Least 18446744073709551616 (Rel.mk r.1 r.2.1) = some (o, e) → serial_Order 18446744073709551616 l = some (o, e) := fun o e h => by
    unfold serial_Order
    rw [bd_of hr, cond_no (by simp [he]), bd_of h]
  rcases acyclic (N := 18446744073709551616) (by decide) V.u with ⟨n, A, V', hA', hno, _, ha⟩ | ⟨n, A, V', hA', ⟨z, _, hz⟩, _, ha⟩ | ⟨e, _, hv, _, _⟩
  · obtain rfl := V.uniq V'
    obtain ⟨L, hL2, hlin⟩ := least_wp (N := 18446744073709551616) (by decide) (CR.of V hA') (acy_of V hno) ha
    refine ⟨_, _, hord _ _ hL2, .inl ⟨rfl, L, rfl, ⟨hlin.1, hlin.2.1⟩, fun p q hq hpq hc => hlin.2.2 _ _ ?_⟩⟩
    have hp : p < l.length := by omega
    have dp := wh_lt D hp
    have dq := wh_lt D hq
    refine war_up (k := 0) (Nat.zero_le _) (hV2 _ _ dp.1 (gr_iff.2 ⟨p, q, hq, ?_⟩))
    unfold cf
    rw [decide_eq_true hpq, hc, decide_eq_true dp.2, decide_eq_true dq.2]
    rfl
  · obtain rfl := V.uniq V'
    refine ⟨_, _, hord _ _ (least_err (by decide) ha), .inr ⟨by decide, ?_⟩⟩
    rintro ⟨L, F, R⟩
    have := war_least (q := fun i j => bef L i j) (n := 6) (p := pOf ⟨r.1, r.2.1⟩) (fun i j h => ?_) (fun i m j _ g1 g2 => bef_tr F.1 g1 g2) 6 (Nat.le_refl _) z z hz
    · rw [bef_irr F.1] at this; cases this
    · obtain ⟨p, q, hq, h⟩ := gr_iff.1 (hV i j h)
      unfold cf at h
      simp only [Bool.and_eq_true, decide_eq_true_eq] at h
      have := R p q hq h.1.1.1 h.1.1.2
      have dp := wh_lt D (i := p) (by omega)
      have dq := wh_lt D hq
      rwa [show wh l p = i by omega, show wh l q = j by omega] at this
  · exact (hv 6 V).elim
theorem dd_err2 {N : Nat} {l : List Deed} {i e : Int} (h : serial_Check N l = some (i, e)) (he : e ≠ 0) : serial_View N l = some ([], false, e) ∧ serial_Order N l = some ([], e) := by
  have hg : serial_Graph N l = some (0, [], e) := by
    unfold serial_Graph
    rw [bd_of h]
    exact cond_of (by simpa using he)
  constructor
  · unfold serial_View
    rw [bd_of h]
    exact cond_of (by simpa using he)
  · unfold serial_Order
    rw [bd_of hg]
    exact cond_of (by simpa using he)
theorem viewLaw (l : List Deed) : alibkeep_SerialView 18446744073709551616 l = some true := by
  refine Wp.eq ?_
  unfold alibkeep_SerialView
  obtain ⟨⟨ci, ce⟩, hc, hcr⟩ := check_wp (N := 18446744073709551616) (l := l) (by decide)
  rcases hcr with ⟨h0, D⟩ | ⟨h0, hno⟩
  · have hlen := D.1
    obtain ⟨r, hr, hr2⟩ := graph_wp (N := 18446744073709551616) (l := l) (by decide)
    obtain ⟨hn, he, hA⟩ : r.1 = 6 ∧ r.2.2 = 0 ∧ ∀ i, i < 12 → Row (r.2.1.getD i 0) (gr l l.length i) := by
      rcases hr2 with ⟨_, hn, he, hA⟩ | ⟨hno, _⟩
      · exact ⟨hn, he, hA⟩
      · exact (hno D).elim
    obtain ⟨o, e, ho, hcore⟩ := order_core D hr hn he hA
    obtain ⟨v, hv, hv1, hv2⟩ := view_wp D
    refine .bdO ho (.bdO hv (.bdO serLives (.condF (by simp [hv1]) ?_)))
    refine .elim (P := fun t => t = .inl ()) ?_ (fun _ _ _ => ?_) (fun p _ h => by cases h)
    · refine .cond (fun h0 => ?_) (fun _ => .one rfl)
      have h0 : e = 0 := of_decide_eq_true h0
      obtain ⟨L, rfl, F, R⟩ : ∃ L, o = ints_ L.reverse ∧ Full L ∧ Resp l L := by
        rcases hcore with ⟨_, h⟩ | ⟨h, _⟩
        · exact h
        · exact (h h0).elim
      obtain ⟨hin, hsame⟩ := resp_same D F R
      have hvt : v.2.1 = true := by
        rcases hv2 with h | ⟨_, h⟩
        · exact h.1
        · exact (h _ hin hsame).elim
      obtain ⟨Dm, hml, hgm⟩ := gr_mOf D F R
      refine .seq (deeds_wp (p := L.reverse) D (by have := (pl_full hin).1; omega) rfl) fun m _ hm => ?_
      rw [List.reverse_reverse] at hm
      subst hm
      refine .bdO hr (.seq (graph_wp (by decide)) fun b _ hb => ?_)
      obtain ⟨hn2, he2, hA2⟩ : b.1 = 6 ∧ b.2.2 = 0 ∧ ∀ i, i < 12 → Row (b.2.1.getD i 0) (gr (mOf l (revS l L).reverse) (mOf l (revS l L).reverse).length i) := by
        rcases hb with ⟨_, hn, he, hA⟩ | ⟨hno, _⟩
        · exact ⟨hn, he, hA⟩
        · exact (hno Dm).elim
      refine .seq (P := (· = false)) (.condT (by simp [hvt]) (.seq (ok_wp (by show 2 < 18446744073709551616; decide) (by show 2 ≤ 1000; decide)) fun c _ hc => .one ?_)) fun x _ hx => .condF hx (.one rfl)
      have hc1 : c = true := hc.2 fun x hx => by
        rcases List.mem_cons.1 hx with e | hx
        · rw [e, he]
        · rcases List.mem_cons.1 hx with e | hx
          · rw [e, he2]
          · cases hx
      rw [hvt, hc1, hn, hn2, hml, eqA_of fun i hi => ((hA i hi).eq ((hA2 i hi).cong fun j => (hgm i j)))]
      simp
    · refine .elim (P := fun t => match t with | .inl _ => NoBlind l | .inr b => b = true) (.iter l.length (fun k v => v = (k : Int) ∧ ∀ i, i < k → (l.getD i Deed.z).kind = 1 → ∃ r, r < i ∧ (l.getD r Deed.z).who = (l.getD i Deed.z).who ∧ (l.getD r Deed.z).item = (l.getD i Deed.z).item ∧ (l.getD r Deed.z).kind = 0) (by omega) ⟨rfl, fun i h => absurd h (Nat.not_lt_zero _)⟩ ?_ ?_) (fun _ _ H => .one ?_) (fun b _ h => .one h)
      · rintro k x hk ⟨rfl, hI⟩
        simp only [alibkeep_SerialView_L59]
        refine .condT (decide_eq_true (by omega)) (.ixD Deed.z (by omega) (by omega) ?_)
        rw [Int.toNat_natCast]
        refine .seq (P := fun b => b = false → (l.getD k Deed.z).kind = 1 → ∃ r, r < k ∧ (l.getD r Deed.z).who = (l.getD k Deed.z).who ∧ (l.getD r Deed.z).item = (l.getD k Deed.z).item ∧ (l.getD r Deed.z).kind = 0) (.ck ?_ (.cond (fun h1 => ?_) (fun h1 => ?_))) fun b _ hb => .cond (fun _ => .one rfl) fun h => .ck64 (by omega) (.one ⟨by simp, fun i hi hki => ?_⟩)
        · simp [slB]; omega
        · refine .seq (contains_wp (s := l.take k) (by rw [List.length_take]; omega) _) fun c _ hc => .one fun h hk1 => ?_
          rw [decide_eq_true hk1] at h
          obtain ⟨r, g1, g2, g3, g4⟩ := hc (by simpa using h)
          rw [List.length_take] at g1
          have g5 : (l.take k).getD r Deed.z = l.getD r Deed.z := by
            rw [List.getD_eq_getElem?_getD, List.getD_eq_getElem?_getD, List.getElem?_take_of_lt (by omega)]
          rw [g5] at g2 g3 g4
          exact ⟨r, by omega, g2, g3, g4⟩
        · refine .one fun _ hk1 => ?_
          rw [decide_eq_true hk1] at h1; cases h1
        · rcases Nat.lt_or_ge i k with g | g
          · exact hI i g hki
          · obtain rfl : i = k := by omega
            exact hb h hki
      · rintro x ⟨rfl, hI⟩
        simp only [alibkeep_SerialView_L59]
        exact .condF (decide_eq_false (by omega)) (.one hI)
      · have H : NoBlind l := H
        rcases hv2 with ⟨h, p, hp, hs⟩ | ⟨h, hs⟩
        · rw [h]
          rcases hcore with ⟨h1, _⟩ | ⟨_, h2⟩
          · simp [h1]
          · exact (h2 ⟨p.reverse, (pl_full hp).2, src_resp D (pl_full hp).2 H hs.1⟩).elim
        · rw [h]
          rcases hcore with ⟨h1, L, _, F, R⟩ | ⟨h1, _⟩
          · exact (hs _ (resp_same D F R).1 (resp_same D F R).2).elim
          · simp [h1]
  · obtain ⟨g1, g2⟩ := dd_err2 hc h0
    exact .bdO g2 (.bdO g1 (.bdO serLives (.condT (by simpa using h0) (.bdO serLives (.one (by simp))))))
end Se

end Go.Proofs.Ytkmmagekepoapaa
