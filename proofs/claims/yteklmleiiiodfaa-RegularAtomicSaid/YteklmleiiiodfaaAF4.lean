/- Regular registers, plainly: levels and ranks. -/
import Derived.Test.YteklmleiiiodfaaAF3
import Derived.Test.YteklmleiiiodfaaAL6
import Derived.Test.YteklmleiiiodfaaAZ8
set_option linter.unusedVariables false
set_option linter.unusedSimpArgs false
set_option linter.unusedSectionVars false
set_option maxRecDepth 100000
namespace Go.Proofs.Yteklmleiiiodfaa
open Go.RowKit
namespace Zo
open Hs
theorem good_rank {N : Nat} {l : List Event} {c : List Call} {op : List Int} (hl : l.length ≤ 200) (R : Rn N [1] l l.length c op) (D : Dist c) : Good c ↔ ∃ tg T, Sr.Rank c tg T := by
  constructor
  · intro G
    obtain ⟨tg, T, K⟩ := good_rk (wc_of hl R) D (kn_of R) G
    exact ⟨tg, T, K.dn, K.ord, K.uni, K.wr, K.rd⟩
  · rintro ⟨tg, T, K⟩
    exact rk_good (wc_of hl R) D (kn_of R) (tg := tg) (T := T) ⟨K.dn, K.ord, K.uni, K.wr, K.rd⟩
theorem kd_zero {c : List Call} {r : Int × Int × Int} (h : Kd c r) (h0 : r.1 = 0) : r = (0, 0, 0) := by
  rcases h with ⟨h, _⟩ | ⟨_, h⟩
  · rw [h0] at h; cases h
  rcases h with ⟨h, _⟩ | ⟨_, h⟩
  · rw [h0] at h; cases h
  rcases h with ⟨h, _⟩ | ⟨_, h⟩
  · rw [h0] at h; cases h
  rcases h with ⟨h, _⟩ | ⟨_, h⟩
  · rw [h0] at h; cases h
  · exact h
theorem find_any {N : Nat} (hN : 300 < N) (l : List Event) : Wp (search_Find N [1] l) fun _ => True := by
  obtain ⟨⟨c9, e9⟩, hc9, h9⟩ := Sr.calls9_wp (N := N) (by omega) [1] l
  exact (Sr.find_wp hN hc9).mono fun _ _ => trivial
end Zo

namespace Rg
open Rl Hs
theorem ovk_mem {w : List Call} {x : Call} {n : Int} {b : Bool} : ∀ {k : Nat}, mget (ovk w x k) n = some b → ∃ q, q < k ∧ n = ((q + 1 : Nat) : Int) ∧ ¬ prec (w.getD q Call.z) x ∧ ¬ prec x (w.getD q Call.z)
  | 0, h => by cases h
  | k + 1, h => by
    unfold ovk at h
    by_cases h1 : prec (w.getD k Call.z) x
    · rw [if_pos h1] at h
      obtain ⟨q, a, e⟩ := ovk_mem h
      exact ⟨q, by omega, e⟩
    · rw [if_neg h1] at h
      by_cases h2 : prec x (w.getD k Call.z)
      · rw [if_pos h2] at h
        obtain ⟨q, a, e⟩ := ovk_mem h
        exact ⟨q, by omega, e⟩
      · rw [if_neg h2] at h
        cases hm : mget (ovk w x k) n with
        | some v =>
          obtain ⟨q, a, e⟩ := ovk_mem hm
          exact ⟨q, by omega, e⟩
        | none =>
          rw [mget_app hm] at h
          unfold mget at h
          by_cases e : ((k + 1 : Nat) : Int) = n
          · exact ⟨k, by omega, e.symm, h1, h2⟩
          · rw [if_neg e] at h; cases h
theorem lak_ge {w : List Call} {x : Call} {q : Nat} (h : prec (w.getD q Call.z) x) : ∀ {k : Nat}, q < k → ((q + 1 : Nat) : Int) ≤ lak w x k
  | 0, hq => absurd hq (Nat.not_lt_zero _)
  | k + 1, hq => by
    unfold lak
    by_cases e : q = k
    · subst e; rw [if_pos h]; exact Int.le_refl _
    · by_cases h2 : prec (w.getD k Call.z) x
      · rw [if_pos h2]; omega
      · rw [if_neg h2]; exact lak_ge h (by omega)
theorem lak_is (w : List Call) (x : Call) : ∀ k : Nat, lak w x k = 0 ∨ ∃ r, r < k ∧ lak w x k = ((r + 1 : Nat) : Int) ∧ prec (w.getD r Call.z) x
  | 0 => .inl rfl
  | k + 1 => by
    unfold lak
    by_cases h2 : prec (w.getD k Call.z) x
    · rw [if_pos h2]; exact .inr ⟨k, by omega, rfl, h2⟩
    · rw [if_neg h2]
      rcases lak_is w x k with h | ⟨r, h, e⟩
      · exact .inl h
      · exact .inr ⟨r, by omega, e⟩
theorem wrk_is (w : List Call) (res : Int) : ∀ k : Nat, (res = 0 ∧ wrk w res k = 0) ∨ wrk w res k = -1 ∨ ∃ r, r < k ∧ wrk w res k = ((r + 1 : Nat) : Int) ∧ (w.getD r Call.z).arg = res
  | 0 => by
    unfold wrk
    by_cases h : res = 0
    · rw [if_pos h]; exact .inl ⟨h, rfl⟩
    · rw [if_neg h]; exact .inr (.inl rfl)
  | k + 1 => by
    unfold wrk
    by_cases h : (w.getD k Call.z).arg = res
    · rw [if_pos h]; exact .inr (.inr ⟨k, by omega, rfl, h⟩)
    · rw [if_neg h]
      rcases wrk_is w res k with h | h | ⟨r, h, e⟩
      · exact .inl h
      · exact .inr (.inl h)
      · exact .inr (.inr ⟨r, by omega, e⟩)
/-- What a regular read is. -/
theorem reg_of {w : List Call} {x : Call} {n : Int} (h : (judge w x n).regular = true) : (x.res = 0 ∧ wrk w x.res w.length = 0 ∧ lak w x w.length = 0) ∨ ∃ p, p < w.length ∧ (w.getD p Call.z).arg = x.res ∧ wrk w x.res w.length = ((p + 1 : Nat) : Int) ∧ ((lak w x w.length = ((p + 1 : Nat) : Int) ∧ prec (w.getD p Call.z) x) ∨ (¬ prec (w.getD p Call.z) x ∧ ¬ prec x (w.getD p Call.z))) := by
  unfold judge at h
  simp only [Bool.and_eq_true, Bool.or_eq_true, decide_eq_true_eq] at h
  obtain ⟨h0, h1⟩ := h
  have h1 : wrk w x.res w.length = lak w x w.length ∨ ∃ q, q < w.length ∧ wrk w x.res w.length = ((q + 1 : Nat) : Int) ∧ ¬ prec (w.getD q Call.z) x ∧ ¬ prec x (w.getD q Call.z) := by
    rcases h1 with h1 | h1
    · exact .inl h1
    · right
      cases hm : mget (ovk w x w.length) (wrk w x.res w.length) with
      | none => rw [hm] at h1; cases h1
      | some b => exact ovk_mem hm
  rcases wrk_is w x.res w.length with ⟨a, b⟩ | h | ⟨r, a, b, d⟩
  · left
    refine ⟨a, b, ?_⟩
    rcases h1 with h1 | ⟨q, _, e, _⟩
    · omega
    · omega
  · omega
  · right
    refine ⟨r, a, d, b, ?_⟩
    rcases h1 with h1 | ⟨q, _, e, g1, g2⟩
    · left
      rcases lak_is w x w.length with h | ⟨s, _, e, g⟩
      · omega
      · obtain rfl : s = r := by omega
        exact ⟨e, g⟩
    · obtain rfl : q = r := by omega
      exact .inr ⟨g1, g2⟩
/-- Each read is regular, none are turned. -/
structure Lv (c : List Call) : Prop where
  reg : ∀ i, i < c.length → isRead (c.getD i Call.z) → (judge (ws c) (c.getD i Call.z) (i : Int)).regular = true
  tn : ∀ i j, i < c.length → j < c.length → isRead (c.getD i Call.z) → isRead (c.getD j Call.z) → prec (c.getD i Call.z) (c.getD j Call.z) → ¬ wrk (ws c) (c.getD j Call.z).res (ws c).length < wrk (ws c) (c.getD i Call.z).res (ws c).length
section
variable {c : List Call}
theorem same_call (N : Zo.Kn c) {a b : Nat} (ha : a < c.length) (hb : b < c.length) (e : c.getD a Call.z = c.getD b Call.z) : a = b := N.nf a b ha hb (by rw [e])
theorem ws_ft (W : Zo.Wc c) {p : Nat} (hp : p < (ws c).length) (h : ((ws c).getD p Call.z).to_ ≠ -1) : ((ws c).getD p Call.z).from_ < ((ws c).getD p Call.z).to_ := by
  obtain ⟨k, k1, k2, e⟩ := ws_mem hp
  rw [e] at h ⊢
  exact (W.to k k1 h).1
theorem prec_lt (W : Zo.Wc c) (hL : Lin (ws c)) {p q : Nat} (hp : p < (ws c).length) (hq : q < (ws c).length) (h : prec ((ws c).getD p Call.z) ((ws c).getD q Call.z)) : p < q := by
  rcases Nat.lt_trichotomy p q with g | g | g
  · exact g
  · subst g
    have := ws_ft W hp h.1
    have := h.2
    omega
  · have h2 := (hL q p g hp).2
    have := ws_ft W hp h.1
    have := ws_ft W hq h2.1
    have := h.2
    have := h2.2
    omega
theorem lv_of_rank (W : Zo.Wc c) (N : Zo.Kn c) (hL : Lin (ws c)) {tg : Nat → Bool} {T : Nat → Int} (K : Zo.Rk c tg T) : Lv c := by
  have hpos : ∀ x ∈ ws c, 1 ≤ x.arg := fun x hx => by
    obtain ⟨h1, h2⟩ := List.mem_filter.1 hx
    obtain ⟨k, hk, e⟩ := List.getElem_of_mem h1
    have := W.pos k hk (by rw [getD_of hk, e]; exact of_decide_eq_true h2)
    rwa [getD_of hk, e] at this
  -- a write that is answered ahead of one that counts
  have up : ∀ q x, q < (ws c).length → x < c.length → prec ((ws c).getD q Call.z) (c.getD x Call.z) → tg x = true → ∃ k, k < c.length ∧ (c.getD k Call.z).kind = 1 ∧ tg k = true ∧ (ws c).getD q Call.z = c.getD k Call.z ∧ T k ≤ T x ∧ 0 < T k ∧ ((c.getD x Call.z).kind = 1 → T k < T x) := by
    intro q x hq hx hp ht
    obtain ⟨k, k1, k2, e⟩ := ws_mem hq
    rw [e] at hp
    have htk := K.dn k k1 hp.1
    obtain ⟨o1, o2⟩ := K.ord k x k1 hx hp.1 hp.2 ht
    exact ⟨k, k1, k2, htk, e, o1, (K.wr k k1 htk k2).1, o2⟩
  -- what a read is of
  have of_ : ∀ i, i < c.length → isRead (c.getD i Call.z) → (wrk (ws c) (c.getD i Call.z).res (ws c).length = 0 ∧ T i = 0) ∨ ∃ p k, p < (ws c).length ∧ k < c.length ∧ (c.getD k Call.z).kind = 1 ∧ tg k = true ∧ (ws c).getD p Call.z = c.getD k Call.z ∧ T k = T i ∧ wrk (ws c) (c.getD i Call.z).res (ws c).length = ((p + 1 : Nat) : Int) := by
    intro i hi ri
    rcases K.rd i hi ri.2 (by rw [ri.1]; decide) with ⟨h1, h2⟩ | ⟨k, k1, k2, k3, k4, k5⟩
    · rw [h2]
      exact .inl ⟨wrk_zero hpos _ (Nat.le_refl _), h1⟩
    · obtain ⟨p, hp, e⟩ := mem_ws k1 k3
      exact .inr ⟨p, k, hp, k1, k3, k2, e, k4, wrk_of hL (by rw [e]; exact k5) hp (Nat.le_refl _)⟩
  refine ⟨fun i hi ri => ?_, fun i j hi hj ri rj hp hlt => ?_⟩
  · have hti := K.dn i hi ri.2
    unfold judge
    simp only
    rcases of_ i hi ri with ⟨h1, h2⟩ | ⟨p, k, hp, k1, k2, k3, k4, k5, k6⟩
    · have hl : lak (ws c) (c.getD i Call.z) (ws c).length = 0 := lak_no fun q hq hpr => by
        obtain ⟨k, _, _, _, _, o1, o2, _⟩ := up q i hq hi hpr hti
        omega
      rw [h1, hl]; rfl
    · rw [k6]
      have e0 : decide ((0 : Int) ≤ ((p + 1 : Nat) : Int)) = true := decide_eq_true (by omega)
      rw [e0, Bool.true_and, Bool.or_eq_true]
      by_cases hpr : prec ((ws c).getD p Call.z) (c.getD i Call.z)
      · left
        refine decide_eq_true (lak_at hpr hp fun q hq1 hq2 hq3 => ?_).symm
        obtain ⟨kq, a1, a2, a3, a4, o1, o2, _⟩ := up q i hq2 hi hq3 hti
        have hpq := (hL p q hq1 hq2).2
        rw [a4] at hpq
        obtain ⟨kp, b1, b2, b3, b4, o3, o4, o5⟩ := up p kq hp a1 hpq a3
        have o5 := o5 a2
        obtain rfl : kp = k := same_call N b1 k1 (by rw [← b4, k4])
        omega
      · right
        rw [ovk_at hpr (fun h => ?_) hp]
        · rfl
        · rw [k4] at h
          have := (K.ord i k hi k1 h.1 h.2 k3).2 k2
          omega
  · have o := (K.ord i j hi hj hp.1 hp.2 (K.dn j hj rj.2)).1
    rcases of_ i hi ri with ⟨h1, _⟩ | ⟨p, k, hp1, k1, k2, k3, k4, k5, k6⟩
    · rw [h1] at hlt
      rcases of_ j hj rj with ⟨h3, _⟩ | ⟨q, _, _, _, _, _, _, _, l6⟩ <;> omega
    · rw [k6] at hlt
      have hT := (K.wr k k1 k3 k2).1
      rcases of_ j hj rj with ⟨h3, h4⟩ | ⟨q, l, hq1, l1, l2, l3, l4, l5, l6⟩
      · omega
      · rw [l6] at hlt
        have hpq := (hL q p (by omega) hp1).2
        rw [k4] at hpq
        obtain ⟨kq, a1, a2, a3, a4, o1, o2, o3⟩ := up q k hq1 k1 hpq k3
        have o3 := o3 k2
        obtain rfl : kq = l := same_call N a1 l1 (by rw [← a4, l4])
        omega
theorem rank_of_lv (W : Zo.Wc c) (N : Zo.Kn c) (hL : Lin (ws c)) (L : Lv c) : ∃ tg T, Zo.Rk c tg T := by
  obtain ⟨T, hT⟩ : ∃ T : Nat → Int, T = fun i => wrk (ws c) (if (c.getD i Call.z).kind = 1 then (c.getD i Call.z).arg else (c.getD i Call.z).res) (ws c).length := ⟨_, rfl⟩
  have Tw : ∀ k, k < c.length → (c.getD k Call.z).kind = 1 → ∃ p, p < (ws c).length ∧ (ws c).getD p Call.z = c.getD k Call.z ∧ T k = ((p + 1 : Nat) : Int) := by
    intro k hk h1
    obtain ⟨p, hp, e⟩ := mem_ws hk h1
    refine ⟨p, hp, e, ?_⟩
    rw [hT]
    dsimp only
    rw [if_pos h1]
    exact wrk_of hL (by rw [e]) hp (Nat.le_refl _)
  have Tr : ∀ i, (c.getD i Call.z).kind ≠ 1 → T i = wrk (ws c) (c.getD i Call.z).res (ws c).length := by
    intro i h1
    rw [hT]
    dsimp only
    rw [if_neg h1]
  have rd : ∀ i, i < c.length → (c.getD i Call.z).to_ ≠ -1 → (c.getD i Call.z).kind ≠ 1 → isRead (c.getD i Call.z) := fun i hi h1 h2 => ⟨(N.kind i hi).resolve_left h2, h1⟩
  refine ⟨fun i => decide ((c.getD i Call.z).kind = 1 ∨ (c.getD i Call.z).to_ ≠ -1), T, fun i hi h => decide_eq_true (.inr h), fun a b ha hb h1 h2 h3 => ?_, fun a b ha hb _ _ k1 k2 e => ?_, fun i hi _ h2 => ?_, fun i hi h1 h2 => ?_⟩
  · have h3 := of_decide_eq_true h3
    have hp : prec (c.getD a Call.z) (c.getD b Call.z) := ⟨h1, h2⟩
    have hfa := (W.to a ha h1).1
    by_cases ka : (c.getD a Call.z).kind = 1
    · obtain ⟨p, p1, p2, p3⟩ := Tw a ha ka
      by_cases kb : (c.getD b Call.z).kind = 1
      · obtain ⟨q, q1, q2, q3⟩ := Tw b hb kb
        have := prec_lt W hL p1 q1 (by rw [p2, q2]; exact hp)
        exact ⟨by omega, fun _ => by omega⟩
      · have hrb := rd b hb (h3.resolve_left kb) kb
        refine ⟨?_, fun h => (kb h).elim⟩
        rw [Tr b kb, p3]
        have hge := lak_ge (w := ws c) (x := c.getD b Call.z) (q := p) (by rw [p2]; exact hp) p1
        rcases reg_of (L.reg b hb hrb) with ⟨_, _, g⟩ | ⟨r, r1, _, r3, ⟨g, _⟩ | ⟨g1, _⟩⟩
        · omega
        · omega
        · rw [r3]
          apply Classical.byContradiction
          intro hn
          have h4 := (hL r p (by omega) p1).2
          rw [p2] at h4
          exact g1 ⟨h4.1, by have := h4.2; omega⟩
    · have hra := rd a ha h1 ka
      by_cases kb : (c.getD b Call.z).kind = 1
      · obtain ⟨q, q1, q2, q3⟩ := Tw b hb kb
        have key : T a < T b := by
          rw [Tr a ka, q3]
          rcases reg_of (L.reg a ha hra) with ⟨_, g, _⟩ | ⟨r, r1, _, r3, ⟨_, g⟩ | ⟨_, g⟩⟩
          · omega
          · have := prec_lt W hL r1 q1 (by rw [q2]; exact ⟨g.1, by have := g.2; omega⟩)
            omega
          · rw [r3]
            apply Classical.byContradiction
            intro hn
            rcases Nat.lt_or_ge q r with h4 | h4
            · have h5 := (hL q r h4 r1).2
              have h6 := ws_ft W q1 h5.1
              rw [q2] at h5 h6
              exact g ⟨h1, by have := h5.2; omega⟩
            · obtain rfl : q = r := by omega
              rw [q2] at g
              exact g hp
        exact ⟨by omega, fun _ => key⟩
      · have hrb := rd b hb (h3.resolve_left kb) kb
        refine ⟨?_, fun h => (kb h).elim⟩
        rw [Tr a ka, Tr b kb]
        have := L.tn a b ha hb hra hrb hp
        omega
  · obtain ⟨p, p1, p2, p3⟩ := Tw a ha k1
    obtain ⟨q, q1, q2, q3⟩ := Tw b hb k2
    obtain rfl : p = q := by omega
    exact same_call N ha hb (by rw [← p2, q2])
  · obtain ⟨p, p1, p2, p3⟩ := Tw i hi h2
    exact ⟨by omega, fun h => N.wres i hi h2 h⟩
  · rw [Tr i h2]
    rcases reg_of (L.reg i hi (rd i hi h1 h2)) with ⟨g1, g2, _⟩ | ⟨r, r1, r2, r3, _⟩
    · exact .inl ⟨g2, g1⟩
    · obtain ⟨k, k1, k2, e⟩ := ws_mem r1
      obtain ⟨p, p1, p2, p3⟩ := Tw k k1 k2
      refine .inr ⟨k, k1, decide_eq_true (.inl k2), k2, ?_, by rw [← e]; exact r2⟩
      rw [p3, r3]
      have e2 : (ws c).getD p Call.z = (ws c).getD r Call.z := by rw [p2, e]
      rcases Nat.lt_trichotomy p r with h | h | h
      · exact ((hL p r h r1).1 (by rw [e2])).elim
      · rw [h]
      · exact ((hL r p h p1).1 (by rw [e2])).elim
theorem dist_of (N : Zo.Kn c) (hL : Lin (ws c)) : Zo.Dist c := by
  intro i j hij hj h1 h2 e
  obtain ⟨p, p1, p2⟩ := mem_ws (show i < c.length by omega) h1
  obtain ⟨q, q1, q2⟩ := mem_ws hj h2
  rcases Nat.lt_trichotomy p q with h | h | h
  · exact (hL p q h q1).1 (by rw [p2, q2, e])
  · subst h
    have := same_call N (by omega) hj (p2.symm.trans q2)
    omega
  · exact (hL q p h p1).1 (by rw [p2, q2, e])
end
end Rg

end Go.Proofs.Yteklmleiiiodfaa
