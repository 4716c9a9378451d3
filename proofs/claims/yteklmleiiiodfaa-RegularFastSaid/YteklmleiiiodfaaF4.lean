/- RegularFast, plainly. -/
import Derived.Test.YteklmleiiiodfaaF3
import Derived.Test.YteklmleiiiodfaaF2
import Derived.Test.YteklmleiiiodfaaH5b
set_option linter.unusedVariables false
set_option linter.unusedSimpArgs false
set_option linter.unusedSectionVars false
set_option maxRecDepth 100000
namespace Go.Proofs.Yteklmleiiiodfaa
open Go.RowKit
namespace Rg
theorem mget_app {l m : List (Int × Bool)} {k : Int} (h : mget l k = none) : mget (l ++ m) k = mget m k := by
  induction l with
  | nil => rfl
  | cons a l ih =>
    obtain ⟨a, u⟩ := a
    unfold mget at h
    by_cases e : a = k
    · rw [if_pos e] at h; cases h
    · rw [if_neg e] at h
      show mget ((a, u) :: (l ++ m)) k = _
      unfold mget
      rw [if_neg e]
      have := ih h
      rw [this]
      cases m <;> rfl
theorem mget_app2 {l m : List (Int × Bool)} {k : Int} {v : Bool} (h : mget l k = some v) : mget (l ++ m) k = some v := by
  induction l with
  | nil => cases h
  | cons a l ih =>
    obtain ⟨a, u⟩ := a
    unfold mget at h
    show mget ((a, u) :: (l ++ m)) k = _
    unfold mget
    by_cases e : a = k
    · rw [if_pos e] at h ⊢; exact h
    · rw [if_neg e] at h ⊢; exact ih h
theorem mget_no {l : List (Int × Bool)} {k : Int} (h : ∀ p ∈ l, p.1 ≠ k) : mget l k = none := by
  induction l with
  | nil => rfl
  | cons a l ih =>
    obtain ⟨a, u⟩ := a
    unfold mget
    rw [if_neg (h (a, u) (.head _))]
    exact ih fun p hp => h p (.tail _ hp)
theorem ovk_at {w : List Call} {x : Call} {p : Nat} (h1 : ¬ prec (w.getD p Call.z) x) (h2 : ¬ prec x (w.getD p Call.z)) : ∀ {k : Nat}, p < k → mget (ovk w x k) ((p + 1 : Nat) : Int) = some true
  | 0, h => absurd h (Nat.not_lt_zero _)
  | k + 1, h => by
    unfold ovk
    by_cases e : p = k
    · subst e
      rw [if_neg h1, if_neg h2, mget_app (mget_no fun q hq => by have := (ovk_le w x p).2 q hq; omega)]
      unfold mget; rw [if_pos rfl]
    · have ih := ovk_at (k := k) h1 h2 (by omega)
      split
      · exact ih
      · split
        · exact ih
        · exact mget_app2 ih
theorem lak_at {w : List Call} {x : Call} {p : Nat} (h1 : prec (w.getD p Call.z) x) : ∀ {k : Nat}, p < k → (∀ q, p < q → q < k → ¬ prec (w.getD q Call.z) x) → lak w x k = ((p + 1 : Nat) : Int)
  | 0, h, _ => absurd h (Nat.not_lt_zero _)
  | k + 1, h, hq => by
    unfold lak
    by_cases e : p = k
    · subst e; rw [if_pos h1]
    · rw [if_neg (hq k (by omega) (by omega))]
      exact lak_at (k := k) h1 (by omega) fun q a b => hq q a (by omega)
theorem lak_no {w : List Call} {x : Call} : ∀ {k : Nat}, (∀ q, q < k → ¬ prec (w.getD q Call.z) x) → lak w x k = 0
  | 0, _ => rfl
  | k + 1, hq => by
    unfold lak
    rw [if_neg (hq k (by omega))]
    exact lak_no fun q a => hq q (by omega)
theorem ws_mem {c : List Call} {p : Nat} (hp : p < (ws c).length) : ∃ k, k < c.length ∧ (c.getD k Call.z).kind = 1 ∧ (ws c).getD p Call.z = c.getD k Call.z := by
  have h : (ws c).getD p Call.z ∈ ws c := by rw [getD_of hp]; exact List.getElem_mem hp
  obtain ⟨h1, h2⟩ := List.mem_filter.1 h
  obtain ⟨k, hk, e⟩ := List.getElem_of_mem h1
  have e : c.getD k Call.z = (ws c).getD p Call.z := by rw [getD_of hk]; exact e
  exact ⟨k, hk, by rw [e]; exact of_decide_eq_true h2, e.symm⟩
theorem mem_ws {c : List Call} {k : Nat} (hk : k < c.length) (h : (c.getD k Call.z).kind = 1) : ∃ p, p < (ws c).length ∧ (ws c).getD p Call.z = c.getD k Call.z := by
  have : c.getD k Call.z ∈ ws c := List.mem_filter.2 ⟨by rw [getD_of hk]; exact List.getElem_mem hk, decide_eq_true h⟩
  obtain ⟨p, hp, e⟩ := List.getElem_of_mem this
  exact ⟨p, hp, by rw [getD_of hp]; exact e⟩
open Si in
/-- What one read of a register that is kept by many. -/
theorem read_of {N : Nat} {fast : Bool} {np n : Nat} {m : M} {g : Gh} (z : Z N fast np n m g) (hL : Lin (ws g.c)) (hpos : ∀ x ∈ ws g.c, 1 ≤ x.arg) {i : Nat} (hi : i < g.c.length) (ri : isRead (g.c.getD i Call.z)) :
    (wrk (ws g.c) (g.c.getD i Call.z).res (ws g.c).length = 0 ∧ g.tag i = ⟨0, 0⟩) ∨ ∃ p k, p < (ws g.c).length ∧ k < g.c.length ∧ (g.c.getD k Call.z).kind = 1 ∧ g.tg k = true ∧ (ws g.c).getD p Call.z = g.c.getD k Call.z ∧ g.tag k = g.tag i ∧ wrk (ws g.c) (g.c.getD i Call.z).res (ws g.c).length = ((p + 1 : Nat) : Int) ∧ (g.c.getD k Call.z).from_ < (g.c.getD i Call.z).to_ := by
  have hk2 : (g.c.getD i Call.z).kind ≠ 1 := by rw [ri.1]; decide
  rcases (z.dn i hi ri.2).2.2.2 hk2 with ⟨h1, h2⟩ | ⟨k, k1, k2, k3, k4, k5, k6⟩
  · left
    have h2 : (g.c.getD i Call.z).res = 0 := h2
    rw [h2]
    exact ⟨wrk_zero hpos _ (Nat.le_refl _), h1⟩
  · right
    obtain ⟨p, hp, e⟩ := mem_ws k1 k3
    refine ⟨p, k, hp, k1, k3, k2, e, k4, ?_, k6⟩
    exact wrk_of hL (by rw [e]; exact k5) hp (Nat.le_refl _)
open Si in
theorem wr_tag {N : Nat} {fast : Bool} {np n : Nat} {m : M} {g : Gh} (z : Z N fast np n m g) {q : Nat} (hq : q < (ws g.c).length) {x : Nat} (hx : x < g.c.length) (hp : prec ((ws g.c).getD q Call.z) (g.c.getD x Call.z)) (ht : g.tg x = true) : ∃ k, k < g.c.length ∧ (g.c.getD k Call.z).kind = 1 ∧ g.tg k = true ∧ (ws g.c).getD q Call.z = g.c.getD k Call.z ∧ ¬ tlt (g.tag x) (g.tag k) ∧ 1 ≤ (g.tag k).stamp ∧ ((g.c.getD x Call.z).kind = 1 → tlt (g.tag k) (g.tag x)) := by
  obtain ⟨k, k1, k2, k3⟩ := ws_mem hq
  rw [k3] at hp
  have ht2 := (z.dn k k1 hp.1).1
  obtain ⟨o1, o2⟩ := z.ord k x k1 hx hp.1 hp.2 (.inr k2) ht
  exact ⟨k, k1, k2, ht2, k3, o1, (z.tw k k1 ht2 k2).2, o2⟩
open Si in
theorem all_regular {N : Nat} {fast : Bool} {np n : Nat} {m : M} {g : Gh} (z : Z N fast np n m g) (hL : Lin (ws g.c)) (hpos : ∀ x ∈ ws g.c, 1 ≤ x.arg) {i : Nat} (hi : i < g.c.length) (ri : isRead (g.c.getD i Call.z)) : (judge (ws g.c) (g.c.getD i Call.z) (i : Int)).regular = true := by
  have hti := (z.dn i hi ri.2).1
  unfold judge
  simp only
  rcases read_of z hL hpos hi ri with ⟨h1, h2⟩ | ⟨p, k, hp, k1, k2, k3, k4, k5, k6, k7⟩
  · have hl : lak (ws g.c) (g.c.getD i Call.z) (ws g.c).length = 0 := lak_no fun q hq hpr => by
      obtain ⟨k, _, _, _, _, o1, o2, _⟩ := wr_tag z hq hi hpr hti
      rw [h2] at o1
      unfold tlt at o1
      simp only at o1
      omega
    rw [h1, hl]; rfl
  · rw [k6]
    have e0 : decide ((0 : Int) ≤ ((p + 1 : Nat) : Int)) = true := decide_eq_true (by omega)
    rw [e0, Bool.true_and, Bool.or_eq_true]
    by_cases hpr : prec ((ws g.c).getD p Call.z) (g.c.getD i Call.z)
    · left
      refine decide_eq_true (lak_at hpr hp fun q hq1 hq2 hq3 => ?_).symm
      obtain ⟨kq, a1, a2, a3, a4, o1, o2, _⟩ := wr_tag z hq2 hi hq3 hti
      have hpq := (hL p q hq1 hq2).2
      rw [a4] at hpq
      obtain ⟨kp, b1, b2, b3, b4, o3, o4, o5⟩ := wr_tag z hp a1 hpq a3
      have o5 := o5 a2
      have : kp = k := by
        have e : g.c.getD kp Call.z = g.c.getD k Call.z := by rw [← b4, k4]
        rcases Nat.lt_trichotomy kp k with h | h | h
        · have := (z.run.wf.two kp k h k1).fr
          rw [e] at this; omega
        · exact h
        · have := (z.run.wf.two k kp h b1).fr
          rw [e] at this; omega
      subst this
      rw [k5] at o5
      unfold tlt at *; omega
    · right
      rw [ovk_at hpr (fun h => ?_) hp]
      · rfl
      · rw [k4] at h
        have := h.2
        omega
open Si in
theorem not_turned {N : Nat} {np n : Nat} {m : M} {g : Gh} (z : Z N false np n m g) (hL : Lin (ws g.c)) (hpos : ∀ x ∈ ws g.c, 1 ≤ x.arg) {i j : Nat} (hi : i < g.c.length) (hj : j < g.c.length) (ri : isRead (g.c.getD i Call.z)) (rj : isRead (g.c.getD j Call.z)) (hp : prec (g.c.getD i Call.z) (g.c.getD j Call.z)) : ¬ wrk (ws g.c) (g.c.getD j Call.z).res (ws g.c).length < wrk (ws g.c) (g.c.getD i Call.z).res (ws g.c).length := by
  intro hlt
  have o := (z.ord i j hi hj hp.1 hp.2 (.inl rfl) (z.dn j hj rj.2).1).1
  rcases read_of z hL hpos hi ri with ⟨h1, _⟩ | ⟨p, k, hp1, k1, k2, k3, k4, k5, k6, k7⟩
  · rw [h1] at hlt
    rcases read_of z hL hpos hj rj with ⟨h3, _⟩ | ⟨q, _, _, _, _, _, _, _, l6, _⟩ <;> omega
  · rw [k6] at hlt
    have hst := (z.tw k k1 k3 k2).2
    rcases read_of z hL hpos hj rj with ⟨h3, h4⟩ | ⟨q, l, hq1, l1, l2, l3, l4, l5, l6, l7⟩
    · rw [h4, ← k5] at o
      unfold tlt at o; simp only at o; omega
    · rw [l6] at hlt
      have hpq := (hL q p (by omega) hp1).2
      rw [k4] at hpq
      obtain ⟨kq, a1, a2, a3, a4, o1, o2, o3⟩ := wr_tag z hq1 k1 hpq k3
      have o3 := o3 k2
      have : kq = l := by
        have e : g.c.getD kq Call.z = g.c.getD l Call.z := by rw [← a4, l4]
        rcases Nat.lt_trichotomy kq l with h | h | h
        · have := (z.run.wf.two kq l h l1).fr
          rw [e] at this; omega
        · exact h
        · have := (z.run.wf.two l kq h a1).fr
          rw [e] at this; omega
      subst this
      rw [← k5, ← l5] at o
      exact o o3
theorem level_wp {N : Nat} (hN : 5000 < N) {l : List Event} {c : List Call} (hc : history_Calls N [1] l = some (c, 0, 0)) (hlen : c.length ≤ 200) (hreg : Lin (ws c) → ∀ i, i < c.length → isRead (c.getD i Call.z) → (judge (ws c) (c.getD i Call.z) (i : Int)).regular = true) : Wp (regular_Check N l) fun r => r.2 = 6 ∨ (r.2 = 0 ∧ Lin (ws c) ∧ ∃ t, Tn c (ws c) t ∧ r.1 = if t.2.2 = true then 2 else 3) := by
  have hwl : (ws c).length ≤ 200 := by
    have := List.length_filter_le (fun x : Call => decide (x.kind = 1)) c
    show (List.filter _ c).length ≤ 200
    omega
  unfold regular_Check
  refine .seq (read_wp (by omega) hc fun _ => hlen) fun r _ hr => ?_
  rcases hr with ⟨h, rfl⟩ | ⟨h, hL, rfl⟩ | ⟨_, _, rfl⟩
  · exact (h rfl).elim
  · refine .condF rfl (.seq (P := fun v => ∃ t, Tn c (ws c) t ∧ v = if t.2.2 = true then (2 : Int) else 3) (.ck rfl (.seq (turned_wp (by omega) hlen hwl) fun t _ ht => .cond (fun h => .one ⟨t, ht, by rw [if_pos h]⟩) fun h => .one ⟨t, ht, by rw [if_neg (by rw [h]; decide)]⟩)) fun v _ ⟨t, ht, hv⟩ => ?_)
    refine .seq (P := fun x => x = v) (.bdO (reads_ok (by omega) hlen hwl) ?_) fun x _ hx => .one (.inr ⟨rfl, hL, t, ht, by rw [hx]; exact hv⟩)
    have hrl := rdk_len c (ws c) c.length
    refine .iter (rdk c (ws c) c.length).length (fun k st => st = (v, (k : Int))) (by omega) rfl ?_ ?_
    · rintro k st hk rfl
      simp only [regular_Check_L3]
      obtain ⟨i, hi, ri, e⟩ := rdk_mem.1 (List.getElem_mem hk)
      have hR := hreg hL i hi ri
      rw [← e] at hR
      have hS : ((rdk c (ws c) c.length)[k]).safe = true := by
        have : (judge (ws c) (c.getD i Call.z) (i : Int)).safe = ((judge (ws c) (c.getD i Call.z) (i : Int)).regular || decide (0 < ((ovk (ws c) (c.getD i Call.z) (ws c).length).length : Int))) := rfl
        rw [e, this, ← e, hR]; rfl
      refine .condT (decide_eq_true (by omega)) (.ix hk (.condF (by rw [hS]; rfl) (.condF (by rw [hR]; rfl) (.ck64 (by omega) (.one ?_)))))
      show (_, _) = (_, _)
      simp
    · rintro st rfl
      simp only [regular_Check_L3]
      exact .condF (decide_eq_false (by omega)) (.one rfl)
  · exact .condT rfl (.one (.inl rfl))
theorem lives : alibkeep_regularLives 18446744073709551616 = some true := by kernel_rfl
open Si Hs in
theorem fastLaw {N : Nat} (hN : 5000 < N) (hLv : alibkeep_regularLives N = some true) (n : Int) (fast : Bool) (people : List (List Ask)) (acts : List Act) (hl : ∀ l ∈ people, l.length < N ∧ l.length ≤ 9223372036854775807) (ha : acts.length < N ∧ acts.length ≤ 9223372036854775807) (hs : ∀ q ∈ people, q.length ≤ 10000000000000) : alibkeep_RegularFast N n fast people acts = some true := by
  refine Wp.eq ?_
  unfold alibkeep_RegularFast
  rcases play_res hN n fast acts hl ha with ⟨e, he, hP⟩ | ⟨hP, hn, h8, hok, hlen, hact⟩
  · exact .bdO hP (.bdO hLv (.condT (by simp [he]) (.bdO hLv (.one rfl))))
  have h12 := play_sum hN hl hs ha hP h8
  obtain ⟨g, A, hr, _⟩ := run_zz (zz0 N fast (n := n.toNat) h8 (by omega) (asks_of hok)) hact
  rw [(asksum n.toNat people).1] at hr
  refine .bdO hP (.bdO hLv (.condF (by simp) ?_))
  generalize run fast (m0 n.toNat people) acts = X at A hr ⊢
  have R := A.z.run
  have hcnt := R.wf.cnt
  have hle2 : g.c.countP (fun c => !decide (c.to_ = -1)) ≤ g.c.length := List.countP_le_length
  have hcl : g.c.length ≤ 12 := by
    have hr : rems X + g.c.length = (people.map List.length).sum + 0 := hr
    omega
  have hcalls := calls_of (by omega) (types1 (by omega)) (by omega) R
  have hpos : ∀ x ∈ ws g.c, 1 ≤ x.arg := fun x hx => by
    obtain ⟨h1, h2⟩ := List.mem_filter.1 hx
    obtain ⟨k, hk, e⟩ := List.getElem_of_mem h1
    have := (Sr.rn_arg R k hk).1
    rw [getD_of hk, e, of_decide_eq_true h2] at this
    exact (Sr.arg_pos this).1
  refine .seq (level_wp hN hcalls (by omega) fun hL i hi ri => all_regular A.z hL hpos hi ri) fun r _ hr => .one ?_
  rcases hr with h | ⟨h, hL, t, ht, hv⟩
  · rw [h]; rfl
  · rw [h]
    rcases ht with ⟨ht, _⟩ | ⟨i, j, ht, hi, hj, ri, rj, gi, gj, hp, hlt⟩
    · have : t.2.2 = false := congrArg (fun x => x.2.2) ht
      rw [if_neg (by rw [this]; decide)] at hv
      rw [hv]; simp
    · have h3 : t.2.2 = true := congrArg (fun x => x.2.2) ht
      rw [if_pos h3] at hv
      cases hf : fast with
      | true => rw [hv]; rfl
      | false =>
        subst hf
        exact (not_turned A.z hL hpos hi hj ri rj hp hlt).elim
end Rg

end Go.Proofs.Yteklmleiiiodfaa
