/- Regular registers, plainly: calls that stand for calls. -/
import Derived.Test.YteklmleiiiodfaaAF3
set_option linter.unusedVariables false
set_option linter.unusedSimpArgs false
set_option linter.unusedSectionVars false
set_option maxRecDepth 100000
namespace Go.Proofs.Yteklmleiiiodfaa
open Go.RowKit
namespace Rg
open Hs
theorem ovk_mem {w : List Call} {x : Call} {n : Int} {b : Bool} : ∀ {k : Nat}, mget (ovk w x k) n = some b → ∃ q, q < k ∧ n = ((q + 1 : Nat) : Int) ∧ ¬ prec (w.getD q Call.z) x ∧ ¬ prec x (w.getD q Call.z)
  | 0, h => by cases h
  | k + 1, h => by
    unfold ovk at h
    by_cases h1 : prec (w.getD k Call.z) x
    · rw [if_pos h1] at h
      obtain ⟨q, a, e⟩ := ovk_mem h
      exact ⟨q, by omega, e⟩
    · rw [if_neg h1] at h
      by_cases h2 : prec x (w.getD k Call.z)
      · rw [if_pos h2] at h
        obtain ⟨q, a, e⟩ := ovk_mem h
        exact ⟨q, by omega, e⟩
      · rw [if_neg h2] at h
        cases hm : mget (ovk w x k) n with
        | some v =>
          obtain ⟨q, a, e⟩ := ovk_mem hm
          exact ⟨q, by omega, e⟩
        | none =>
          rw [mget_app hm] at h
          unfold mget at h
          by_cases e : ((k + 1 : Nat) : Int) = n
          · exact ⟨k, by omega, e.symm, h1, h2⟩
          · rw [if_neg e] at h; cases h
theorem lak_ge {w : List Call} {x : Call} {q : Nat} (h : prec (w.getD q Call.z) x) : ∀ {k : Nat}, q < k → ((q + 1 : Nat) : Int) ≤ lak w x k
  | 0, hq => absurd hq (Nat.not_lt_zero _)
  | k + 1, hq => by
    unfold lak
    by_cases e : q = k
    · subst e; rw [if_pos h]; exact Int.le_refl _
    · by_cases h2 : prec (w.getD k Call.z) x
      · rw [if_pos h2]; omega
      · rw [if_neg h2]; exact lak_ge h (by omega)
theorem lak_is (w : List Call) (x : Call) : ∀ k : Nat, lak w x k = 0 ∨ ∃ r, r < k ∧ lak w x k = ((r + 1 : Nat) : Int) ∧ prec (w.getD r Call.z) x
  | 0 => .inl rfl
  | k + 1 => by
    unfold lak
    by_cases h2 : prec (w.getD k Call.z) x
    · rw [if_pos h2]; exact .inr ⟨k, by omega, rfl, h2⟩
    · rw [if_neg h2]
      rcases lak_is w x k with h | ⟨r, h, e⟩
      · exact .inl h
      · exact .inr ⟨r, by omega, e⟩
theorem wrk_is (w : List Call) (res : Int) : ∀ k : Nat, (res = 0 ∧ wrk w res k = 0) ∨ wrk w res k = -1 ∨ ∃ r, r < k ∧ wrk w res k = ((r + 1 : Nat) : Int) ∧ (w.getD r Call.z).arg = res
  | 0 => by
    unfold wrk
    by_cases h : res = 0
    · rw [if_pos h]; exact .inl ⟨h, rfl⟩
    · rw [if_neg h]; exact .inr (.inl rfl)
  | k + 1 => by
    unfold wrk
    by_cases h : (w.getD k Call.z).arg = res
    · rw [if_pos h]; exact .inr (.inr ⟨k, by omega, rfl, h⟩)
    · rw [if_neg h]
      rcases wrk_is w res k with h | h | ⟨r, h, e⟩
      · exact .inl h
      · exact .inr (.inl h)
      · exact .inr (.inr ⟨r, by omega, e⟩)
/-- What a regular read is. -/
theorem reg_of {w : List Call} {x : Call} {n : Int} (h : (judge w x n).regular = true) : (x.res = 0 ∧ wrk w x.res w.length = 0 ∧ lak w x w.length = 0) ∨ ∃ p, p < w.length ∧ (w.getD p Call.z).arg = x.res ∧ wrk w x.res w.length = ((p + 1 : Nat) : Int) ∧ ((lak w x w.length = ((p + 1 : Nat) : Int) ∧ prec (w.getD p Call.z) x) ∨ (¬ prec (w.getD p Call.z) x ∧ ¬ prec x (w.getD p Call.z))) := by
  unfold judge at h
  simp only [Bool.and_eq_true, Bool.or_eq_true, decide_eq_true_eq] at h
  obtain ⟨h0, h1⟩ := h
  have h1 : wrk w x.res w.length = lak w x w.length ∨ ∃ q, q < w.length ∧ wrk w x.res w.length = ((q + 1 : Nat) : Int) ∧ ¬ prec (w.getD q Call.z) x ∧ ¬ prec x (w.getD q Call.z) := by
    rcases h1 with h1 | h1
    · exact .inl h1
    · right
      cases hm : mget (ovk w x w.length) (wrk w x.res w.length) with
      | none => rw [hm] at h1; cases h1
      | some b => exact ovk_mem hm
  rcases wrk_is w x.res w.length with ⟨a, b⟩ | h | ⟨r, a, b, d⟩
  · left
    refine ⟨a, b, ?_⟩
    rcases h1 with h1 | ⟨q, _, e, _⟩
    · omega
    · omega
  · omega
  · right
    refine ⟨r, a, d, b, ?_⟩
    rcases h1 with h1 | ⟨q, _, e, g1, g2⟩
    · left
      rcases lak_is w x w.length with h | ⟨s, _, e, g⟩
      · omega
      · obtain rfl : s = r := by omega
        exact ⟨e, g⟩
    · obtain rfl : q = r := by omega
      exact .inr ⟨g1, g2⟩
/-- Each read is regular, none are turned. -/
structure Lv (c : List Call) : Prop where
  reg : ∀ i, i < c.length → isRead (c.getD i Call.z) → (judge (ws c) (c.getD i Call.z) (i : Int)).regular = true
  tn : ∀ i j, i < c.length → j < c.length → isRead (c.getD i Call.z) → isRead (c.getD j Call.z) → prec (c.getD i Call.z) (c.getD j Call.z) → ¬ wrk (ws c) (c.getD j Call.z).res (ws c).length < wrk (ws c) (c.getD i Call.z).res (ws c).length
end Rg

namespace Rg
open Hs
/-- Calls of one history that stand for calls of another. -/
structure Tr (c d : List Call) (e : Nat → Nat) : Prop where
  len : ∀ i, i < d.length → e i < c.length
  kind : ∀ i, i < d.length → (d.getD i Call.z).kind = (c.getD (e i) Call.z).kind
  arg : ∀ i, i < d.length → (d.getD i Call.z).arg = (c.getD (e i) Call.z).arg
  ans : ∀ i, i < d.length → (d.getD i Call.z).to_ ≠ -1 → (c.getD (e i) Call.z).to_ ≠ -1 ∧ (c.getD (e i) Call.z).res = (d.getD i Call.z).res
  pr : ∀ i j, i < d.length → j < d.length → (prec (d.getD i Call.z) (d.getD j Call.z) ↔ prec (c.getD (e i) Call.z) (c.getD (e j) Call.z))
  wl : (ws d).length ≤ (ws c).length
  wp : ∀ p, p < (ws d).length → ∃ i, i < d.length ∧ (ws d).getD p Call.z = d.getD i Call.z ∧ (ws c).getD p Call.z = c.getD (e i) Call.z
  wn : ∀ p i, (ws d).length ≤ p → p < (ws c).length → i < d.length → (d.getD i Call.z).to_ ≠ -1 → prec (c.getD (e i) Call.z) ((ws c).getD p Call.z) ∧ ¬ prec ((ws c).getD p Call.z) (c.getD (e i) Call.z)
section
variable {c d : List Call} {e : Nat → Nat}
theorem lak_same {w w' : List Call} {x x' : Call} : ∀ {k : Nat}, (∀ p, p < k → (prec (w'.getD p Call.z) x' ↔ prec (w.getD p Call.z) x)) → lak w' x' k = lak w x k
  | 0, _ => rfl
  | k + 1, h => by
    unfold lak
    rw [lak_same fun p hp => h p (by omega)]
    by_cases h2 : prec (w.getD k Call.z) x
    · rw [if_pos h2, if_pos ((h k (by omega)).2 h2)]
    · rw [if_neg h2, if_neg fun h3 => h2 ((h k (by omega)).1 h3)]
theorem lak_s (w : List Call) (x : Call) (k : Nat) : lak w x (k + 1) = if prec (w.getD k Call.z) x then ((k + 1 : Nat) : Int) else lak w x k := rfl
theorem ovk_s (w : List Call) (x : Call) (k : Nat) : ovk w x (k + 1) = if prec (w.getD k Call.z) x then ovk w x k else if prec x (w.getD k Call.z) then ovk w x k else ovk w x k ++ [(((k + 1 : Nat) : Int), true)] := rfl
theorem wrk_s (w : List Call) (res : Int) (k : Nat) : wrk w res (k + 1) = if (w.getD k Call.z).arg = res then ((k + 1 : Nat) : Int) else wrk w res k := rfl
theorem lak_low {w : List Call} {x : Call} {q : Nat} : ∀ {k : Nat}, q ≤ k → (∀ p, q ≤ p → p < k → ¬ prec (w.getD p Call.z) x) → lak w x k = lak w x q
  | 0, h, _ => by obtain rfl : q = 0 := by omega
                  rfl
  | k + 1, h, hn => by
    by_cases e : q = k + 1
    · rw [e]
    · rw [lak_s, if_neg (hn k (by omega) (by omega)), lak_low (k := k) (by omega) fun p a b => hn p a (by omega)]
theorem ovk_same {w w' : List Call} {x x' : Call} : ∀ {k : Nat}, (∀ p, p < k → (prec (w'.getD p Call.z) x' ↔ prec (w.getD p Call.z) x) ∧ (prec x' (w'.getD p Call.z) ↔ prec x (w.getD p Call.z))) → ovk w' x' k = ovk w x k
  | 0, _ => rfl
  | k + 1, h => by
    unfold ovk
    rw [ovk_same fun p hp => h p (by omega)]
    obtain ⟨a, b⟩ := h k (by omega)
    by_cases h2 : prec (w.getD k Call.z) x
    · rw [if_pos h2, if_pos (a.2 h2)]
    · rw [if_neg h2, if_neg fun h3 => h2 (a.1 h3)]
      by_cases h4 : prec x (w.getD k Call.z)
      · rw [if_pos h4, if_pos (b.2 h4)]
      · rw [if_neg h4, if_neg fun h3 => h4 (b.1 h3)]
theorem ovk_low {w : List Call} {x : Call} {q : Nat} : ∀ {k : Nat}, q ≤ k → (∀ p, q ≤ p → p < k → prec x (w.getD p Call.z) ∧ ¬ prec (w.getD p Call.z) x) → ovk w x k = ovk w x q
  | 0, h, _ => by obtain rfl : q = 0 := by omega
                  rfl
  | k + 1, h, hn => by
    by_cases e : q = k + 1
    · rw [e]
    · obtain ⟨a, b⟩ := hn k (by omega) (by omega)
      rw [ovk_s, if_neg b, if_pos a, ovk_low (k := k) (by omega) fun p a b => hn p a (by omega)]
theorem wrk_same {w w' : List Call} {res : Int} : ∀ {k : Nat}, (∀ p, p < k → (w'.getD p Call.z).arg = (w.getD p Call.z).arg) → wrk w' res k = wrk w res k
  | 0, _ => rfl
  | k + 1, h => by
    unfold wrk
    rw [wrk_same fun p hp => h p (by omega), h k (by omega)]
theorem wrk_low {w : List Call} {res : Int} {q : Nat} : ∀ {k : Nat}, q ≤ k → (∀ p, q ≤ p → p < k → (w.getD p Call.z).arg ≠ res) → wrk w res k = wrk w res q
  | 0, h, _ => by obtain rfl : q = 0 := by omega
                  rfl
  | k + 1, h, hn => by
    by_cases e : q = k + 1
    · rw [e]
    · rw [wrk_s, if_neg (hn k (by omega) (by omega)), wrk_low (k := k) (by omega) fun p a b => hn p a (by omega)]
theorem Tr.ovk (X : Tr c d e) {i : Nat} (hi : i < d.length) (ri : isRead (d.getD i Call.z)) : ovk (ws d) (d.getD i Call.z) (ws d).length = ovk (ws c) (c.getD (e i) Call.z) (ws c).length := by
  rw [ovk_low X.wl fun p a b => X.wn p i a b hi ri.2]
  refine ovk_same fun p hp => ?_
  obtain ⟨j, hj, e1, e2⟩ := X.wp p hp
  rw [e1, e2]
  exact ⟨X.pr j i hj hi, X.pr i j hi hj⟩
theorem Tr.lak (X : Tr c d e) {i : Nat} (hi : i < d.length) (ri : isRead (d.getD i Call.z)) : lak (ws d) (d.getD i Call.z) (ws d).length = lak (ws c) (c.getD (e i) Call.z) (ws c).length := by
  rw [lak_low X.wl fun p a b => (X.wn p i a b hi ri.2).2]
  refine lak_same fun p hp => ?_
  obtain ⟨j, hj, e1, e2⟩ := X.wp p hp
  rw [e1, e2]
  exact X.pr j i hj hi
theorem Tr.read (X : Tr c d e) {i : Nat} (hi : i < d.length) (ri : isRead (d.getD i Call.z)) : isRead (c.getD (e i) Call.z) := ⟨by rw [← X.kind i hi]; exact ri.1, (X.ans i hi ri.2).1⟩
theorem Tr.wrk (X : Tr c d e) (hL : Lin (ws c)) {i : Nat} (hi : i < d.length) (ri : isRead (d.getD i Call.z)) {n : Int} (h : (judge (ws c) (c.getD (e i) Call.z) n).regular = true) : wrk (ws d) (d.getD i Call.z).res (ws d).length = wrk (ws c) (c.getD (e i) Call.z).res (ws c).length := by
  have hres := (X.ans i hi ri.2).2
  have hlow : ∀ p, (ws d).length ≤ p → p < (ws c).length → ((ws c).getD p Call.z).arg ≠ (c.getD (e i) Call.z).res := by
    intro p h1 h2 h3
    have hw := wrk_of hL h3 h2 (Nat.le_refl _)
    obtain ⟨n1, n2⟩ := X.wn p i h1 h2 hi ri.2
    rcases reg_of h with ⟨_, g, _⟩ | ⟨r, r1, r2, r3, ⟨_, g⟩ | ⟨_, g⟩⟩
    · omega
    · obtain rfl : r = p := by omega
      exact n2 g
    · obtain rfl : r = p := by omega
      exact g n1
  rw [wrk_low X.wl hlow, ← hres]
  refine wrk_same fun p hp => ?_
  obtain ⟨j, hj, e1, e2⟩ := X.wp p hp
  rw [e1, e2]; exact X.arg j hj
theorem Tr.regular (X : Tr c d e) (hL : Lin (ws c)) {i : Nat} (hi : i < d.length) (ri : isRead (d.getD i Call.z)) {n n' : Int} (h : (judge (ws c) (c.getD (e i) Call.z) n).regular = true) : (judge (ws d) (d.getD i Call.z) n').regular = true := by
  have h1 := X.wrk hL hi ri h
  have h2 := X.lak hi ri
  have h3 := X.ovk hi ri
  unfold judge at h ⊢
  simp only at h ⊢
  rw [h1, h2, h3]; exact h
theorem safe_iff {w : List Call} {x : Call} {n : Int} : (judge w x n).safe = true ↔ (judge w x n).regular = true ∨ 0 < (Rg.ovk w x w.length).length := by
  have : (judge w x n).safe = ((judge w x n).regular || decide (0 < ((Rg.ovk w x w.length).length : Int))) := rfl
  rw [this, Bool.or_eq_true, decide_eq_true_eq]
  constructor
  · rintro (h | h)
    · exact .inl h
    · exact .inr (by omega)
  · rintro (h | h)
    · exact .inl h
    · exact .inr (by omega)
theorem Tr.safe (X : Tr c d e) (hL : Lin (ws c)) {i : Nat} (hi : i < d.length) (ri : isRead (d.getD i Call.z)) {n n' : Int} (h : (judge (ws c) (c.getD (e i) Call.z) n).safe = true) : (judge (ws d) (d.getD i Call.z) n').safe = true := by
  rw [safe_iff] at h ⊢
  rcases h with h | h
  · exact .inl (X.regular hL hi ri h)
  · exact .inr (by rw [X.ovk hi ri]; exact h)
theorem Tr.lin (X : Tr c d e) (hL : Lin (ws c)) : Lin (ws d) := by
  intro p q hpq hq
  obtain ⟨i, hi, e1, e2⟩ := X.wp p (by omega)
  obtain ⟨j, hj, e3, e4⟩ := X.wp q hq
  have h := hL p q hpq (by have := X.wl; omega)
  rw [e2, e4] at h
  rw [e1, e3]
  exact ⟨by rw [X.arg i hi, X.arg j hj]; exact h.1, (X.pr i j hi hj).2 h.2⟩
def Sf (c : List Call) : Prop := ∀ i, i < c.length → isRead (c.getD i Call.z) → (judge (ws c) (c.getD i Call.z) (i : Int)).safe = true
def Rgl (c : List Call) : Prop := ∀ i, i < c.length → isRead (c.getD i Call.z) → (judge (ws c) (c.getD i Call.z) (i : Int)).regular = true
/-- What is told of calls. -/
def Lvl (c : List Call) (k : Int) : Prop := (¬ Sf c ∧ k = 0) ∨ (Sf c ∧ ¬ Rgl c ∧ k = 1) ∨ (Sf c ∧ Rgl c ∧ ¬ Lv c ∧ k = 2) ∨ (Sf c ∧ Rgl c ∧ Lv c ∧ k = 3)
theorem Tr.sf (X : Tr c d e) (hL : Lin (ws c)) (h : Sf c) : Sf d := fun i hi ri => X.safe hL hi ri (h (e i) (X.len i hi) (X.read hi ri))
theorem Tr.rgl (X : Tr c d e) (hL : Lin (ws c)) (h : Rgl c) : Rgl d := fun i hi ri => X.regular hL hi ri (h (e i) (X.len i hi) (X.read hi ri))
theorem Tr.lv (X : Tr c d e) (hL : Lin (ws c)) (h : Lv c) : Lv d := by
  refine ⟨X.rgl hL h.reg, fun i j hi hj ri rj hp => ?_⟩
  rw [X.wrk hL hi ri (h.reg (e i) (X.len i hi) (X.read hi ri)), X.wrk hL hj rj (h.reg (e j) (X.len j hj) (X.read hj rj))]
  exact h.tn (e i) (e j) (X.len i hi) (X.len j hj) (X.read hi ri) (X.read hj rj) ((X.pr i j hi hj).1 hp)
theorem Tr.lvl (X : Tr c d e) (hL : Lin (ws c)) {k m : Int} (h : Lvl c k) (h2 : Lvl d m) : k ≤ m := by
  unfold Lvl at h h2
  rcases h with ⟨_, rfl⟩ | ⟨a, _, rfl⟩ | ⟨a, b, _, rfl⟩ | ⟨a, b, l, rfl⟩
  · rcases h2 with ⟨_, rfl⟩ | ⟨_, _, rfl⟩ | ⟨_, _, _, rfl⟩ | ⟨_, _, _, rfl⟩ <;> omega
  · rcases h2 with ⟨g, _⟩ | ⟨_, _, rfl⟩ | ⟨_, _, _, rfl⟩ | ⟨_, _, _, rfl⟩
    · exact (g (X.sf hL a)).elim
    all_goals omega
  · rcases h2 with ⟨g, _⟩ | ⟨_, g, _⟩ | ⟨_, _, _, rfl⟩ | ⟨_, _, _, rfl⟩
    · exact (g (X.sf hL a)).elim
    · exact (g (X.rgl hL b)).elim
    all_goals omega
  · rcases h2 with ⟨g, _⟩ | ⟨_, g, _⟩ | ⟨_, _, g, _⟩ | ⟨_, _, _, rfl⟩
    · exact (g (X.sf hL a)).elim
    · exact (g (X.rgl hL b)).elim
    · exact (g (X.lv hL l)).elim
    · omega
theorem Lvl.rng {c : List Call} {k : Int} (h : Lvl c k) : 0 ≤ k ∧ k ≤ 3 := by
  rcases h with ⟨_, rfl⟩ | ⟨_, _, rfl⟩ | ⟨_, _, _, rfl⟩ | ⟨_, _, _, rfl⟩ <;> omega
end
end Rg

end Go.Proofs.Yteklmleiiiodfaa
