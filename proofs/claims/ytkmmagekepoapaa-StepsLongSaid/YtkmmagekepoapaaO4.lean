/- The five patterns; Check. -/
import Derived.Test.YtkmmagekepoapaaO3
set_option linter.unusedVariables false
set_option linter.unusedSimpArgs false
set_option linter.unusedSectionVars false
set_option maxRecDepth 100000
namespace Go.Proofs.Ytkmmagekepoapaa
open Go.RowKit
namespace Rw
open Hs
/-- Call i takes a value that nobody puts. -/
structure StrayAt (c : List Call) (i : Nat) : Prop where
  lt : i < c.length
  dq : (c.getD i Call.z).kind = 4 ∧ (c.getD i Call.z).res ≠ -1
  no : ∀ e, e < c.length → (c.getD e Call.z).kind = 3 → (c.getD e Call.z).arg ≠ (c.getD i Call.z).res
/-- Call i takes a value that was taken. -/
structure TwiceAt (c : List Call) (i : Nat) : Prop where
  lt : i < c.length
  dq : (c.getD i Call.z).kind = 4 ∧ (c.getD i Call.z).res ≠ -1
  is : ∃ j, j < i ∧ (c.getD j Call.z).kind = 4 ∧ (c.getD j Call.z).res = (c.getD i Call.z).res
/-- Call i takes a value ahead of its being put. -/
structure EarlyAt (c : List Call) (i : Nat) : Prop where
  lt : i < c.length
  dq : (c.getD i Call.z).kind = 4 ∧ (c.getD i Call.z).res ≠ -1
  is : ∃ e, e < c.length ∧ (c.getD e Call.z).kind = 3 ∧ (c.getD e Call.z).arg = (c.getD i Call.z).res ∧ (c.getD i Call.z).to_ < (c.getD e Call.z).from_
def Ah (c : List Call) (a b : Nat) : Prop := (c.getD a Call.z).to_ ≠ -1 ∧ (c.getD a Call.z).to_ < (c.getD b Call.z).from_
/-- Value of a is put ahead of that of b, and b's is taken, and a's is not, or later. -/
structure OrdrAt (c : List Call) (a b : Nat) : Prop where
  la : a < c.length
  lb : b < c.length
  ka : (c.getD a Call.z).kind = 3
  kb : (c.getD b Call.z).kind = 3
  ah : Ah c a b
  is : ∃ d, Fd c c.length (c.getD b Call.z).arg d ∧ (Nd c c.length (c.getD a Call.z).arg ∨ ∃ d', Fd c c.length (c.getD a Call.z).arg d' ∧ Ah c d d')
/-- At time t some value is there for sure. -/
def Cov (c : List Call) (t : Int) : Prop := ∃ e, e < c.length ∧ (c.getD e Call.z).kind = 3 ∧ (c.getD e Call.z).to_ ≠ -1 ∧ (c.getD e Call.z).to_ ≤ t ∧ (Nd c c.length (c.getD e Call.z).arg ∨ ∃ d, Fd c c.length (c.getD e Call.z).arg d ∧ t < (c.getD d Call.z).from_)
/-- Call i finds nothing, though always something is there. -/
structure EmptAt (c : List Call) (i : Nat) : Prop where
  lt : i < c.length
  dq : (c.getD i Call.z).kind = 4 ∧ (c.getD i Call.z).res = -1
  is : ∀ t, (c.getD i Call.z).from_ ≤ t → t < (c.getD i Call.z).to_ → Cov c t
theorem stray_wp {N : Nat} (hN : 300 < N) {c : List Call} (hc : c.length ≤ 200) (C : Cls c) (Qc : Q c) {V : List RowsValue} (hV : Vals c c.length V) : Wp (rows_log_stray N c V) fun r => (r = (0, 0) ∧ ¬ ∃ i, StrayAt c i) ∨ ∃ i : Nat, r.1 = 1 ∧ r.2 = (i : Int) ∧ StrayAt c i := by
  unfold rows_log_stray rows_log_each
  refine .seq (P := fun r => (r = (0, 0) ∧ ¬ ∃ i, StrayAt c i) ∨ ∃ i : Nat, r.1 = 1 ∧ r.2 = (i : Int) ∧ StrayAt c i) (.elim (P := fun t => match t with | .inl _ => ¬ ∃ i, StrayAt c i | .inr r => ∃ i : Nat, r.1 = 1 ∧ r.2 = (i : Int) ∧ StrayAt c i) (.iter c.length (fun k v => v = (k : Int) ∧ ∀ i, i < k → ¬ StrayAt c i) (by omega) ⟨rfl, fun i h => absurd h (Nat.not_lt_zero _)⟩ ?_ ?_) (fun _ _ h => .one (.inl ⟨rfl, h⟩)) (fun r _ h => .one (.inr h))) fun r _ hr => .one hr
  · rintro k v hk ⟨rfl, hr⟩
    simp only [rows_log_each_L3]
    refine .condT (decide_eq_true (by omega)) (.ixD Call.z (by omega) (by omega) ?_)
    simp only [Int.toNat_natCast]
    have step : (¬ StrayAt c k) → ∀ i, i < k + 1 → ¬ StrayAt c i := fun h i hi => by
      rcases Nat.lt_or_ge i k with h1 | h1
      · exact hr i h1
      · obtain rfl : i = k := by omega
        exact h
    refine .cond (fun h => ?_) fun h => .ck64 (by omega) (.one ⟨by simp, step fun S => ?_⟩)
    · have h : (c.getD k Call.z).kind = 4 ∧ (c.getD k Call.z).res ≠ -1 := by simpa using h
      refine .seq (P := fun r => (r.1 = 0 ∧ ¬ StrayAt c k) ∨ (r.1 = 1 ∧ r.2 = (k : Int) ∧ StrayAt c k)) ?_ fun r _ hr2 => ?_
      · unfold rows_log_stray_1
        refine .seq (look_wp hN hV (c.getD k Call.z).res) fun m _ hm => ?_
        rcases hm with ⟨rfl, h1⟩ | ⟨m, rfl, h1, h2, e, g1, g2, g3, g4, _⟩
        · exact .condT rfl (.one (.inr ⟨rfl, rfl, hk, h, h1⟩))
        · exact .condF (decide_eq_false (by omega)) (.one (.inl ⟨rfl, fun S => S.no e g2 g3 (by omega)⟩))
      · rcases hr2 with ⟨h1, h2⟩ | ⟨h1, h2, h3⟩
        · exact .condF (by rw [h1]; rfl) (.ck64 (by omega) (.one ⟨by simp, step h2⟩))
        · exact .condT (by rw [h1]; rfl) (.one ⟨k, h1, h2, h3⟩)
    · have h : ¬ ((c.getD k Call.z).kind = 4 ∧ (c.getD k Call.z).res ≠ -1) := by simpa using h
      exact h ⟨S.dq.1, S.dq.2⟩
  · rintro v ⟨rfl, hr⟩
    simp only [rows_log_each_L3]
    refine .condF (decide_eq_false (by omega)) (.one fun ⟨i, S⟩ => hr i S.lt S)
theorem twice_wp {N : Nat} (hN : 300 < N) {c : List Call} (hc : c.length ≤ 200) (C : Cls c) (Qc : Q c) {V : List RowsValue} (hV : Vals c c.length V) (hst : ¬ ∃ i, StrayAt c i) : Wp (rows_log_twice N c V) fun r => (r = (0, 0, 0) ∧ ¬ ∃ i, TwiceAt c i) ∨ ∃ i : Nat, r.1 = 2 ∧ r.2.1 = (i : Int) ∧ TwiceAt c i := by
  unfold rows_log_twice rows_log_each_1
  refine .seq (P := fun r => (r = (0, 0, 0) ∧ ¬ ∃ i, TwiceAt c i) ∨ ∃ i : Nat, r.1 = 2 ∧ r.2.1 = (i : Int) ∧ TwiceAt c i) (.elim (P := fun t => match t with | .inl _ => ¬ ∃ i, TwiceAt c i | .inr r => ∃ i : Nat, r.1 = 2 ∧ r.2.1 = (i : Int) ∧ TwiceAt c i) (.iter c.length (fun k v => v = (k : Int) ∧ ∀ i, i < k → ¬ TwiceAt c i) (by omega) ⟨rfl, fun i h => absurd h (Nat.not_lt_zero _)⟩ ?_ ?_) (fun _ _ h => .one (.inl ⟨rfl, h⟩)) (fun r _ h => .one (.inr h))) fun r _ hr => .one hr
  · rintro k v hk ⟨rfl, hr⟩
    simp only [rows_log_each_1_L3]
    refine .condT (decide_eq_true (by omega)) (.ixD Call.z (by omega) (by omega) ?_)
    simp only [Int.toNat_natCast]
    have step : (¬ TwiceAt c k) → ∀ i, i < k + 1 → ¬ TwiceAt c i := fun h i hi => by
      rcases Nat.lt_or_ge i k with h1 | h1
      · exact hr i h1
      · obtain rfl : i = k := by omega
        exact h
    refine .cond (fun h => ?_) fun h => .ck64 (by omega) (.one ⟨by simp, step fun S => ?_⟩)
    · have h : (c.getD k Call.z).kind = 4 ∧ (c.getD k Call.z).res ≠ -1 := by simpa using h
      refine .seq (P := fun r => (r.1 = 0 ∧ ¬ TwiceAt c k) ∨ (r.1 = 2 ∧ r.2.1 = (k : Int) ∧ TwiceAt c k)) ?_ fun r _ hr2 => ?_
      · unfold rows_log_twice_1
        refine .seq (look_wp hN hV (c.getD k Call.z).res) fun m _ hm => ?_
        rcases hm with ⟨rfl, h1⟩ | ⟨m, rfl, h1, h2, e, g1, g2, g3, g4, g5⟩
        · exact (hst ⟨k, hk, h, h1⟩).elim
        · refine .ixD RowsValue.z (by omega) (by omega) ?_
          simp only [Int.toNat_natCast]
          rcases g5 with ⟨_, g6⟩ | ⟨d, g5, g6⟩
          · exact (g6 k hk h.1 h2.symm).elim
          · simp only [g5]
            rw [h2] at g6
            refine .cond (fun h3 => .ixD RowsValue.z (by omega) (by omega) (.one (.inr ⟨rfl, rfl, hk, h, d, ?_, g6.2.1, g6.2.2.1⟩))) fun h3 => .one (.inl ⟨rfl, fun S => ?_⟩)
            · have h3 : (d : Int) ≠ k := by simpa using h3
              rcases Nat.lt_trichotomy d k with x | x | x
              · exact x
              · exact (h3 (by omega)).elim
              · exact (g6.2.2.2 k x h.1 rfl).elim
            · have h3 : (d : Int) = k := by simpa using h3
              have h3 : d = k := by omega
              obtain ⟨j, j1, j2, j3⟩ := S.is
              subst h3
              exact g6.2.2.2 j j1 j2 j3
      · rcases hr2 with ⟨h1, h2⟩ | ⟨h1, h2, h3⟩
        · exact .condF (by rw [h1]; rfl) (.ck64 (by omega) (.one ⟨by simp, step h2⟩))
        · exact .condT (by rw [h1]; rfl) (.one ⟨k, h1, h2, h3⟩)
    · have h : ¬ ((c.getD k Call.z).kind = 4 ∧ (c.getD k Call.z).res ≠ -1) := by simpa using h
      exact h ⟨S.dq.1, S.dq.2⟩
  · rintro v ⟨rfl, hr⟩
    simp only [rows_log_each_1_L3]
    refine .condF (decide_eq_false (by omega)) (.one fun ⟨i, S⟩ => hr i S.lt S)
theorem early_wp {N : Nat} (hN : 300 < N) {c : List Call} (hc : c.length ≤ 200) (C : Cls c) (Qc : Q c) {V : List RowsValue} (hV : Vals c c.length V) (hst : ¬ ∃ i, StrayAt c i) : Wp (rows_log_early N c V) fun r => (r = (0, 0, 0) ∧ ¬ ∃ i, EarlyAt c i) ∨ ∃ i : Nat, r.1 = 3 ∧ r.2.1 = (i : Int) ∧ EarlyAt c i := by
  unfold rows_log_early rows_log_each_2
  refine .seq (P := fun r => (r = (0, 0, 0) ∧ ¬ ∃ i, EarlyAt c i) ∨ ∃ i : Nat, r.1 = 3 ∧ r.2.1 = (i : Int) ∧ EarlyAt c i) (.elim (P := fun t => match t with | .inl _ => ¬ ∃ i, EarlyAt c i | .inr r => ∃ i : Nat, r.1 = 3 ∧ r.2.1 = (i : Int) ∧ EarlyAt c i) (.iter c.length (fun k v => v = (k : Int) ∧ ∀ i, i < k → ¬ EarlyAt c i) (by omega) ⟨rfl, fun i h => absurd h (Nat.not_lt_zero _)⟩ ?_ ?_) (fun _ _ h => .one (.inl ⟨rfl, h⟩)) (fun r _ h => .one (.inr h))) fun r _ hr => .one hr
  · rintro k v hk ⟨rfl, hr⟩
    simp only [rows_log_each_2_L3]
    refine .condT (decide_eq_true (by omega)) (.ixD Call.z (by omega) (by omega) ?_)
    simp only [Int.toNat_natCast]
    have step : (¬ EarlyAt c k) → ∀ i, i < k + 1 → ¬ EarlyAt c i := fun h i hi => by
      rcases Nat.lt_or_ge i k with h1 | h1
      · exact hr i h1
      · obtain rfl : i = k := by omega
        exact h
    refine .cond (fun h => ?_) fun h => .ck64 (by omega) (.one ⟨by simp, step fun S => ?_⟩)
    · have h : (c.getD k Call.z).kind = 4 ∧ (c.getD k Call.z).res ≠ -1 := by simpa using h
      refine .seq (P := fun r => (r.1 = 0 ∧ ¬ EarlyAt c k) ∨ (r.1 = 3 ∧ r.2.1 = (k : Int) ∧ EarlyAt c k)) ?_ fun r _ hr2 => ?_
      · unfold rows_log_early_1
        refine .seq (look_wp hN hV (c.getD k Call.z).res) fun m _ hm => ?_
        rcases hm with ⟨rfl, h1⟩ | ⟨m, rfl, h1, h2, e, g1, g2, g3, g4, g5⟩
        · exact (hst ⟨k, hk, h, h1⟩).elim
        · refine .ixD RowsValue.z (by omega) (by omega) ?_
          simp only [Int.toNat_natCast]
          rw [g1]
          refine .ixD Call.z (by omega) (by omega) ?_
          simp only [Int.toNat_natCast]
          refine .cond (fun h3 => .ixD RowsValue.z (by omega) (by omega) (.one (.inr ⟨rfl, rfl, hk, h, e, g2, g3, by omega, of_decide_eq_true h3⟩))) fun h3 => .one (.inl ⟨rfl, fun S => ?_⟩)
          obtain ⟨e', k1, k2, k3, k4⟩ := S.is
          obtain rfl := C.uq e' e k1 g2 k2 g3 (by omega)
          exact of_decide_eq_false h3 k4
      · rcases hr2 with ⟨h1, h2⟩ | ⟨h1, h2, h3⟩
        · exact .condF (by rw [h1]; rfl) (.ck64 (by omega) (.one ⟨by simp, step h2⟩))
        · exact .condT (by rw [h1]; rfl) (.one ⟨k, h1, h2, h3⟩)
    · have h : ¬ ((c.getD k Call.z).kind = 4 ∧ (c.getD k Call.z).res ≠ -1) := by simpa using h
      exact h ⟨S.dq.1, S.dq.2⟩
  · rintro v ⟨rfl, hr⟩
    simp only [rows_log_each_2_L3]
    refine .condF (decide_eq_false (by omega)) (.one fun ⟨i, S⟩ => hr i S.lt S)
theorem ah_wp {N : Nat} {c : List Call} (V : List RowsValue) {a b : Nat} (ha : a < c.length) (hb : b < c.length) : ∃ r, rows_log_order_1 N (a : Int) (b : Int) c V = some r ∧ (r = true ↔ Ah c a b) := by
  show Wp _ fun r => r = true ↔ Ah c a b
  unfold rows_log_order_1
  refine .ixD Call.z (by omega) (by omega) ?_
  rw [Int.toNat_natCast]
  refine .gix Call.z (fun _ => ⟨by omega, by omega⟩) fun x hx => .gix Call.z (fun _ => ⟨by omega, by omega⟩) fun y hy => .one ?_
  rw [Int.toNat_natCast] at hx hy
  unfold Ah
  by_cases h : (c.getD a Call.z).to_ = -1
  · rw [decide_eq_true h]
    exact ⟨fun e => (by cases e), fun e => (e.1 h).elim⟩
  · rw [decide_eq_false h] at hx hy ⊢
    rw [hx rfl, hy rfl, Bool.not_false, Bool.true_and, decide_eq_true_eq]
    exact ⟨fun e => ⟨h, e⟩, fun e => e.2⟩
theorem order_wp {N : Nat} (hN : 300 < N) {c : List Call} (hc : c.length ≤ 200) (C : Cls c) {V : List RowsValue} (hV : Vals c c.length V) : Wp (rows_log_order N c V) fun r => (r = (0, 0, 0) ∧ ¬ ∃ a b, OrdrAt c a b) ∨ ∃ a b : Nat, r = (6, (c.getD a Call.z).arg, (c.getD b Call.z).arg) ∧ OrdrAt c a b := by
  have hvl := hV.len
  -- of an item of the list
  have item : ∀ i, i < V.length → ∃ e : Nat, (V.getD i RowsValue.z).enq = e ∧ e < c.length ∧ (c.getD e Call.z).kind = 3 ∧ (c.getD e Call.z).arg = (V.getD i RowsValue.z).n ∧ (((V.getD i RowsValue.z).deq = -1 ∧ Nd c c.length (V.getD i RowsValue.z).n) ∨ ∃ d : Nat, (V.getD i RowsValue.z).deq = d ∧ Fd c c.length (V.getD i RowsValue.z).n d) := fun i hi => hV.mem _ (getD_mem hi)
  unfold rows_log_order
  have fin : ∀ k, k ≤ V.length → ∀ e : Nat, e < c.length → (c.getD e Call.z).kind = 3 → ∃ i, i < V.length ∧ (V.getD i RowsValue.z).enq = e := fun _ _ e he h3 => by
    obtain ⟨v, hv, g⟩ := hV.all e he h3
    obtain ⟨i, hi, rfl⟩ := List.mem_iff_getElem.1 hv
    exact ⟨i, hi, by rw [getD_of hi]; exact g⟩
  refine .elim (P := fun t => match t with | .inl _ => ¬ ∃ a b, OrdrAt c a b | .inr r => ∃ a b : Nat, r = (6, (c.getD a Call.z).arg, (c.getD b Call.z).arg) ∧ OrdrAt c a b)
    (.iter V.length (fun k v => v = (k : Int) ∧ ∀ i, i < k → ∀ a : Nat, (V.getD i RowsValue.z).enq = a → ∀ b, ¬ OrdrAt c a b) (by omega) ⟨rfl, fun i h => absurd h (Nat.not_lt_zero _)⟩ ?_ ?_) (fun _ _ h => .one (.inl ⟨rfl, h⟩)) (fun r _ h => .one (.inr h))
  · rintro k v hk ⟨rfl, hr⟩
    obtain ⟨a, a1, a2, a3, a4, a5⟩ := item k hk
    simp only [rows_log_order_L25]
    refine .condT (decide_eq_true (by omega)) (.elim (P := fun t => match t with | .inl _ => ∀ b, ¬ OrdrAt c a b | .inr r => ∃ a b : Nat, r = (6, (c.getD a Call.z).arg, (c.getD b Call.z).arg) ∧ OrdrAt c a b) (.ixD RowsValue.z (by omega) (by omega) ?_) (fun _ _ h => .ck64 (by omega) (.one ⟨by simp, fun i hi a' ha' => ?_⟩)) (fun r _ h => .one h))
    · rw [Int.toNat_natCast]
      refine .iter V.length (fun m v => v = (m : Int) ∧ ∀ j, j < m → ∀ b : Nat, (V.getD j RowsValue.z).enq = b → ¬ OrdrAt c a b) (by omega) ⟨rfl, fun i h => absurd h (Nat.not_lt_zero _)⟩ ?_ ?_
      · rintro m v hm ⟨rfl, hr⟩
        obtain ⟨b, b1, b2, b3, b4, b5⟩ := item m hm
        simp only [rows_log_order_L27]
        refine .condT (decide_eq_true (by omega)) (.ixD RowsValue.z (by omega) (by omega) ?_)
        rw [Int.toNat_natCast, a1, b1]
        obtain ⟨r1, e1, e2⟩ := ah_wp (N := N) V a2 b2
        refine .seq (P := fun x => x = true ↔ OrdrAt c a b) (.bdO e1 ?_) fun x _ hx => .cond (fun h => .one ⟨a, b, by rw [a4, b4], hx.1 h⟩) fun h => .ck64 (by omega) (.one ⟨by simp, fun j hj b' hb' => ?_⟩)
        · have hab : OrdrAt c a b ↔ Ah c a b ∧ (∃ d, Fd c c.length (V.getD m RowsValue.z).n d ∧ (Nd c c.length (V.getD k RowsValue.z).n ∨ ∃ d', Fd c c.length (V.getD k RowsValue.z).n d' ∧ Ah c d d')) := by
            rw [← a4, ← b4]
            exact ⟨fun O => ⟨O.ah, O.is⟩, fun ⟨h1, h2⟩ => ⟨a2, b2, a3, b3, h1, h2⟩⟩
          rw [hab]
          rcases b5 with ⟨b5, b6⟩ | ⟨d, b5, b6⟩
          · rw [b5, decide_eq_false (by omega : ¬ (0 : Int) ≤ -1), Bool.and_false]
            refine .condF rfl (.one ⟨fun h => (by cases h), fun h => ?_⟩)
            obtain ⟨d, g, _⟩ := h.2
            exact (b6 d g.1 g.2.1 g.2.2.1).elim
          · rw [b5, decide_eq_true (by omega : (0 : Int) ≤ (d : Int)), Bool.and_true]
            rcases a5 with ⟨a5, a6⟩ | ⟨d', a5, a6⟩
            · rw [a5]
              refine .condF (by rw [Bool.and_eq_false_iff]; right; rfl) (.one ?_)
              have : (decide ((-1 : Int) < 0) || false) = true := rfl
              rw [this, Bool.and_true, e2]
              exact ⟨fun h => ⟨h, d, b6, .inl a6⟩, fun h => h.1⟩
            · rw [a5, decide_eq_false (by omega : ¬ (d' : Int) < 0)]
              obtain ⟨r2, e3, e4⟩ := ah_wp (N := N) V (a := d) (b := d') b6.1 a6.1
              refine .cond (fun h => .bdO e3 (.one ?_)) fun h => .one ?_
              · rw [Bool.false_or, Bool.and_eq_true, e2, e4]
                refine and_congr_right fun _ => ⟨fun h => ⟨d, b6, .inr ⟨d', a6, h⟩⟩, ?_⟩
                rintro ⟨x, x1, x2 | ⟨y, y1, y2⟩⟩
                · exact (x2 d' a6.1 a6.2.1 a6.2.2.1).elim
                · rw [fd_uq b6 x1, fd_uq a6 y1]; exact y2
              · have h : r1 = false := by simpa using h
                subst h
                exact ⟨fun h => (by cases h), fun h => by have := e2.2 h.1; cases this⟩
        · rcases Nat.lt_or_ge j m with h1 | h1
          · exact hr j h1 b' hb'
          · obtain rfl : j = m := by omega
            obtain rfl : b' = b := by omega
            intro O
            rw [hx.2 O] at h; cases h
      · rintro v ⟨rfl, hr⟩
        simp only [rows_log_order_L27]
        refine .condF (decide_eq_false (by omega)) (.one fun b O => ?_)
        obtain ⟨i, hi, g⟩ := fin _ (Nat.le_refl _) b O.lb O.kb
        exact hr i hi b g O
    · rcases Nat.lt_or_ge i k with h1 | h1
      · exact hr i h1 a' ha'
      · obtain rfl : i = k := by omega
        obtain rfl : a' = a := by omega
        exact h
  · rintro v ⟨rfl, hr⟩
    simp only [rows_log_order_L25]
    refine .condF (decide_eq_false (by omega)) (.one fun ⟨a, b, O⟩ => ?_)
    obtain ⟨i, hi, g⟩ := fin _ (Nat.le_refl _) a O.la O.ka
    exact hr i hi a g b O
theorem stays_wp {N : Nat} (hN : 300 < N) {c : List Call} (hc : c.length ≤ 200) (Qc : Q c) {V : List RowsValue} (hV : Vals c c.length V) : Wp (rows_log_stays N c V) fun S => S.length ≤ 200 ∧ ∀ t, 0 ≤ t → t < 200 → ((∃ s ∈ S, s.from_ ≤ t ∧ t ≤ s.to_) ↔ Cov c t) := by
  have hvl := hV.len
  -- what one value tells
  let On : RowsValue → Int → Prop := fun v t => ∃ e : Nat, v.enq = e ∧ (c.getD e Call.z).to_ ≠ -1 ∧ (c.getD e Call.z).to_ ≤ t ∧ (v.deq = -1 ∨ ∃ d : Nat, v.deq = d ∧ t < (c.getD d Call.z).from_)
  unfold rows_log_stays
  refine .seq (P := fun S => S.length ≤ 200 ∧ ∀ t, 0 ≤ t → t < 200 → ((∃ s ∈ S, s.from_ ≤ t ∧ t ≤ s.to_) ↔ ∃ v ∈ V, On v t)) (.iter V.length (fun k st => st.1.length ≤ k ∧ (∀ t, 0 ≤ t → t < 200 → ((∃ s ∈ st.1, s.from_ ≤ t ∧ t ≤ s.to_) ↔ ∃ i, i < k ∧ On (V.getD i RowsValue.z) t)) ∧ st.2 = (k : Int)) (by omega) ⟨Nat.le_refl _, fun t _ _ => ⟨fun ⟨s, h, _⟩ => (nomatch h), fun ⟨i, h, _⟩ => absurd h (Nat.not_lt_zero _)⟩, rfl⟩ ?_ ?_) fun S _ hS => .one ⟨hS.1, fun t h0 h1 => ?_⟩
  · rintro k ⟨S, v⟩ hk ⟨hl, hS, hv⟩
    dsimp only at hl hS hv
    subst hv
    obtain ⟨e, e1, e2, e3, e4, e5⟩ := hV.mem _ (getD_mem (d := RowsValue.z) hk)
    simp only [rows_log_stays_L3]
    refine .condT (decide_eq_true (by omega)) (.ixD RowsValue.z (by omega) (by omega) ?_)
    rw [Int.toNat_natCast]
    refine .ixD Call.z (by omega) (by omega) ?_
    have en : (V.getD k RowsValue.z).enq.toNat = e := by omega
    rw [en]
    have te := Qc.tm e e2
    refine .seq (P := fun T => ((V.getD k RowsValue.z).deq = -1 ∧ T = 199) ∨ ∃ d : Nat, (V.getD k RowsValue.z).deq = d ∧ T = (c.getD d Call.z).from_ - 1) ?_ fun T _ hT => ?_
    · rcases e5 with ⟨h1, _⟩ | ⟨d, h1, h2⟩
      · exact .condF (decide_eq_false (by omega)) (.one (.inl ⟨h1, rfl⟩))
      · have := h2.1
        have td := Qc.tm d this
        refine .condT (decide_eq_true (by omega)) (.ixD Call.z (by omega) (by omega) ?_)
        have ed : (V.getD k RowsValue.z).deq.toNat = d := by omega
        rw [ed]
        exact .ck64 (by omega) (.one (.inr ⟨d, h1, rfl⟩))
    · have on : ∀ t, 0 ≤ t → t < 200 → (On (V.getD k RowsValue.z) t ↔ (c.getD e Call.z).to_ ≠ -1 ∧ (c.getD e Call.z).to_ ≤ t ∧ t ≤ T) := by
        intro t t0 t1
        constructor
        · rintro ⟨e', g1, g2, g3, g4⟩
          obtain rfl : e' = e := by omega
          refine ⟨g2, g3, ?_⟩
          rcases hT with ⟨h1, h2⟩ | ⟨d, h1, h2⟩
          · omega
          · rcases g4 with g4 | ⟨d', g4, g5⟩
            · omega
            · obtain rfl : d' = d := by omega
              omega
        · rintro ⟨g2, g3, g4⟩
          refine ⟨e, e1, g2, g3, ?_⟩
          rcases hT with ⟨h1, h2⟩ | ⟨d, h1, h2⟩
          · exact .inl h1
          · exact .inr ⟨d, h1, by omega⟩
      have split : ∀ t, (∃ i, i < k + 1 ∧ On (V.getD i RowsValue.z) t) ↔ (∃ i, i < k ∧ On (V.getD i RowsValue.z) t) ∨ On (V.getD k RowsValue.z) t := fun t => by
        constructor
        · rintro ⟨i, hi, h⟩
          rcases Nat.lt_or_ge i k with h1 | h1
          · exact .inl ⟨i, h1, h⟩
          · obtain rfl : i = k := by omega
            exact .inr h
        · rintro (⟨i, hi, h⟩ | h)
          · exact ⟨i, by omega, h⟩
          · exact ⟨k, by omega, h⟩
      refine .cond (fun h => ?_) fun h => ?_
      · have h : (c.getD e Call.z).to_ ≠ -1 ∧ (c.getD e Call.z).to_ ≤ T := by simpa using h
        refine .ck (limB_of ⟨?_, ?_⟩) (.ck64 (by omega) (.one ⟨by simp; omega, fun t t0 t1 => ?_, by simp⟩))
        · simp only [List.length_singleton]; exact Nat.le_trans (m := 2000) (by omega) (by decide)
        · simp only [List.length_singleton]; omega
        · rw [split, ← hS t t0 t1, on t t0 t1]
          constructor
          · rintro ⟨s, hs, h1, h2⟩
            rcases List.mem_append.1 hs with hs | hs
            · exact .inl ⟨s, hs, h1, h2⟩
            · rw [List.mem_singleton.1 hs] at h1 h2
              exact .inr ⟨h.1, h1, h2⟩
          · rintro (⟨s, hs, h1⟩ | ⟨_, h1, h2⟩)
            · exact ⟨s, List.mem_append.2 (.inl hs), h1⟩
            · exact ⟨_, List.mem_append.2 (.inr (List.mem_singleton.2 rfl)), h1, h2⟩
      · have h : ¬ ((c.getD e Call.z).to_ ≠ -1 ∧ (c.getD e Call.z).to_ ≤ T) := by simpa using h
        refine .ck64 (by omega) (.one ⟨by simp only; omega, fun t t0 t1 => ?_, by simp⟩)
        rw [split, ← hS t t0 t1, on t t0 t1]
        exact ⟨.inl, fun g => g.elim id fun g => (h ⟨g.1, by omega⟩).elim⟩
  · rintro ⟨S, v⟩ ⟨hl, hS, hv⟩
    dsimp only at hl hS hv
    subst hv
    simp only [rows_log_stays_L3]
    refine .condF (decide_eq_false (by omega)) (.one ⟨by omega, fun t t0 t1 => ?_⟩)
    rw [hS t t0 t1]
    constructor
    · rintro ⟨i, hi, h⟩
      exact ⟨_, getD_mem hi, h⟩
    · rintro ⟨v, hv, h⟩
      obtain ⟨i, hi, rfl⟩ := List.mem_iff_getElem.1 hv
      exact ⟨i, hi, by rw [getD_of hi]; exact h⟩
  · rw [hS.2 t h0 h1]
    constructor
    · rintro ⟨v, hv, e, g1, g2, g3, g4⟩
      obtain ⟨e', k1, k2, k3, k4, k5⟩ := hV.mem v hv
      obtain rfl : e' = e := by omega
      refine ⟨e', k2, k3, g2, g3, ?_⟩
      rw [k4]
      rcases k5 with ⟨k5, k6⟩ | ⟨d, k5, k6⟩
      · exact .inl k6
      · rcases g4 with g4 | ⟨d', g4, g5⟩
        · omega
        · obtain rfl : d' = d := by omega
          exact .inr ⟨d', k6, g5⟩
    · rintro ⟨e, k1, k2, k3, k4, k5⟩
      obtain ⟨v, hv, g⟩ := hV.all e k1 k2
      obtain ⟨e', j1, j2, j3, j4, j5⟩ := hV.mem v hv
      obtain rfl : e' = e := by omega
      refine ⟨v, hv, e', g, k3, k4, ?_⟩
      rw [j4] at k5
      rcases j5 with ⟨j5, j6⟩ | ⟨d, j5, j6⟩
      · exact .inl j5
      · rcases k5 with k5 | ⟨d', k5, k6⟩
        · exact (k5 d j6.1 j6.2.1 j6.2.2.1).elim
        · exact .inr ⟨d, j5, by rw [fd_uq j6 k5]; exact k6⟩
theorem contS_wp {N : Nat} (hN : 300 < N) {S : List Span} (hS : S.length ≤ 200) (t : Int) : Wp (slices_ContainsFunc_api_Span_api_Span N S t) fun b => b = true ↔ ∃ s ∈ S, s.from_ ≤ t ∧ t ≤ s.to_ := by
  unfold slices_ContainsFunc_api_Span_api_Span slices_IndexFunc_api_Span_api_Span
  refine .seq (P := fun r => 0 ≤ r ↔ ∃ s ∈ S, s.from_ ≤ t ∧ t ≤ s.to_) (.elim (P := fun x => match x with | .inl _ => ¬ ∃ s ∈ S, s.from_ ≤ t ∧ t ≤ s.to_ | .inr r => 0 ≤ r ∧ ∃ s ∈ S, s.from_ ≤ t ∧ t ≤ s.to_) (.iter S.length (fun k v => v = (k : Int) ∧ ∀ j, j < k → ¬ ((S.getD j Span.z).from_ ≤ t ∧ t ≤ (S.getD j Span.z).to_)) (by omega) ⟨rfl, fun i h => absurd h (Nat.not_lt_zero _)⟩ ?_ ?_) (fun _ _ h => .one ⟨fun e => absurd e (by decide), fun e => (h e).elim⟩) (fun r _ h => .one ⟨fun _ => h.2, fun _ => h.1⟩)) fun r _ hr => .one (by rw [decide_eq_true_eq]; exact hr)
  · rintro k v hk ⟨rfl, hr⟩
    simp only [slices_IndexFunc_api_Span_api_Span_L3]
    refine .condT (decide_eq_true (by omega)) (.ixD Span.z (by omega) (by omega) (.bdO rfl ?_))
    rw [Int.toNat_natCast]
    refine .cond (fun h => .one ⟨by omega, _, getD_mem hk, by simpa using h⟩) fun h => .ck64 (by omega) (.one ⟨by simp, fun j hj => ?_⟩)
    rcases Nat.lt_or_ge j k with h1 | h1
    · exact hr j h1
    · obtain rfl : j = k := by omega
      simpa using h
  · rintro v ⟨rfl, hr⟩
    simp only [slices_IndexFunc_api_Span_api_Span_L3]
    refine .condF (decide_eq_false (by omega)) (.one ?_)
    rintro ⟨s, hs, h⟩
    obtain ⟨j, hj, rfl⟩ := List.mem_iff_getElem.1 hs
    exact hr j hj (by rw [getD_of hj]; exact h)
theorem empty_wp {N : Nat} (hN : 300 < N) {c : List Call} (hc : c.length ≤ 200) (C : Cls c) (Qc : Q c) {V : List RowsValue} (hV : Vals c c.length V) : Wp (rows_log_empty N c V) fun r => (r = (0, 0) ∧ ¬ ∃ i, EmptAt c i) ∨ ∃ i : Nat, r = (7, (i : Int)) ∧ EmptAt c i := by
  unfold rows_log_empty
  refine .seq (stays_wp hN hc Qc hV) fun S _ ⟨hl, hS⟩ => .elim (P := fun t => match t with | .inl _ => ¬ ∃ i, EmptAt c i | .inr r => ∃ i : Nat, r = (7, (i : Int)) ∧ EmptAt c i) (.iter c.length (fun k v => v = (k : Int) ∧ ∀ i, i < k → ¬ EmptAt c i) (by omega) ⟨rfl, fun i h => absurd h (Nat.not_lt_zero _)⟩ ?_ ?_) (fun _ _ h => .one (.inl ⟨rfl, h⟩)) (fun r _ h => .one (.inr h))
  · rintro k v hk ⟨rfl, hr⟩
    have step : (¬ EmptAt c k) → ∀ i, i < k + 1 → ¬ EmptAt c i := fun h i hi => by
      rcases Nat.lt_or_ge i k with h1 | h1
      · exact hr i h1
      · obtain rfl : i = k := by omega
        exact h
    simp only [rows_log_empty_L47]
    refine .condT (decide_eq_true (by omega)) (.elim (P := fun t => match t with | .inl _ => ¬ EmptAt c k | .inr r => ∃ i : Nat, r = (7, (i : Int)) ∧ EmptAt c i) (.ixD Call.z (by omega) (by omega) ?_) (fun _ _ h => .ck64 (by omega) (.one ⟨by simp, step h⟩)) (fun r _ h => .one h))
    rw [Int.toNat_natCast]
    have tk := Qc.tm k hk
    refine .cond (fun h => .one fun E => ?_) fun h => ?_
    · have h : ¬ ((c.getD k Call.z).kind = 4 ∧ (c.getD k Call.z).res = -1) := by
        intro h2
        rw [decide_eq_true h2.1, decide_eq_true h2.2] at h; cases h
      exact h E.dq
    · have h : (c.getD k Call.z).kind = 4 ∧ (c.getD k Call.z).res = -1 := by simpa using h
      have hd := C.dn k hk h.1
      refine .seq (P := fun b => b = true ↔ ∀ t, (c.getD k Call.z).from_ ≤ t → t < (c.getD k Call.z).to_ → Cov c t) ?_ fun b _ hb => .cond (fun h2 => .one ⟨k, rfl, hk, h, hb.1 h2⟩) fun h2 => .one fun E => by rw [hb.2 E.is] at h2; cases h2
      refine .iter ((c.getD k Call.z).to_ - (c.getD k Call.z).from_).toNat (fun m st => (st.1 = true ↔ ∀ t, (c.getD k Call.z).from_ ≤ t → t < (c.getD k Call.z).from_ + m → Cov c t) ∧ st.2 = (c.getD k Call.z).from_ + m) (by omega) ⟨⟨fun _ t h1 h2 => (by omega), fun _ => rfl⟩, by simp⟩ ?_ ?_
      · rintro m ⟨b, t⟩ hm ⟨hb, hv⟩
        dsimp only at hb hv
        subst hv
        simp only [rows_log_empty_L51]
        have more : ∀ x : Bool, (x = true ↔ Cov c ((c.getD k Call.z).from_ + m)) → ((b && x) = true ↔ ∀ t, (c.getD k Call.z).from_ ≤ t → t < (c.getD k Call.z).from_ + ((m + 1 : Nat) : Int) → Cov c t) := fun x hx => by
          rw [Bool.and_eq_true, hb, hx]
          constructor
          · rintro ⟨g1, g2⟩ t h1 h2
            by_cases e : t = (c.getD k Call.z).from_ + m
            · rw [e]; exact g2
            · exact g1 t h1 (by omega)
          · intro g
            exact ⟨fun t h1 h2 => g t h1 (by omega), g _ (by omega) (by omega)⟩
        refine .condT (decide_eq_true (by omega)) (.cond (fun h3 => .seq (contS_wp hN hl _) fun x _ hx => .ck64 (by omega) (.one ⟨more x (hx.trans (hS _ (by omega) (by omega))), by simp only; omega⟩)) fun h3 => .ck64 (by omega) (.one ⟨?_, by simp only; omega⟩))
        have h3 : b = false := by simpa using h3
        subst h3
        refine ⟨fun e => (by cases e), fun g => ?_⟩
        have := hb.2 fun t h1 h2 => g t h1 (by omega)
        cases this
      · rintro ⟨b, t⟩ ⟨hb, hv⟩
        dsimp only at hb hv
        subst hv
        simp only [rows_log_empty_L51]
        refine .condF (decide_eq_false (by omega)) (.one ?_)
        have e : (c.getD k Call.z).from_ + (((c.getD k Call.z).to_ - (c.getD k Call.z).from_).toNat : Int) = (c.getD k Call.z).to_ := by omega
        rw [e] at hb; exact hb
  · rintro v ⟨rfl, hr⟩
    simp only [rows_log_empty_L47]
    exact .condF (decide_eq_false (by omega)) (.one fun ⟨i, E⟩ => hr i E.lt E)
/-- What Check tells of calls: the first one of the five. -/
def Res (c : List Call) (r : Bool × Int × Int × Int × Int) : Prop :=
  (r = (true, 0, 0, 0, 0) ∧ (¬ ∃ i, StrayAt c i) ∧ (¬ ∃ i, TwiceAt c i) ∧ (¬ ∃ i, EarlyAt c i) ∧ (¬ ∃ a b, OrdrAt c a b) ∧ ¬ ∃ i, EmptAt c i) ∨
  (∃ (i : Nat) (b : Int), r = (false, 1, (i : Int), b, 0) ∧ StrayAt c i) ∨
  (∃ (i : Nat) (b : Int), r = (false, 2, (i : Int), b, 0) ∧ TwiceAt c i ∧ ¬ ∃ i, StrayAt c i) ∨
  (∃ (i : Nat) (b : Int), r = (false, 3, (i : Int), b, 0) ∧ EarlyAt c i ∧ (¬ ∃ i, StrayAt c i) ∧ ¬ ∃ i, TwiceAt c i) ∨
  (∃ a b : Nat, r = (false, 6, (c.getD a Call.z).arg, (c.getD b Call.z).arg, 0) ∧ OrdrAt c a b ∧ (¬ ∃ i, StrayAt c i) ∧ (¬ ∃ i, TwiceAt c i) ∧ ¬ ∃ i, EarlyAt c i) ∨
  (∃ (i : Nat) (b : Int), r = (false, 7, (i : Int), b, 0) ∧ EmptAt c i ∧ (¬ ∃ i, StrayAt c i) ∧ (¬ ∃ i, TwiceAt c i) ∧ (¬ ∃ i, EarlyAt c i) ∧ ¬ ∃ a b, OrdrAt c a b)
theorem check_rn {N : Nat} (hN : 300 < N) {l : List Event} {c : List Call} {op : List Int} (ht : history_Types N [2] = some 0) (hl : l.length ≤ 200) (R : Rn N [2] l l.length c op) : Wp (rows_Check N l) fun r => (¬ Cls c ∧ r = (false, 0, 0, 0, 6)) ∨ (Cls c ∧ Res c r) := by
  have hcl := R.wf.len
  have Qc := q_of hl R
  unfold rows_Check
  refine .seq (read_wp hN ht hl R) fun r _ hr => ?_
  rcases hr with ⟨h1, rfl⟩ | ⟨C, h1, h2, h3, hV⟩
  · exact .condT rfl (.one (.inl ⟨h1, rfl⟩))
  obtain ⟨b, c', V, e⟩ := r
  dsimp only at h1 h2 h3 hV
  subst h1; subst h2; subst h3
  refine .condF rfl ?_
  have hc : c'.length ≤ 200 := by omega
  have A0 := stray_wp (N := N) hN hc C Qc hV
  refine .elim (P := fun t => match t with | .inl _ => (¬ ∃ i, StrayAt c' i) ∧ (¬ ∃ i, TwiceAt c' i) ∧ (¬ ∃ i, EarlyAt c' i) ∧ (¬ ∃ a b, OrdrAt c' a b) ∧ ¬ ∃ i, EmptAt c' i | .inr r => Res c' r)
    (.ck rfl (.iter 5 (fun k v => v = (k : Int) ∧ (0 < k → ¬ ∃ i, StrayAt c' i) ∧ (1 < k → ¬ ∃ i, TwiceAt c' i) ∧ (2 < k → ¬ ∃ i, EarlyAt c' i) ∧ (3 < k → ¬ ∃ a b, OrdrAt c' a b) ∧ (4 < k → ¬ ∃ i, EmptAt c' i)) (by omega) ⟨rfl, fun h => absurd h (by decide), fun h => absurd h (by decide), fun h => absurd h (by decide), fun h => absurd h (by decide), fun h => absurd h (by decide)⟩ ?_ ?_)) (fun _ _ h => .one (.inr ⟨C, .inl ⟨rfl, h⟩⟩)) (fun r _ h => .one (.inr ⟨C, h⟩))
  · rintro k v hk ⟨rfl, n0, n1, n2, n3, n4⟩
    simp only [rows_Check_L3]
    refine .condT (decide_eq_true (by omega)) (.ck (by unfold inb; exact decide_eq_true (by omega)) ?_)
    obtain rfl | rfl | rfl | rfl | rfl : k = 0 ∨ k = 1 ∨ k = 2 ∨ k = 3 ∨ k = 4 := by omega
    · refine .seq (P := fun r => (r.1 = 0 ∧ ¬ ∃ i, StrayAt c' i) ∨ ∃ i : Nat, r.1 = 1 ∧ r.2.1 = (i : Int) ∧ StrayAt c' i) (.condT rfl (.seq A0 fun r _ hr => .one ?_)) fun r _ hr => ?_
      · rcases hr with ⟨rfl, h⟩ | ⟨i, h1, h2, h3⟩
        · exact .inl ⟨rfl, h⟩
        · exact .inr ⟨i, h1, h2, h3⟩
      · obtain ⟨K, A, B⟩ := r
        rcases hr with ⟨h1, h⟩ | ⟨i, h1, h2, h3⟩
        · exact .condF (by dsimp only at h1 ⊢; rw [h1]; rfl) (.ck64 (by omega) (.one ⟨by simp, fun _ => h, fun h => absurd h (by decide), fun h => absurd h (by decide), fun h => absurd h (by decide), fun h => absurd h (by decide)⟩))
        · dsimp only at h1 h2
          subst h1; subst h2
          exact .condT rfl (.one (.inr (.inl ⟨i, B, rfl, h3⟩)))
    · refine .seq (P := fun r => (r.1 = 0 ∧ ¬ ∃ i, TwiceAt c' i) ∨ ∃ i : Nat, r.1 = 2 ∧ r.2.1 = (i : Int) ∧ TwiceAt c' i) (.condF rfl (.condT rfl (.seq (twice_wp hN hc C Qc hV (n0 (by decide))) fun r _ hr => .one ?_))) fun r _ hr => ?_
      · rcases hr with ⟨rfl, h⟩ | ⟨i, h1, h2, h3⟩
        · exact .inl ⟨rfl, h⟩
        · exact .inr ⟨i, h1, h2, h3⟩
      · obtain ⟨K, A, B⟩ := r
        rcases hr with ⟨h1, h⟩ | ⟨i, h1, h2, h3⟩
        · exact .condF (by dsimp only at h1 ⊢; rw [h1]; rfl) (.ck64 (by omega) (.one ⟨by simp, fun _ => n0 (by decide), fun _ => h, fun h => absurd h (by decide), fun h => absurd h (by decide), fun h => absurd h (by decide)⟩))
        · dsimp only at h1 h2
          subst h1; subst h2
          exact .condT rfl (.one (.inr (.inr (.inl ⟨i, B, rfl, h3, n0 (by decide)⟩))))
    · refine .seq (P := fun r => (r.1 = 0 ∧ ¬ ∃ i, EarlyAt c' i) ∨ ∃ i : Nat, r.1 = 3 ∧ r.2.1 = (i : Int) ∧ EarlyAt c' i) (.condF rfl (.condF rfl (.condT rfl (.seq (early_wp hN hc C Qc hV (n0 (by decide))) fun r _ hr => .one ?_)))) fun r _ hr => ?_
      · rcases hr with ⟨rfl, h⟩ | ⟨i, h1, h2, h3⟩
        · exact .inl ⟨rfl, h⟩
        · exact .inr ⟨i, h1, h2, h3⟩
      · obtain ⟨K, A, B⟩ := r
        rcases hr with ⟨h1, h⟩ | ⟨i, h1, h2, h3⟩
        · exact .condF (by dsimp only at h1 ⊢; rw [h1]; rfl) (.ck64 (by omega) (.one ⟨by simp, fun _ => n0 (by decide), fun _ => n1 (by decide), fun _ => h, fun h => absurd h (by decide), fun h => absurd h (by decide)⟩))
        · dsimp only at h1 h2
          subst h1; subst h2
          exact .condT rfl (.one (.inr (.inr (.inr (.inl ⟨i, B, rfl, h3, n0 (by decide), n1 (by decide)⟩)))))
    · refine .seq (P := fun r => (r.1 = 0 ∧ ¬ ∃ a b, OrdrAt c' a b) ∨ ∃ a b : Nat, r = (6, (c'.getD a Call.z).arg, (c'.getD b Call.z).arg) ∧ OrdrAt c' a b) (.condF rfl (.condF rfl (.condF rfl (.condT rfl (.seq (order_wp hN hc C hV) fun r _ hr => .one ?_))))) fun r _ hr => ?_
      · rcases hr with ⟨rfl, h⟩ | ⟨a, b, h1, h3⟩
        · exact .inl ⟨rfl, h⟩
        · exact .inr ⟨a, b, h1, h3⟩
      · obtain ⟨K, A, B⟩ := r
        rcases hr with ⟨h1, h⟩ | ⟨a, b, h1, h3⟩
        · exact .condF (by dsimp only at h1 ⊢; rw [h1]; rfl) (.ck64 (by omega) (.one ⟨by simp, fun _ => n0 (by decide), fun _ => n1 (by decide), fun _ => n2 (by decide), fun _ => h, fun h => absurd h (by decide)⟩))
        · cases h1
          exact .condT rfl (.one (.inr (.inr (.inr (.inr (.inl ⟨a, b, rfl, h3, n0 (by decide), n1 (by decide), n2 (by decide)⟩))))))
    · refine .seq (P := fun r => (r.1 = 0 ∧ ¬ ∃ i, EmptAt c' i) ∨ ∃ i : Nat, r.1 = 7 ∧ r.2.1 = (i : Int) ∧ EmptAt c' i) (.condF rfl (.condF rfl (.condF rfl (.condF rfl (.condT rfl (.seq (empty_wp hN hc C Qc hV) fun r _ hr => .one ?_)))))) fun r _ hr => ?_
      · rcases hr with ⟨rfl, h⟩ | ⟨i, rfl, h3⟩
        · exact .inl ⟨rfl, h⟩
        · exact .inr ⟨i, rfl, rfl, h3⟩
      · obtain ⟨K, A, B⟩ := r
        rcases hr with ⟨h1, h⟩ | ⟨i, h1, h2, h3⟩
        · exact .condF (by dsimp only at h1 ⊢; rw [h1]; rfl) (.ck64 (by omega) (.one ⟨by simp, fun _ => n0 (by decide), fun _ => n1 (by decide), fun _ => n2 (by decide), fun _ => n3 (by decide), fun _ => h⟩))
        · dsimp only at h1 h2
          subst h1; subst h2
          exact .condT rfl (.one (.inr (.inr (.inr (.inr (.inr ⟨i, B, rfl, h3, n0 (by decide), n1 (by decide), n2 (by decide), n3 (by decide)⟩))))))
  · rintro v ⟨rfl, n0, n1, n2, n3, n4⟩
    simp only [rows_Check_L3]
    exact .condF (by decide) (.one ⟨n0 (by decide), n1 (by decide), n2 (by decide), n3 (by decide), n4 (by decide)⟩)
/-- What Check tells of any events. -/
theorem check_wp {N : Nat} (hN : 300 < N) (l : List Event) : Wp (rows_Check N l) fun r => (r.2.2.2.2 ≠ 0 ∧ r = (false, 0, 0, 0, r.2.2.2.2)) ∨ (r.2.2.2.2 = 0 ∧ history_Types N [2] = some 0 ∧ l.length ≤ 200 ∧ ∃ c op, Rn N [2] l l.length c op ∧ Cls c ∧ Res c r) := by
  obtain ⟨q, hq, h⟩ := calls_rn (N := N) (types := [2]) (l := l) hN
  by_cases h0 : q.2.2 = 0
  · obtain ⟨t1, _, t3, _, op, R⟩ := h h0
    refine (check_rn hN t1 t3 R).mono fun r hr => ?_
    rcases hr with ⟨_, rfl⟩ | ⟨C, hr⟩
    · exact .inl ⟨by decide, rfl⟩
    · refine .inr ⟨?_, t1, t3, _, op, R, C, hr⟩
      rcases hr with ⟨rfl, _⟩ | ⟨_, _, rfl, _⟩ | ⟨_, _, rfl, _⟩ | ⟨_, _, rfl, _⟩ | ⟨_, _, rfl, _⟩ | ⟨_, _, rfl, _⟩ <;> rfl
  · unfold rows_Check rows_read_2
    refine .seq (P := fun r => r = (false, [], [], q.2.2)) (.bdO hq (.condT (by simpa using h0) (.one rfl))) fun r _ hr => ?_
    subst hr
    exact .condT (by simpa using h0) (.one (.inl ⟨h0, rfl⟩))
end Rw

end Go.Proofs.Ytkmmagekepoapaa
