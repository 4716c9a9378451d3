/- SearchLater, plainly. -/
import Derived.Test.YtpakplmpihhmbaaL8
set_option linter.unusedVariables false
set_option linter.unusedSimpArgs false
set_option linter.unusedSectionVars false
set_option maxRecDepth 100000
namespace Go.Proofs.Ytpakplmpihhmbaa
open Go.RowKit
namespace Hs
open Rl
/-! Two events change places. -/
def tau (k x : Int) : Int := if x = k then k + 1 else if x = k + 1 then k else x
def tmC (k : Int) (c : Call) : Call := ⟨c.who, c.thing, c.kind, c.arg, c.res, tau k c.from_, tau k c.to_⟩
theorem tau_id {k x : Int} (h : x ≠ k) (h2 : x ≠ k + 1) : tau k x = x := by unfold tau; rw [if_neg h, if_neg h2]
theorem tmC_id {k : Int} {c : Call} (h : c.from_ < k) (h2 : c.to_ < k) : tmC k c = c := by
  obtain ⟨a, b, d, e, f, g, i⟩ := c
  simp only at h h2
  simp only [tmC, tau_id (show g ≠ k by omega) (by omega), tau_id (show i ≠ k by omega) (by omega)]
/-- What is read so, and otherwise. -/
structure Sim (k : Nat) (q : Nat → Nat) (out : List Call) (op : List Int) (out' : List Call) (op' : List Int) : Prop where
  len : out'.length = out.length
  inv : ∀ m, q (q m) = m
  lo : ∀ m, m < out.length → q m < out.length
  hi : ∀ m, out.length ≤ m → q m = m
  at_ : ∀ m, m < out.length → out'.getD (q m) Call.z = tmC k (out.getD m Call.z)
  op_ : ∀ w, w < 8 → (op.getD w 0 = 0 ∧ op'.getD w 0 = 0) ∨ ∃ m : Nat, m < out.length ∧ op.getD w 0 = m + 1 ∧ op'.getD w 0 = (q m : Int) + 1
theorem Sim.step {N : Nat} {types : List Int} {k : Nat} {q : Nat → Nat} {out out' out2 : List Call} {op op' op2 : List Int} {i : Int} {v : Event} (S : Sim k q out op out' op') (X : StpX N types out op i v out2 op2) (hi : (k : Int) + 1 < i) :
    ∃ out2' op2', StpX N types out' op' i v out2' op2' ∧ Sim k q out2 op2 out2' op2' := by
  obtain ⟨hw, ht, h⟩ := X
  have h8 := S.op_ v.who.toNat (by omega)
  have hlen := S.len
  rcases h with ⟨hk, hf, ha, hn, rfl, rfl⟩ | ⟨hk, m, hm, hml, hth, hr, rfl, rfl⟩
  · have h0 : op'.getD v.who.toNat 0 = 0 := by
      rcases h8 with h8 | ⟨m, h1, h2, h3⟩
      · exact h8.2
      · omega
    refine ⟨out' ++ [begC v i], setA 8 0 op' v.who ((out'.length : Int) + 1), ⟨hw, ht, .inl ⟨hk, hf, ha, by omega, rfl, rfl⟩⟩, ⟨by simp [hlen], S.inv, fun m hm => ?_, fun m hm => ?_, fun m hm => ?_, fun w hw8 => ?_⟩⟩
    · rw [List.length_append, List.length_singleton] at hm ⊢
      rcases Nat.lt_or_ge m out.length with h | h
      · have := S.lo m h; omega
      · rw [S.hi m h]; exact hm
    · rw [List.length_append] at hm
      exact S.hi m (by omega)
    · rw [List.length_append, List.length_singleton] at hm
      rw [getD_app, getD_app, hlen]
      rcases Nat.lt_or_ge m out.length with h | h
      · rw [if_pos (S.lo m h), if_pos h, S.at_ m h]
      · obtain rfl : m = out.length := by omega
        rw [S.hi _ h, if_neg (Nat.lt_irrefl _), if_pos rfl, if_neg (Nat.lt_irrefl _)]
        simp only [tmC, begC, tau_id (show i ≠ (k : Int) by omega) (by omega), tau_id (show (-1 : Int) ≠ (k : Int) by omega) (by omega)]
    · rw [setA_get hw8, setA_get hw8]
      by_cases e : w = v.who.toNat
      · rw [if_pos e, if_pos e, hlen]
        exact .inr ⟨out.length, by simp, rfl, by rw [S.hi _ (Nat.le_refl _)]⟩
      · rw [if_neg e, if_neg e]
        rcases S.op_ w hw8 with h | ⟨m, h1, h2, h3⟩
        · exact .inl h
        · exact .inr ⟨m, by simp; omega, h2, h3⟩
  · have h0 : op'.getD v.who.toNat 0 = (q m : Int) + 1 := by
      rcases h8 with h8 | ⟨m', h1, h2, h3⟩
      · omega
      · obtain rfl : m' = m := by omega
        exact h3
    have hat := S.at_ m hml
    have hlo := S.lo m hml
    refine ⟨out'.set (q m) (endC (out'.getD (q m) Call.z) v.value i), setA 8 0 op' v.who 0, ⟨hw, ht, .inr ⟨hk, q m, h0, by omega, by rw [hat]; exact hth, by rw [hat]; exact hr, rfl, rfl⟩⟩, ⟨by simp [hlen], S.inv, fun m' h => by rw [List.length_set] at h ⊢; exact S.lo m' h, fun m' h => by rw [List.length_set] at h; exact S.hi m' h, fun m' h => ?_, fun w hw8 => ?_⟩⟩
    · rw [List.length_set] at h
      rw [getD_set2 (by omega), getD_set2 hml]
      by_cases e : m' = m
      · subst e
        rw [if_pos rfl, if_pos rfl, hat]
        simp only [tmC, endC, tau_id (show i ≠ (k : Int) by omega) (by omega)]
      · rw [if_neg e, if_neg (fun h2 => e (by rw [← S.inv m', h2, S.inv])), S.at_ m' h]
    · rw [setA_get hw8, setA_get hw8]
      by_cases e : w = v.who.toNat
      · rw [if_pos e, if_pos e]; exact .inl ⟨rfl, rfl⟩
      · rw [if_neg e, if_neg e, List.length_set]
        exact S.op_ w hw8
/-- The places p and p + 1 change. -/
def sw (p i : Nat) : Nat := if i = p then p + 1 else if i = p + 1 then p else i
theorem sw_inv (p i : Nat) : sw p (sw p i) = i := by
  unfold sw
  by_cases h : i = p
  · subst h; simp
  · by_cases h2 : i = p + 1
    · subst h2; simp
    · simp [h, h2]
theorem Sim.two {N : Nat} {types : List Int} {l : List Event} {k : Nat} {out out1 out2 : List Call} {op op1 op2 : List Int} {x y : Event} (R : Rn N types l k out op) (X : StpX N types out op (k : Int) x out1 op1) (Y : StpX N types out1 op1 ((k + 1 : Nat) : Int) y out2 op2) (hne : x.who ≠ y.who) :
    ∃ q out1' op1' out2' op2', StpX N types out op (k : Int) y out1' op1' ∧ StpX N types out1' op1' ((k + 1 : Nat) : Int) x out2' op2' ∧ Sim k q out2 op2 out2' op2' := by
  have W := R.wf
  have hid : ∀ m, m < out.length → tmC k (out.getD m Call.z) = out.getD m Call.z := fun m hm => by
    have O := W.one m hm
    have h1 := O.fr
    exact tmC_id (by omega) (by rcases O.to with h | h <;> omega)
  have hop : ∀ w, w < 8 → op.getD w 0 = 0 ∨ ∃ m : Nat, m < out.length ∧ op.getD w 0 = m + 1 ∧ (out.getD m Call.z).who = w := fun w hw => by
    obtain ⟨h1, h2, h3⟩ := W.pen w hw
    rcases Int.lt_or_le 0 (op.getD w 0) with h | h
    · refine .inr ⟨(op.getD w 0 - 1).toNat, by omega, by omega, (h3 _ (by omega)).1⟩
    · exact .inl (by omega)
  have t1 : tau (k : Int) (k : Int) = ((k + 1 : Nat) : Int) := by unfold tau; rw [if_pos rfl]; omega
  have t2 : tau (k : Int) ((k + 1 : Nat) : Int) = (k : Int) := by unfold tau; rw [if_neg (by omega), if_pos (by omega)]
  have t3 : tau (k : Int) (-1) = -1 := tau_id (by omega) (by omega)
  have tb : ∀ v, tmC k (begC v k) = begC v ((k + 1 : Nat) : Int) := fun v => by simp only [tmC, begC, t1, t3]
  have tb2 : ∀ v, tmC k (begC v ((k + 1 : Nat) : Int)) = begC v k := fun v => by simp only [tmC, begC, t2, t3]
  have te : ∀ m, m < out.length → ∀ r, tmC k (endC (out.getD m Call.z) r k) = endC (out.getD m Call.z) r ((k + 1 : Nat) : Int) := fun m hm r => by
    have h := (W.one m hm).fr
    simp only [tmC, endC, t1, tau_id (show (out.getD m Call.z).from_ ≠ (k : Int) by omega) (by omega)]
  have te2 : ∀ m, m < out.length → ∀ r, tmC k (endC (out.getD m Call.z) r ((k + 1 : Nat) : Int)) = endC (out.getD m Call.z) r k := fun m hm r => by
    have h := (W.one m hm).fr
    simp only [tmC, endC, t2, tau_id (show (out.getD m Call.z).from_ ≠ (k : Int) by omega) (by omega)]
  have xw := X.who
  have yw := Y.who
  have xt := X.thing
  have yt := Y.thing
  have hne' : ¬ x.who.toNat = y.who.toNat := by omega
  have hne2 : ¬ y.who.toNat = x.who.toNat := by omega
  have y8 : y.who.toNat < 8 := by omega
  have x8 : x.who.toNat < 8 := by omega
  have X := X.how
  have Y := Y.how
  rcases X with ⟨xk, xf, xa, xn, rfl, rfl⟩ | ⟨xk, m, xm, xml, xth, xr, rfl, rfl⟩
  · rw [setA_get y8, if_neg hne2] at Y
    rcases Y with ⟨yk, yf, ya, yn, rfl, rfl⟩ | ⟨yk, p, ym, yml, yth, yr, rfl, rfl⟩
    · refine ⟨sw out.length, _, _, _, _, ⟨yw, yt, .inl ⟨yk, yf, ya, yn, rfl, rfl⟩⟩, ⟨xw, xt, .inl ⟨xk, xf, xa, by rw [setA_get x8, if_neg hne']; exact xn, rfl, rfl⟩⟩, ⟨by simp, sw_inv _, fun m hm => ?_, fun m hm => ?_, fun m hm => ?_, fun w hw => ?_⟩⟩
      · simp only [List.length_append, List.length_singleton] at hm ⊢
        unfold sw; split
        · omega
        · split <;> omega
      · simp only [List.length_append, List.length_singleton] at hm
        unfold sw; rw [if_neg (by omega), if_neg (by omega)]
      · simp only [List.length_append, List.length_singleton] at hm
        simp only [getD_app, List.length_append, List.length_singleton]
        rcases Nat.lt_or_ge m out.length with h | h
        · have e : sw out.length m = m := by unfold sw; rw [if_neg (by omega), if_neg (by omega)]
          rw [e]
          simp only [if_pos (show m < out.length + 1 by omega), if_pos h]
          exact (hid m h).symm
        · rcases Nat.lt_or_ge m (out.length + 1) with h2 | h2
          · obtain rfl : m = out.length := by omega
            have e : sw out.length out.length = out.length + 1 := by unfold sw; rw [if_pos rfl]
            rw [e]
            simp [tb]
          · obtain rfl : m = out.length + 1 := by omega
            have e : sw out.length (out.length + 1) = out.length := by unfold sw; rw [if_neg (by omega), if_pos rfl]
            rw [e]
            simp only [Nat.lt_irrefl, if_false, if_true, if_pos (Nat.lt_succ_self _)]
            exact (tb2 y).symm
      · simp only [setA_get hw, List.length_append, List.length_singleton]
        have s1 : sw out.length out.length = out.length + 1 := by unfold sw; rw [if_pos rfl]
        have s2 : sw out.length (out.length + 1) = out.length := by unfold sw; rw [if_neg (by omega), if_pos rfl]
        by_cases e : w = y.who.toNat
        · subst e
          rw [if_pos rfl, if_neg hne2, if_pos rfl]
          exact .inr ⟨out.length + 1, by omega, by simp, by rw [s2]⟩
        · rw [if_neg e]
          by_cases e2 : w = x.who.toNat
          · subst e2
            rw [if_pos rfl, if_pos rfl]
            exact .inr ⟨out.length, by omega, rfl, by rw [s1]⟩
          · rw [if_neg e2, if_neg e2, if_neg e]
            rcases hop w hw with h | ⟨m, h1, h2, h3⟩
            · exact .inl ⟨h, h⟩
            · exact .inr ⟨m, by omega, h2, by rw [show sw out.length m = m by unfold sw; rw [if_neg (by omega), if_neg (by omega)]]; exact h2⟩
    · have pl : p < out.length := by
        rcases hop _ y8 with h | ⟨m, h1, h2, h3⟩
        · omega
        · omega
      have gp : (out ++ [begC x (k : Int)]).getD p Call.z = out.getD p Call.z := by rw [getD_app, if_pos pl]
      rw [gp] at yth yr
      refine ⟨id, _, _, _, _, ⟨yw, yt, .inr ⟨yk, p, ym, pl, yth, yr, rfl, rfl⟩⟩, ⟨xw, xt, .inl ⟨xk, xf, xa, by rw [setA_get x8, if_neg hne']; exact xn, rfl, rfl⟩⟩, ⟨by simp, fun _ => rfl, fun m hm => hm, fun m hm => rfl, fun m hm => ?_, fun w hw => ?_⟩⟩
      · simp only [List.length_set, List.length_append, List.length_singleton] at hm
        simp only [id, gp]
        rw [getD_app, getD_set2 (l := out ++ _) (by rw [List.length_append]; omega), getD_app (l := out), List.length_set]
        rcases Nat.lt_or_ge m out.length with h | h
        · rw [if_pos h, if_pos h, getD_set2 pl]
          by_cases e : m = p
          · subst e; rw [if_pos rfl, if_pos rfl, te2 _ pl]
          · rw [if_neg e, if_neg e, hid m h]
        · obtain rfl : m = out.length := by omega
          rw [if_neg (by omega), if_pos rfl, if_neg (by omega), if_neg (by omega), if_pos rfl, tb]
      · simp only [setA_get hw, List.length_set, List.length_append, List.length_singleton, id]
        by_cases e : w = y.who.toNat
        · subst e
          rw [if_pos rfl, if_neg hne2, if_pos rfl]; exact .inl ⟨rfl, rfl⟩
        · rw [if_neg e, if_neg e]
          by_cases e2 : w = x.who.toNat
          · rw [if_pos e2]; exact .inr ⟨out.length, by omega, rfl, rfl⟩
          · rw [if_neg e2]
            rcases hop w hw with h | ⟨m, h1, h2, h3⟩
            · exact .inl ⟨h, h⟩
            · exact .inr ⟨m, by omega, h2, h2⟩
  · rw [setA_get y8, if_neg hne2] at Y
    rcases Y with ⟨yk, yf, ya, yn, rfl, rfl⟩ | ⟨yk, p, ym, yml, yth, yr, rfl, rfl⟩
    · refine ⟨id, _, _, _, _, ⟨yw, yt, .inl ⟨yk, yf, ya, yn, rfl, rfl⟩⟩, ⟨xw, xt, .inr ⟨xk, m, by rw [setA_get x8, if_neg hne']; exact xm, by simp; omega, by rw [getD_app, if_pos xml]; exact xth, by rw [getD_app, if_pos xml]; exact xr, rfl, rfl⟩⟩, ⟨by simp, fun _ => rfl, fun m hm => hm, fun m hm => rfl, fun j hj => ?_, fun w hw => ?_⟩⟩
      · simp only [List.length_set, List.length_append, List.length_singleton] at hj
        simp only [id]
        rw [getD_app (l := out.set _ _), getD_set2 (by rw [List.length_append]; omega), getD_app, List.length_set, getD_app, if_pos xml]
        rcases Nat.lt_or_ge j out.length with h | h
        · rw [if_pos h, if_pos h, getD_set2 xml]
          by_cases e : j = m
          · subst e; rw [if_pos rfl, if_pos rfl, te _ xml]
          · rw [if_neg e, if_neg e, hid j h]
        · obtain rfl : j = out.length := by omega
          rw [if_neg (by omega), if_neg (by omega), if_pos rfl, if_neg (by omega), if_pos rfl, tb2]
      · simp only [setA_get hw, List.length_set, List.length_append, List.length_singleton, id]
        by_cases e : w = y.who.toNat
        · subst e
          rw [if_pos rfl, if_neg hne2, if_pos rfl]; exact .inr ⟨out.length, by omega, rfl, rfl⟩
        · rw [if_neg e, if_neg e]
          by_cases e2 : w = x.who.toNat
          · rw [if_pos e2]; exact .inl ⟨rfl, rfl⟩
          · rw [if_neg e2]
            rcases hop w hw with h | ⟨m, h1, h2, h3⟩
            · exact .inl ⟨h, h⟩
            · exact .inr ⟨m, by omega, h2, h2⟩
    · have pl : p < out.length := by simpa using yml
      have pm : ¬ p = m := by
        intro e
        subst e
        have h1 := ((W.pen _ y8).2.2 p ym).1
        have h2 := ((W.pen _ x8).2.2 p xm).1
        omega
      have gp : (out.set m (endC (out.getD m Call.z) x.value (k : Int))).getD p Call.z = out.getD p Call.z := by rw [getD_set2 xml, if_neg pm]
      have gm : (out.set p (endC (out.getD p Call.z) y.value (k : Int))).getD m Call.z = out.getD m Call.z := by rw [getD_set2 pl, if_neg fun e => pm e.symm]
      rw [gp] at yth yr
      refine ⟨id, _, _, _, _, ⟨yw, yt, .inr ⟨yk, p, ym, pl, yth, yr, rfl, rfl⟩⟩, ⟨xw, xt, .inr ⟨xk, m, by rw [setA_get x8, if_neg hne']; exact xm, by simpa using xml, by rw [gm]; exact xth, by rw [gm]; exact xr, rfl, rfl⟩⟩, ⟨by simp, fun _ => rfl, fun m hm => hm, fun m hm => rfl, fun j hj => ?_, fun w hw => ?_⟩⟩
      · simp only [List.length_set] at hj
        simp only [id, gp, gm]
        rw [getD_set2 (by simpa using xml), getD_set2 pl, getD_set2 (by simpa using pl), getD_set2 xml]
        by_cases e : j = m
        · subst e
          rw [if_pos rfl, if_neg (fun e => pm e.symm), if_pos rfl, te _ xml]
        · rw [if_neg e, if_neg e]
          by_cases e2 : j = p
          · subst e2; rw [if_pos rfl, if_pos rfl, te2 _ pl]
          · rw [if_neg e2, if_neg e2, hid j hj]
      · simp only [setA_get hw, List.length_set, id]
        by_cases e : w = y.who.toNat
        · subst e
          rw [if_pos rfl, if_neg hne2, if_pos rfl]; exact .inl ⟨rfl, rfl⟩
        · rw [if_neg e, if_neg e]
          by_cases e2 : w = x.who.toNat
          · rw [if_pos e2]; exact .inl ⟨rfl, rfl⟩
          · rw [if_neg e2]
            rcases hop w hw with h | ⟨m, h1, h2, h3⟩
            · exact .inl ⟨h, h⟩
            · exact .inr ⟨m, h1, h2, h2⟩
/-- The events k and k + 1 change places. -/
def swap (l : List Event) (k : Nat) : List Event := (l.set k (l.getD (k + 1) Event.z)).set (k + 1) (l.getD k Event.z)
theorem swap_get {l : List Event} {k j : Nat} (hk : k + 1 < l.length) : (swap l k).getD j Event.z = if j = k + 1 then l.getD k Event.z else if j = k then l.getD (k + 1) Event.z else l.getD j Event.z := by
  unfold swap
  rw [getD_set2 (by simpa using hk), getD_set2 (by omega)]
theorem Rn.same {N : Nat} {types : List Int} {l l' : List Event} {n : Nat} {out : List Call} {op : List Int} (hlen : l'.length = l.length) (R : Rn N types l n out op) (h : ∀ j, j < n → l'.getD j Event.z = l.getD j Event.z) : Rn N types l' n out op := by
  induction R with
  | zero => exact .zero
  | succ R hk S ih => exact .succ (ih fun j hj => h j (by omega)) (by omega) (by rw [h _ (Nat.lt_succ_self _)]; exact S)
theorem Rn.swap {N : Nat} {types : List Int} {l : List Event} {k : Nat} (hk : k + 1 < l.length) (hne : (l.getD k Event.z).who ≠ (l.getD (k + 1) Event.z).who) :
    ∀ {n : Nat} {out : List Call} {op : List Int}, k + 2 ≤ n → Rn N types l n out op → ∃ q out' op', Rn N types (swap l k) n out' op' ∧ Sim k q out op out' op' := by
  intro n
  induction n with
  | zero => intro _ _ h; omega
  | succ n ih =>
    intro out op hn R
    cases R with
    | @succ _ out0 _ op0 _ R0 h0 S0 =>
      have hlen : (Hs.swap l k).length = l.length := by simp [Hs.swap]
      rcases Nat.lt_or_ge (k + 1) n with h | h
      · obtain ⟨q, o', p', R', S'⟩ := ih (by omega) R0
        obtain ⟨o2, p2, X, S2⟩ := S'.step S0 (by omega)
        exact ⟨q, o2, p2, .succ R' (by omega) (by rw [swap_get hk, if_neg (by omega), if_neg (by omega)]; exact X), S2⟩
      · obtain rfl : n = k + 1 := by omega
        cases R0 with
        | @succ _ out1 _ op1 _ R1 h1 S1 =>
          obtain ⟨q, o1, p1, o2, p2, X, Y, S2⟩ := Sim.two R1 S1 S0 hne
          refine ⟨q, o2, p2, .succ (out := o1) (op := p1) (.succ (R1.same hlen fun j hj => ?_) (by omega) ?_) (by omega) ?_, S2⟩
          · rw [swap_get hk, if_neg (by omega), if_neg (by omega)]
          · rw [swap_get hk, if_neg (by omega), if_pos rfl]; exact X
          · rw [swap_get hk, if_pos rfl]; exact Y
end Hs
namespace Hs
theorem tau_tau {k x : Int} : tau k (tau k x) = x := by
  unfold tau
  by_cases h : x = k
  · subst h; rw [if_pos rfl, if_neg (by omega), if_pos rfl]
  · rw [if_neg h]
    by_cases h2 : x = k + 1
    · subst h2; rw [if_pos rfl, if_pos rfl]
    · rw [if_neg h2, if_neg h, if_neg h2]
theorem tmC_tmC {k : Int} {c : Call} : tmC k (tmC k c) = c := by
  obtain ⟨a, b, d, e, f, g, i⟩ := c
  simp only [tmC, tau_tau]
end Hs
namespace Ca
open Rl Hs
/-- The same calls, in other places and at other times. -/
structure Mv (k : Nat) (q : Nat → Nat) (c c' : List Call) : Prop where
  len : c'.length = c.length
  inv : ∀ m, q (q m) = m
  lo : ∀ m, m < c.length → q m < c.length
  at_ : ∀ m, m < c.length → c'.getD (q m) Call.z = tmC k (c.getD m Call.z)
theorem Mv.symm {k : Nat} {q : Nat → Nat} {c c' : List Call} (S : Mv k q c c') : Mv k q c' c := by
  have h := S.len
  refine ⟨h.symm, S.inv, fun m hm => by have := S.lo m (by omega); omega, fun m hm => ?_⟩
  have h2 := S.at_ (q m) (S.lo m (by omega))
  rw [S.inv] at h2
  rw [h2, tmC_tmC]
theorem Mv.lt {k : Nat} {q : Nat → Nat} {c c' : List Call} (S : Mv k q c c') (i : Nat) : q i < c'.length ↔ i < c.length := by
  constructor
  · intro h
    rw [S.len] at h
    have := S.lo _ h
    rwa [S.inv] at this
  · intro h
    rw [S.len]
    exact S.lo i h
/-- With two events that follow each other, of unlike people, exchanged. -/
theorem swap_calls {N : Nat} (hN : 300 < N) {types : List Int} {l : List Event} {c : List Call} {k : Nat} (hk : k + 1 < l.length) (hne : (l.getD k Event.z).who ≠ (l.getD (k + 1) Event.z).who) (hc : history_Calls N types l = some (c, 0, 0)) :
    ∃ q c' op, history_Calls N types (swap l k) = some (c', 0, 0) ∧ Mv k q c c' ∧ WF types l l.length c op := by
  obtain ⟨r, hr, h2⟩ := calls_rn (types := types) (l := l) hN
  rw [hc] at hr
  cases hr
  obtain ⟨ht, _, hl, _, op, R⟩ := h2 rfl
  have R : Rn N types l l.length c op := R
  obtain ⟨q, c', op', R', S⟩ := Rn.swap hk hne (by omega) R
  have hlen : (swap l k).length = l.length := by simp [swap]
  refine ⟨q, c', op, calls_of hN ht (by omega) (op := op') (by rw [hlen]; exact R'), ⟨S.len, S.inv, S.lo, S.at_⟩, R.wf⟩
end Ca

namespace Sr
open Rl Hs
theorem Fnd.iff {types : List Int} {c : List Call} {q : Nat → Nat → Bool} {x : List Step} {b : Bool} (F : Fnd types c q x b) : b = true ↔ ∃ u, Gd types c q (S0 types) [] u := by
  rcases F with ⟨h, g, _⟩ | ⟨h, _, g⟩
  · exact ⟨fun _ => ⟨x, g⟩, fun _ => h⟩
  · exact ⟨fun e => (by rw [h] at e; cases e), fun ⟨u, gu⟩ => (g u gu).elim⟩
end Sr

namespace Sr
open Rl Hs Ca
theorem tau_c (k x : Int) : (x = k ∧ tau k x = k + 1) ∨ (x = k + 1 ∧ tau k x = k) ∨ (x ≠ k ∧ x ≠ k + 1 ∧ tau k x = x) := by
  unfold tau
  by_cases h : x = k
  · exact .inl ⟨h, by rw [if_pos h]⟩
  · by_cases h2 : x = k + 1
    · exact .inr (.inl ⟨h2, by rw [if_neg h, if_pos h2]⟩)
    · exact .inr (.inr ⟨h, h2, by rw [if_neg h, if_neg h2]⟩)
theorem tau_lt {k a b : Int} (h : tau k a < tau k b) (n0 : a ≠ b) (n1 : ¬ (a = k + 1 ∧ b = k)) : a < b := by
  rcases tau_c k a with ⟨h1, h2⟩ | ⟨h1, h2⟩ | ⟨h1, h3, h2⟩ <;> rcases tau_c k b with ⟨g1, g2⟩ | ⟨g1, g2⟩ | ⟨g1, g3, g2⟩ <;> rw [h2, g2] at h <;> omega
theorem Pl.move {types : List Int} {k : Nat} {q : Nat → Nat} {c c' : List Call} (M : Mv k q c c') {Q Q' : Nat → Nat → Bool} (hQ : ∀ i j, Q' (q i) (q j) = true → Q i j = true) : ∀ {t : List Step} {S : List (List Int)} {w : List Nat}, Pl types c Q S w t → Pl types c' Q' S (w.map q) (t.map fun s => ⟨(q s.call.toNat : Int), s.res⟩)
  | [], _, _, _ => trivial
  | s :: t, S, w, ⟨i, n, h1, h2, h3, h4, h5, h6, h7⟩ => by
    have hat := M.at_ i h2
    refine ⟨q i, n, by simp [h1], (M.lt i).2 h2, fun h => ?_, fun j hj => ?_, fun h => ?_, ?_, ?_⟩
    · obtain ⟨j, hj, e⟩ := List.mem_map.1 h
      have : j = i := by rw [← M.inv j, e, M.inv]
      exact h3 (this ▸ hj)
    · obtain ⟨j0, hj0, rfl⟩ := List.mem_map.1 hj
      cases hb : Q' (q i) (q j0) with
      | false => rfl
      | true => rw [← h4 j0 hj0]; exact (hQ i j0 hb).symm
    · rw [hat] at h ⊢
      refine h5 fun h8 => h ?_
      simp only [tmC, h8]
      exact tau_id (by omega) (by omega)
    · rw [hat]; exact h6
    · rw [hat]
      have := Pl.move M hQ h7
      rw [List.map_append, List.map_singleton] at this
      exact this
theorem Gd.move {types : List Int} {k : Nat} {q : Nat → Nat} {c c' : List Call} (M : Mv k q c c') {Q Q' : Nat → Nat → Bool} (hQ : ∀ i j, Q' (q i) (q j) = true → Q i j = true) {S : List (List Int)} {t : List Step} (g : Gd types c Q S [] t) : Gd types c' Q' S [] (t.map fun s => ⟨(q s.call.toNat : Int), s.res⟩) := by
  refine ⟨Pl.move M hQ g.1, fun i hi ht => ?_⟩
  have h1 : q i < c.length := by have := M.symm.lo i hi; have := M.len; omega
  have hat := M.at_ (q i) h1
  rw [M.inv] at hat
  rw [hat] at ht
  have h2 : (c.getD (q i) Call.z).to_ ≠ -1 := fun h8 => ht (by simp only [tmC, h8]; exact tau_id (by omega) (by omega))
  have h3 := g.2 (q i) h1 h2
  rw [List.nil_append] at h3 ⊢
  have e : nums (t.map fun s => (⟨(q s.call.toNat : Int), s.res⟩ : Step)) = (nums t).map q := by
    unfold nums
    rw [List.map_map, List.map_map]
    apply List.map_congr_left
    intro a _
    simp
  rw [e]
  exact List.mem_map.2 ⟨q i, h3, M.inv i⟩
theorem bf_move {types : List Int} {l : List Event} {op : List Int} {n k : Nat} {q : Nat → Nat} {c c' : List Call} (M : Mv k q c c') (W : WF types l n c op) (hb : ¬ ((l.getD k Event.z).kind ≠ 0 ∧ (l.getD (k + 1) Event.z).kind = 0)) (i j : Nat) (h : bfA c' (q i) (q j) = true) : bfA c i j = true := by
  obtain ⟨h1, h2, h3, h4⟩ := of_decide_eq_true h
  have g1 := (M.lt i).1 h1
  have g2 := (M.lt j).1 h2
  rw [M.at_ i g1] at h3 h4
  rw [M.at_ j g2] at h4
  simp only [tmC] at h3 h4
  have h5 : (c.getD i Call.z).to_ ≠ -1 := fun h8 => h3 (by rw [h8]; exact tau_id (by omega) (by omega))
  refine decide_eq_true ⟨g1, g2, h5, ?_⟩
  have O1 := W.one i g1
  have O2 := W.one j g2
  have e1 := congrArg Event.kind (O1.evt h5)
  have e2 := congrArg Event.kind O2.evf.1
  have e3 := O2.evf.2
  simp only at e1 e2
  have n0 : (c.getD i Call.z).to_ ≠ (c.getD j Call.z).from_ := fun e => by
    rw [e, e2] at e1
    exact e3 e1
  have n1 : ¬ ((c.getD i Call.z).to_ = (k : Int) + 1 ∧ (c.getD j Call.z).from_ = (k : Int)) := by
    rintro ⟨a, b⟩
    rw [a, show ((k : Int) + 1).toNat = k + 1 by omega] at e1
    rw [b, Int.toNat_natCast] at e2
    exact hb ⟨by rw [e2]; exact e3, e1⟩
  exact tau_lt h4 n0 n1
theorem hc_of {N : Nat} (hN : 300 < N) {types : List Int} {l : List Event} {c : List Call} (h : search_Calls N types l = some (c, 0)) : Hc N types l c := by
  obtain ⟨r, h1, h2⟩ := calls9_wp hN types l
  rw [h] at h1
  cases h1
  rcases h2 with ⟨_, H, _⟩ | ⟨h, _⟩
  · exact H
  · exact (h rfl).elim
end Sr

namespace Sr
open Rl Hs Ca
theorem laterLaw {N : Nat} (hN : 5000 < N) (hL : alibkeep_searchLives N = some true) (types : List Int) (l : List Event) (k : Int) : alibkeep_SearchLater N types l k = some true := by
  refine Wp.eq ?_
  unfold alibkeep_SearchLater
  obtain ⟨⟨c, e⟩, hc, hcs⟩ := calls9_wp (N := N) (by omega) types l
  refine .seq (find_wp (by omega) hc) fun r _ ⟨f1, f2, f3⟩ => .bdO hL ?_
  rw [f1]
  rcases hcs with ⟨h0, H, hcalls⟩ | ⟨h0, _⟩
  · simp only at h0 H hcalls
    subst h0
    obtain ⟨t1, hlen, op, R⟩ := rn_of (by omega) hcalls
    refine .ck (by rw [ok64_of (by omega)]; simp) ?_
    by_cases hk : r.2.1 = true ∧ 0 ≤ k ∧ k < (l.length : Int) - 1
    · obtain ⟨hr, hk0, hk1⟩ := hk
      obtain ⟨k, rfl⟩ : ∃ n : Nat, k = n := ⟨k.toNat, by omega⟩
      rw [hr, decide_eq_false (show ¬ ((k : Int) < 0) by omega), decide_eq_false (show ¬ ((l.length : Int) - 1 ≤ (k : Int)) by omega)]
      refine .gd (l.getD k Event.z) (fun _ => ?_) fun x15 h15 => .ck (by rw [ok64_of (by omega)]; simp) (.gd (l.getD (k + 1) Event.z) (fun _ => ?_) fun x17 h17 => ?_)
      · rw [ix_of (show k < l.length by omega), getD_of]
      · rw [show (k : Int) + 1 = ((k + 1 : Nat) : Int) by omega, ix_of (show k + 1 < l.length by omega), getD_of]
      rw [h15 rfl, h17 rfl]
      refine .cond (fun _ => .bdO hL (.one rfl)) fun h => ?_
      have hne : (l.getD k Event.z).who ≠ (l.getD (k + 1) Event.z).who := by
        intro e
        rw [decide_eq_true e] at h
        cases h
      refine .ixD Event.z (by omega) (by omega) (.ck (by rw [ok64_of (by omega)]; simp) ?_)
      simp only [Int.toNat_natCast]
      refine .gd (l.getD (k + 1) Event.z) (fun _ => ?_) fun x23 h23 => ?_
      · rw [show (k : Int) + 1 = ((k + 1 : Nat) : Int) by omega, ix_of (show k + 1 < l.length by omega), getD_of]
      refine .cond (fun _ => .one rfl) fun hb => ?_
      have hb : ¬ ((l.getD k Event.z).kind ≠ 0 ∧ (l.getD (k + 1) Event.z).kind = 0) := by
        rintro ⟨a, b⟩
        rw [decide_eq_false a] at h23 hb
        rw [h23 rfl, decide_eq_true b] at hb
        cases hb
      refine .ck (limB_of ⟨?_, ?_⟩) (.ck64 (by omega) (.ck64 (by omega) ?_))
      · exact Nat.le_trans (m := 2000) (by omega) (by decide)
      · omega
      refine .ixD Event.z (by omega) (by omega) (.ixD Event.z (by omega) (by rw [List.length_set]; omega) ?_)
      simp only [show ((k : Int) + 1).toNat = k + 1 by omega, Int.toNat_natCast]
      obtain ⟨q, c', op', hc', M, W⟩ := swap_calls (N := N) (by omega) (show k + 1 < l.length by omega) hne hcalls
      have hs := calls9_of hc' (by have := M.len; have := H.few; omega)
      have H' := hc_of (by omega) hs
      show Wp (bd (search_Find N types (swap l k)) _) _
      refine .seq (find_wp (by omega) hs) fun r2 _ ⟨k1, _, k3⟩ => .one ?_
      obtain ⟨u, gu⟩ := (f3 rfl H).iff.1 hr
      have := (k3 rfl H').iff.2 ⟨_, gu.move M (bf_move M W hb)⟩
      rw [k1, this]; rfl
    · have hg : ((((((!true) || (!decide ((0 : Int) = 0))) || (!r.2.1)) || (decide (k < 0))) || (decide (((l.length : Int) - 1) ≤ k)))) = true := by
        cases hr : r.2.1 with
        | false => simp
        | true =>
          rw [hr] at hk
          simp only [true_and] at hk
          simp only [Bool.not_true, Bool.false_or, Bool.or_eq_true, decide_eq_true_eq, decide_true]; omega
      simp only at hg ⊢
      rw [hg]
      exact .gd Event.z (fun h => by cases h) fun x15 _ => .ck rfl (.gd Event.z (fun h => by cases h) fun x17 _ => .condT rfl (.bdO hL (.one rfl)))
  · rw [decide_eq_false h0]
    refine .ck (by simp) (.gd Event.z (fun h => by simp at h) fun x15 _ => .ck (by simp) (.gd Event.z (fun h => by simp at h) fun x17 _ => .condT (by simp) (.bdO hL (.one rfl))))
end Sr

end Go.Proofs.Ytpakplmpihhmbaa
