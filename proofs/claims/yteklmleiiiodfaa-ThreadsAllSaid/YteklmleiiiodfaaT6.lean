/- Threads, plainly: the history that is seen. -/
import Derived.Test.YteklmleiiiodfaaT3
import Derived.Test.YteklmleiiiodfaaL7
set_option linter.unusedVariables false
set_option linter.unusedSimpArgs false
set_option linter.unusedSectionVars false
set_option maxRecDepth 100000
namespace Go.Proofs.Yteklmleiiiodfaa
open Go.RowKit
namespace Sr
open Hs
theorem res_ok (N : Nat) {typ : Int} {s : List Int} {kind arg : Int} {n : List Int} {res : Int} (h : Ob.nx typ s kind arg = some (n, res)) : history_result N kind res = some true := by
  obtain ⟨hO, hA, hs, _⟩ := Ob.nx_ok h
  obtain ⟨h0, hk, _, _⟩ := hA
  have hinv := Ob.tyK_inv hk h0
  clear hk h
  unfold Ob.stp at hs
  have d2 : ∀ m, history_result N 2 m = some ((decide (0 ≤ m)) && (decide (m ≤ 1000))) := fun _ => rfl
  have d10 : ∀ m, history_result N 10 m = some ((decide (0 ≤ m)) && (decide (m ≤ 1000))) := fun _ => rfl
  have d4 : ∀ m, history_result N 4 m = some ((decide (m = (-1))) || ((decide (1 ≤ m)) && (decide (m ≤ 1000)))) := fun _ => rfl
  have d6 : ∀ m, history_result N 6 m = some ((decide (m = (-1))) || ((decide (1 ≤ m)) && (decide (m ≤ 1000)))) := fun _ => rfl
  have d7 : ∀ m, history_result N 7 m = some ((decide (m = 0)) || (decide (m = 1))) := fun _ => rfl
  have d8 : ∀ m, history_result N 8 m = some ((decide (m = 0)) || (decide (m = 1))) := fun _ => rfl
  have d9 : ∀ m, history_result N 9 m = some ((decide (m = 0)) || (decide (m = 1))) := fun _ => rfl
  have z1 : history_result N 1 0 = some true := rfl
  have z3 : history_result N 3 0 = some true := rfl
  have z5 : history_result N 5 0 = some true := rfl
  have get : ∀ (i : Nat), (∀ m ∈ s, Ob.Num m) → i < s.length → (decide (s.getD i 0 = -1) || (decide (1 ≤ s.getD i 0) && decide (s.getD i 0 ≤ 1000))) = true := fun i hm hi => by
    have := hm _ (List.getElem_mem hi)
    rw [getD_of hi]
    unfold Ob.Num at this
    rw [decide_eq_true this.1, decide_eq_true this.2]
    simp
  rcases hinv with ⟨rfl, hk⟩ | ⟨rfl, hk⟩ | ⟨rfl, hk⟩ | ⟨rfl, hk⟩ | ⟨rfl, hk⟩
  · rcases hO with ⟨_, v, rfl, v0, v1⟩ | ⟨h, _⟩ | ⟨h, _⟩
    · rcases hk with rfl | rfl
      · cases hs; exact z1
      · cases hs
        rw [d2]
        simp [v0, v1]
    · omega
    · omega
  · rcases hO with ⟨h, _⟩ | ⟨_, hl, hm⟩ | ⟨h, _⟩
    · omega
    · rcases hk with rfl | rfl
      · simp only [show ¬ ((2 : Int) = 1) by decide, show ¬ ((2 : Int) = 5) by decide, if_false, if_true] at hs
        split at hs
        · cases hs
        · cases hs; exact z3
      · simp only [show ¬ ((2 : Int) = 1) by decide, show ¬ ((2 : Int) = 5) by decide, show ¬ ((4 : Int) = 3) by decide, if_false, if_true] at hs
        split at hs
        · cases hs; rfl
        · rename_i h1
          cases hs
          rw [d4, get 0 hm (by omega)]
    · omega
  · rcases hO with ⟨h, _⟩ | ⟨_, hl, hm⟩ | ⟨h, _⟩
    · omega
    · rcases hk with rfl | rfl
      · simp only [show ¬ ((3 : Int) = 1) by decide, show ¬ ((3 : Int) = 5) by decide, show ¬ ((3 : Int) = 2) by decide, if_false, if_true] at hs
        split at hs
        · cases hs
        · cases hs; exact z5
      · simp only [show ¬ ((3 : Int) = 1) by decide, show ¬ ((3 : Int) = 5) by decide, show ¬ ((3 : Int) = 2) by decide, show ¬ ((6 : Int) = 5) by decide, if_false, if_true] at hs
        split at hs
        · cases hs; rfl
        · rename_i h1
          cases hs
          rw [d6, get (s.length - 1) hm (by omega)]
    · omega
  · simp only [show ¬ ((4 : Int) = 1) by decide, show ¬ ((4 : Int) = 5) by decide, show ¬ ((4 : Int) = 2) by decide, show ¬ ((4 : Int) = 3) by decide, if_false] at hs
    rcases hk with rfl | rfl | rfl
    · rw [if_pos rfl] at hs
      split at hs
      · cases hs; rfl
      · split at hs
        · cases hs
        · cases hs; rfl
    · rw [if_neg (by decide), if_pos rfl] at hs
      split at hs
      · cases hs; rfl
      · cases hs; rfl
    · rw [if_neg (by decide), if_neg (by decide)] at hs
      cases hs
      rw [d9]
      split <;> rfl
  · rcases hO with ⟨_, v, rfl, v0, v1⟩ | ⟨h, _⟩ | ⟨h, _⟩
    · simp only [show ¬ ((5 : Int) = 1) by decide, if_false, if_true] at hs
      subst hk
      split at hs
      · cases hs
      · cases hs
        rw [d10]
        simp [v0, v1]
    · omega
    · omega
def cal (c : List Call) (s : Step) : Call := c.getD s.call.toNat Call.z
end Sr

namespace Th
open Ob Hs
theorem who_set {m : M} {w v : Nat} {p : ThreadsProcess} (hw : w < m.people.length) : (m.people.set w p).getD v ThreadsProcess.z = if v = w then p else m.who v := by
  unfold M.who
  simp only [List.getD_eq_getElem?_getD]
  by_cases e : v = w
  · subst e; rw [if_pos rfl]; simp [hw]
  · rw [if_neg e, List.getElem?_set_ne (fun e2 => e e2.symm)]
def callP (p : ThreadsProcess) (c : Int) : ThreadsProcess := ⟨p.program, true, c, false, p.failed, p.res⟩
def doP (p : ThreadsProcess) (f : Bool) (r : Int) : ThreadsProcess := ⟨p.program, p.pending, p.call, true, f, r⟩
def ansP (p : ThreadsProcess) : ThreadsProcess := ⟨p.program.drop 1, false, p.call, p.done, p.failed, p.res⟩
/-- What a turn does to the machine, and to what is read of the events. -/
inductive Nxt (types : List Int) (m : M) (w : Nat) (out : List Call) (op : List Int) : M → List Call → List Int → Prop
  | same (h : (m.who w).program = [] ∨ ((m.who w).pending = true ∧ (m.who w).done = true ∧ (m.who w).failed = true)) : Nxt types m w out op m out op
  | call (a : Ask) (r : List Ask) (hp : (m.who w).program = a :: r) (hn : (m.who w).pending = false) : Nxt types m w out op ⟨m.states, m.people.set w (callP (m.who w) m.calls), m.events ++ [⟨w, a.thing, a.kind, a.arg⟩], m.steps, m.calls + 1⟩ (out ++ [⟨w, a.thing, a.kind, a.arg, 0, m.events.length, -1⟩]) (setA 8 0 op w ((out.length : Int) + 1))
  | did (a : Ask) (r : List Ask) (s : List Int) (res : Int) (hp : (m.who w).program = a :: r) (hn : (m.who w).pending = true) (hd : (m.who w).done = false) (hx : nx (types.getD a.thing.toNat 0) (m.states.getD a.thing.toNat []) a.kind a.arg = some (s, res)) :
      Nxt types m w out op ⟨m.states.set a.thing.toNat s, m.people.set w (doP (m.who w) false res), m.events, m.steps ++ [⟨(m.who w).call, res⟩], m.calls⟩ out op
  | fail (a : Ask) (r : List Ask) (hp : (m.who w).program = a :: r) (hn : (m.who w).pending = true) (hd : (m.who w).done = false) (hx : nx (types.getD a.thing.toNat 0) (m.states.getD a.thing.toNat []) a.kind a.arg = none) :
      Nxt types m w out op ⟨m.states, m.people.set w (doP (m.who w) true 0), m.events, m.steps, m.calls⟩ out op
  | ans (a : Ask) (r : List Ask) (i : Nat) (hp : (m.who w).program = a :: r) (hn : (m.who w).pending = true) (hd : (m.who w).done = true) (hf : (m.who w).failed = false) (hc : (m.who w).call = i) (hi : i < out.length) :
      Nxt types m w out op ⟨m.states, m.people.set w (ansP (m.who w)), m.events ++ [⟨w, a.thing, 0, (m.who w).res⟩], m.steps, m.calls⟩ (out.set i (endC (out.getD i Call.z) (m.who w).res m.events.length)) (setA 8 0 op w 0)
/-- So many asks are not called yet. -/
def rem (p : ThreadsProcess) : Nat := p.program.length - (if p.pending = true then 1 else 0)
def cnt (out : List Call) (w : Nat) : Nat := out.countP fun c => decide (c.who = (w : Int))
def tot (P0 : List (List Ask)) : Nat := (P0.map List.length).sum
/-- The machine, and what is read of its events. -/
structure H (N : Nat) (types : List Int) (P0 : List (List Ask)) (m : M) (out : List Call) (op : List Int) : Prop where
  rn : Rn N types m.events m.events.length out op
  cl : m.calls = out.length
  pl : m.people.length = P0.length
  np : ∀ w, w < 8 → (P0.length ≤ w ∨ (m.who w).pending = false) → op.getD w 0 = 0
  pe : ∀ w, w < P0.length → (m.who w).pending = true → ∃ a r, (m.who w).program = a :: r ∧ ∃ i : Nat, (m.who w).call = i ∧ i < out.length ∧ op.getD w 0 = i + 1 ∧ ((out.getD i Call.z).thing = a.thing ∧ (out.getD i Call.z).kind = a.kind ∧ (out.getD i Call.z).arg = a.arg) ∧ ((m.who w).done = true → (m.who w).failed = false → history_result N a.kind (m.who w).res = some true)
  pr : ∀ w, w < P0.length → ∃ d, (m.who w).program = (P0.getD w []).drop d ∧ d ≤ (P0.getD w []).length ∧ cnt out w = d + if (m.who w).pending = true then 1 else 0
  ord_ : ∀ i, i < out.length → ∃ (w : Nat) (a : Ask), (out.getD i Call.z).who = w ∧ w < P0.length ∧ (P0.getD w [])[cnt (out.take i) w]? = some a ∧ a.thing = (out.getD i Call.z).thing ∧ a.kind = (out.getD i Call.z).kind ∧ a.arg = (out.getD i Call.z).arg
  sum : (m.people.map rem).sum + out.length = tot P0
theorem rn_ext {N : Nat} {types : List Int} {l e : List Event} {k : Nat} {out : List Call} {op : List Int} (R : Rn N types l k out op) : k ≤ l.length → Rn N types (l ++ e) k out op := by
  induction R with
  | zero => exact fun _ => .zero
  | @succ k out out' op op' R hk S ih =>
    intro h
    refine .succ (ih (by omega)) (by rw [List.length_append]; omega) ?_
    have e1 : (l ++ e).getD k Event.z = l.getD k Event.z := by
      rw [getD_of hk, getD_of (by rw [List.length_append]; omega), List.getElem_append_left hk]
    rw [e1]; exact S
theorem rn_push {N : Nat} {types : List Int} {l : List Event} {v : Event} {out out' : List Call} {op op' : List Int} (R : Rn N types l l.length out op) (S : StpX N types out op (l.length : Int) v out' op') : Rn N types (l ++ [v]) (l ++ [v]).length out' op' := by
  have e : (l ++ [v]).length = l.length + 1 := by simp
  rw [e]
  refine .succ (rn_ext R (Nat.le_refl _)) (by rw [e]; omega) ?_
  have e1 : (l ++ [v]).getD l.length Event.z = v := by rw [getD_of (by rw [e]; omega)]; simp
  rw [e1]; exact S
theorem sum_set : ∀ {l : List Nat} {i : Nat} {a : Nat} (h : i < l.length), (l.set i a).sum + l[i] = l.sum + a
  | [], _, _, h => absurd h (Nat.not_lt_zero _)
  | x :: l, 0, a, _ => by simp; omega
  | x :: l, i + 1, a, h => by
    have := sum_set (l := l) (i := i) (a := a) (by simpa using h)
    simp only [List.set_cons_succ, List.sum_cons, List.getElem_cons_succ]
    omega
theorem sum_people {m : M} (f : ThreadsProcess → Nat) {w : Nat} (hw : w < m.people.length) (p : ThreadsProcess) : ((m.people.set w p).map f).sum + f (m.who w) = (m.people.map f).sum + f p := by
  have := sum_set (l := m.people.map f) (i := w) (a := f p) (by simpa using hw)
  rw [← List.map_set] at this
  have e : (m.people.map f)[w]'(by simpa using hw) = f (m.who w) := by unfold M.who; rw [getD_of hw]; simp
  rw [e] at this
  exact this
theorem arg_ok {N : Nat} {t k n : Int} (h : Asked t k n) : history_Argument N k n = some true := by
  rw [argument_ok, argd, decide_eq_true h.2.2]
theorem tyF_tyK (k : Int) : tyF k = tyK k := rfl
theorem kind_ne {t k n : Int} (h : Asked t k n) : k ≠ 0 := by
  intro e
  subst e
  exact h.1 (h.2.1.symm)
theorem cnt_app (out : List Call) (c : Call) (w : Nat) : cnt (out ++ [c]) w = cnt out w + if c.who = (w : Int) then 1 else 0 := by
  unfold cnt
  rw [List.countP_append]
  simp only [List.countP_cons, List.countP_nil]
  by_cases h : c.who = (w : Int)
  · simp [h]
  · simp [h]
theorem cnt_set {out : List Call} {i : Nat} {c : Call} (hi : i < out.length) (h : c.who = (out.getD i Call.z).who) (w : Nat) : cnt (out.set i c) w = cnt out w := by
  have key : ∀ (l : List Call) (i : Nat) (hi : i < l.length), c.who = l[i].who → (l.set i c).countP (fun c => decide (c.who = (w : Int))) = l.countP (fun c => decide (c.who = (w : Int))) := by
    intro l
    induction l with
    | nil => intro i hi; exact absurd hi (Nat.not_lt_zero _)
    | cons x l ih =>
      intro i hi h
      cases i with
      | zero =>
        have h : c.who = x.who := h
        simp [List.countP_cons, h]
      | succ i =>
        simp only [List.set_cons_succ, List.countP_cons]
        rw [ih i (by simpa using hi) h]
  exact key out i hi (by rw [h, getD_of hi])
theorem take_set_ge {α : Type} {l : List α} {i j : Nat} {a : α} (h : j ≤ i) : (l.set i a).take j = l.take j := by
  rw [List.take_set_of_le h]
theorem turn_nxt {N : Nat} {types : List Int} {P0 : List (List Ask)} {m : M} {out : List Call} {op : List Int} (hP : OkP types P0) (h : H N types P0 m out op) {w : Nat} (hw : w < P0.length) :
    ∃ out' op', Nxt types m w out op (trn types m w) out' op' ∧ H N types P0 (trn types m w) out' op' := by
  have hpl := h.pl
  have hw' : w < m.people.length := by omega
  have h8 := hP.few
  have hpe := h.pe w hw
  obtain ⟨d, hd1, hd2, hd3⟩ := h.pr w hw
  unfold trn
  rw [Int.toNat_natCast]
  have hp0 : ∀ a r, (m.who w).program = a :: r → (0 ≤ a.thing ∧ a.thing < types.length) ∧ Asked (types.getD a.thing.toNat 0) a.kind a.arg := by
    intro a r e
    have hw0 : P0.getD w [] ∈ P0 := by rw [getD_of hw]; exact List.getElem_mem hw
    refine hP.ask _ hw0 a ?_
    have : a ∈ (P0.getD w []).drop d := by rw [← hd1, e]; exact .head _
    exact List.mem_of_mem_drop this
  cases hprog : (m.who w).program with
  | nil => exact ⟨out, op, .same (.inl hprog), h⟩
  | cons a r =>
    obtain ⟨hth, hask⟩ := hp0 a r hprog
    simp only
    cases hpend : (m.who w).pending with
    | false =>
      rw [if_pos rfl]
      have e1 : (ThreadsProcess.mk (a :: r) true m.calls false (m.who w).failed (m.who w).res) = callP (m.who w) m.calls := by unfold callP; rw [hprog]
      rw [e1]
      refine ⟨_, _, .call a r hprog hpend, ?_⟩
      have hop := h.np w (by omega) (.inr hpend)
      have R := rn_push h.rn (v := ⟨w, a.thing, a.kind, a.arg⟩) (out' := out ++ [⟨w, a.thing, a.kind, a.arg, 0, m.events.length, -1⟩]) (op' := setA 8 0 op (w : Int) ((out.length : Int) + 1))
        ⟨by simp only; omega, hth, .inl ⟨kind_ne hask, ⟨hask.1, hask.2.1⟩, arg_ok hask, by simp only [Int.toNat_natCast]; omega, rfl, rfl⟩⟩
      have hgo : ∀ v, v < 8 → (setA 8 0 op (w : Int) ((out.length : Int) + 1)).getD v 0 = if v = w then (out.length : Int) + 1 else op.getD v 0 := fun v hv => by rw [setA_get hv, Int.toNat_natCast]
      have hwho : ∀ v, (M.who ⟨m.states, m.people.set w (callP (m.who w) m.calls), m.events ++ [⟨w, a.thing, a.kind, a.arg⟩], m.steps, m.calls + 1⟩ v) = if v = w then callP (m.who w) m.calls else m.who v := fun v => who_set hw'
      refine ⟨R, by simp [h.cl], by simpa using hpl, fun v hv hc => ?_, fun v hv hc => ?_, fun v hv => ?_, fun i hi => ?_, ?_⟩
      · rw [hgo v hv]
        rw [hwho] at hc
        split
        · rename_i e
          subst e
          rw [if_pos rfl] at hc
          rcases hc with hc | hc
          · omega
          · cases hc
        · rename_i e
          rw [if_neg e] at hc
          exact h.np v hv hc
      · rw [hwho] at hc ⊢
        by_cases e : v = w
        · subst e
          rw [if_pos rfl]
          refine ⟨a, r, hprog, out.length, h.cl, by simp, ?_, ?_, fun e => by cases e⟩
          · rw [hgo v (by omega), if_pos rfl]
          · simp
        · rw [if_neg e] at hc ⊢
          obtain ⟨b, q, g1, i, g2, g3, g4, g5, g6⟩ := h.pe v hv hc
          refine ⟨b, q, g1, i, g2, by simp; omega, ?_, ?_, g6⟩
          · rw [hgo v (by omega), if_neg e, g4]
          · have e3 : (out ++ [(⟨w, a.thing, a.kind, a.arg, 0, m.events.length, -1⟩ : Call)]).getD i Call.z = out.getD i Call.z := by rw [getD_app, if_pos g3]
            rw [e3]; exact g5
      · rw [hwho, cnt_app]
        by_cases e : v = w
        · subst e
          rw [if_pos rfl]
          refine ⟨d, by unfold callP; exact hd1, hd2, ?_⟩
          rw [hd3, hpend]
          simp [callP]
        · rw [if_neg e]
          obtain ⟨d', g1, g2, g3⟩ := h.pr v hv
          refine ⟨d', g1, g2, ?_⟩
          rw [g3, if_neg (show ¬ (w : Int) = (v : Int) by omega)]
          rfl
      · rcases Nat.lt_or_ge i out.length with hi' | hi'
        · have e3 : (out ++ [(⟨w, a.thing, a.kind, a.arg, 0, m.events.length, -1⟩ : Call)]).getD i Call.z = out.getD i Call.z := by rw [getD_app, if_pos hi']
          rw [e3, List.take_append_of_le_length (by omega)]
          exact h.ord_ i hi'
        · have e2 : i = out.length := by simp at hi; omega
          subst e2
          have e3 : (out ++ [(⟨w, a.thing, a.kind, a.arg, 0, m.events.length, -1⟩ : Call)]).getD out.length Call.z = ⟨w, a.thing, a.kind, a.arg, 0, m.events.length, -1⟩ := by rw [getD_app, if_neg (by omega), if_pos rfl]
          rw [e3, List.take_left]
          refine ⟨w, a, rfl, hw, ?_, rfl, rfl, rfl⟩
          rw [hd3, hpend]
          have : ((P0.getD w []).drop d)[0]? = some a := by rw [← hd1, hprog]; rfl
          simpa using this
      · have hs := sum_people rem hw' (callP (m.who w) m.calls)
        have h1 : rem (m.who w) = r.length + 1 := by unfold rem; rw [hprog, hpend]; simp
        have h2 : rem (callP (m.who w) m.calls) = r.length := by unfold rem callP; rw [hprog]; simp
        have := h.sum
        show ((m.people.set w _).map rem).sum + _ = _
        simp only [List.length_append, List.length_singleton]
        omega
    | true =>
      rw [if_neg (by simp)]
      obtain ⟨a', r', q1, i, q2, q3, q4, q5, q6⟩ := hpe hpend
      rw [hprog] at q1
      obtain ⟨rfl, rfl⟩ : a = a' ∧ r = r' := by simpa using q1
      -- the others stay as they are
      have other : ∀ (S : List (List Int)) (st : List Step) (f : Bool) (res : Int), (f = false → history_result N a.kind res = some true) → H N types P0 ⟨S, m.people.set w (doP (m.who w) f res), m.events, st, m.calls⟩ out op := by
        intro S st f res hres
        have hwho : ∀ v, (M.who ⟨S, m.people.set w (doP (m.who w) f res), m.events, st, m.calls⟩ v) = if v = w then doP (m.who w) f res else m.who v := fun v => who_set hw'
        refine ⟨h.rn, h.cl, by simpa using hpl, fun v hv hc => ?_, fun v hv hc => ?_, fun v hv => ?_, h.ord_, ?_⟩
        · rw [hwho] at hc
          by_cases e : v = w
          · subst e
            rw [if_pos rfl] at hc
            rcases hc with hc | hc
            · omega
            · rw [show (doP (m.who v) f res).pending = (m.who v).pending from rfl, hpend] at hc; cases hc
          · rw [if_neg e] at hc
            exact h.np v hv hc
        · rw [hwho] at hc ⊢
          by_cases e : v = w
          · subst e
            rw [if_pos rfl]
            exact ⟨a, r, hprog, i, q2, q3, q4, q5, fun _ hf => hres hf⟩
          · rw [if_neg e] at hc ⊢
            exact h.pe v hv hc
        · rw [hwho]
          by_cases e : v = w
          · subst e
            rw [if_pos rfl]
            exact ⟨d, hd1, hd2, hd3⟩
          · rw [if_neg e]
            exact h.pr v hv
        · have hs := sum_people rem hw' (doP (m.who w) f res)
          have h1 : rem (doP (m.who w) f res) = rem (m.who w) := rfl
          have := h.sum
          show ((m.people.set w _).map rem).sum + _ = _
          omega
      cases hdone : (m.who w).done with
      | false =>
        rw [if_pos rfl]
        cases hx : nx (types.getD a.thing.toNat 0) (m.states.getD a.thing.toNat []) a.kind a.arg with
        | none =>
          have e1 : (ThreadsProcess.mk (a :: r) true (m.who w).call true true 0) = doP (m.who w) true 0 := by unfold doP; rw [hprog, hpend]
          simp only
          rw [e1]
          exact ⟨out, op, .fail a r hprog hpend hdone hx, other _ _ _ _ (fun e => by cases e)⟩
        | some x =>
          obtain ⟨s, res⟩ := x
          have e1 : (ThreadsProcess.mk (a :: r) true (m.who w).call true false res) = doP (m.who w) false res := by unfold doP; rw [hprog, hpend]
          simp only
          rw [e1]
          exact ⟨out, op, .did a r s res hprog hpend hdone hx, other _ _ _ _ (fun _ => Sr.res_ok N hx)⟩
      | true =>
        rw [if_neg (by simp)]
        cases hfail : (m.who w).failed with
        | true =>
          rw [if_neg (by simp)]
          exact ⟨out, op, .same (.inr ⟨hpend, hdone, hfail⟩), h⟩
        | false =>
          rw [if_pos rfl]
          have e1 : (ThreadsProcess.mk r false (m.who w).call true false (m.who w).res) = ansP (m.who w) := by unfold ansP; rw [hprog, hdone, hfail]; rfl
          rw [e1]
          refine ⟨_, _, .ans a r i hprog hpend hdone hfail q2 q3, ?_⟩
          have W := h.rn.wf
          obtain ⟨_, _, hpw⟩ := W.pen w (by omega)
          obtain ⟨wwho, wto⟩ := hpw i q4
          have hres := q6 hdone hfail
          have R := rn_push h.rn (v := ⟨w, a.thing, 0, (m.who w).res⟩) (out' := out.set i (endC (out.getD i Call.z) (m.who w).res m.events.length)) (op' := setA 8 0 op (w : Int) 0)
            ⟨by simp only; omega, hth, .inr ⟨rfl, i, by simp only [Int.toNat_natCast]; exact q4, q3, q5.1, by rw [q5.2.1]; exact hres, rfl, rfl⟩⟩
          have hgo : ∀ v, v < 8 → (setA 8 0 op (w : Int) 0).getD v 0 = if v = w then 0 else op.getD v 0 := fun v hv => by rw [setA_get hv, Int.toNat_natCast]
          have hwho : ∀ v, (M.who ⟨m.states, m.people.set w (ansP (m.who w)), m.events ++ [⟨w, a.thing, 0, (m.who w).res⟩], m.steps, m.calls⟩ v) = if v = w then ansP (m.who w) else m.who v := fun v => who_set hw'
          have hset : ∀ j, (out.set i (endC (out.getD i Call.z) (m.who w).res m.events.length)).getD j Call.z = if j = i then endC (out.getD i Call.z) (m.who w).res m.events.length else out.getD j Call.z := fun j => getD_set2 q3
          refine ⟨R, by simpa using h.cl, by simpa using hpl, fun v hv hc => ?_, fun v hv hc => ?_, fun v hv => ?_, fun j hj => ?_, ?_⟩
          · rw [hgo v hv]
            rw [hwho] at hc
            split
            · rfl
            · rename_i e
              rw [if_neg e] at hc
              exact h.np v hv hc
          · rw [hwho] at hc ⊢
            by_cases e : v = w
            · subst e
              rw [if_pos rfl] at hc
              cases hc
            · rw [if_neg e] at hc ⊢
              obtain ⟨b, q, g1, j, g2, g3, g4, g5, g6⟩ := h.pe v hv hc
              refine ⟨b, q, g1, j, g2, by simpa using g3, ?_, ?_, g6⟩
              · rw [hgo v (by omega), if_neg e, g4]
              · rw [hset]
                split
                · rename_i e2
                  subst e2
                  have := (W.pen v (by omega)).2.2 j g4
                  rw [wwho] at this
                  exact absurd this.1 (by omega)
                · exact g5
          · rw [hwho, cnt_set (c := endC (out.getD i Call.z) (m.who w).res m.events.length) q3 rfl]
            by_cases e : v = w
            · subst e
              rw [if_pos rfl]
              refine ⟨d + 1, ?_, ?_, ?_⟩
              · show (m.who v).program.drop 1 = _
                rw [hd1, List.drop_drop]
              · have : ((P0.getD v []).drop d).length = (a :: r).length := by rw [← hd1, hprog]
                simp at this; simp; omega
              · rw [hd3, hpend]; simp [ansP]
            · rw [if_neg e]
              exact h.pr v hv
          · have hj' : j < out.length := by simpa using hj
            obtain ⟨v, b, g1, g2, g3, g4⟩ := h.ord_ j hj'
            have hct : cnt ((out.set i (endC (out.getD i Call.z) (m.who w).res m.events.length)).take j) v = cnt (out.take j) v := by
              rcases Nat.lt_or_ge i j with hij | hij
              · rw [List.take_set]
                have e0 : (out.take j).getD i Call.z = out.getD i Call.z := by
                  rw [getD_of (by simp; omega), getD_of q3]; simp
                exact cnt_set (by simp; omega) (by rw [e0]; rfl) v
              · rw [take_set_ge hij]
            rw [hset]
            split
            · rename_i e2
              subst e2
              exact ⟨v, b, g1, g2, by rw [hct]; exact g3, g4⟩
            · exact ⟨v, b, g1, g2, by rw [hct]; exact g3, g4⟩
          · have hs := sum_people rem hw' (ansP (m.who w))
            have h1 : rem (ansP (m.who w)) = r.length := by unfold rem ansP; rw [hprog]; simp
            have h2 : rem (m.who w) = r.length := by unfold rem; rw [hprog, hpend]; simp
            have := h.sum
            show ((m.people.set w _).map rem).sum + _ = _
            simp only [List.length_set]
            omega
theorem h0 {N : Nat} {types : List Int} {P0 : List (List Ask)} : H N types P0 (m0 types P0) [] [] := by
  have hw : ∀ w, (m0 types P0).who w = ⟨P0.getD w [], false, 0, false, false, 0⟩ := by
    intro w
    unfold M.who m0
    simp only [List.getD_eq_getElem?_getD, List.getElem?_map]
    cases P0[w]? <;> rfl
  refine ⟨.zero, rfl, by simp [m0], fun w _ _ => by simp, fun w _ h => (by rw [hw] at h; cases h), fun w _ => ⟨0, by rw [hw]; simp, Nat.zero_le _, by rw [hw]; simp [cnt]⟩, fun i hi => absurd hi (Nat.not_lt_zero _), ?_⟩
  unfold tot m0
  simp only [List.map_map, List.length_nil, Nat.add_zero]
  congr 1
end Th

end Go.Proofs.Yteklmleiiiodfaa
