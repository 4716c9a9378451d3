/- What is read of the events. -/
import Derived.Test.YtkmmagekepoapaaP7
import Derived.Test.YtkmmagekepoapaaL7
set_option linter.unusedVariables false
set_option linter.unusedSimpArgs false
set_option linter.unusedSectionVars false
set_option maxRecDepth 100000
namespace Go.Proofs.Ytkmmagekepoapaa
open Go.RowKit
namespace Sp
open Ob Hs
theorem rn_ext {N : Nat} {types : List Int} {l e : List Event} {k : Nat} {out : List Call} {op : List Int} (R : Rn N types l k out op) : k ≤ l.length → Rn N types (l ++ e) k out op := by
  induction R with
  | zero => exact fun _ => .zero
  | @succ k out out' op op' R hk S ih =>
    intro h
    refine .succ (ih (by omega)) (by rw [List.length_append]; omega) ?_
    have e1 : (l ++ e).getD k Event.z = l.getD k Event.z := by
      rw [getD_of hk, getD_of (by rw [List.length_append]; omega), List.getElem_append_left hk]
    rw [e1]; exact S
theorem rn_push {N : Nat} {types : List Int} {l : List Event} {v : Event} {out out' : List Call} {op op' : List Int} (R : Rn N types l l.length out op) (S : StpX N types out op (l.length : Int) v out' op') : Rn N types (l ++ [v]) (l ++ [v]).length out' op' := by
  have e : (l ++ [v]).length = l.length + 1 := by simp
  rw [e]
  refine .succ (rn_ext R (Nat.le_refl _)) (by rw [e]; omega) ?_
  have e1 : (l ++ [v]).getD l.length Event.z = v := by rw [getD_of (by rw [e]; omega)]; simp
  rw [e1]; exact S
theorem sum_set : ∀ {l : List Nat} {i : Nat} {a : Nat} (h : i < l.length), (l.set i a).sum + l[i] = l.sum + a
  | [], _, _, h => absurd h (Nat.not_lt_zero _)
  | x :: l, 0, a, _ => by simp; omega
  | x :: l, i + 1, a, h => by
    have := sum_set (l := l) (i := i) (a := a) (by simpa using h)
    simp only [List.set_cons_succ, List.sum_cons, List.getElem_cons_succ]
    omega
theorem arg_ok {N : Nat} {t k n : Int} (h : Asked t k n) : history_Argument N k n = some true := by
  rw [argument_ok, argd, decide_eq_true h.2.2]
theorem tyF_tyK (k : Int) : tyF k = tyK k := rfl

theorem res10 {N : Nat} {n : Int} (h : 0 ≤ n ∧ n ≤ 1000) : history_result N 10 n = some true := by
  unfold history_result
  simp [bd_some, h.1, h.2]
theorem res0 {N : Nat} {k : Int} (h : k = 3 ∨ k = 5) : history_result N k 0 = some true := by
  unfold history_result
  rcases h with rfl | rfl <;> simp [bd_some]
theorem resV {N : Nat} {k v : Int} (h : k = 4 ∨ k = 6) (hv : v = -1 ∨ Num v) : history_result N k v = some true := by
  unfold history_result
  unfold Num at hv
  rcases h with rfl | rfl <;> simp [bd_some] <;> omega
section
variable {N : Nat} {algo : Int} {P0 : List (List Ask)} {m m' : M} {w k : Nat} {out out' : List Call} {op op' : List Int}
theorem sum_people (f : P → Nat) (hw : w < m.people.length) (p : P) : ((m.people.set w p).map f).sum + f (m.who w) = (m.people.map f).sum + f p := by
  have := sum_set (l := m.people.map f) (i := w) (a := f p) (by simpa using hw)
  rw [← List.map_set] at this
  have e : (m.people.map f)[w]'(by simpa using hw) = f (m.who w) := by unfold M.who; rw [getD_of hw]; simp
  rw [e] at this
  exact this
/-- So many asks are not called yet. -/
def rem (p : P) : Nat := p.program.length - (if p.pending = true then 1 else 0)
def tot (P0 : List (List Ask)) : Nat := (P0.map List.length).sum
/-- What a turn does to what is read of the events. -/
inductive Mv (algo : Int) (m : M) (w : Nat) (out : List Call) (op : List Int) : List Call → List Int → Prop
  | same (h : trn algo m w = m) : Mv algo m w out op out op
  | call (hn : (m.who w).pending = false) (hne : (m.who w).program ≠ []) (h : trn algo m w = begS m w) : Mv algo m w out op (out ++ [⟨w, 0, m.kind w, argP (m.who w), 0, m.events.length, -1⟩]) (setA 8 0 op w ((out.length : Int) + 1))
  | step (ha : m.act w) (h : trn algo m w = stepS algo m w) : Mv algo m w out op out op
  | ans (i : Nat) (hn : (m.who w).pending = true) (hc : (m.who w).complete = true) (hi : i < out.length) (ho : op.getD w 0 = i + 1) (h : trn algo m w = ansS m w) : Mv algo m w out op (out.set i (endC (out.getD i Call.z) (m.who w).res m.events.length)) (setA 8 0 op w 0)
/-- The machine, and what is read of its events. -/
structure H (N : Nat) (T : Int) (P0 : List (List Ask)) (m : M) (out : List Call) (op : List Int) : Prop where
  rn : Rn N [T] m.events m.events.length out op
  np : ∀ w, w < 8 → (P0.length ≤ w ∨ (m.who w).pending = false) → op.getD w 0 = 0
  pe : ∀ w, w < P0.length → (m.who w).pending = true → ∃ i : Nat, i < out.length ∧ op.getD w 0 = i + 1 ∧ ((out.getD i Call.z).thing = 0 ∧ (out.getD i Call.z).kind = m.kind w ∧ (out.getD i Call.z).arg = argP (m.who w)) ∧ ((m.who w).complete = true → history_result N (m.kind w) (m.who w).res = some true)
  sum : (m.people.map rem).sum + out.length = tot P0
/-- What a step hands back may be. -/
theorem step_res (hP : OkP [tyA algo] P0) (I : Inv algo P0 k m) (hk : k ≤ 1000) (hw : w < P0.length) (ha : m.act w) : ∃ q, (stepS algo m w).people = m.people.set w q ∧ q.program = (m.who w).program ∧ q.pending = true ∧ (q.complete = true → history_result N (m.kind w) q.res = some true) := by
  have hw' := I.len hw
  have hne := I.ne hw ha.1
  have hb := (I.b.pb hw).n
  rcases ty_cases hP with h | h | h | h
  · have hkd := kd5 hP I.a hw hne (.inl h)
    subst h
    have hn := I.b.nn
    cases ticket_step ha hkd with
    | quiet q hp hq _ => exact ⟨q, hp, hq.1, hq.2.1, fun e => by rw [hq.2.2] at e; cases e⟩
    | take hp _ => exact ⟨_, hp, rfl, ha.1, fun _ => by rw [hkd]; exact res10 (by show 0 ≤ m.n ∧ m.n ≤ 1000; omega)⟩
  · have hkd := kd5 hP I.a hw hne (.inr h)
    unfold stepS counterS
    rw [if_pos hkd]
    split
    · exact ⟨_, rfl, rfl, ha.1, fun e => by have : (m.who w).complete = true := e; rw [ha.2] at this; cases this⟩
    · rw [if_pos (.inl h)]
      exact ⟨_, rfl, rfl, ha.1, fun _ => by rw [hkd]; exact res10 (by show 0 ≤ (m.who w).n ∧ (m.who w).n ≤ 1000; omega)⟩
  · obtain ⟨cs, hS⟩ := I.x.1 h
    obtain ⟨cs', n3, _, _⟩ := stack_step (algo := algo) hS hw' ha (kd3 hP I.a hw hne h)
    cases n3 with
    | quiet q hp hq => exact ⟨q, hp, hq.1, hq.2.1, fun e => by rw [hq.2.2] at e; cases e⟩
    | push hk5 _ hp => exact ⟨_, hp, rfl, ha.1, fun _ => res0 (.inr hk5)⟩
    | pop c cs' hcs hk6 hp => exact ⟨_, hp, rfl, ha.1, fun _ => resV (.inr hk6) (.inr (hS.va c (by rw [hcs]; exact .head _)))⟩
    | empty hcs hk6 hp => exact ⟨_, hp, rfl, ha.1, fun _ => resV (.inr hk6) (.inl rfl)⟩
  · obtain ⟨qs, hh, t, hQ⟩ := I.x.2 h
    obtain ⟨qs', h', t', n4, _⟩ := queue_step (algo := algo) hQ hw' ha (kd2 hP I.a hw hne h)
    cases n4 with
    | quiet t' q hp hq _ _ => exact ⟨q, hp, hq.1, hq.2.1, fun e => by rw [hq.2.2] at e; cases e⟩
    | link hk3 hi hp => exact ⟨_, hp, rfl, ha.1, fun e => by have : (m.who w).complete = true := e; rw [ha.2] at this; cases this⟩
    | done t' hk3 hi hp => exact ⟨_, hp, rfl, ha.1, fun _ => res0 (.inl hk3)⟩
    | take hk4 hi hl hp => exact ⟨_, hp, rfl, ha.1, fun _ => resV (.inl hk4) (.inr (hQ.va _ (by omega) hl))⟩
    | empty hk4 hi hx hy hp => exact ⟨_, hp, rfl, ha.1, fun _ => resV (.inl hk4) (.inl rfl)⟩
theorem turn_mv (hP : OkP [tyA algo] P0) (I : Inv algo P0 k m) (hk : k ≤ 1000) (h : H N (tyA algo) P0 m out op) (hw : w < P0.length) : ∃ out' op', Mv algo m w out op out' op' ∧ H N (tyA algo) P0 (trn algo m w) out' op' := by
  have hw' := I.len hw
  have hpl := I.b.pl
  have h8 := hP.few
  cases hp : (m.who w).pending with
  | false =>
    by_cases hne : (m.who w).program = []
    · have e : trn algo m w = m := by unfold trn; rw [if_pos hp, if_pos hne]
      exact ⟨out, op, .same e, by rw [e]; exact h⟩
    · have e : trn algo m w = begS m w := by unfold trn; rw [if_pos hp, if_neg hne]
      refine ⟨_, _, .call hp hne e, ?_⟩
      rw [e]
      have hask := kd hP I.a hw hne
      have hop := h.np w (by omega) (.inr hp)
      have R := rn_push h.rn (v := ⟨w, 0, m.kind w, argP (m.who w)⟩) (out' := out ++ [⟨w, 0, m.kind w, argP (m.who w), 0, m.events.length, -1⟩]) (op' := setA 8 0 op (w : Int) ((out.length : Int) + 1))
        ⟨by simp only; omega, by simp, .inl ⟨askd_ne hask, ⟨hask.1, hask.2.1⟩, arg_ok hask, by simp only [Int.toNat_natCast]; omega, rfl, rfl⟩⟩
      have hgo : ∀ v, v < 8 → (setA 8 0 op (w : Int) ((out.length : Int) + 1)).getD v 0 = if v = w then (out.length : Int) + 1 else op.getD v 0 := fun v hv => by rw [setA_get hv, Int.toNat_natCast]
      have hwho : ∀ v, (begS m w).who v = if v = w then beg (m.who w) m.nodes.length else m.who v := fun v => who_set hw'
      refine ⟨R, fun v hv hc => ?_, fun v hv hc => ?_, ?_⟩
      · rw [hgo v hv]
        rw [hwho] at hc
        split
        · rename_i e
          subst e
          rw [if_pos rfl] at hc
          rcases hc with hc | hc
          · omega
          · cases hc
        · rename_i e
          rw [if_neg e] at hc
          exact h.np v hv hc
      · rw [hwho] at hc
        rw [kind_who (begS m w) v, hwho]
        by_cases e : v = w
        · subst e
          rw [if_pos rfl]
          refine ⟨out.length, by simp, ?_, ?_, fun e => by cases e⟩
          · rw [hgo v (by omega), if_pos rfl]
          · rw [getD_app, if_neg (by omega), if_pos rfl]
            exact ⟨rfl, rfl, rfl⟩
        · rw [if_neg e] at hc ⊢
          obtain ⟨i, g3, g4, g5, g6⟩ := h.pe v hv hc
          refine ⟨i, by simp; omega, ?_, ?_, g6⟩
          · rw [hgo v (by omega), if_neg e, g4]
          · rw [getD_app, if_pos g3]; exact g5
      · have hs := sum_people rem hw' (beg (m.who w) m.nodes.length)
        have hl : 0 < (m.who w).program.length := by
          cases hh : (m.who w).program with
          | nil => exact (hne hh).elim
          | cons a r => simp
        have h1 : rem (m.who w) = (m.who w).program.length := by unfold rem; rw [hp]; simp
        have h2 : rem (beg (m.who w) m.nodes.length) = (m.who w).program.length - 1 := by unfold rem beg; simp
        have := h.sum
        show ((m.people.set w _).map rem).sum + _ = _
        simp only [List.length_append, List.length_singleton]
        omega
  | true =>
    have hne := I.ne hw hp
    cases hc : (m.who w).complete with
    | false =>
      have e : trn algo m w = stepS algo m w := trn_act ⟨hp, hc⟩
      refine ⟨out, op, .step ⟨hp, hc⟩ e, ?_⟩
      rw [e]
      obtain ⟨q, hq, q1, q2, q3⟩ := step_res (N := N) hP I hk hw ⟨hp, hc⟩
      have hwho := who_of (m := m) (m' := stepS algo m w) hw' hq
      refine ⟨by rw [stepS_events]; exact h.rn, fun v hv hx => ?_, fun v hv hx => ?_, ?_⟩
      · rw [hwho] at hx
        by_cases e : v = w
        · subst e
          rw [if_pos rfl, q2] at hx
          rcases hx with hx | hx
          · omega
          · cases hx
        · rw [if_neg e] at hx
          exact h.np v hv hx
      · rw [hwho] at hx
        rw [kind_who (stepS algo m w) v, hwho]
        by_cases e : v = w
        · subst e
          rw [if_pos rfl]
          obtain ⟨i, g3, g4, g5, _⟩ := h.pe v hv hp
          have hkq : kindP q = m.kind v := by unfold kindP M.kind; rw [q1]
          have haq : argP q = argP (m.who v) := by unfold argP; rw [q1]
          rw [hkq, haq]
          exact ⟨i, g3, g4, g5, q3⟩
        · rw [if_neg e] at hx ⊢
          exact h.pe v hv hx
      · rw [hq]
        have hs := sum_people rem hw' q
        have h1 : rem q = rem (m.who w) := by unfold rem; rw [q1, q2, hp]
        have := h.sum
        omega
    | true =>
      have e : trn algo m w = ansS m w := by unfold trn; rw [if_neg (by simp [hp]), if_pos hc]
      obtain ⟨i, q3, q4, q5, q6⟩ := h.pe w hw hp
      refine ⟨_, _, .ans i hp hc q3 q4 e, ?_⟩
      rw [e]
      have W := h.rn.wf
      have wwho := ((W.pen w (by omega)).2.2 i q4).1
      have R := rn_push h.rn (v := ⟨w, 0, 0, (m.who w).res⟩) (out' := out.set i (endC (out.getD i Call.z) (m.who w).res m.events.length)) (op' := setA 8 0 op (w : Int) 0)
        ⟨by simp only; omega, by simp, .inr ⟨rfl, i, by simp only [Int.toNat_natCast]; exact q4, q3, q5.1, by rw [q5.2.1]; exact q6 hc, rfl, rfl⟩⟩
      have hgo : ∀ v, v < 8 → (setA 8 0 op (w : Int) 0).getD v 0 = if v = w then 0 else op.getD v 0 := fun v hv => by rw [setA_get hv, Int.toNat_natCast]
      have hwho : ∀ v, (ansS m w).who v = if v = w then ans (m.who w) else m.who v := fun v => who_set hw'
      have hset : ∀ j, (out.set i (endC (out.getD i Call.z) (m.who w).res m.events.length)).getD j Call.z = if j = i then endC (out.getD i Call.z) (m.who w).res m.events.length else out.getD j Call.z := fun j => getD_set2 q3
      refine ⟨R, fun v hv hx => ?_, fun v hv hx => ?_, ?_⟩
      · rw [hgo v hv]
        rw [hwho] at hx
        split
        · rfl
        · rename_i e
          rw [if_neg e] at hx
          exact h.np v hv hx
      · rw [hwho] at hx
        rw [kind_who (ansS m w) v, hwho]
        by_cases e : v = w
        · subst e
          rw [if_pos rfl] at hx
          cases hx
        · rw [if_neg e] at hx ⊢
          obtain ⟨j, g3, g4, g5, g6⟩ := h.pe v hv hx
          refine ⟨j, by simpa using g3, ?_, ?_, g6⟩
          · rw [hgo v (by omega), if_neg e, g4]
          · rw [hset]
            split
            · rename_i e2
              subst e2
              have := (W.pen v (by omega)).2.2 j g4
              rw [wwho] at this
              exact absurd this.1 (by omega)
            · exact g5
      · have hs := sum_people rem hw' (ans (m.who w))
        have hl : 0 < (m.who w).program.length := by
          cases hh : (m.who w).program with
          | nil => exact (hne hh).elim
          | cons a r => simp
        have h1 : rem (ans (m.who w)) = (m.who w).program.length - 1 := by unfold rem ans; simp
        have h2 : rem (m.who w) = (m.who w).program.length - 1 := by unfold rem; rw [hp]; simp
        have := h.sum
        show ((m.people.set w _).map rem).sum + _ = _
        simp only [List.length_set]
        omega
theorem h0 : H N (tyA algo) P0 (m0 P0) [] [] := by
  refine ⟨.zero, fun w _ _ => by simp, fun w _ h => (by rw [m0_pend] at h; cases h), ?_⟩
  unfold tot m0
  simp only [List.map_map, List.length_nil, Nat.add_zero]
  congr 1
theorem hrun (hP : OkP [tyA algo] P0) : ∀ {turns : List Int} {k : Nat} {m : M} {out : List Call} {op : List Int}, Inv algo P0 k m → H N (tyA algo) P0 m out op → (∀ t ∈ turns, 0 ≤ t ∧ t < P0.length) → k + turns.length ≤ 1000 → ∃ out' op', H N (tyA algo) P0 (runM algo m turns) out' op'
  | [], _, m, out, op, _, h, _, _ => ⟨out, op, h⟩
  | t :: turns, k, m, out, op, I, h, ht, hk => by
    have hw : t.toNat < P0.length := by have := ht t (.head _); omega
    have hk' : k + (turns.length + 1) ≤ 1000 := hk
    obtain ⟨out', op', _, h'⟩ := turn_mv hP I (by omega) h hw
    exact hrun hP (turns := turns) (I.trn hP hw) h' (fun x hx => ht x (.tail _ hx)) (by omega)
theorem ev_len (h : H N (tyA algo) P0 m out op) : out.length ≤ tot P0 ∧ m.events.length ≤ 2 * out.length := by
  have h1 := h.sum
  have h2 := h.rn.wf.cnt
  have h3 := List.countP_le_length (p := fun c : Call => !decide (c.to_ = -1)) (l := out)
  omega
end
end Sp

end Go.Proofs.Ytkmmagekepoapaa
