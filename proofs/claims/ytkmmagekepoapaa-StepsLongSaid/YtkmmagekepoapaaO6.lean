/- StepsLong, plainly. -/
import Derived.Test.YtkmmagekepoapaaO5
import Derived.Test.YtkmmagekepoapaaO2
import Derived.Test.YtkmmagekepoapaaP13
import Derived.Test.YtkmmagekepoapaaG5
set_option linter.unusedVariables false
set_option linter.unusedSimpArgs false
set_option linter.unusedSectionVars false
set_option maxRecDepth 100000
namespace Go.Proofs.Ytkmmagekepoapaa
open Go.RowKit
namespace Sp
open Ob Hs Sr
section
variable {N : Nat} {algo : Int} {P0 : List (List Ask)} {m : M} {w k : Nat} {out : List Call} {op : List Int} {steps : List Step}
/-- Turns that somebody still owes, and one. -/
def cr (p : P) : Nat := if p.pending = false then 1 else if p.complete = true then 0 else if p.item = 1 then 2 else 1
theorem cr_le (p : P) : cr p ≤ 2 := by unfold cr; repeat' split
                                       all_goals omega
theorem cr1 {p : P} (h : p.pending = true) (h2 : p.item ≠ 1) : cr p ≤ 1 := by
  unfold cr
  rw [if_neg (by rw [h]; decide), if_neg h2]
  split <;> omega
theorem cr2 {p : P} (h : p.pending = true) (h2 : p.complete = false) : 1 ≤ cr p := by
  unfold cr
  rw [if_neg (by rw [h]; decide), if_neg (by rw [h2]; decide)]
  split <;> omega
theorem few_trn (hP : OkP [tyA algo] P0) (I : Inv algo P0 k m) (h14 : algo = 1 ∨ algo = 4) (hw : w < P0.length) (h : 2 * m.events.length + P0.length ≤ k + (m.people.map cr).sum) : 2 * (trn algo m w).events.length + P0.length ≤ k + 1 + ((trn algo m w).people.map cr).sum := by
  have hw' := I.len hw
  have s := fun q => sum_people cr hw' q
  unfold trn
  split
  · rename_i h1
    have e1 : cr (m.who w) = 1 := by unfold cr; rw [if_pos h1]
    split
    · omega
    · have := s (beg (m.who w) m.nodes.length)
      have e2 : cr (beg (m.who w) m.nodes.length) = 2 := rfl
      show 2 * (m.events ++ [_]).length + P0.length ≤ k + 1 + ((m.people.set w (beg (m.who w) m.nodes.length)).map cr).sum
      simp only [List.length_append, List.length_singleton]
      omega
  · rename_i h1
    have hp : (m.who w).pending = true := by simpa using h1
    split
    · rename_i h2
      have e1 : cr (m.who w) = 0 := by unfold cr; rw [if_neg h1, if_pos h2]
      have := s (ans (m.who w))
      have e2 : cr (ans (m.who w)) = 1 := rfl
      show 2 * (m.events ++ [_]).length + P0.length ≤ k + 1 + ((m.people.set w (ans (m.who w))).map cr).sum
      simp only [List.length_append, List.length_singleton]
      omega
    · rename_i h2
      have hc : (m.who w).complete = false := by simpa using h2
      have hkd : m.kind w = 10 ∨ m.kind w = 3 ∨ m.kind w = 4 := by
        rcases h14 with e | e
        · exact .inl (kd5 hP I.a hw (I.ne hw hp) (.inl e))
        · rcases kd2 hP I.a hw (I.ne hw hp) e with g | g
          · exact .inr (.inl g.1)
          · exact .inr (.inr g)
      rw [stepS_events]
      have key : ∀ q, cr (m.who w) ≤ cr q + 1 → 2 * m.events.length + P0.length ≤ k + 1 + ((m.people.set w q).map cr).sum := fun q hq => by
        have := s q
        omega
      have k1 : ∀ q : P, q.pending = (m.who w).pending → q.complete = (m.who w).complete → cr (m.who w) ≤ cr q + 1 := fun q g1 g2 => by
        have := cr2 (g1.trans hp) (g2.trans hc)
        have := cr_le (m.who w)
        omega
      have k2 : ∀ q, (m.who w).item ≠ 1 → cr (m.who w) ≤ cr q + 1 := fun q g => by
        have := cr1 hp g
        omega
      unfold stepS
      rcases hkd with g | g | g
      · rw [if_pos g]
        unfold counterS
        split
        · exact key _ (k1 _ rfl rfl)
        · rename_i g2
          split
          · exact key _ (k2 _ g2)
          · exact key _ (k2 _ g2)
      · rw [if_neg (by omega), if_neg (by omega), if_neg (by omega), if_pos g]
        unfold enqS
        split
        · exact key _ (k1 _ rfl rfl)
        · rename_i g2
          repeat' split
          all_goals exact key _ (k2 _ g2)
      · rw [if_neg (by omega), if_neg (by omega), if_neg (by omega), if_neg (by omega)]
        unfold deqS
        split
        · exact key _ (k1 _ rfl rfl)
        · rename_i g2
          repeat' split
          all_goals exact key _ (k2 _ g2)
theorem few_run (hP : OkP [tyA algo] P0) (h14 : algo = 1 ∨ algo = 4) : ∀ {turns : List Int} {k : Nat} {m : M}, Inv algo P0 k m → (∀ t ∈ turns, 0 ≤ t ∧ t < P0.length) → 2 * m.events.length + P0.length ≤ k + (m.people.map cr).sum → 2 * (runM algo m turns).events.length + P0.length ≤ k + turns.length + ((runM algo m turns).people.map cr).sum
  | [], _, _, _, _, h => h
  | t :: turns, k, m, I, ht, h => by
    have hw : t.toNat < P0.length := by have := ht t (.head _); omega
    have := few_run hP h14 (turns := turns) (I.trn hP hw) (fun x hx => ht x (.tail _ hx)) (few_trn hP I h14 hw h)
    show 2 * (runM algo (trn algo m t.toNat) turns).events.length + P0.length ≤ k + (turns.length + 1) + ((runM algo (trn algo m t.toNat) turns).people.map cr).sum
    omega
theorem cr_sum : ∀ l : List P, (l.map cr).sum ≤ 2 * l.length
  | [] => Nat.le_refl _
  | p :: l => by
    have := cr_le p
    have := cr_sum l
    simp only [List.map_cons, List.sum_cons, List.length_cons]
    omega
theorem cr0 : P0.length ≤ ((m0 P0).people.map cr).sum := by
  have : ∀ l : List (List Ask), ((l.map fun l => (⟨l, false, false, 0, 0, 0, -1, -1, -1, -1⟩ : P)).map cr).sum = l.length := by
    intro l
    induction l with
    | nil => rfl
    | cons a l ih => simp only [List.map_cons, List.sum_cons, List.length_cons, ih]; rw [show cr _ = 1 from rfl]; omega
  exact Nat.le_of_eq (this P0).symm
theorem few (hP : OkP [tyA algo] P0) (h14 : algo = 1 ∨ algo = 4) {turns : List Int} (hT : turns.length ≤ 300 ∧ ∀ t ∈ turns, 0 ≤ t ∧ t < P0.length) : (runM algo (m0 P0) turns).events.length ≤ 200 := by
  have h1 := few_run hP h14 (inv0 (algo := algo)) hT.2 (by have := cr0 (P0 := P0); show 2 * 0 + _ ≤ _; omega)
  have h2 := cr_sum (runM algo (m0 P0) turns).people
  rw [(run_ok hP (inv0 (algo := algo)) hT.2).b.pl] at h2
  have h8 := hP.few
  omega
/-- A ticket's numbers. -/
theorem sq5 : ∀ {steps : List Step} {v : Int} {st : List Int}, (∀ s ∈ steps, (out.getD s.call.toNat Call.z).thing = 0) → Sp.sq 5 [v] (objl out 0 steps) = some st → ∀ i, i < steps.length → (steps.getD i Step.z).res = v + i
  | [], _, _, _, _, i, h => absurd h (Nat.not_lt_zero _)
  | s :: t, v, st, hth, h, i, hi => by
    have h0 := hth s (.head _)
    simp only [objl] at h
    rw [if_pos (by rw [h0]; rfl)] at h
    simp only [Sp.sq] at h
    have e : ∀ k a, ust 5 [v] k a = ([v + 1], v) := fun k a => rfl
    rw [e] at h
    split at h
    · rename_i hr
      cases i with
      | zero => show s.res = v + (0 : Nat); simp only at hr; omega
      | succ i =>
        have := sq5 (fun s hs => hth s (.tail _ hs)) h i (by simpa using hi)
        show (t.getD i Step.z).res = _
        rw [this]; omega
    · cases h
theorem good_run (hP : OkP [5] P0) (h : H N 5 P0 m out op) (hin : ∀ i, i < out.length → (out.getD i Call.z).thing = 0) {st : List Int} (l : L 5 P0.length m out op steps st) : Tk.Good out := by
  have hac := ac_res l.ac
  refine Tk.good_of (Tk.okl h.rn) l.ac (fun i hi => ?_) fun i hi ht => by simpa using l.cm i hi ht
  have := sq5 (v := 0) (fun s hs => hin _ (hac s hs).1.2) l.sq i hi
  omega
/-- A queue's row. -/
theorem qr_sq (C : Rw.Cls out) (Qc : Rw.Q out) (hth : ∀ i, i < out.length → (out.getD i Call.z).thing = 0) : ∀ {steps : List Step} {s : List Int} {w : List Nat} {st : List Int}, Ac out (bfA out) w steps → Sp.sq 2 s (objl out 0 steps) = some st → Rw.Qr out s w (nums steps)
  | [], _, _, _, _, _ => trivial
  | x :: t, s, w, st, ⟨i, g1, g2, g3, g4, g5, g6⟩, h => by
    have e1 : x.call.toNat = i := by omega
    have e : nums (x :: t) = i :: nums t := by unfold nums; rw [List.map_cons, e1]
    rw [e]
    simp only [objl] at h
    rw [e1, if_pos (by rw [hth i g2]; rfl)] at h
    simp only [Sp.sq] at h
    split at h
    · rename_i hr
      have ih := qr_sq C Qc hth g6 h
      refine ⟨g2, g3, g4, ?_⟩
      rcases Qc.kd i g2 with k | k
      · have eu : ust 2 s (out.getD i Call.z).kind (out.getD i Call.z).arg = (s ++ [(out.getD i Call.z).arg], 0) := by unfold ust; rw [if_neg (by decide), if_pos rfl, if_pos k]
        rw [eu] at ih
        exact .inl ⟨k, ih⟩
      · have hres := g5 (C.dn i g2 k)
        cases s with
        | nil =>
          have eu : ust 2 [] (out.getD i Call.z).kind (out.getD i Call.z).arg = ([], -1) := by unfold ust; rw [if_neg (by decide), if_pos rfl, if_neg (by omega), if_pos rfl]
          rw [eu] at ih hr
          exact .inr (.inl ⟨k, rfl, by simp only at hr; omega, ih⟩)
        | cons a s =>
          have eu : ust 2 (a :: s) (out.getD i Call.z).kind (out.getD i Call.z).arg = (s, a) := by unfold ust; rw [if_neg (by decide), if_pos rfl, if_neg (by omega), if_neg (by simp)]; rfl
          rw [eu] at ih hr
          refine .inr (.inr ⟨k, s, ?_, ih⟩)
          simp only at hr
          rw [hr, hres]
    · cases h
theorem things (h : H N algo P0 m out op) : ∀ i, i < out.length → (out.getD i Call.z).thing = 0 := fun i hi => by
  have := (h.rn.wf.one i hi).thing
  rw [List.length_singleton] at this
  omega
theorem play_of (hN : 5000 < N) (hl : ∀ l ∈ P0, l.length < N ∧ l.length ≤ 9223372036854775807) (turns : List Int) (h14 : algo = 1 ∨ algo = 4) : Wp (steps_Play N algo P0 turns) fun r => r.2.2 ≠ 0 ∨ (OkP [tyA algo] P0 ∧ history_Types N [tyA algo] = some 0 ∧ r.2.2 = 0 ∧ r.1.length ≤ 200 ∧ ∃ m out op steps st, r.1 = m.events ∧ H N (tyA algo) P0 m out op ∧ L (tyA algo) P0.length m out op steps st) := by
  refine (play_wp hN hl turns).mono fun r hr => ?_
  rcases hr with ⟨h, _⟩ | ⟨hP, hck, hT, rfl⟩
  · exact .inl h
  · obtain ⟨out, op, h, lx⟩ := lrun (N := N) hP inv0 Sp.h0 lin0 hT.2 (by omega)
    obtain ⟨steps, st, l⟩ := lin_ex hP (by omega) lx
    exact .inr ⟨hP, types_ok hck, rfl, few hP h14 hT, _, out, op, steps, st, rfl, h, l⟩
theorem longLaw (hN : 5000 < N) (hL : alibkeep_stepsLives N = some true) (P0 : List (List Ask)) (turns : List Int) (hl : ∀ l ∈ P0, l.length < N ∧ l.length ≤ 9223372036854775807) : alibkeep_StepsLong N P0 turns = some true := by
  refine Wp.eq ?_
  unfold alibkeep_StepsLong
  refine .seq (play_of hN hl turns (.inl rfl)) fun r _ hr => ?_
  refine .elim (P := fun t => match t with | .inl _ => True | .inr _ => False) (.cond (fun h0 => ?_) fun _ => .one trivial) (fun _ _ _ => ?_) (fun _ _ h => h.elim)
  · obtain ⟨hP, ht, _, h200, m, out, op, steps, st, e, h, l⟩ : OkP [tyA 1] P0 ∧ history_Types N [tyA 1] = some 0 ∧ r.2.2 = 0 ∧ r.1.length ≤ 200 ∧ ∃ m out op steps st, r.1 = m.events ∧ H N (tyA 1) P0 m out op ∧ L (tyA 1) P0.length m out op steps st := by
      rcases hr with h | h
      · exact (h (of_decide_eq_true h0)).elim
      · exact h
    have ht : history_Types N [5] = some 0 := ht
    have h : H N 5 P0 m out op := h
    rw [e] at h200 ⊢
    refine .seq (Tk.check_ok hN h200 (calls_of (by omega) ht h200 h.rn) h.rn) fun q _ ⟨q1, q2⟩ => .condF ?_ (.one trivial)
    rw [q1, q2.2 (good_run hP h (things h) l)]
    rfl
  refine .seq (play_of hN hl turns (.inr rfl)) fun q _ hq => .bdO hL (.cond (fun _ => .bdO hL (.one rfl)) fun hc => ?_)
  simp only [Bool.or_eq_false_iff, Bool.not_eq_false', decide_eq_true_eq, Bool.not_true] at hc
  obtain ⟨hP, ht, _, h200, m, out, op, steps, st, e, h, l⟩ : OkP [tyA 4] P0 ∧ history_Types N [tyA 4] = some 0 ∧ q.2.2 = 0 ∧ q.1.length ≤ 200 ∧ ∃ m out op steps st, q.1 = m.events ∧ H N (tyA 4) P0 m out op ∧ L (tyA 4) P0.length m out op steps st := by
    rcases hq with h | h
    · exact (h hc.2).elim
    · exact h
  have ht : history_Types N [2] = some 0 := ht
  have h : H N 2 P0 m out op := h
  have l : L 2 P0.length m out op steps st := l
  rw [e] at h200 ⊢
  refine .seq (Rw.check_rn (by omega) ht h200 h.rn) fun z _ hz => .one ?_
  rcases hz with ⟨_, rfl⟩ | ⟨C, R⟩
  · rfl
  have Qc := Rw.q_of h200 h.rn
  obtain ⟨n1, n2, n3, n4, n5⟩ := Rw.none_of C Qc (qr_sq C Qc (things h) l.ac l.sq) l.cm
  rcases R with ⟨rfl, _⟩ | ⟨i, b, _, g⟩ | ⟨i, b, _, g, _⟩ | ⟨i, b, _, g, _⟩ | ⟨a, b, _, g, _⟩ | ⟨i, b, _, g, _⟩
  · rfl
  · exact (n1 ⟨i, g⟩).elim
  · exact (n2 ⟨i, g⟩).elim
  · exact (n3 ⟨i, g⟩).elim
  · exact (n4 ⟨a, b, g⟩).elim
  · exact (n5 ⟨i, g⟩).elim
end
end Sp

end Go.Proofs.Ytkmmagekepoapaa
