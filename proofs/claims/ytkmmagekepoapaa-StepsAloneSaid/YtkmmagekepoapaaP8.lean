/- StepsAlone, plainly. -/
import Derived.Test.YtkmmagekepoapaaP7
import Derived.Test.YtkmmagekepoapaaA3
set_option linter.unusedVariables false
set_option linter.unusedSimpArgs false
set_option linter.unusedSectionVars false
set_option maxRecDepth 100000
namespace Go.Proofs.Ytkmmagekepoapaa
open Go.RowKit
namespace Sp
open Ob
section
variable {N : Nat} {algo : Int} {P0 : List (List Ask)} {m m' : M} {w k n : Nat}
/-- In so many turns of its own there is an answer. -/
def Soon (algo : Int) (w : Nat) : Nat → M → Prop
  | 0, _ => False
  | n + 1, m => ((m.who w).pending = true ∧ (m.who w).complete = true) ∨ Soon algo w n (trn algo m w)
theorem Soon.step (h : trn algo m w = m') (hs : Soon algo w n m') : Soon algo w (n + 1) m := .inr (by rw [h]; exact hs)
theorem Soon.one (h1 : (m.who w).pending = true) (h2 : (m.who w).complete = true) : Soon algo w 1 m := .inl ⟨h1, h2⟩
theorem Soon.succ : ∀ {n : Nat} {m : M}, Soon algo w n m → Soon algo w (n + 1) m
  | 0, _, h => h.elim
  | n + 1, m, h => by
    rcases h with h | h
    · exact .inl h
    · exact .inr (Soon.succ h)
theorem Soon.le {n n' : Nat} (h : Soon algo w n m) (hn : n ≤ n') : Soon algo w n' m := by
  induction n' with
  | zero => obtain rfl : n = 0 := by omega
            exact h
  | succ j ih =>
    rcases Nat.lt_or_ge j n with g | g
    · obtain rfl : n = j + 1 := by omega
      exact h
    · exact (ih g).succ
theorem trn_ev : ∃ e, (trn algo m w).events = m.events ++ e := by
  unfold trn
  split
  · split
    · exact ⟨[], by simp⟩
    · exact ⟨_, rfl⟩
  · split
    · exact ⟨_, rfl⟩
    · exact ⟨[], by rw [stepS_events]; simp⟩
theorem had_mono : had m.events w ≤ had (trn algo m w).events w := by
  obtain ⟨e, he⟩ := trn_ev (algo := algo) (m := m) (w := w)
  rw [he, had_app]; omega
theorem run_had : ∀ (n : Nat) (m : M), had m.events w ≤ had (runM algo m (List.replicate n (w : Int))).events w
  | 0, m => Nat.le_refl _
  | n + 1, m => by
    have h := run_had n (trn algo m w)
    have e : runM algo m (List.replicate (n + 1) (w : Int)) = runM algo (trn algo m w) (List.replicate n (w : Int)) := rfl
    rw [e]
    exact Nat.le_trans had_mono h
theorem Soon.tells : ∀ {n : Nat} {m : M}, Soon algo w n m → had m.events w < had (runM algo m (List.replicate n (w : Int))).events w
  | 0, _, h => h.elim
  | n + 1, m, h => by
    have e : runM algo m (List.replicate (n + 1) (w : Int)) = runM algo (trn algo m w) (List.replicate n (w : Int)) := rfl
    rw [e]
    rcases h with ⟨h1, h2⟩ | h
    · have h3 := run_had (algo := algo) (w := w) n (trn algo m w)
      have h4 : had (trn algo m w).events w = had m.events w + 1 := by
        unfold trn
        rw [if_neg (by simp [h1]), if_pos h2]
        show Sp.had (m.events ++ _) w = _
        rw [had_app]
        simp [Sp.had]
      omega
    · have := Soon.tells h
      have h4 := had_mono (algo := algo) (m := m) (w := w)
      omega
theorem trn_act (ha : m.act w) : trn algo m w = stepS algo m w := by
  unfold trn
  rw [if_neg (by simp [ha.1]), if_neg (by simp [ha.2])]
theorem who_setp {q : P} (hw : w < m.people.length) : (m.setp w q).who w = q := (who_set hw).trans (if_pos rfl)
theorem who_again (hw : w < m.people.length) : (m.again w).who w = at1 (m.who w) := (who_set hw).trans (if_pos rfl)
theorem len_setp {q : P} (hw : w < m.people.length) : w < (m.setp w q).people.length := by show w < (m.people.set w q).length; rw [List.length_set]; exact hw
theorem kind_eq {q : P} (h : m'.who w = q) (hq : q.program = (m.who w).program) : m'.kind w = m.kind w := by unfold M.kind; rw [h, hq]
theorem fin_soon {r : Int} (h : m'.who w = fin (m.who w) r) (hp : (m.who w).pending = true) : Soon algo w 1 m' := .one (by rw [h]; exact hp) (by rw [h]; rfl)
/-! The ticket. -/
theorem take2 (hw : w < m.people.length) (ha : m.act w) (hk : m.kind w = 10) (hi : (m.who w).item ≠ 1) (hn : algo = 2 ∨ m.n = (m.who w).n) : Soon algo w 2 m := by
  refine .step (m' := (m.setp w (fin (m.who w) (m.who w).n)).setN ((m.who w).n + 1)) ?_ (fin_soon (m := m) (who_setp hw) ha.1)
  rw [trn_act ha]; unfold stepS counterS
  rw [if_pos hk, if_neg hi, if_pos hn]
theorem take1 (hw : w < m.people.length) (ha : m.act w) (hk : m.kind w = 10) (hi : (m.who w).item = 1) : Soon algo w 3 m := by
  have h1 := who_setp (q := at2 (m.who w) m.n (m.who w).x (m.who w).y (m.who w).z_) hw
  refine .step (m' := m.setp w (at2 (m.who w) m.n (m.who w).x (m.who w).y (m.who w).z_)) ?_ (take2 (len_setp hw) (by rw [M.act, h1]; exact ha) ((kind_eq h1 rfl).trans hk) (by rw [h1]; show (2 : Int) ≠ 1; decide) (.inr (by rw [h1]; rfl)))
  rw [trn_act ha]; unfold stepS counterS
  rw [if_pos hk, if_pos hi]
theorem take_ (hw : w < m.people.length) (ha : m.act w) (hk : m.kind w = 10) : Soon algo w 4 m := by
  by_cases hi : (m.who w).item = 1
  · exact (take1 hw ha hk hi).succ
  · by_cases hn : algo = 2 ∨ m.n = (m.who w).n
    · exact (take2 hw ha hk hi hn).succ.succ
    · have h1 := who_again hw
      refine .step (m' := m.again w) ?_ (take1 (len_setp hw) (by rw [M.act, h1]; exact ha) ((kind_eq h1 rfl).trans hk) (by rw [h1]; rfl))
      rw [trn_act ha]; unfold stepS counterS
      rw [if_pos hk, if_neg hi, if_neg hn]
/-! The stack. -/
theorem push2 (hw : w < m.people.length) (ha : m.act w) (hk : m.kind w = 5) (hi : (m.who w).item ≠ 1) (hn : m.top = (m.who w).x) : Soon algo w 2 m := by
  refine .step (m' := (m.setp w (fin (m.who w) 0)).setTop (m.who w).own) ?_ (fin_soon (m := m) (who_setp hw) ha.1)
  rw [trn_act ha]; unfold stepS pushS
  rw [if_neg (by omega), if_pos hk, if_neg hi, if_pos hn]
theorem push1 (hw : w < m.people.length) (ha : m.act w) (hk : m.kind w = 5) (hi : (m.who w).item = 1) : Soon algo w 3 m := by
  have h1 : ((m.setp w (at2 (m.who w) (m.who w).n m.top (m.who w).y (m.who w).z_)).link (m.who w).own m.top).who w = at2 (m.who w) (m.who w).n m.top (m.who w).y (m.who w).z_ := who_setp hw
  refine .step (m' := (m.setp w (at2 (m.who w) (m.who w).n m.top (m.who w).y (m.who w).z_)).link (m.who w).own m.top) ?_ (push2 (len_setp hw) (by rw [M.act, h1]; exact ha) ((kind_eq h1 rfl).trans hk) (by rw [h1]; show (2 : Int) ≠ 1; decide) (by rw [h1]; rfl))
  rw [trn_act ha]; unfold stepS pushS
  rw [if_neg (by omega), if_pos hk, if_pos hi]
theorem push_ (hw : w < m.people.length) (ha : m.act w) (hk : m.kind w = 5) : Soon algo w 4 m := by
  by_cases hi : (m.who w).item = 1
  · exact (push1 hw ha hk hi).succ
  · by_cases hn : m.top = (m.who w).x
    · exact (push2 hw ha hk hi hn).succ.succ
    · have h1 := who_again hw
      refine .step (m' := m.again w) ?_ (push1 (len_setp hw) (by rw [M.act, h1]; exact ha) ((kind_eq h1 rfl).trans hk) (by rw [h1]; rfl))
      rw [trn_act ha]; unfold stepS pushS
      rw [if_neg (by omega), if_pos hk, if_neg hi, if_neg hn]
theorem pop2 (hw : w < m.people.length) (ha : m.act w) (hk : m.kind w = 6) (hi : (m.who w).item ≠ 1) (hn : m.top = (m.who w).x) : Soon algo w 2 m := by
  refine .step (m' := (m.setp w (fin (m.who w) (m.nd (m.who w).x).value)).setTop (m.who w).y) ?_ (fin_soon (m := m) (who_setp hw) ha.1)
  rw [trn_act ha]; unfold stepS popS
  rw [if_neg (by omega), if_neg (by omega), if_pos hk, if_neg (fun e => hi e.1), if_neg hi, if_pos hn]
theorem pop1 (hw : w < m.people.length) (ha : m.act w) (hk : m.kind w = 6) (hi : (m.who w).item = 1) : Soon algo w 3 m := by
  by_cases h0 : m.top < 0
  · refine Soon.succ (.step (m' := m.setp w (fin (m.who w) (-1))) ?_ (fin_soon (m := m) (who_setp hw) ha.1))
    rw [trn_act ha]; unfold stepS popS
    rw [if_neg (by omega), if_neg (by omega), if_pos hk, if_pos ⟨hi, h0⟩]
  · have h1 := who_setp (q := at2 (m.who w) (m.who w).n m.top (m.nd m.top).next (m.who w).z_) hw
    refine .step (m' := m.setp w (at2 (m.who w) (m.who w).n m.top (m.nd m.top).next (m.who w).z_)) ?_ (pop2 (len_setp hw) (by rw [M.act, h1]; exact ha) ((kind_eq h1 rfl).trans hk) (by rw [h1]; show (2 : Int) ≠ 1; decide) (by rw [h1]; rfl))
    rw [trn_act ha]; unfold stepS popS
    rw [if_neg (by omega), if_neg (by omega), if_pos hk, if_neg (fun e => h0 e.2), if_pos hi]
theorem pop_ (hw : w < m.people.length) (ha : m.act w) (hk : m.kind w = 6) : Soon algo w 4 m := by
  by_cases hi : (m.who w).item = 1
  · exact (pop1 hw ha hk hi).succ
  · by_cases hn : m.top = (m.who w).x
    · exact (pop2 hw ha hk hi hn).succ.succ
    · have h1 := who_again hw
      refine .step (m' := m.again w) ?_ (pop1 (len_setp hw) (by rw [M.act, h1]; exact ha) ((kind_eq h1 rfl).trans hk) (by rw [h1]; rfl))
      rw [trn_act ha]; unfold stepS popS
      rw [if_neg (by omega), if_neg (by omega), if_pos hk, if_neg (fun e => hi e.1), if_neg hi, if_neg hn]
/-! The queue. -/
theorem enq_eq' (ha : m.act w) (hk : m.kind w = 3) : trn algo m w = enqS m w := by
  rw [trn_act ha]; unfold stepS
  rw [if_neg (by omega), if_neg (by omega), if_neg (by omega), if_pos hk]
theorem enq3 (hw : w < m.people.length) (ha : m.act w) (hk : m.kind w = 3) (hi : (m.who w).item = 3) : Soon algo w 2 m := by
  have e := enq_eq' (algo := algo) ha hk
  unfold enqS at e
  rw [if_neg (by omega), if_pos hi] at e
  refine .step e ?_
  split
  · exact fin_soon (m := m) (who_setp hw) ha.1
  · exact fin_soon (m := m) (who_setp hw) ha.1
theorem enq2 (hw : w < m.people.length) (ha : m.act w) (hk : m.kind w = 3) (hi : (m.who w).item = 2) (hx : m.tail = (m.who w).x) (hy : (m.who w).y < 0) (hn : (m.nd (m.who w).x).next < 0) : Soon algo w 3 m := by
  have e := enq_eq' (algo := algo) ha hk
  unfold enqS at e
  rw [if_neg (by omega), if_neg (by omega), if_neg (fun h => h hx), if_neg (fun h => h hy), if_pos hn] at e
  have h1 : ((m.setp w (at3 (m.who w))).link (m.who w).x (m.who w).own).who w = at3 (m.who w) := who_setp hw
  exact .step e (enq3 (len_setp hw) (by rw [M.act, h1]; exact ha) ((kind_eq h1 rfl).trans hk) (by rw [h1]; rfl))
theorem enq1n (hw : w < m.people.length) (ha : m.act w) (hk : m.kind w = 3) (hi : (m.who w).item = 1) (hn : (m.nd m.tail).next < 0) : Soon algo w 4 m := by
  have e := enq_eq' (algo := algo) ha hk
  unfold enqS at e
  rw [if_pos hi] at e
  have h1 := who_setp (q := at2 (m.who w) (m.who w).n m.tail (m.nd m.tail).next (m.who w).z_) hw
  exact .step e (enq2 (len_setp hw) (by rw [M.act, h1]; exact ha) ((kind_eq h1 rfl).trans hk) (by rw [h1]; rfl) (by rw [h1]; rfl) (by rw [h1]; exact hn) (by rw [h1]; exact hn))
theorem enq2h (hw : w < m.people.length) (ha : m.act w) (hk : m.kind w = 3) (hi : (m.who w).item = 2) (hx : m.tail = (m.who w).x) (hy : ¬ (m.who w).y < 0) (hn : (m.nd (m.who w).y).next < 0) : Soon algo w 5 m := by
  have e := enq_eq' (algo := algo) ha hk
  unfold enqS at e
  rw [if_neg (by omega), if_neg (by omega), if_neg (fun h => h hx), if_pos hy] at e
  have h1 : ((m.again w).setTail (m.who w).y).who w = at1 (m.who w) := who_again hw
  exact .step e (enq1n (len_setp hw) (by rw [M.act, h1]; exact ha) ((kind_eq h1 rfl).trans hk) (by rw [h1]; rfl) hn)
theorem enq1 (hw : w < m.people.length) (ha : m.act w) (hk : m.kind w = 3) (hi : (m.who w).item = 1) (hn : (m.nd m.tail).next < 0 ∨ (m.nd (m.nd m.tail).next).next < 0) : Soon algo w 6 m := by
  by_cases h0 : (m.nd m.tail).next < 0
  · exact (enq1n hw ha hk hi h0).succ.succ
  · have e := enq_eq' (algo := algo) ha hk
    unfold enqS at e
    rw [if_pos hi] at e
    have h1 := who_setp (q := at2 (m.who w) (m.who w).n m.tail (m.nd m.tail).next (m.who w).z_) hw
    have hl : (m.nd (m.nd m.tail).next).next < 0 := by
      rcases hn with g | g
      · exact (h0 g).elim
      · exact g
    exact .step e (enq2h (len_setp hw) (by rw [M.act, h1]; exact ha) ((kind_eq h1 rfl).trans hk) (by rw [h1]; rfl) (by rw [h1]; rfl) (by rw [h1]; exact h0) (by rw [h1]; exact hl))
theorem enq_ {qs : List Nat} {h t : Nat} (H : Q m qs h t) (hw : w < m.people.length) (ha : m.act w) (hk : m.kind w = 3) : Soon algo w 7 m := by
  have hln := H.ln
  have hlag := H.lag
  have lst : t + 1 < qs.length → (m.nd (at_ qs (t + 1))).next < 0 := fun g => by
    rcases H.next g with ⟨g1, _⟩ | ⟨_, g2⟩
    · omega
    · omega
  have hE : (m.nd m.tail).next < 0 ∨ (m.nd (m.nd m.tail).next).next < 0 := by
    rw [H.tl]
    rcases H.next hln with ⟨g1, g2⟩ | ⟨_, g2⟩
    · exact .inr (by rw [g2]; exact lst g1)
    · exact .inl (by omega)
  have again : trn algo m w = m.again w → Soon algo w 7 m := fun e => by
    have h1 := who_again hw
    exact .step e (enq1 (len_setp hw) (by rw [M.act, h1]; exact ha) ((kind_eq h1 rfl).trans hk) (by rw [h1]; rfl) hE)
  rcases (H.en w hw ha hk).1 with h1 | ⟨h1, i, i1, i2, i3, i4⟩ | ⟨h1, _⟩
  · exact (enq1 hw ha hk h1 hE).succ
  · have e := enq_eq' (algo := algo) ha hk
    unfold enqS at e
    rw [if_neg (by omega), if_neg (by omega)] at e
    by_cases e1 : m.tail = (m.who w).x
    · rw [if_neg (fun g => g e1)] at e
      have hit : t = i := at_inj H.nd hln i2 (by rw [← H.tl, e1]; exact i3)
      subst hit
      by_cases e2 : (m.who w).y < 0
      · rw [if_neg (fun g => g e2)] at e
        by_cases e3 : (m.nd (m.who w).x).next < 0
        · exact (enq2 hw ha hk h1 e1 e2 e3).le (by omega)
        · rw [if_neg e3] at e
          exact again e
      · refine (enq2h hw ha hk h1 e1 e2 ?_).le (by omega)
        rcases i4 with g | ⟨g1, g2⟩
        · omega
        · rw [g2]; exact lst g1
    · rw [if_pos e1] at e
      exact again e
  · exact (enq3 hw ha hk h1).le (by omega)
theorem deq_eq' (ha : m.act w) (hk : m.kind w = 4) : trn algo m w = deqS m w := by
  rw [trn_act ha]; unfold stepS
  rw [if_neg (by omega), if_neg (by omega), if_neg (by omega), if_neg (by omega)]
/-- What was read last tells all. -/
theorem deq2 (hw : w < m.people.length) (ha : m.act w) (hk : m.kind w = 4) (hi : (m.who w).item ≠ 1) (hx : m.head = (m.who w).x) (hn : (m.who w).x ≠ (m.who w).z_ ∨ (m.who w).y < 0) : Soon algo w 2 m := by
  have e := deq_eq' (algo := algo) ha hk
  unfold deqS at e
  rw [if_neg hi, if_neg (fun g => g hx)] at e
  refine .step e ?_
  split
  · exact fin_soon (m := m) (who_setp hw) ha.1
  · rename_i h1
    split
    · rename_i h2
      rcases hn with g | g
      · exact (g h2).elim
      · exact (h1 ⟨h2, g⟩).elim
    · exact fin_soon (m := m) (who_setp hw) ha.1
theorem deq1n (hw : w < m.people.length) (ha : m.act w) (hk : m.kind w = 4) (hi : (m.who w).item = 1) (hn : m.head ≠ m.tail ∨ (m.nd m.head).next < 0) : Soon algo w 3 m := by
  have e := deq_eq' (algo := algo) ha hk
  unfold deqS at e
  rw [if_pos hi] at e
  have h1 := who_setp (q := at2 (m.who w) (m.who w).n m.head (m.nd m.head).next m.tail) hw
  exact .step e (deq2 (len_setp hw) (by rw [M.act, h1]; exact ha) ((kind_eq h1 rfl).trans hk) (by rw [h1]; show (2 : Int) ≠ 1; decide) (by rw [h1]; rfl) (by rw [h1]; exact hn))
theorem deq1 (hw : w < m.people.length) (ha : m.act w) (hk : m.kind w = 4) (hi : (m.who w).item = 1) (hn : (m.nd m.head).next ≠ m.head) : Soon algo w 5 m := by
  by_cases h0 : m.head ≠ m.tail ∨ (m.nd m.head).next < 0
  · exact (deq1n hw ha hk hi h0).succ.succ
  have hht : m.head = m.tail := by
    apply Classical.byContradiction; intro g; exact h0 (.inl g)
  have hy : ¬ (m.nd m.head).next < 0 := fun g => h0 (.inr g)
  have e := deq_eq' (algo := algo) ha hk
  unfold deqS at e
  rw [if_pos hi] at e
  refine .step e ?_
  generalize hm' : m.setp w (at2 (m.who w) (m.who w).n m.head (m.nd m.head).next m.tail) = m'
  have h1 : m'.who w = at2 (m.who w) (m.who w).n m.head (m.nd m.head).next m.tail := by rw [← hm']; exact who_setp hw
  have ha' : m'.act w := by rw [M.act, h1]; exact ha
  have hk' : m'.kind w = 4 := (kind_eq h1 rfl).trans hk
  have hw' : w < m'.people.length := by rw [← hm']; exact len_setp hw
  have q1 : m'.head = m.head := by rw [← hm']; rfl
  have q2 : m'.tail = m.tail := by rw [← hm']; rfl
  have q3 : ∀ z, m'.nd z = m.nd z := fun z => by rw [← hm']; rfl
  have e := deq_eq' (algo := algo) ha' hk'
  unfold deqS at e
  rw [if_neg (by rw [h1]; show ¬ (2 : Int) = 1; decide), if_neg (by rw [h1, q1]; exact fun g => g rfl), if_neg (by rw [h1]; exact fun g => hy g.2), if_pos (by rw [h1]; exact hht), if_pos (by rw [h1, q2]; rfl)] at e
  have h2 : ((m'.again w).setTail (m'.who w).y).who w = at1 (m'.who w) := who_again hw'
  refine .step e (deq1n (len_setp hw') (by rw [M.act, h2]; exact ha') ((kind_eq h2 rfl).trans hk') (by rw [h2]; rfl) (.inl ?_))
  show m'.head ≠ (m'.who w).y
  rw [q1, h1]
  exact fun g => hn g.symm
theorem deq_ {qs : List Nat} {h t : Nat} (H : Q m qs h t) (hw : w < m.people.length) (ha : m.act w) (hk : m.kind w = 4) : Soon algo w 6 m := by
  have hln := H.ln
  have hht := H.ht
  have hF : (m.nd m.head).next ≠ m.head := by
    rw [H.hd]
    rcases H.next (show h < qs.length by omega) with ⟨g1, g2⟩ | ⟨_, g2⟩
    · rw [g2]
      intro e
      have := at_inj H.nd g1 (by omega) e
      omega
    · rw [g2]
      have := at_nn qs h
      omega
  have h1 := who_again hw
  have again : trn algo m w = m.again w → Soon algo w 6 m := fun e => .step e (deq1 (len_setp hw) (by rw [M.act, h1]; exact ha) ((kind_eq h1 rfl).trans hk) (by rw [h1]; rfl) hF)
  by_cases hi : (m.who w).item = 1
  · exact (deq1 hw ha hk hi hF).succ
  by_cases hx : m.head = (m.who w).x
  · by_cases hn : (m.who w).x ≠ (m.who w).z_ ∨ (m.who w).y < 0
    · exact (deq2 hw ha hk hi hx hn).le (by omega)
    · have e := deq_eq' (algo := algo) ha hk
      unfold deqS at e
      have hxz : (m.who w).x = (m.who w).z_ := by
        apply Classical.byContradiction; intro g; exact hn (.inl g)
      rw [if_neg hi, if_neg (fun g => g hx), if_neg (fun g => hn (.inr g.2)), if_pos hxz] at e
      by_cases h5 : m.tail = (m.who w).z_
      · rw [if_pos h5] at e
        have h2 : ((m.again w).setTail (m.who w).y).who w = at1 (m.who w) := h1
        exact .step e (deq1 (len_setp hw) (by rw [M.act, h2]; exact ha) ((kind_eq h2 rfl).trans hk) (by rw [h2]; rfl) hF)
      · rw [if_neg h5] at e
        exact again e
  · have e := deq_eq' (algo := algo) ha hk
    unfold deqS at e
    rw [if_neg hi, if_pos hx] at e
    exact again e
theorem soon_act (hP : OkP [tyA algo] P0) (H : Inv algo P0 k m) (hw : w < P0.length) (ha : m.act w) : Soon algo w 7 m := by
  have hw' := H.len hw
  have hne := H.ne hw ha.1
  rcases ty_cases hP with h | h | h | h
  · exact (take_ hw' ha (kd5 hP H.a hw hne (.inl h))).le (by omega)
  · exact (take_ hw' ha (kd5 hP H.a hw hne (.inr h))).le (by omega)
  · rcases kd3 hP H.a hw hne h with g | g
    · exact (push_ hw' ha g.1).le (by omega)
    · exact (pop_ hw' ha g).le (by omega)
  · obtain ⟨qs, hh, t, hQ⟩ := H.x.2 h
    rcases kd2 hP H.a hw hne h with g | g
    · exact enq_ hQ hw' ha g.1
    · exact (deq_ hQ hw' ha g).le (by omega)
theorem soon_ (hP : OkP [tyA algo] P0) (H : Inv algo P0 k m) (hw : w < P0.length) (hne : (m.who w).program ≠ []) : Soon algo w 8 m := by
  cases hp : (m.who w).pending with
  | true =>
    cases hc : (m.who w).complete with
    | true => exact .inl ⟨hp, hc⟩
    | false => exact (soon_act hP H hw ⟨hp, hc⟩).succ
  | false =>
    have H' := H.trn hP hw
    refine .step rfl (soon_act hP H' hw ?_)
    have e : trn algo m w = begS m w := by unfold trn; rw [if_pos hp, if_neg hne]
    rw [M.act, e]
    have : (begS m w).who w = beg (m.who w) m.nodes.length := (who_set (H.len hw)).trans (if_pos rfl)
    rw [this]
    exact ⟨rfl, rfl⟩
theorem had_wp {l : List Event} (hN : 5000 < N) (hl : l.length ≤ 1000) (w : Nat) : alibkeep_StepsAlone_1 N l (w : Int) = some (had l w : Int) := by
  refine Wp.eq ?_
  unfold alibkeep_StepsAlone_1
  refine .seq (P := (· = (had l w : Int))) (.iter l.length (fun k st => st = ((had (l.take k) w : Int), (k : Int))) (by omega) (by simp [had]) ?_ ?_) fun s _ h => .one h
  · rintro k st hk rfl
    simp only [alibkeep_StepsAlone_1_L3]
    have hle : had (l.take k) w ≤ k := by
      unfold had
      exact Nat.le_trans (List.countP_le_length) (by simp; omega)
    have e1 : had (l.take (k + 1)) w = had (l.take k) w + had [l[k]] w := by rw [← List.take_append_getElem hk, had_app]
    refine .condT (decide_eq_true (by omega)) (.ix hk (.cond (fun h => .ck64 (by omega) (.ck64 (by omega) (.one ?_))) (fun h => .ck64 (by omega) (.one ?_))))
    · have : had [l[k]] w = 1 := by unfold had; rw [List.countP_singleton, if_pos h]
      rw [e1, this]
      exact Prod.ext (by simp) (by simp)
    · have : had [l[k]] w = 0 := by unfold had; rw [List.countP_singleton, if_neg (by simpa using h)]
      rw [e1, this]
      exact Prod.ext (by simp) (by simp)
  · rintro st rfl
    simp only [alibkeep_StepsAlone_1_L3]
    refine .condF (decide_eq_false (by omega)) (.one ?_)
    rw [List.take_length]
theorem lives : alibkeep_stepsLives 18446744073709551616 = some true := by kernel_rfl
theorem aloneLaw (hN : 5000 < N) (hL : alibkeep_stepsLives N = some true) (algo : Int) (P0 : List (List Ask)) (turns : List Int) (who : Int) (hl : ∀ l ∈ P0, l.length < N ∧ l.length ≤ 9223372036854775807) : alibkeep_StepsAlone N algo P0 turns who = some true := by
  refine Wp.eq ?_
  unfold alibkeep_StepsAlone
  refine .seq (play_wp hN hl turns) fun r _ hr => .bdO hL (.ck ?_ (.cond (fun _ => .bdO hL (.one rfl)) fun hc => ?_))
  · rcases hr with ⟨h, _⟩ | ⟨_, _, hT, _⟩
    · rw [decide_eq_false h]; simp
    · rw [ok64_of (by omega)]; simp
  simp only [Bool.or_eq_false_iff, Bool.not_eq_false', decide_eq_true_eq, decide_eq_false_iff_not, Bool.not_true] at hc
  obtain ⟨⟨⟨⟨_, h0⟩, hw0⟩, hw1⟩, h12⟩ := hc
  obtain ⟨w, rfl⟩ : ∃ w : Nat, who = w := ⟨who.toNat, by omega⟩
  have hw : w < P0.length := by omega
  obtain ⟨hP, hck, hT, rfl⟩ : OkP [tyA algo] P0 ∧ threads_Check N [tyA algo] P0 = some 0 ∧ (turns.length ≤ 300 ∧ ∀ t ∈ turns, 0 ≤ t ∧ t < P0.length) ∧ r = ((runM algo (m0 P0) turns).events, (runM algo (m0 P0) turns).restarts, 0) := by
    rcases hr with ⟨h, _⟩ | h
    · exact (h h0).elim
    · exact h
  have hI := run_ok hP (inv0 (algo := algo)) hT.2
  have hT2 : (turns ++ List.replicate 12 (w : Int)).length ≤ 300 ∧ ∀ t ∈ turns ++ List.replicate 12 (w : Int), 0 ≤ t ∧ t < P0.length := by
    refine ⟨by simp; omega, fun t ht => ?_⟩
    rcases List.mem_append.1 ht with ht | ht
    · exact hT.2 t ht
    · rw [List.eq_of_mem_replicate ht]; omega
  have hI2 := run_ok hP (inv0 (algo := algo)) hT2.2
  refine .ck (limB_of ⟨Nat.le_trans (m := 1000) (by omega) (by decide), by omega⟩) (.seq (P := (· = turns ++ List.replicate 12 (w : Int))) (.iter 12 (fun k st => st = (turns ++ List.replicate k (w : Int), (k : Int))) (by omega) (by simp) ?_ ?_) fun all _ hall => ?_)
  · rintro k st hk rfl
    simp only [alibkeep_StepsAlone_L3]
    refine .condT (decide_eq_true (by omega)) (.ck (limB_of ⟨?_, ?_⟩) (.ck64 (by omega) (.one (Prod.ext ?_ (by simp)))))
    · simp; exact Nat.le_trans (m := 1000) (by omega) (by unfold maxLen; decide)
    · simp; omega
    · show _ = turns ++ List.replicate (k + 1) (w : Int)
      rw [List.replicate_succ', List.append_assoc]
  · rintro st rfl
    simp only [alibkeep_StepsAlone_L3]
    exact .condF (decide_eq_false (by omega)) (.one rfl)
  subst hall
  refine .bdO (play_ok hN hck hP hT2) ?_
  rw [runM_app]
  have hev1 := hI.b.ev
  have hev2 := hI2.b.ev
  rw [runM_app] at hev2
  generalize hX : runM algo (m0 P0) turns = x at *
  have hle1 : x.events.length ≤ 1000 := by omega
  have hle2 : (runM algo x (List.replicate 12 (w : Int))).events.length ≤ 1000 := by have := hT2.1; omega
  have htell : (x.who w).program ≠ [] → had x.events w < had (runM algo x (List.replicate 12 (w : Int))).events w := fun hne => Soon.tells ((soon_ hP hI hw hne).le (show 8 ≤ 12 by omega))
  clear hI2 hev2
  generalize runM algo x (List.replicate 12 (w : Int)) = y at *
  refine .seq (P := (· = true)) (.condT (by simp) (.bdO (had_wp hN hle2 w) (.bdO (had_wp hN hle1 w) ?_))) fun b _ hb => .one hb
  by_cases hne : (x.who w).program = []
  · obtain ⟨d, g1, g2, g3⟩ := hI.a.pr w hw
    have hd : d = P0[w].length := by
      rw [getD_of hw] at g1 g2
      rw [hne] at g1
      have := congrArg List.length g1
      simp at this; omega
    refine .gd P0[w] (fun _ => ix_of hw) fun l hl2 => .cond (fun h => .bdO (had_wp hN hle1 w) (.one ?_)) fun h => .one ?_
    · rw [hl2 h, g3, hd]; simp
    · simp only [beq_eq_false_iff_ne, ne_eq, Bool.not_eq_false] at h
      rw [h]; rfl
  · have := htell hne
    rw [decide_eq_true (show (had x.events w : Int) < (had y.events w : Int) by omega)]
    exact .gd [] (fun h => by cases h) fun l _ => .condF rfl (.one rfl)
end
end Sp

end Go.Proofs.Ytkmmagekepoapaa
