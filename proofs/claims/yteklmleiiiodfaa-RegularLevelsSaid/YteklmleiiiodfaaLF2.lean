/- Regular registers, plainly: a begin of a history. -/
import Derived.Test.YteklmleiiiodfaaLF1
set_option linter.unusedVariables false
set_option linter.unusedSimpArgs false
set_option linter.unusedSectionVars false
set_option maxRecDepth 100000
namespace Go.Proofs.Yteklmleiiiodfaa
open Go.RowKit
namespace Sr
open Hs
/-- A begin's calls, and those of more. -/
structure Pre (n : Nat) (a b : List Call) : Prop where
  len : a.length ≤ b.length
  old : ∀ m, m < a.length → ((b.getD m Call.z).who = (a.getD m Call.z).who ∧ (b.getD m Call.z).thing = (a.getD m Call.z).thing ∧ (b.getD m Call.z).kind = (a.getD m Call.z).kind ∧ (b.getD m Call.z).arg = (a.getD m Call.z).arg ∧ (b.getD m Call.z).from_ = (a.getD m Call.z).from_) ∧ ((a.getD m Call.z).to_ ≠ -1 → b.getD m Call.z = a.getD m Call.z) ∧ ((a.getD m Call.z).to_ = -1 → (b.getD m Call.z).to_ = -1 ∨ (n : Int) ≤ (b.getD m Call.z).to_)
  new : ∀ m, a.length ≤ m → m < b.length → (n : Int) ≤ (b.getD m Call.z).from_
theorem Pre.refl (n : Nat) (a : List Call) : Pre n a a := ⟨Nat.le_refl _, fun m _ => ⟨⟨rfl, rfl, rfl, rfl, rfl⟩, fun _ => rfl, fun h => .inl h⟩, fun m h1 h2 => absurd h2 (by omega)⟩
theorem Pre.step {N : Nat} {types : List Int} {l : List Event} {n k : Nat} {a b b' : List Call} {op op' : List Int} {v : Event} (P : Pre n a b) (W : WF types l k b op) (hn : n ≤ k) (S : StpX N types b op (k : Int) v b' op') : Pre n a b' := by
  have hlen := P.len
  rcases S.how with ⟨_, _, _, _, rfl, _⟩ | ⟨_, m0, hm, hml, _, _, rfl, _⟩
  · refine ⟨by simp; omega, fun m hm => ?_, fun m h1 h2 => ?_⟩
    · rw [getD_app, if_pos (by omega)]
      exact P.old m hm
    · rw [getD_app]
      by_cases h : m < b.length
      · rw [if_pos h]; exact P.new m h1 h
      · rw [List.length_append, List.length_singleton] at h2
        rw [if_neg h, if_pos (by omega)]
        simp only [begC]; omega
  · have hpend : (b.getD m0 Call.z).to_ = -1 := by
      obtain ⟨h1, h2⟩ := S.who
      exact ((W.pen v.who.toNat (by omega)).2.2 m0 hm).2
    refine ⟨by rw [List.length_set]; exact hlen, fun m hm2 => ?_, fun m h1 h2 => ?_⟩
    · rw [getD_set2 hml]
      by_cases e : m = m0
      · subst e
        rw [if_pos rfl]
        obtain ⟨o1, o2, _⟩ := P.old m hm2
        have ht : (a.getD m Call.z).to_ = -1 := by
          apply Classical.byContradiction
          intro h
          have := o2 h
          rw [this] at hpend
          exact h hpend
        exact ⟨o1, fun h => (h ht).elim, fun _ => .inr (by simp only [endC]; omega)⟩
      · rw [if_neg e]; exact P.old m hm2
    · rw [List.length_set] at h2
      rw [getD_set2 hml]
      by_cases e : m = m0
      · subst e
        rw [if_pos rfl]
        exact P.new m h1 h2
      · rw [if_neg e]; exact P.new m h1 h2
theorem Rn.pre {N : Nat} {types : List Int} {l : List Event} {k : Nat} {out : List Call} {op : List Int} (R : Rn N types l k out op) : ∀ n, n ≤ k → ∃ a oa, Rn N types l n a oa ∧ Pre n a out := by
  induction R with
  | zero => exact fun n hn => ⟨[], [], by obtain rfl : n = 0 := by omega
                                          exact .zero, .refl n []⟩
  | @succ k out out' op op' R hk S ih =>
    intro n hn
    rcases Nat.lt_or_ge n (k + 1) with h | h
    · obtain ⟨a, oa, h1, h2⟩ := ih n (by omega)
      exact ⟨a, oa, h1, h2.step R.wf (by omega) S⟩
    · obtain rfl : n = k + 1 := by omega
      exact ⟨out', op', .succ R hk S, .refl _ _⟩
theorem Rn.take {N : Nat} {types : List Int} {l : List Event} {n m : Nat} {a : List Call} {oa : List Int} (R : Rn N types l n a oa) (h : n ≤ m) : Rn N types (l.take m) n a oa := by
  induction R with
  | zero => exact .zero
  | @succ k out out' op op' R hk S ih =>
    refine .succ (ih (by omega)) (by rw [List.length_take]; omega) ?_
    have e : (l.take m).getD k Event.z = l.getD k Event.z := by
      rw [List.getD_eq_getElem?_getD, List.getElem?_take, if_pos (by omega), ← List.getD_eq_getElem?_getD]
    rw [e]; exact S
end Sr

namespace Rg
open Hs
theorem ws_corr {a c : List Call} (hl : a.length ≤ c.length) (hk : ∀ i, i < a.length → (a.getD i Call.z).kind = (c.getD i Call.z).kind) : (ws a).length ≤ (ws c).length ∧ (∀ p, p < (ws a).length → ∃ i, i < a.length ∧ (ws a).getD p Call.z = a.getD i Call.z ∧ (ws c).getD p Call.z = c.getD i Call.z) ∧
    ∀ p, (ws a).length ≤ p → p < (ws c).length → ∃ i, a.length ≤ i ∧ i < c.length ∧ (ws c).getD p Call.z = c.getD i Call.z := by
  have key : ∀ k, k ≤ a.length → (ws (a.take k)).length = (ws (c.take k)).length ∧ ∀ p, p < (ws (a.take k)).length → ∃ i, i < k ∧ (ws (a.take k)).getD p Call.z = a.getD i Call.z ∧ (ws (c.take k)).getD p Call.z = c.getD i Call.z := by
    intro k
    induction k with
    | zero => exact fun _ => ⟨rfl, fun p h => by simp [ws] at h⟩
    | succ k ih =>
      intro hk1
      obtain ⟨h1, h2⟩ := ih (by omega)
      have e1 := ws_take (c := a) (k := k) (by omega)
      have e2 := ws_take (c := c) (k := k) (by omega)
      have hkk := hk k (by omega)
      rw [getD_of (show k < a.length by omega), getD_of (show k < c.length by omega)] at hkk
      by_cases h : c[k].kind = 1
      · rw [if_pos (by rw [hkk]; exact h)] at e1
        rw [if_pos h] at e2
        rw [e1, e2]
        refine ⟨by simp [h1], fun p hp => ?_⟩
        rw [getD_app, getD_app, ← h1]
        rcases Nat.lt_or_ge p (ws (a.take k)).length with g | g
        · rw [if_pos g, if_pos g]
          obtain ⟨i, hi, q⟩ := h2 p g
          exact ⟨i, by omega, q⟩
        · have : p = (ws (a.take k)).length := by rw [List.length_append, List.length_singleton] at hp; omega
          rw [if_neg (show ¬ p < (ws (a.take k)).length by omega), if_pos this, if_neg (show ¬ p < (ws (a.take k)).length by omega), if_pos this]
          exact ⟨k, by omega, by rw [getD_of (show k < a.length by omega)], by rw [getD_of (show k < c.length by omega)]⟩
      · rw [if_neg (by rw [hkk]; exact h)] at e1
        rw [if_neg h] at e2
        rw [e1, e2]
        refine ⟨h1, fun p hp => ?_⟩
        obtain ⟨i, hi, q⟩ := h2 p hp
        exact ⟨i, by omega, q⟩
  obtain ⟨h1, h2⟩ := key a.length (Nat.le_refl _)
  rw [List.take_length] at h1 h2
  have hc : ws c = ws (c.take a.length) ++ ws (c.drop a.length) := by
    unfold ws
    rw [← List.filter_append, List.take_append_drop]
  refine ⟨by rw [hc, List.length_append]; omega, fun p hp => ?_, fun p g1 g2 => ?_⟩
  · obtain ⟨i, hi, q1, q2⟩ := h2 p hp
    refine ⟨i, hi, q1, ?_⟩
    have e3 : (ws (c.take a.length) ++ ws (c.drop a.length)).getD p Call.z = (ws (c.take a.length)).getD p Call.z := by simp only [List.getD_eq_getElem?_getD, List.getElem?_append_left (show p < (ws (c.take a.length)).length by omega)]
    rw [hc, e3]; exact q2
  · have hp2 : p - (ws (c.take a.length)).length < (ws (c.drop a.length)).length := by
      rw [hc, List.length_append] at g2; omega
    have hm : (ws c).getD p Call.z ∈ c.drop a.length := by
      rw [getD_of g2]
      have e : (ws c)[p] = (ws (c.drop a.length))[p - (ws (c.take a.length)).length] := by
        have : (ws (c.take a.length) ++ ws (c.drop a.length))[p]'(by rw [← hc]; exact g2) = (ws (c.drop a.length))[p - (ws (c.take a.length)).length] := List.getElem_append_right (by omega)
        rw [← this]
        congr 1
      rw [e]
      exact (List.mem_filter.1 (List.getElem_mem hp2)).1
    obtain ⟨j, hj, q⟩ := List.getElem_of_mem hm
    rw [List.length_drop] at hj
    rw [List.getElem_drop] at q
    exact ⟨a.length + j, by omega, by omega, by rw [← q, getD_of (by omega)]⟩
/-- A begin of a history. -/
theorem tr_pre {c a : List Call} {m : Nat} (P : Sr.Pre m a c) (hft : ∀ i, i < c.length → (c.getD i Call.z).to_ ≠ -1 → (c.getD i Call.z).from_ < (c.getD i Call.z).to_) (hto : ∀ i, i < a.length → (a.getD i Call.z).from_ < m ∧ ((a.getD i Call.z).to_ ≠ -1 → (a.getD i Call.z).to_ < m)) : Tr c a id := by
  have hl := P.len
  obtain ⟨w1, w2, w3⟩ := ws_corr hl fun i hi => ((P.old i hi).1.2.2.1).symm
  have ans : ∀ i, i < a.length → (a.getD i Call.z).to_ ≠ -1 → c.getD i Call.z = a.getD i Call.z := fun i hi h => (P.old i hi).2.1 h
  refine ⟨fun i hi => by show i < c.length; omega, fun i hi => ((P.old i hi).1.2.2.1).symm, fun i hi => ((P.old i hi).1.2.2.2.1).symm, fun i hi h => ⟨by show (c.getD i Call.z).to_ ≠ -1; rw [ans i hi h]; exact h, by show (c.getD i Call.z).res = _; rw [ans i hi h]⟩, fun i j hi hj => ?_, w1, w2, fun p i g1 g2 hi h => ?_⟩
  · show _ ↔ prec (c.getD i Call.z) (c.getD j Call.z)
    have hf := (P.old j hj).1.2.2.2.2
    constructor
    · rintro ⟨h1, h2⟩
      rw [ans i hi h1]
      exact ⟨h1, by rw [hf]; exact h2⟩
    · rintro ⟨h1, h2⟩
      have hne : (a.getD i Call.z).to_ ≠ -1 := by
        intro h
        have := (hto j hj).1
        rcases (P.old i hi).2.2 h with g | g
        · exact h1 g
        · omega
      have e := ans i hi hne
      exact ⟨hne, by rw [← e, ← hf]; exact h2⟩
  · obtain ⟨q, q1, q2, e⟩ := w3 p g1 g2
    have hn := P.new q q1 q2
    have hi2 := (hto i hi).2 h
    have hf := (hto i hi).1
    have e2 := ans i hi h
    show prec (c.getD i Call.z) _ ∧ ¬ prec _ (c.getD i Call.z)
    rw [e, e2]
    refine ⟨⟨h, by omega⟩, fun ⟨h3, h4⟩ => ?_⟩
    have := hft q q2 h3
    omega
end Rg

end Go.Proofs.Yteklmleiiiodfaa
