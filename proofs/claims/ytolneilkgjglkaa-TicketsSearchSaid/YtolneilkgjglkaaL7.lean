/- Tickets, plainly: right orders. -/
import Derived.Test.YtolneilkgjglkaaL6
set_option linter.unusedVariables false
set_option linter.unusedSimpArgs false
set_option linter.unusedSectionVars false
set_option maxRecDepth 100000
namespace Go.Proofs.Ytolneilkgjglkaa
open Go.RowKit
namespace Sr
open Rl Hs
theorem rn_arg {N : Nat} {types : List Int} {l : List Event} {k : Nat} {out : List Call} {op : List Int} (R : Rn N types l k out op) : ∀ m, m < out.length → history_Argument N (out.getD m Call.z).kind (out.getD m Call.z).arg = some true ∧ ((out.getD m Call.z).to_ ≠ -1 → history_result N (out.getD m Call.z).kind (out.getD m Call.z).res = some true) := by
  induction R with
  | zero => exact fun m h => absurd h (Nat.not_lt_zero _)
  | @succ k out out' op op' R hk S ih =>
    intro m hm
    rcases S.how with ⟨_, _, ha, _, rfl, _⟩ | ⟨_, m0, _, hml, _, hr, rfl, _⟩
    · rw [List.length_append, List.length_singleton] at hm
      rw [getD_app]
      by_cases h : m < out.length
      · rw [if_pos h]; exact ih m h
      · rw [if_neg h, if_pos (by omega)]
        exact ⟨ha, fun h => (h rfl).elim⟩
    · rw [List.length_set] at hm
      rw [getD_set2 hml]
      by_cases e : m = m0
      · subst e
        rw [if_pos rfl]
        exact ⟨(ih m hm).1, fun _ => hr⟩
      · rw [if_neg e]; exact ih m hm
theorem asked_of {N : Nat} {types : List Int} {l : List Event} {k : Nat} {c : List Call} {op : List Int} (R : Rn N types l k c op) {m : Nat} (hm : m < c.length) : Ob.Asked (types.getD (c.getD m Call.z).thing.toNat 0) (c.getD m Call.z).kind (c.getD m Call.z).arg := by
  have O := R.wf.one m hm
  have a1 := (rn_arg R m hm).1
  rw [Ob.argument_ok] at a1
  refine ⟨O.fit.1, O.fit.2, fun h => ?_, fun h => ?_⟩
  · rw [if_pos h] at a1
    simpa using a1
  · rw [if_neg h] at a1
    have : 1 ≤ (c.getD m Call.z).arg ∧ (c.getD m Call.z).arg ≤ 1000 := by simpa using a1
    exact this
end Sr

namespace Tk
open Hs Go.Sort
theorem nx5 {v : Int} (h : 0 ≤ v ∧ v ≤ 1000) {kind arg : Int} (hA : Ob.Asked 5 kind arg) : Ob.nx 5 [v] kind arg = if v = 1000 then none else some ([v + 1], v) := by
  unfold Ob.nx
  rw [if_pos ⟨.inl ⟨.inr rfl, v, rfl, h.1, h.2⟩, hA⟩]
  unfold Ob.stp
  rw [if_neg (by decide), if_pos rfl]; rfl
/-- Steps of one ticket counter: each has the next number. -/
theorem pl5 {c : List Call} {q : Nat → Nat → Bool} (hA : ∀ i, i < c.length → Ob.Asked 5 (c.getD i Call.z).kind (c.getD i Call.z).arg) (hth : ∀ i, i < c.length → (c.getD i Call.z).thing = 0) :
    ∀ {t : List Step} {v : Int} {w : List Nat}, 0 ≤ v → v ≤ 1000 → (Sr.Pl [5] c q [[v]] w t ↔ Sr.Ac c q w t ∧ v + t.length ≤ 1000 ∧ ∀ i, i < t.length → (t.getD i Step.z).res = v + i)
  | [], v, w, h0, h1 => ⟨fun _ => ⟨trivial, by simpa using h1, fun i h => absurd h (Nat.not_lt_zero _)⟩, fun _ => trivial⟩
  | s :: t, v, w, h0, h1 => by
    constructor
    · rintro ⟨i, n, g1, g2, g3, g4, g5, g6, g7⟩
      rw [hth i g2] at g6 g7
      have g6 : Ob.nx 5 [v] (c.getD i Call.z).kind (c.getD i Call.z).arg = some (n, s.res) := g6
      rw [nx5 ⟨h0, h1⟩ (hA i g2)] at g6
      by_cases hv : v = 1000
      · rw [if_pos hv] at g6; cases g6
      · rw [if_neg hv] at g6
        obtain ⟨e1, e2⟩ := Prod.mk.inj (Option.some.inj g6)
        subst e1
        have g7 : Sr.Pl [5] c q [[v + 1]] (w ++ [i]) t := g7
        obtain ⟨a1, a2, a3⟩ := (pl5 hA hth (by omega) (by omega)).1 g7
        refine ⟨⟨i, g1, g2, g3, g4, g5, a1⟩, by rw [List.length_cons]; omega, fun k hk => ?_⟩
        cases k with
        | zero => show s.res = v + ((0 : Nat) : Int); omega
        | succ k =>
          have := a3 k (by simpa using hk)
          show (t.getD k Step.z).res = v + ((k + 1 : Nat) : Int)
          omega
    · rintro ⟨⟨i, g1, g2, g3, g4, g5, a1⟩, a2, a3⟩
      rw [List.length_cons] at a2
      have hs : s.res = v := by
        have := a3 0 (Nat.succ_pos _)
        have e : ((s :: t).getD 0 Step.z) = s := rfl
        rw [e] at this; omega
      refine ⟨i, [v + 1], g1, g2, g3, g4, g5, ?_, ?_⟩
      · rw [hth i g2]
        show Ob.nx 5 [v] _ _ = _
        rw [nx5 ⟨h0, h1⟩ (hA i g2), if_neg (by omega), hs]
      · rw [hth i g2]
        show Sr.Pl [5] c q [[v + 1]] _ _
        refine (pl5 hA hth (by omega) (by omega)).2 ⟨a1, by omega, fun k hk => ?_⟩
        have := a3 (k + 1) (by rw [List.length_cons]; omega)
        have e : ((s :: t).getD (k + 1) Step.z) = t.getD k Step.z := rfl
        rw [e] at this; omega
theorem ac_of {c : List Call} {q : Nat → Nat → Bool} : ∀ {t : List Step} {w : List Nat}, (∀ i, i < t.length → ∃ k : Nat, (t.getD i Step.z).call = k ∧ k < c.length ∧ k ∉ w ∧ (∀ j, j ∈ w → q k j = false) ∧ ((c.getD k Call.z).to_ ≠ -1 → (t.getD i Step.z).res = (c.getD k Call.z).res)) →
    (∀ i j, i < j → j < t.length → (t.getD i Step.z).call ≠ (t.getD j Step.z).call ∧ q (t.getD j Step.z).call.toNat (t.getD i Step.z).call.toNat = false) → Sr.Ac c q w t
  | [], _, _, _ => trivial
  | s :: t, w, h1, h2 => by
    obtain ⟨k, a1, a2, a3, a4, a5⟩ := h1 0 (Nat.succ_pos _)
    refine ⟨k, a1, a2, a3, a4, a5, ac_of (fun i hi => ?_) fun i j hij hj => h2 (i + 1) (j + 1) (by omega) (by rw [List.length_cons]; omega)⟩
    obtain ⟨m, b1, b2, b3, b4, b5⟩ := h1 (i + 1) (by rw [List.length_cons]; omega)
    have h := h2 0 (i + 1) (by omega) (by rw [List.length_cons]; omega)
    have e0 : s.call = k := a1
    have e1 : (t.getD i Step.z).call = m := b1
    have h : s.call ≠ (t.getD i Step.z).call ∧ q (t.getD i Step.z).call.toNat s.call.toNat = false := h
    rw [e0, e1] at h
    simp only [Int.toNat_natCast] at h
    refine ⟨m, b1, b2, fun hm => ?_, fun j hj => ?_, b5⟩
    · rcases List.mem_append.1 hm with x | x
      · exact b3 x
      · rw [List.mem_singleton] at x; subst x; exact h.1 rfl
    · rcases List.mem_append.1 hj with x | x
      · exact b4 j x
      · rw [List.mem_singleton] at x; subst x; exact h.2
theorem ac_ix {c : List Call} {q : Nat → Nat → Bool} : ∀ {t : List Step} {w : List Nat}, Sr.Ac c q w t → ∀ i, i < t.length → ∃ k : Nat, (t.getD i Step.z).call = k ∧ k < c.length ∧ k ∉ w ∧ (∀ j, j ∈ w → q k j = false) ∧ ((c.getD k Call.z).to_ ≠ -1 → (t.getD i Step.z).res = (c.getD k Call.z).res) ∧ ∀ j, j < i → (t.getD j Step.z).call ≠ k ∧ q k (t.getD j Step.z).call.toNat = false
  | [], _, _, i, h => absurd h (Nat.not_lt_zero _)
  | s :: t, w, ⟨k, a1, a2, a3, a4, a5, a6⟩, i, hi => by
    cases i with
    | zero => exact ⟨k, a1, a2, a3, a4, a5, fun j h => absurd h (Nat.not_lt_zero _)⟩
    | succ i =>
      obtain ⟨m, b1, b2, b3, b4, b5, b6⟩ := ac_ix a6 i (by simpa using hi)
      refine ⟨m, b1, b2, fun h => b3 (List.mem_append.2 (.inl h)), fun j h => b4 j (List.mem_append.2 (.inl h)), b5, fun j hj => ?_⟩
      cases j with
      | zero =>
        show s.call ≠ m ∧ q m s.call.toNat = false
        rw [a1, Int.toNat_natCast]
        refine ⟨fun e => b3 (List.mem_append.2 (.inr (List.mem_singleton.2 (by omega)))), b4 k (List.mem_append.2 (.inr (List.mem_singleton.2 rfl)))⟩
      | succ j => exact b6 j (by omega)
theorem bfA_iff {c : List Call} {i j : Nat} : bfA c i j = true ↔ i < c.length ∧ j < c.length ∧ (c.getD i Call.z).to_ ≠ -1 ∧ (c.getD i Call.z).to_ < (c.getD j Call.z).from_ := by unfold bfA; exact decide_eq_true_iff
theorem S05 : Sr.S0 [5] = [[0]] := by simp [Sr.S0, Ob.st0]
/-- A right order: the counter's numbers are given as they should. -/
theorem good_of {c : List Call} (W : Okl c) (hA : ∀ i, i < c.length → Ob.Asked 5 (c.getD i Call.z).kind (c.getD i Call.z).arg) (hth : ∀ i, i < c.length → (c.getD i Call.z).thing = 0) {t : List Step} (g : Sr.Gd [5] c (bfA c) (Sr.S0 [5]) [] t) : Good c := by
  obtain ⟨g1, g2⟩ := g
  rw [S05] at g1
  obtain ⟨a, hl, hr⟩ := (pl5 hA hth (by omega) (by omega)).1 g1
  have ix := ac_ix a
  have hr : ∀ i, i < t.length → (t.getD i Step.z).res = i := fun i hi => by have := hr i hi; omega
  -- where an answered one stands
  have pl : ∀ x, x < c.length → ans (c.getD x Call.z) → ∃ p, p < t.length ∧ (t.getD p Step.z).call = x ∧ (c.getD x Call.z).res = p := by
    intro x hx ha
    have := g2 x hx ha
    rw [List.nil_append] at this
    obtain ⟨s, hs, e⟩ := List.mem_map.1 this
    obtain ⟨p, hp, e2⟩ := List.getElem_of_mem hs
    obtain ⟨k, k1, k2, _, _, k5, _⟩ := ix p hp
    have e3 : t.getD p Step.z = s := by rw [getD_of hp, e2]
    have : k = x := by rw [e3] at k1; rw [k1] at e; simpa using e
    subst this
    exact ⟨p, hp, k1, by rw [← k5 ha, hr p hp]⟩
  have no : ∀ x p, x < c.length → p < t.length → ∀ k : Nat, (t.getD p Step.z).call = k → ∀ u, u < t.length → (t.getD u Step.z).call = x → p < u → bfA c x k = false := by
    intro x p hx hp k hk u hu hxu hpu
    obtain ⟨m, m1, m2, _, _, _, m6⟩ := ix u hu
    have : m = x := by omega
    subst this
    have := (m6 p hpu).2
    rw [hk, Int.toNat_natCast] at this
    exact this
  refine ⟨fun i j h1 h2 h3 h4 e => ?_, fun i j h1 h2 h3 h4 h5 => ?_, ?_⟩
  · obtain ⟨p, p1, p2, p3⟩ := pl i h2 h3
    obtain ⟨u, u1, u2, u3⟩ := pl j (by omega) h4
    have : p = u := by omega
    subst this
    omega
  · obtain ⟨p, p1, p2, p3⟩ := pl i h1 h3
    obtain ⟨u, u1, u2, u3⟩ := pl j h2 h4
    refine Int.not_lt.1 fun h => ?_
    have := no i u h1 u1 j u2 p p1 p2 (by omega)
    rw [bfA_iff.2 ⟨h1, h2, h3, h5⟩] at this
    cases this
  have fm : ∀ m, m ∈ miss c → ∃ k : Nat, m.toNat < t.length ∧ 0 ≤ m ∧ (t.getD m.toNat Step.z).call = k ∧ k < c.length ∧ (c.getD k Call.z).to_ = -1 := by
    intro m hm
    obtain ⟨m0, m1, m2⟩ := Good.nonneg.1 hm
    obtain ⟨x, x1, x2, x3⟩ := mo_at (c := c) (k := c.length) (by omega)
    obtain ⟨p, p1, p2, p3⟩ := pl x x1 x2
    have hlt : m.toNat < t.length := by omega
    obtain ⟨k, k1, k2, _, _, k5, _⟩ := ix m.toNat hlt
    refine ⟨k, hlt, m0, k1, k2, Classical.byContradiction fun h => ?_⟩
    have := k5 h
    rw [hr _ hlt] at this
    exact m2 k k2 h (by omega)
  refine greedy (pe_sorted c _) (mi_sorted c _ _) (can c) (fun m => (t.getD m.toNat Step.z).call) (fun m hm => ?_) (fun x hx y hy e => ?_) fun p hp q hq m n h1 h2 h3 => ?_
  · obtain ⟨k, k0, k1, k2, k3, k4⟩ := fm m hm
    show (t.getD m.toNat Step.z).call ∈ _ ∧ can c (t.getD m.toNat Step.z).call m
    rw [k2]
    refine ⟨pe_mem.2 ⟨k, k3, rfl, k4⟩, fun x hx ha hlt => ?_⟩
    rw [Int.toNat_natCast] at hlt
    obtain ⟨p, p1, p2, p3⟩ := pl x hx ha
    refine Int.not_le.1 fun h => ?_
    rcases Int.lt_or_eq_of_le h with h4 | h4
    · have := no x m.toNat hx k0 k k2 p p1 p2 (by omega)
      rw [bfA_iff.2 ⟨hx, k3, ha, hlt⟩] at this
      cases this
    · have : p = m.toNat := by omega
      subst this
      have : x = k := by omega
      subst this
      exact ha k4
  · obtain ⟨k, k0, k1, k2, _⟩ := fm x hx
    obtain ⟨j, j0, j1, j2, _⟩ := fm y hy
    have e : (t.getD x.toNat Step.z).call = (t.getD y.toNat Step.z).call := e
    obtain ⟨a, a1, _, _, _, _, a6⟩ := ix x.toNat k0
    obtain ⟨b, b1, _, _, _, _, b6⟩ := ix y.toNat j0
    rcases Nat.lt_trichotomy x.toNat y.toNat with h | h | h
    · exact absurd (by rw [e, b1]) (b6 _ h).1
    · omega
    · exact absurd (by rw [← e, a1]) (a6 _ h).1
  · obtain ⟨i, i1, rfl, _⟩ := pe_mem.1 hp
    obtain ⟨j, j1, rfl, _⟩ := pe_mem.1 hq
    exact can_mono W (by omega) (by omega) h1 h2 h3
/-- The order that is told is right. -/
theorem of_good {c : List Call} (W : Okl c) (hA : ∀ i, i < c.length → Ob.Asked 5 (c.getD i Call.z).kind (c.getD i Call.z).arg) (hth : ∀ i, i < c.length → (c.getD i Call.z).thing = 0) (h200 : c.length ≤ 200) (G : Good c) : Sr.Gd [5] c (bfA c) (Sr.S0 [5]) [] (sortL sort46S sort46C (steps c)) := by
  obtain ⟨f1, f2⟩ := order_facts W G
  have hp := (sortL_facts sort46_swo (small W)).1
  generalize sortL sort46S sort46C (steps c) = w at f1 f2 hp
  -- what stands at a place
  have at_ : ∀ i, i < w.length → ∃ k : Nat, (w.getD i Step.z).call = k ∧ k < c.length ∧ ((ans (c.getD k Call.z) ∧ (c.getD k Call.z).res = i) ∨ ((c.getD k Call.z).to_ = -1 ∧ can c k i)) := by
    intro i hi
    have hm : w.getD i Step.z ∈ steps c := hp.mem_iff.1 (by rw [getD_of hi]; exact List.getElem_mem _)
    have hr := f1 i hi
    rcases List.mem_append.1 hm with h | h
    · obtain ⟨k, k1, k2, k3⟩ := an_mem.1 h
      rw [k3] at hr ⊢
      exact ⟨k, rfl, k1, .inl ⟨k2, hr⟩⟩
    · obtain ⟨j, j1, j2⟩ := fi_mem.1 h
      rw [j2] at hr ⊢
      obtain ⟨g1, g2⟩ := G.gap j j1
      obtain ⟨k, k1, k2, k3⟩ := pe_at g1
      have hr : (miss c).getD j 0 = i := hr
      rw [k2, hr] at g2
      exact ⟨k, k2, k1, .inr ⟨k3, g2⟩⟩
  have ac : Sr.Ac c (bfA c) [] w := by
    refine ac_of (fun i hi => ?_) fun i j hij hj => ⟨f2 i j hij hj, ?_⟩
    · obtain ⟨k, k1, k2, k3⟩ := at_ i hi
      refine ⟨k, k1, k2, List.not_mem_nil, fun j hj => (nomatch hj), fun h => ?_⟩
      rcases k3 with ⟨_, h2⟩ | ⟨h2, _⟩
      · rw [f1 i hi, h2]
      · exact absurd h2 h
    · obtain ⟨a, a1, a2, a3⟩ := at_ i (by omega)
      obtain ⟨b, b1, b2, b3⟩ := at_ j hj
      rw [a1, b1, Int.toNat_natCast, Int.toNat_natCast]
      refine Bool.eq_false_iff.2 fun h => ?_
      obtain ⟨_, _, h3, h4⟩ := bfA_iff.1 h
      rcases b3 with ⟨_, b3⟩ | ⟨b3, _⟩
      · rcases a3 with ⟨a3, a4⟩ | ⟨_, a4⟩
        · have := G.ord b a b2 a2 h3 a3 h4
          omega
        · have := a4 b b2 h3 (by rw [Int.toNat_natCast]; exact h4)
          omega
      · exact h3 b3
  have hwl := Sr.Ac.len ac
  refine ⟨?_, fun i hi ha => ?_⟩
  · rw [S05]
    exact (pl5 hA hth (by omega) (by omega)).2 ⟨ac, by omega, fun i hi => by rw [f1 i hi]; omega⟩
  · rw [List.nil_append]
    exact List.mem_map.2 ⟨⟨(i : Int), (c.getD i Call.z).res⟩, hp.mem_iff.2 (List.mem_append.2 (.inl (an_mem.2 ⟨i, hi, ha, rfl⟩))), by simp⟩
end Tk

end Go.Proofs.Ytolneilkgjglkaa
