/- Calls one behind the other. -/
import Derived.Test.YtpakplmpihhmbaaS10
set_option linter.unusedVariables false
set_option linter.unusedSimpArgs false
set_option linter.unusedSectionVars false
set_option maxRecDepth 100000
namespace Go.Proofs.Ytpakplmpihhmbaa
open Go.RowKit
namespace Sr
open Rl Hs
/-- Arguments and results are as they may be. -/
theorem rn_arg {N : Nat} {types : List Int} {l : List Event} {k : Nat} {out : List Call} {op : List Int} (R : Rn N types l k out op) : ∀ m, m < out.length → history_Argument N (out.getD m Call.z).kind (out.getD m Call.z).arg = some true ∧ ((out.getD m Call.z).to_ ≠ -1 → history_result N (out.getD m Call.z).kind (out.getD m Call.z).res = some true) := by
  induction R with
  | zero => exact fun m h => absurd h (Nat.not_lt_zero _)
  | @succ k out out' op op' R hk S ih =>
    intro m hm
    rcases S.how with ⟨_, _, ha, _, rfl, _⟩ | ⟨_, m0, _, hml, _, hr, rfl, _⟩
    · rw [List.length_append, List.length_singleton] at hm
      rw [getD_app]
      by_cases h : m < out.length
      · rw [if_pos h]; exact ih m h
      · rw [if_neg h, if_pos (by omega)]
        exact ⟨ha, fun h => (h rfl).elim⟩
    · rw [List.length_set] at hm
      rw [getD_set2 hml]
      by_cases e : m = m0
      · subst e
        rw [if_pos rfl]
        exact ⟨(ih m hm).1, fun _ => hr⟩
      · rw [if_neg e]; exact ih m hm
end Sr

namespace Sr
open Rl Hs
theorem pl_ac {types : List Int} {c : List Call} {q : Nat → Nat → Bool} : ∀ {t : List Step} {S : List (List Int)} {w : List Nat}, Pl types c q S w t → Ac c q w t
  | [], _, _, _ => trivial
  | s :: t, S, w, ⟨i, n, h1, h2, h3, h4, h5, _, h7⟩ => ⟨i, h1, h2, h3, h4, h5, pl_ac h7⟩
end Sr

namespace Sr
open Rl Hs
theorem res_ok (N : Nat) {typ : Int} {s : List Int} {kind arg : Int} {n : List Int} {res : Int} (h : Ob.nx typ s kind arg = some (n, res)) : history_result N kind res = some true := by
  obtain ⟨hO, hA, hs, _⟩ := Ob.nx_ok h
  obtain ⟨h0, hk, _, _⟩ := hA
  have hinv := Ob.tyK_inv hk h0
  clear hk h
  unfold Ob.stp at hs
  have d2 : ∀ m, history_result N 2 m = some ((decide (0 ≤ m)) && (decide (m ≤ 1000))) := fun _ => rfl
  have d10 : ∀ m, history_result N 10 m = some ((decide (0 ≤ m)) && (decide (m ≤ 1000))) := fun _ => rfl
  have d4 : ∀ m, history_result N 4 m = some ((decide (m = (-1))) || ((decide (1 ≤ m)) && (decide (m ≤ 1000)))) := fun _ => rfl
  have d6 : ∀ m, history_result N 6 m = some ((decide (m = (-1))) || ((decide (1 ≤ m)) && (decide (m ≤ 1000)))) := fun _ => rfl
  have d7 : ∀ m, history_result N 7 m = some ((decide (m = 0)) || (decide (m = 1))) := fun _ => rfl
  have d8 : ∀ m, history_result N 8 m = some ((decide (m = 0)) || (decide (m = 1))) := fun _ => rfl
  have d9 : ∀ m, history_result N 9 m = some ((decide (m = 0)) || (decide (m = 1))) := fun _ => rfl
  have z1 : history_result N 1 0 = some true := rfl
  have z3 : history_result N 3 0 = some true := rfl
  have z5 : history_result N 5 0 = some true := rfl
  have get : ∀ (i : Nat), (∀ m ∈ s, Ob.Num m) → i < s.length → (decide (s.getD i 0 = -1) || (decide (1 ≤ s.getD i 0) && decide (s.getD i 0 ≤ 1000))) = true := fun i hm hi => by
    have := hm _ (List.getElem_mem hi)
    rw [getD_of hi]
    unfold Ob.Num at this
    rw [decide_eq_true this.1, decide_eq_true this.2]
    simp
  rcases hinv with ⟨rfl, hk⟩ | ⟨rfl, hk⟩ | ⟨rfl, hk⟩ | ⟨rfl, hk⟩ | ⟨rfl, hk⟩
  · rcases hO with ⟨_, v, rfl, v0, v1⟩ | ⟨h, _⟩ | ⟨h, _⟩
    · rcases hk with rfl | rfl
      · cases hs; exact z1
      · cases hs
        rw [d2]
        simp [v0, v1]
    · omega
    · omega
  · rcases hO with ⟨h, _⟩ | ⟨_, hl, hm⟩ | ⟨h, _⟩
    · omega
    · rcases hk with rfl | rfl
      · simp only [show ¬ ((2 : Int) = 1) by decide, show ¬ ((2 : Int) = 5) by decide, if_false, if_true] at hs
        split at hs
        · cases hs
        · cases hs; exact z3
      · simp only [show ¬ ((2 : Int) = 1) by decide, show ¬ ((2 : Int) = 5) by decide, show ¬ ((4 : Int) = 3) by decide, if_false, if_true] at hs
        split at hs
        · cases hs; rfl
        · rename_i h1
          cases hs
          rw [d4, get 0 hm (by omega)]
    · omega
  · rcases hO with ⟨h, _⟩ | ⟨_, hl, hm⟩ | ⟨h, _⟩
    · omega
    · rcases hk with rfl | rfl
      · simp only [show ¬ ((3 : Int) = 1) by decide, show ¬ ((3 : Int) = 5) by decide, show ¬ ((3 : Int) = 2) by decide, if_false, if_true] at hs
        split at hs
        · cases hs
        · cases hs; exact z5
      · simp only [show ¬ ((3 : Int) = 1) by decide, show ¬ ((3 : Int) = 5) by decide, show ¬ ((3 : Int) = 2) by decide, show ¬ ((6 : Int) = 5) by decide, if_false, if_true] at hs
        split at hs
        · cases hs; rfl
        · rename_i h1
          cases hs
          rw [d6, get (s.length - 1) hm (by omega)]
    · omega
  · simp only [show ¬ ((4 : Int) = 1) by decide, show ¬ ((4 : Int) = 5) by decide, show ¬ ((4 : Int) = 2) by decide, show ¬ ((4 : Int) = 3) by decide, if_false] at hs
    rcases hk with rfl | rfl | rfl
    · rw [if_pos rfl] at hs
      split at hs
      · cases hs; rfl
      · split at hs
        · cases hs
        · cases hs; rfl
    · rw [if_neg (by decide), if_pos rfl] at hs
      split at hs
      · cases hs; rfl
      · cases hs; rfl
    · rw [if_neg (by decide), if_neg (by decide)] at hs
      cases hs
      rw [d9]
      split <;> rfl
  · rcases hO with ⟨_, v, rfl, v0, v1⟩ | ⟨h, _⟩ | ⟨h, _⟩
    · simp only [show ¬ ((5 : Int) = 1) by decide, if_false, if_true] at hs
      subst hk
      split at hs
      · cases hs
      · cases hs
        rw [d10]
        simp [v0, v1]
    · omega
    · omega
def cal (c : List Call) (s : Step) : Call := c.getD s.call.toNat Call.z
/-- The events of steps, each one's answer behind its call. -/
def evs (c : List Call) : List Step → List Event
  | [] => []
  | s :: t => ⟨(cal c s).who, (cal c s).thing, (cal c s).kind, (cal c s).arg⟩ :: ⟨(cal c s).who, (cal c s).thing, 0, s.res⟩ :: evs c t
theorem evs_len (c : List Call) (t : List Step) : (evs c t).length = 2 * t.length := by
  induction t with
  | nil => rfl
  | cons s t ih => simp only [evs, List.length_cons, ih]; omega
theorem evs_app (c : List Call) (a b : List Step) : evs c (a ++ b) = evs c a ++ evs c b := by
  induction a with
  | nil => rfl
  | cons s a ih => simp only [List.cons_append, evs, ih]
/-- Their calls, one behind the other. -/
def ncs (c : List Call) : Nat → List Step → List Call
  | _, [] => []
  | k, s :: t => ⟨(cal c s).who, (cal c s).thing, (cal c s).kind, (cal c s).arg, s.res, 2 * (k : Int), 2 * (k : Int) + 1⟩ :: ncs c (k + 1) t
theorem ncs_len (c : List Call) : ∀ (k : Nat) (t : List Step), (ncs c k t).length = t.length
  | _, [] => rfl
  | k, s :: t => by simp only [ncs, List.length_cons, ncs_len c (k + 1) t]
theorem ncs_get (c : List Call) : ∀ (t : List Step) (k i : Nat) (h : i < t.length), (ncs c k t).getD i Call.z = ⟨(cal c t[i]).who, (cal c t[i]).thing, (cal c t[i]).kind, (cal c t[i]).arg, t[i].res, 2 * ((k + i : Nat) : Int), 2 * ((k + i : Nat) : Int) + 1⟩
  | [], _, _, h => absurd h (Nat.not_lt_zero _)
  | s :: t, k, 0, _ => rfl
  | s :: t, k, i + 1, h => by
    have := ncs_get c t (k + 1) i (by simpa using h)
    simp only [ncs, List.getD_cons_succ, List.getElem_cons_succ]
    rw [this, show k + 1 + i = k + (i + 1) by omega]
theorem ncs_app (c : List Call) : ∀ (a b : List Step) (k : Nat), ncs c k (a ++ b) = ncs c k a ++ ncs c (k + a.length) b
  | [], _, _ => rfl
  | s :: a, b, k => by
    simp only [List.cons_append, ncs, List.length_cons]
    rw [ncs_app c a b (k + 1), show k + 1 + a.length = k + (a.length + 1) by omega]
/-- What a run asks of a step. -/
def Fit (N : Nat) (types : List Int) (c : List Call) (s : Step) : Prop := (0 ≤ (cal c s).who ∧ (cal c s).who < 8) ∧ (0 ≤ (cal c s).thing ∧ (cal c s).thing < types.length) ∧ ((cal c s).kind ≠ 0 ∧ (types.getD (cal c s).thing.toNat 0 ≠ 0 ∧ tyF (cal c s).kind = types.getD (cal c s).thing.toNat 0) ∧ history_Argument N (cal c s).kind (cal c s).arg = some true) ∧ history_result N (cal c s).kind s.res = some true
theorem evs_get (c : List Call) (a b : List Step) (s : Step) : (evs c (a ++ s :: b)).getD (2 * a.length) Event.z = ⟨(cal c s).who, (cal c s).thing, (cal c s).kind, (cal c s).arg⟩ ∧ (evs c (a ++ s :: b)).getD (2 * a.length + 1) Event.z = ⟨(cal c s).who, (cal c s).thing, 0, s.res⟩ := by
  rw [evs_app]
  have h := evs_len c a
  constructor
  · rw [List.getD_eq_getElem?_getD, List.getElem?_append_right (by omega), h, Nat.sub_self]; rfl
  · rw [List.getD_eq_getElem?_getD, List.getElem?_append_right (by omega), h, show 2 * a.length + 1 - 2 * a.length = 1 by omega]; rfl
theorem evs_rn {N : Nat} {types : List Int} {c : List Call} {w : List Step} (hw : ∀ s ∈ w, Fit N types c s) : ∀ k, k ≤ w.length → ∃ op, Rn N types (evs c w) (2 * k) (ncs c 0 (w.take k)) op ∧ ∀ x, x < 8 → op.getD x 0 = 0 := by
  intro k
  induction k with
  | zero => exact fun _ => ⟨[], .zero, fun x _ => by simp⟩
  | succ k ih =>
    intro hk
    obtain ⟨op, R, z⟩ := ih (by omega)
    have hk : k < w.length := by omega
    obtain ⟨s, hs⟩ : ∃ s, w[k] = s := ⟨_, rfl⟩
    have hF := hw s (by rw [← hs]; exact List.getElem_mem hk)
    obtain ⟨f1, f2, ⟨f3, f4, f5⟩, f6⟩ := hF
    have htl : (w.take k).length = k := by rw [List.length_take]; omega
    have hsplit : w = w.take k ++ s :: w.drop (k + 1) := by rw [← hs, ← List.drop_eq_getElem_cons hk, List.take_append_drop]
    obtain ⟨g1, g2⟩ := evs_get c (w.take k) (w.drop (k + 1)) s
    rw [← hsplit, htl] at g1 g2
    have hlen := evs_len c w
    have hn := ncs_len c 0 (w.take k)
    rw [htl] at hn
    have etake : w.take (k + 1) = w.take k ++ [s] := by rw [← hs]; exact (List.take_append_getElem hk).symm
    have enc : ncs c 0 (w.take (k + 1)) = ncs c 0 (w.take k) ++ [⟨(cal c s).who, (cal c s).thing, (cal c s).kind, (cal c s).arg, s.res, 2 * (k : Int), 2 * (k : Int) + 1⟩] := by
      rw [etake, ncs_app, Nat.zero_add, htl]; rfl
    have S1 : StpX N types (ncs c 0 (w.take k)) op ((2 * k : Nat) : Int) ⟨(cal c s).who, (cal c s).thing, (cal c s).kind, (cal c s).arg⟩ (ncs c 0 (w.take k) ++ [begC ⟨(cal c s).who, (cal c s).thing, (cal c s).kind, (cal c s).arg⟩ ((2 * k : Nat) : Int)]) (setA 8 0 op (cal c s).who (((ncs c 0 (w.take k)).length : Int) + 1)) :=
      ⟨f1, f2, .inl ⟨f3, f4, f5, by rw [z _ (show (cal c s).who.toNat < 8 by omega)]; omega, rfl, rfl⟩⟩
    have hat : (ncs c 0 (w.take k) ++ [begC ⟨(cal c s).who, (cal c s).thing, (cal c s).kind, (cal c s).arg⟩ ((2 * k : Nat) : Int)]).getD k Call.z = begC ⟨(cal c s).who, (cal c s).thing, (cal c s).kind, (cal c s).arg⟩ ((2 * k : Nat) : Int) := by
      rw [getD_app, if_neg (by omega), if_pos (by omega)]
    have S2 : StpX N types (ncs c 0 (w.take k) ++ [begC ⟨(cal c s).who, (cal c s).thing, (cal c s).kind, (cal c s).arg⟩ ((2 * k : Nat) : Int)]) (setA 8 0 op (cal c s).who (((ncs c 0 (w.take k)).length : Int) + 1)) ((2 * k + 1 : Nat) : Int) ⟨(cal c s).who, (cal c s).thing, 0, s.res⟩
        ((ncs c 0 (w.take k) ++ [begC ⟨(cal c s).who, (cal c s).thing, (cal c s).kind, (cal c s).arg⟩ ((2 * k : Nat) : Int)]).set k (endC ((ncs c 0 (w.take k) ++ [begC ⟨(cal c s).who, (cal c s).thing, (cal c s).kind, (cal c s).arg⟩ ((2 * k : Nat) : Int)]).getD k Call.z) s.res ((2 * k + 1 : Nat) : Int)))
        (setA 8 0 (setA 8 0 op (cal c s).who (((ncs c 0 (w.take k)).length : Int) + 1)) (cal c s).who 0) :=
      ⟨f1, f2, .inr ⟨rfl, k, by
        rw [setA_get (show (cal c s).who.toNat < 8 by omega), if_pos rfl, hn], by rw [List.length_append, List.length_singleton]; omega, by rw [hat]; rfl, by rw [hat]; exact f6, rfl, rfl⟩⟩
    have R1 := Rn.succ R (by omega) (by rw [g1]; exact S1)
    have R2 := Rn.succ R1 (by omega) (by rw [g2]; exact S2)
    refine ⟨setA 8 0 (setA 8 0 op (cal c s).who (((ncs c 0 (w.take k)).length : Int) + 1)) (cal c s).who 0, ?_, ?_⟩
    · have e : (ncs c 0 (w.take k) ++ [begC ⟨(cal c s).who, (cal c s).thing, (cal c s).kind, (cal c s).arg⟩ ((2 * k : Nat) : Int)]).set k (endC ((ncs c 0 (w.take k) ++ [begC ⟨(cal c s).who, (cal c s).thing, (cal c s).kind, (cal c s).arg⟩ ((2 * k : Nat) : Int)]).getD k Call.z) s.res ((2 * k + 1 : Nat) : Int)) = ncs c 0 (w.take (k + 1)) := by
        rw [hat, enc, List.set_append_right _ _ (by omega), hn, Nat.sub_self, List.set_cons_zero]
        have e1 : ((2 * k : Nat) : Int) = 2 * (k : Int) := by omega
        have e2 : ((2 * k + 1 : Nat) : Int) = 2 * (k : Int) + 1 := by omega
        simp only [endC, begC, e1, e2]
      rw [e] at R2
      exact R2
    · intro x hx
      rw [setA_get hx, setA_get hx]
      split
      · rfl
      · exact z x hx
def lin : Nat → List Step → List Step
  | _, [] => []
  | k, s :: t => ⟨(k : Int), s.res⟩ :: lin (k + 1) t
theorem lin_mem : ∀ (t : List Step) (k i : Nat), k ≤ i → i < k + t.length → i ∈ nums (lin k t)
  | [], _, _, _, h => by simp only [List.length_nil] at h; omega
  | s :: t, k, i, h1, h2 => by
    have e : nums (lin k (s :: t)) = k :: nums (lin (k + 1) t) := by simp [nums, lin]
    rw [e]
    rcases Nat.lt_or_ge k i with h | h
    · exact .tail _ (lin_mem t (k + 1) i h (by simp only [List.length_cons] at h2; omega))
    · obtain rfl : i = k := by omega
      exact .head _
theorem pl_line {types : List Int} {c c' : List Call} {Q : Nat → Nat → Bool} (hft : ∀ j, j < c'.length → (c'.getD j Call.z).from_ = 2 * (j : Int) ∧ (c'.getD j Call.z).to_ = 2 * (j : Int) + 1) : ∀ (t : List Step) (k : Nat) (S : List (List Int)) (w : List Nat), k + t.length = c'.length →
    (∀ i (h : i < t.length), (c'.getD (k + i) Call.z).thing = (cal c t[i]).thing ∧ (c'.getD (k + i) Call.z).kind = (cal c t[i]).kind ∧ (c'.getD (k + i) Call.z).arg = (cal c t[i]).arg ∧ (c'.getD (k + i) Call.z).res = t[i].res) → Pl types c Q S w t → Pl types c' (bfA c') S (List.range k) (lin k t)
  | [], _, _, _, _, _, _ => trivial
  | s :: t, k, S, w, hl, hg, ⟨i, n, h1, h2, h3, h4, h5, h6, h7⟩ => by
    obtain ⟨g1, g2, g3, g4⟩ := hg 0 (by simp)
    simp only [Nat.add_zero, List.getElem_cons_zero] at g1 g2 g3 g4
    have ec : cal c s = c.getD i Call.z := by unfold cal; rw [h1, Int.toNat_natCast]
    rw [ec] at g1 g2 g3
    simp only [List.length_cons] at hl
    refine ⟨k, n, rfl, by omega, by simp, fun j hj => ?_, fun _ => g4.symm, ?_, ?_⟩
    · have hj := List.mem_range.1 hj
      refine decide_eq_false fun ⟨_, a2, _, a4⟩ => ?_
      have b1 := (hft k (by omega)).2
      have b2 := (hft j a2).1
      omega
    · rw [g1, g2, g3]; exact h6
    · rw [g1, ← List.range_succ]
      refine pl_line hft t (k + 1) _ _ (by omega) (fun i hi => ?_) h7
      have := hg (i + 1) (by simpa using hi)
      rw [show k + (i + 1) = k + 1 + i by omega] at this
      simpa using this
end Sr

end Go.Proofs.Ytpakplmpihhmbaa
