/- One that was not answered yet is answered. -/
import Derived.Test.YtpakplmpihhmbaaL8
set_option linter.unusedVariables false
set_option linter.unusedSimpArgs false
set_option linter.unusedSectionVars false
set_option maxRecDepth 100000
namespace Go.Proofs.Ytpakplmpihhmbaa
open Go.RowKit
namespace Sr
open Rl Hs
/-- Arguments and results are as they may be. -/
theorem rn_arg {N : Nat} {types : List Int} {l : List Event} {k : Nat} {out : List Call} {op : List Int} (R : Rn N types l k out op) : ∀ m, m < out.length → history_Argument N (out.getD m Call.z).kind (out.getD m Call.z).arg = some true ∧ ((out.getD m Call.z).to_ ≠ -1 → history_result N (out.getD m Call.z).kind (out.getD m Call.z).res = some true) := by
  induction R with
  | zero => exact fun m h => absurd h (Nat.not_lt_zero _)
  | @succ k out out' op op' R hk S ih =>
    intro m hm
    rcases S.how with ⟨_, _, ha, _, rfl, _⟩ | ⟨_, m0, _, hml, _, hr, rfl, _⟩
    · rw [List.length_append, List.length_singleton] at hm
      rw [getD_app]
      by_cases h : m < out.length
      · rw [if_pos h]; exact ih m h
      · rw [if_neg h, if_pos (by omega)]
        exact ⟨ha, fun h => (h rfl).elim⟩
    · rw [List.length_set] at hm
      rw [getD_set2 hml]
      by_cases e : m = m0
      · subst e
        rw [if_pos rfl]
        exact ⟨(ih m hm).1, fun _ => hr⟩
      · rw [if_neg e]; exact ih m hm
end Sr

namespace Sr
open Rl Hs
theorem res_ok (N : Nat) {typ : Int} {s : List Int} {kind arg : Int} {n : List Int} {res : Int} (h : Ob.nx typ s kind arg = some (n, res)) : history_result N kind res = some true := by
  obtain ⟨hO, hA, hs, _⟩ := Ob.nx_ok h
  obtain ⟨h0, hk, _, _⟩ := hA
  have hinv := Ob.tyK_inv hk h0
  clear hk h
  unfold Ob.stp at hs
  have d2 : ∀ m, history_result N 2 m = some ((decide (0 ≤ m)) && (decide (m ≤ 1000))) := fun _ => rfl
  have d10 : ∀ m, history_result N 10 m = some ((decide (0 ≤ m)) && (decide (m ≤ 1000))) := fun _ => rfl
  have d4 : ∀ m, history_result N 4 m = some ((decide (m = (-1))) || ((decide (1 ≤ m)) && (decide (m ≤ 1000)))) := fun _ => rfl
  have d6 : ∀ m, history_result N 6 m = some ((decide (m = (-1))) || ((decide (1 ≤ m)) && (decide (m ≤ 1000)))) := fun _ => rfl
  have d7 : ∀ m, history_result N 7 m = some ((decide (m = 0)) || (decide (m = 1))) := fun _ => rfl
  have d8 : ∀ m, history_result N 8 m = some ((decide (m = 0)) || (decide (m = 1))) := fun _ => rfl
  have d9 : ∀ m, history_result N 9 m = some ((decide (m = 0)) || (decide (m = 1))) := fun _ => rfl
  have z1 : history_result N 1 0 = some true := rfl
  have z3 : history_result N 3 0 = some true := rfl
  have z5 : history_result N 5 0 = some true := rfl
  have get : ∀ (i : Nat), (∀ m ∈ s, Ob.Num m) → i < s.length → (decide (s.getD i 0 = -1) || (decide (1 ≤ s.getD i 0) && decide (s.getD i 0 ≤ 1000))) = true := fun i hm hi => by
    have := hm _ (List.getElem_mem hi)
    rw [getD_of hi]
    unfold Ob.Num at this
    rw [decide_eq_true this.1, decide_eq_true this.2]
    simp
  rcases hinv with ⟨rfl, hk⟩ | ⟨rfl, hk⟩ | ⟨rfl, hk⟩ | ⟨rfl, hk⟩ | ⟨rfl, hk⟩
  · rcases hO with ⟨_, v, rfl, v0, v1⟩ | ⟨h, _⟩ | ⟨h, _⟩
    · rcases hk with rfl | rfl
      · cases hs; exact z1
      · cases hs
        rw [d2]
        simp [v0, v1]
    · omega
    · omega
  · rcases hO with ⟨h, _⟩ | ⟨_, hl, hm⟩ | ⟨h, _⟩
    · omega
    · rcases hk with rfl | rfl
      · simp only [show ¬ ((2 : Int) = 1) by decide, show ¬ ((2 : Int) = 5) by decide, if_false, if_true] at hs
        split at hs
        · cases hs
        · cases hs; exact z3
      · simp only [show ¬ ((2 : Int) = 1) by decide, show ¬ ((2 : Int) = 5) by decide, show ¬ ((4 : Int) = 3) by decide, if_false, if_true] at hs
        split at hs
        · cases hs; rfl
        · rename_i h1
          cases hs
          rw [d4, get 0 hm (by omega)]
    · omega
  · rcases hO with ⟨h, _⟩ | ⟨_, hl, hm⟩ | ⟨h, _⟩
    · omega
    · rcases hk with rfl | rfl
      · simp only [show ¬ ((3 : Int) = 1) by decide, show ¬ ((3 : Int) = 5) by decide, show ¬ ((3 : Int) = 2) by decide, if_false, if_true] at hs
        split at hs
        · cases hs
        · cases hs; exact z5
      · simp only [show ¬ ((3 : Int) = 1) by decide, show ¬ ((3 : Int) = 5) by decide, show ¬ ((3 : Int) = 2) by decide, show ¬ ((6 : Int) = 5) by decide, if_false, if_true] at hs
        split at hs
        · cases hs; rfl
        · rename_i h1
          cases hs
          rw [d6, get (s.length - 1) hm (by omega)]
    · omega
  · simp only [show ¬ ((4 : Int) = 1) by decide, show ¬ ((4 : Int) = 5) by decide, show ¬ ((4 : Int) = 2) by decide, show ¬ ((4 : Int) = 3) by decide, if_false] at hs
    rcases hk with rfl | rfl | rfl
    · rw [if_pos rfl] at hs
      split at hs
      · cases hs; rfl
      · split at hs
        · cases hs
        · cases hs; rfl
    · rw [if_neg (by decide), if_pos rfl] at hs
      split at hs
      · cases hs; rfl
      · cases hs; rfl
    · rw [if_neg (by decide), if_neg (by decide)] at hs
      cases hs
      rw [d9]
      split <;> rfl
  · rcases hO with ⟨_, v, rfl, v0, v1⟩ | ⟨h, _⟩ | ⟨h, _⟩
    · simp only [show ¬ ((5 : Int) = 1) by decide, if_false, if_true] at hs
      subst hk
      split at hs
      · cases hs
      · cases hs
        rw [d10]
        simp [v0, v1]
    · omega
    · omega
def cal (c : List Call) (s : Step) : Call := c.getD s.call.toNat Call.z
/-- What a run asks of a step. -/
def Fit (N : Nat) (types : List Int) (c : List Call) (s : Step) : Prop := (0 ≤ (cal c s).who ∧ (cal c s).who < 8) ∧ (0 ≤ (cal c s).thing ∧ (cal c s).thing < types.length) ∧ ((cal c s).kind ≠ 0 ∧ (types.getD (cal c s).thing.toNat 0 ≠ 0 ∧ tyF (cal c s).kind = types.getD (cal c s).thing.toNat 0) ∧ history_Argument N (cal c s).kind (cal c s).arg = some true) ∧ history_result N (cal c s).kind s.res = some true
end Sr

namespace Sr
open Rl Hs
theorem pl_fit {N : Nat} {types : List Int} {l : List Event} {k : Nat} {c : List Call} {op : List Int} (R : Rn N types l k c op) {q : Nat → Nat → Bool} : ∀ {t : List Step} {S : List (List Int)} {w : List Nat}, Pl types c q S w t → ∀ s ∈ t, Fit N types c s
  | [], _, _, _, s, hs => by cases hs
  | a :: t, S, w, ⟨i, n, h1, h2, _, _, _, h6, h7⟩, s, hs => by
    rcases List.mem_cons.1 hs with rfl | hs
    · have ec : cal c s = c.getD i Call.z := by unfold cal; rw [h1, Int.toNat_natCast]
      have O := R.wf.one i h2
      unfold Fit
      rw [ec]
      exact ⟨O.who, O.thing, ⟨O.evf.2, O.fit, (rn_arg R i h2).1⟩, res_ok N h6⟩
    · exact pl_fit R h7 s hs
end Sr

namespace Sr
open Rl Hs
theorem rn_app {N : Nat} {types : List Int} {l x : List Event} {n : Nat} {out : List Call} {op : List Int} (R : Rn N types l n out op) : Rn N types (l ++ x) n out op := by
  induction R with
  | zero => exact .zero
  | @succ k out out' op op' R hk S ih =>
    refine .succ ih (by rw [List.length_append]; omega) ?_
    have e : (l ++ x).getD k Event.z = l.getD k Event.z := by
      rw [List.getD_eq_getElem?_getD, List.getElem?_append_left hk, ← List.getD_eq_getElem?_getD]
    rw [e]; exact S
/-- With one that was not answered yet answered so. -/
theorem pl_end {types : List Int} {c c' : List Call} {k : Nat} {a b : Int} (hc' : c' = c.set k (endC (c.getD k Call.z) a b)) (hk : k < c.length) (hq : ∀ i j, bfA c' i j = true → bfA c i j = true) : ∀ {t : List Step} {S : List (List Int)} {w : List Nat}, (∀ s ∈ t, s.call = (k : Int) → s.res = a) → Pl types c (bfA c) S w t → Pl types c' (bfA c') S w t
  | [], _, _, _, _ => trivial
  | s :: t, S, w, hr, ⟨i, n, h1, h2, h3, h4, h5, h6, h7⟩ => by
    have hg : c'.getD i Call.z = if i = k then endC (c.getD k Call.z) a b else c.getD i Call.z := by rw [hc', getD_set2 hk]
    have e1 : (c'.getD i Call.z).thing = (c.getD i Call.z).thing ∧ (c'.getD i Call.z).kind = (c.getD i Call.z).kind ∧ (c'.getD i Call.z).arg = (c.getD i Call.z).arg := by
      rw [hg]
      by_cases e : i = k
      · subst e; rw [if_pos rfl]; exact ⟨rfl, rfl, rfl⟩
      · rw [if_neg e]; exact ⟨rfl, rfl, rfl⟩
    obtain ⟨e2, e3, e4⟩ := e1
    refine ⟨i, n, h1, by rw [hc', List.length_set]; exact h2, h3, fun j hj => ?_, fun ht => ?_, by rw [e2, e3, e4]; exact h6, by rw [e2]; exact pl_end hc' hk hq (fun s hs => hr s (.tail _ hs)) h7⟩
    · cases hb : bfA c' i j with
      | false => rfl
      | true => rw [← h4 j hj]; exact (hq i j hb).symm
    · rw [hg] at ht ⊢
      by_cases e : i = k
      · subst e
        rw [if_pos rfl]
        exact hr s (.head _) h1
      · rw [if_neg e] at ht ⊢
        exact h5 ht
theorem never_step {N : Nat} (hN : 300 < N) {types : List Int} {l : List Event} {c : List Call} {op : List Int} (R : Rn N types l l.length c op) (ht : history_Types N types = some 0) (hl : l.length < 200) {k : Nat} (hk : k < c.length) (hto : (c.getD k Call.z).to_ = -1) {n : Int} {t : List Step} (g : Gd types c (bfA c) (S0 types) [] t) (hin : (⟨(k : Int), n⟩ : Step) ∈ t) (huni : ∀ s ∈ t, s.call = (k : Int) → s.res = n) (hres : history_result N (c.getD k Call.z).kind n = some true) :
    ∃ c', history_Calls N types (l ++ [⟨(c.getD k Call.z).who, (c.getD k Call.z).thing, 0, n⟩]) = some (c', 0, 0) ∧ c'.length = c.length ∧ Gd types c' (bfA c') (S0 types) [] t := by
  have W := R.wf
  have O := W.one k hk
  have hop : op.getD (c.getD k Call.z).who.toNat 0 = k + 1 := by
    rcases O.to with ⟨_, h, _⟩ | ⟨h1, h2⟩
    · exact h
    · have := O.fr
      omega
  have hlen : (l ++ [(⟨(c.getD k Call.z).who, (c.getD k Call.z).thing, 0, n⟩ : Event)]).length = l.length + 1 := by simp
  have hev : (l ++ [(⟨(c.getD k Call.z).who, (c.getD k Call.z).thing, 0, n⟩ : Event)]).getD l.length Event.z = ⟨(c.getD k Call.z).who, (c.getD k Call.z).thing, 0, n⟩ := by
    rw [getD_app, if_neg (by omega), if_pos rfl]
  have S1 : StpX N types c op (l.length : Int) ⟨(c.getD k Call.z).who, (c.getD k Call.z).thing, 0, n⟩ (c.set k (endC (c.getD k Call.z) n l.length)) (setA 8 0 op (c.getD k Call.z).who 0) :=
    ⟨O.who, O.thing, .inr ⟨rfl, k, hop, hk, rfl, hres, rfl, rfl⟩⟩
  have R1 := Rn.succ (rn_app (x := [(⟨(c.getD k Call.z).who, (c.getD k Call.z).thing, 0, n⟩ : Event)]) R) (by omega) (by rw [hev]; exact S1)
  rw [← hlen] at R1
  have hq : ∀ i j, bfA (c.set k (endC (c.getD k Call.z) n l.length)) i j = true → bfA c i j = true := by
    intro i j h
    obtain ⟨h1, h2, h3, h4⟩ := of_decide_eq_true h
    rw [List.length_set] at h1 h2
    have ej : ((c.set k (endC (c.getD k Call.z) n l.length)).getD j Call.z).from_ = (c.getD j Call.z).from_ := by
      rw [getD_set2 hk]
      by_cases e : j = k
      · subst e; rw [if_pos rfl]; rfl
      · rw [if_neg e]
    rw [ej] at h4
    have hf := (W.one j h2).fr
    rw [getD_set2 hk] at h3 h4
    by_cases e : i = k
    · rw [if_pos e] at h4
      simp only [endC] at h4
      omega
    · rw [if_neg e] at h3 h4
      exact decide_eq_true ⟨h1, h2, h3, h4⟩
  refine ⟨_, calls_of hN ht (by omega) R1, by rw [List.length_set], pl_end rfl hk hq huni g.1, fun i hi h => ?_⟩
  rw [List.length_set] at hi
  rw [List.nil_append]
  by_cases e : i = k
  · subst e
    exact List.mem_map.2 ⟨_, hin, by simp⟩
  · rw [getD_set2 hk, if_neg e] at h
    have := g.2 i hi h
    simpa using this
theorem res_b {N : Nat} {k n : Int} (h : history_result N k n = some true) : -1 ≤ n ∧ n ≤ 1000 := by
  by_cases h2 : k = 2
  · subst h2
    have e : history_result N 2 n = some ((decide (0 ≤ n)) && (decide (n ≤ 1000))) := rfl
    rw [e] at h
    have h : 0 ≤ n ∧ n ≤ 1000 := by simpa using h
    omega
  by_cases h10 : k = 10
  · subst h10
    have e : history_result N 10 n = some ((decide (0 ≤ n)) && (decide (n ≤ 1000))) := rfl
    rw [e] at h
    have h : 0 ≤ n ∧ n ≤ 1000 := by simpa using h
    omega
  by_cases h4 : k = 4
  · subst h4
    have e : history_result N 4 n = some ((decide (n = (-1))) || ((decide (1 ≤ n)) && (decide (n ≤ 1000)))) := rfl
    rw [e] at h
    have h : n = -1 ∨ (1 ≤ n ∧ n ≤ 1000) := by simpa using h
    omega
  by_cases h6 : k = 6
  · subst h6
    have e : history_result N 6 n = some ((decide (n = (-1))) || ((decide (1 ≤ n)) && (decide (n ≤ 1000)))) := rfl
    rw [e] at h
    have h : n = -1 ∨ (1 ≤ n ∧ n ≤ 1000) := by simpa using h
    omega
  by_cases h7 : k = 7 ∨ k = 8 ∨ k = 9
  · have e : history_result N k n = some ((decide (n = 0)) || (decide (n = 1))) := by rcases h7 with rfl | rfl | rfl <;> rfl
    rw [e] at h
    have h : n = 0 ∨ n = 1 := by simpa using h
    omega
  · have e : history_result N k n = some (decide (n = 0)) := by
      unfold history_result
      rw [decide_eq_false h2, decide_eq_false h10, decide_eq_false h4, decide_eq_false h6, decide_eq_false (show ¬ k = 7 by omega), decide_eq_false (show ¬ k = 8 by omega), decide_eq_false (show ¬ k = 9 by omega)]
      rfl
    rw [e] at h
    have h : n = 0 := by simpa using h
    omega
end Sr

end Go.Proofs.Ytpakplmpihhmbaa
