/- Search, plainly: Find, Right. -/
import Derived.Test.YteklmleiiiodfaaL4
import Derived.Test.YteklmleiiiodfaaL3
set_option linter.unusedVariables false
set_option linter.unusedSimpArgs false
set_option linter.unusedSectionVars false
set_option maxRecDepth 100000
namespace Go.Proofs.Yteklmleiiiodfaa
open Go.RowKit
namespace Hs
open Rl
def bfA (c : List Call) (i j : Nat) : Bool := decide (i < c.length ∧ j < c.length ∧ (c.getD i Call.z).to_ ≠ -1 ∧ (c.getD i Call.z).to_ < (c.getD j Call.z).from_)
theorem ahead_wp {N : Nat} {c : List Call} (hN : 300 < N) (h12 : c.length ≤ 12) : Wp (history_Ahead N c) fun r => r.1 = c.length ∧ r.2.2 = 0 ∧ ∀ i, i < 12 → Row (r.2.1.getD i 0) (bfA c i) := by
  unfold history_Ahead
  refine .condF (decide_eq_false (by omega)) ?_
  refine .seq (P := fun A => ∀ i, i < 12 → Row (A.getD i 0) (bfA c i)) (.iter c.length (fun k st => st.2 = (k : Int) ∧ ∀ i, i < 12 → Row (st.1.getD i 0) fun j => decide (i < k) && bfA c i j) (by omega) ⟨rfl, fun i _ => Row.zero.cong fun j => by simp⟩ ?_ ?_) fun A _ hA => .one ⟨rfl, rfl, hA⟩
  · rintro k ⟨A, v⟩ hk ⟨hv, hA⟩
    simp only at hv hA
    subst hv
    simp only [history_Ahead_L25]
    refine .condT (decide_eq_true (by omega)) ?_
    refine .seq (P := fun A' => ∀ i, i < 12 → Row (A'.getD i 0) fun j => decide (i < k + 1) && bfA c i j) (.bd (.ixV hk ?_)) fun A' _ hA' => .ck64 (by omega) (.one ⟨by simp, hA'⟩)
    refine mat_in (by omega) h12 (by omega) hA (fun j h => (of_decide_eq_true h).2.1) (fun B j hj => ?_) (fun B => ?_)
    · simp only [history_Ahead_L27]
      refine Wp.eq (.condT (decide_eq_true (by omega)) (.ix hj ?_))
      have e : ((!(decide (c[k].to_ = (-1)))) && (decide (c[k].to_ < c[j].from_))) = bfA c k j := by
        unfold bfA
        rw [getD_of hk, getD_of hj, Bool.eq_iff_iff]
        simp only [Bool.and_eq_true, Bool.not_eq_true', decide_eq_false_iff_not, decide_eq_true_eq]
        exact ⟨fun h => ⟨hk, hj, h.1, h.2⟩, fun h => h.2.2⟩
      rw [e]
      exact .cond (fun hb => .axN (by omega) (.axN (by omega) (.ck64 (by omega) (.one (by rw [hb]; rfl))))) (fun hb => .ck64 (by omega) (.one (by rw [hb]; rfl)))
    · simp only [history_Ahead_L27]
      exact Wp.eq (.condF (by simp) (.one rfl))
  · rintro ⟨B, v⟩ ⟨hv, hB⟩
    simp only at hv hB
    subst hv
    simp only [history_Ahead_L25]
    refine .condF (by simp) (.one fun i hi => (hB i hi).cong fun j => ?_)
    by_cases h : i < c.length
    · simp [h]
    · have : bfA c i j = false := decide_eq_false (fun hh => h hh.1)
      simp [this]
end Hs

namespace Sr
open Rl Hs
/-- A history that is read, of few calls. -/
structure Hc (N : Nat) (types : List Int) (l : List Event) (c : List Call) : Prop where
  his : His N types l c
  few : c.length ≤ 9
theorem calls9_wp {N : Nat} (hN : 300 < N) (types : List Int) (l : List Event) : Wp (search_Calls N types l) fun r => (r.2 = 0 ∧ Hc N types l r.1 ∧ history_Calls N types l = some (r.1, 0, 0)) ∨ (r.2 ≠ 0 ∧ r.1 = []) := by
  unfold search_Calls
  refine .seq (calls_wp hN) fun r hr h => .cond (fun h2 => .one (.inr ⟨by simpa using h2, rfl⟩)) fun h2 => .cond (fun _ => .one (.inr ⟨by simp, rfl⟩)) fun h3 => .one (.inl ⟨rfl, ⟨?_, by have := of_decide_eq_false h3; simp only; omega⟩, ?_⟩)
  · exact (h (by simpa using h2)).1
  · obtain ⟨a, b, e⟩ := r
    have h2 : e = 0 := by simpa using h2
    have := (h h2).2
    simp only at this
    subst h2; subst this
    exact hr
theorem cx_of {N : Nat} {types : List Int} {l : List Event} {c : List Call} (H : His N types l c) (h12 : c.length ≤ 12) {n : Int} {A : List Int} {q : Nat → Nat → Bool} (hA : ∀ i, i < 12 → Row (A.getD i 0) (q i)) : Cx types c ⟨n, A⟩ q := by
  obtain ⟨h1, h2, h3⟩ := H.tys
  obtain ⟨op, W⟩ := H.wf
  exact ⟨h2, fun x hx => h3 _ (by rw [getD_of hx]; exact List.getElem_mem hx), h12, fun m hm => (W.one m hm).thing, hA⟩
/-- What is found. -/
def Fnd (types : List Int) (c : List Call) (q : Nat → Nat → Bool) (x : List Step) (b : Bool) : Prop := (b = true ∧ Gd types c q (S0 types) [] x ∧ ∀ u, Gd types c q (S0 types) [] u → lex x u) ∨ (b = false ∧ x = [] ∧ ∀ u, ¬ Gd types c q (S0 types) [] u)
theorem find_wp {N : Nat} (hN : 300 < N) {types : List Int} {l : List Event} {c : List Call} {e : Int} (hc : search_Calls N types l = some (c, e)) : Wp (search_Find N types l) fun r => r.2.2 = e ∧ (e ≠ 0 → r.1 = [] ∧ r.2.1 = false) ∧ (e = 0 → Hc N types l c → Fnd types c (bfA c) r.1 r.2.1) := by
  obtain ⟨r, h1, h2⟩ := calls9_wp hN types l
  rw [hc] at h1
  cases h1
  unfold search_Find
  refine .bdO hc ?_
  rcases h2 with ⟨h0, H, _⟩ | ⟨h0, _⟩
  · simp only at h0 H
    subst h0
    have hf := H.few
    refine .condF rfl (.seq (ahead_wp hN (c := c) (by omega)) fun a _ ha => .seq (smallest_wp hN (cx_of H.his (by omega) ha.2.2)) fun r _ hr => .one ⟨rfl, fun h => (h rfl).elim, fun _ _ => hr⟩)
  · exact .condT (by simpa using h0) (.one ⟨rfl, fun _ => ⟨rfl, rfl⟩, fun h => (h0 h).elim⟩)
theorem right_wp {N : Nat} (hN : 300 < N) {types : List Int} {l : List Event} {c : List Call} {e : Int} (hc : search_Calls N types l = some (c, e)) {w : List Step} (hw : w.length < N) : Wp (search_Right N types l w) fun r => r.2 = e ∧ (e ≠ 0 → r.1 = false) ∧ (e = 0 → Hc N types l c → (r.1 = true ↔ Gd types c (bfA c) (S0 types) [] w)) := by
  obtain ⟨r, h1, h2⟩ := calls9_wp hN types l
  rw [hc] at h1
  cases h1
  unfold search_Right
  refine .bdO hc ?_
  rcases h2 with ⟨h0, H, _⟩ | ⟨h0, _⟩
  · simp only at h0 H
    subst h0
    have hf := H.few
    refine .condF rfl (.seq (ahead_wp hN (c := c) (by omega)) fun a _ ha => .seq (valid_wp hN (cx_of H.his (by omega) ha.2.2) hw) fun r _ hr => .one ⟨rfl, fun h => (h rfl).elim, fun _ _ => hr⟩)
  · exact .condT (by simpa using h0) (.one ⟨rfl, fun _ => rfl, fun h => (h0 h).elim⟩)
theorem Gd.len {types : List Int} {c : List Call} {rel : Rel} {q : Nat → Nat → Bool} (X : Cx types c rel q) {t : List Step} (g : Gd types c q (S0 types) [] t) : t.length ≤ c.length := ((pl_iff X (by simp [S0])).1 g.1).1.len
end Sr

namespace Sr
open Rl Hs
theorem cx9 {N : Nat} {types : List Int} {l : List Event} {c : List Call} (H : Hc N types l c) (hN : 300 < N) : ∃ rel, Cx types c rel (bfA c) := by
  have hf := H.few
  obtain ⟨a, _, ha⟩ := ahead_wp hN (c := c) (by omega)
  exact ⟨_, cx_of (n := a.1) H.his (by omega) ha.2.2⟩
end Sr

end Go.Proofs.Yteklmleiiiodfaa
