/- What each algorithm keeps. -/
import Derived.Test.YtkccgokdahlmeaaM5
set_option linter.unusedVariables false
set_option linter.unusedSimpArgs false
set_option linter.unusedSectionVars false
set_option maxRecDepth 100000
namespace Go.Proofs.Ytkccgokdahlmeaa
open Go.RowKit
namespace Mx
/-- Gates: in and out by turns; who went out is who came in. -/
structure GI (m : Int × Int × List Gate) (ins : Option Nat) : Prop where
  alt : ∀ k, k < m.2.2.length → (m.2.2.getD k Gate.z).in_ = decide (k % 2 = 0)
  who : ∀ k, k + 1 < m.2.2.length → k % 2 = 0 → (m.2.2.getD (k + 1) Gate.z).who = (m.2.2.getD k Gate.z).who
  par : m.2.2.length % 2 = if ins.isSome then 1 else 0
  last : ∀ w, ins = some w → (m.2.2.getD (m.2.2.length - 1) Gate.z).who = (w : Nat)
  inn : m.1 = (m.2.2.length % 2 : Nat)
  most : m.2.1 = min 1 (m.2.2.length : Int)
theorem getD_app {l : List Gate} {x : Gate} {k : Nat} : (l ++ [x]).getD k Gate.z = if k < l.length then l.getD k Gate.z else if k = l.length then x else Gate.z := by
  simp only [List.getD_eq_getElem?_getD]
  split
  · rw [List.getElem?_append_left (by assumption)]
  · rw [List.getElem?_append_right (by omega)]
    split
    · rename_i h; subst h; simp
    · rw [List.getElem?_eq_none (by simp; omega)]; rfl
theorem GI.enter {s : Sm} {w : Nat} {p : MutexProcess} (G : GI s.2.2 none) : GI (enterF s w p).2.2 (some w) := by
  obtain ⟨l, t, i, m, g⟩ := s
  have h1 := G.par; have h2 := G.inn; have h3 := G.most
  simp only [Option.isSome_none, Bool.false_eq_true, if_false] at h1 h2 h3
  unfold enterF
  refine ⟨fun k hk => ?_, fun k hk he => ?_, ?_, fun v hv => ?_, ?_, ?_⟩ <;> simp only [List.length_append, List.length_cons, List.length_nil] at *
  · rw [getD_app]
    split
    · exact G.alt k (by assumption)
    · rw [if_pos (by omega)]; simp; omega
  · rw [getD_app, getD_app]
    rw [if_pos (by omega), if_pos (by omega)]
    exact G.who k (by simp only; omega) he
  · simp; omega
  · obtain rfl := Option.some.inj hv
    rw [getD_app, if_neg (by omega), if_pos (by omega)]
  · omega
  · omega
theorem GI.exit {s : Sm} {w : Nat} {p : MutexProcess} (G : GI s.2.2 (some w)) : GI (exitF s w p).2.2 none := by
  obtain ⟨l, t, i, m, g⟩ := s
  have h1 := G.par; have h2 := G.inn; have h3 := G.most; have h4 := G.last w rfl
  simp only [Option.isSome_some, if_true] at h1 h2 h3 h4
  unfold exitF
  refine ⟨fun k hk => ?_, fun k hk he => ?_, ?_, fun v hv => (by cases hv), ?_, ?_⟩ <;> simp only [List.length_append, List.length_cons, List.length_nil] at *
  · rw [getD_app]
    split
    · exact G.alt k (by assumption)
    · rw [if_pos (by omega)]; simp; omega
  · rw [getD_app, getD_app]
    by_cases hk2 : k + 1 < g.length
    · rw [if_pos (by omega), if_pos (by omega)]
      exact G.who k (by simp only; omega) he
    · rw [if_neg hk2, if_pos (by omega), if_pos (by omega), show k = g.length - 1 by omega, h4]
  · simp; omega
  · omega
  · omega
def upd {α : Type} (f : Nat → α) (w : Nat) (v : α) : Nat → α := fun i => if i = w then v else f i
abbrev stF (s : Sm) : Nat → Int := fun i => (pr s i).step
abbrev nuF (s : Sm) : Nat → Int := fun i => (pr s i).number
abbrev kF (s : Sm) : Nat → Int := fun i => (pr s i).k
abbrev flF (s : Sm) : Nat → Bool := fun i => (pr s i).flag
theorem pf_set {s : Sm} {r : Int × Int × Int × List Gate} {w : Nat} {p : MutexProcess} (h : w < s.1.length) {α : Type} (f : MutexProcess → α) : (fun i => f (pr (s.1.set w p, r) i)) = upd (fun i => f (pr s i)) w (f p) := by
  funext i
  rw [pr_set h]
  unfold upd
  split
  · rfl
  · rfl
theorem stF_set {s : Sm} {r : Int × Int × Int × List Gate} {w : Nat} {p : MutexProcess} (h : w < s.1.length) : stF (s.1.set w p, r) = upd (stF s) w p.step := pf_set h MutexProcess.step
theorem nuF_set {s : Sm} {r : Int × Int × Int × List Gate} {w : Nat} {p : MutexProcess} (h : w < s.1.length) : nuF (s.1.set w p, r) = upd (nuF s) w p.number := pf_set h MutexProcess.number
theorem kF_set {s : Sm} {r : Int × Int × Int × List Gate} {w : Nat} {p : MutexProcess} (h : w < s.1.length) : kF (s.1.set w p, r) = upd (kF s) w p.k := pf_set h MutexProcess.k
theorem flF_set {s : Sm} {r : Int × Int × Int × List Gate} {w : Nat} {p : MutexProcess} (h : w < s.1.length) : flF (s.1.set w p, r) = upd (flF s) w p.flag := pf_set h MutexProcess.flag
/-! Peterson -/
structure JP (st : Nat → Int) (fl : Nat → Bool) (t : Int) (ins : Option Nat) : Prop where
  bst : ∀ i, i < 2 → 0 ≤ st i ∧ st i ≤ 4
  bfl : ∀ i, i < 2 → (fl i = true ↔ st i ≠ 0)
  one : ∀ i, i < 2 → st i = 3 → st (1 - i) ≠ 3
  tn : ∀ i, i < 2 → st i = 3 → st (1 - i) = 2 → t = i
  tt : t = 0 ∨ t = 1
  bins : ∀ i, ins = some i ↔ i < 2 ∧ st i = 3
theorem JP.upd {st : Nat → Int} {fl : Nat → Bool} {t : Int} {ins : Option Nat} (J : JP st fl t ins) {w : Nat} (hw : w < 2) {a t' : Int} {b : Bool} {ins' : Option Nat}
    (h1 : 0 ≤ a ∧ a ≤ 4) (h2 : b = true ↔ a ≠ 0) (h3 : a = 3 → st (1 - w) ≠ 3 ∧ (st (1 - w) = 2 → t' = w)) (h4 : st (1 - w) = 3 → a = 2 → t' = (1 - w : Nat))
    (h5 : t' = 0 ∨ t' = 1) (h6 : ∀ i, ins' = some i ↔ i < 2 ∧ (if i = w then a else st i) = 3) : JP (upd st w a) (upd fl w b) t' ins' := by
  have e : ∀ i, i < 2 → i ≠ w → i = 1 - w := by omega
  refine ⟨fun i hi => ?_, fun i hi => ?_, fun i hi => ?_, fun i hi => ?_, h5, h6⟩ <;> unfold Mx.upd <;> by_cases hiw : i = w
  · simp only [hiw, if_true]; exact h1
  · simp only [hiw, if_false]; exact J.bst i hi
  · simp only [hiw, if_true]; exact h2
  · simp only [hiw, if_false]; exact J.bfl i hi
  · subst hiw; simp only [if_true]; rw [if_neg (by omega)]; exact fun h => (h3 h).1
  · obtain rfl := e i hi hiw
    have e2 : 1 - (1 - w) = w := by omega
    rw [if_neg hiw, e2, if_pos rfl]
    intro h h'; exact (h3 h').1 h
  · subst hiw; simp only [if_true]; rw [if_neg (by omega)]; exact fun h => (h3 h).2
  · obtain rfl := e i hi hiw
    have e2 : 1 - (1 - w) = w := by omega
    rw [if_neg hiw, e2, if_pos rfl]
    intro h h'; exact h4 h h'
theorem insIs {J : Nat → Prop} {ins : Option Nat} (h : ∀ i, ins = some i ↔ J i) (hn : ∀ i, ¬J i) : ins = none := by
  cases ins with
  | none => rfl
  | some i => exact (hn i ((h i).1 rfl)).elim
theorem insSame {P : Nat → Prop} {ins : Option Nat} {st : Nat → Int} {w n : Nat} {a c : Int} (h : ∀ i, ins = some i ↔ i < n ∧ st i = c) (hw : st w ≠ c) (ha : a ≠ c) : ∀ i, ins = some i ↔ i < n ∧ (if i = w then a else st i) = c := by
  intro i
  rw [h i]
  by_cases e : i = w
  · subst e; simp [hw, ha]
  · simp [e]
theorem pet_keep {s : Sm} {ins : Option Nat} (hlen : s.1.length = 2) (J : JP (stF s) (flF s) s.2.1 ins) (G : GI s.2.2 ins) {w : Nat} (hw : w < 2) : ∃ ins', JP (stF (petF s w)) (flF (petF s w)) (petF s w).2.1 ins' ∧ GI (petF s w).2.2 ins' := by
  have hwl : w < s.1.length := by omega
  have h1 := J.bst w hw; have h2 := J.bfl w hw; have h3 := J.one w hw; have h4 := J.tn w hw; have hi := J.bins; have ho := J.bfl (1 - w) (by omega); have hs' := J.bst (1 - w) (by omega)
  have h3' := J.one (1 - w) (by omega); have h4' := J.tn (1 - w) (by omega); have ee : 1 - (1 - w) = w := by omega
  rw [ee] at h3' h4'
  simp only [stF, flF] at h1 h2 h3 h4 ho hs' h3' h4'
  unfold petF
  repeat' split
  · rename_i e
    refine ⟨ins, ?_, G⟩
    rw [stF_set hwl, flF_set hwl]
    exact J.upd hw (by simp only; omega) (by simp only; constructor <;> intro <;> simp <;> omega) (by simp only; omega) (by simp only; omega) J.tt (insSame (P := fun _ => True) hi (by simp only [stF]; omega) (by simp only; omega))
  · rename_i e0 e
    refine ⟨ins, ?_, G⟩
    rw [stF_set hwl, flF_set hwl]
    refine J.upd (t' := 1 - (w : Int)) hw (by simp only; omega) (by simp only; rw [h2]; omega) (by simp only; omega) (by simp only; omega) (by omega) (insSame (P := fun _ => True) hi (by simp only [stF]; omega) (by simp only; omega))
  · exact ⟨ins, J, G⟩
  · rename_i e0 e1 e hc
    have hn : ins = none := insIs hi fun i ⟨hi2, hi3⟩ => by
      by_cases hiw : i = w
      · subst hiw; simp only [stF] at hi3; omega
      · obtain rfl : i = 1 - w := by omega
        simp only [stF] at hi3
        have a1 := h4' hi3 e
        exact hc ⟨ho.2 (by omega), by omega⟩
    subst hn
    refine ⟨some w, ?_, G.enter⟩
    unfold enterF
    rw [stF_set hwl, flF_set hwl]
    refine J.upd (t' := s.2.1) hw (by simp only; omega) (by simp only; rw [h2]; omega) (fun _ => ⟨fun h => ?_, fun h => ?_⟩) (by simp only; omega) J.tt fun i => ?_
    · have := (hi (1 - w)).2 ⟨by omega, h⟩; cases this
    · simp only [stF] at h
      have hf := ho.2 (by omega)
      have : ¬ s.2.1 ≠ w := fun h' => hc ⟨hf, h'⟩
      omega
    · simp only
      by_cases hiw : i = w
      · subst hiw; simp [hw, e]
      · simp only [hiw, if_false]
        constructor
        · intro h; exact (hiw (Option.some.inj h).symm).elim
        · intro h; have := (hi i).2 h; cases this
  · rename_i e0 e1 e2 e
    have hn : ins = some w := (hi w).2 ⟨hw, e⟩
    subst hn
    refine ⟨none, ?_, G.exit⟩
    unfold exitF
    rw [stF_set hwl, flF_set hwl]
    refine J.upd hw (by simp only; omega) (by simp only; rw [h2]; omega) (by simp only; omega) (by simp only; omega) J.tt fun i => ?_
    simp only
    by_cases hiw : i = w
    · subst hiw; simp [e]
    · simp only [hiw, if_false]
      constructor
      · intro h; cases h
      · intro h; exact (hiw (Option.some.inj ((hi i).2 h)).symm).elim
  · rename_i e0 e1 e2 e3
    refine ⟨ins, ?_, G⟩
    rw [stF_set hwl, flF_set hwl]
    refine J.upd hw (by simp only; omega) (by simp) (by simp only; omega) (by simp only; omega) J.tt (insSame (P := fun _ => True) hi (by simp only [stF]; omega) (by simp only; omega))
/-! Swap -/
structure JS (n : Nat) (st : Nat → Int) (t : Int) (ins : Option Nat) : Prop where
  bst : ∀ i, i < n → 0 ≤ st i ∧ st i ≤ 3
  zero : t = 0 → ∀ i, i < n → st i = 0
  some_ : t ≠ 0 → ∃ i, i < n ∧ st i ≠ 0
  one : ∀ i j, i < n → j < n → st i ≠ 0 → st j ≠ 0 → i = j
  bins : ∀ i, ins = some i ↔ i < n ∧ st i = 2
theorem JS.upd {n : Nat} {st : Nat → Int} {t : Int} {ins : Option Nat} (J : JS n st t ins) {w : Nat} (hw : w < n) {a t' : Int} {ins' : Option Nat}
    (h1 : 0 ≤ a ∧ a ≤ 3) (h2 : t' = 0 ↔ a = 0) (h3 : ∀ i, i < n → i ≠ w → st i = 0) (h6 : ∀ i, ins' = some i ↔ i < n ∧ (if i = w then a else st i) = 2) : JS n (upd st w a) t' ins' := by
  refine ⟨fun i hi => ?_, fun ht i hi => ?_, fun ht => ⟨w, hw, ?_⟩, fun i j hi hj h h' => ?_, h6⟩ <;> unfold Mx.upd at *
  · split
    · exact h1
    · exact J.bst i hi
  · split
    · exact h2.1 ht
    · exact h3 i hi (by assumption)
  · simp only [if_true]; exact fun h => ht (h2.2 h)
  · have e1 : i = w := by
      by_cases e : i = w
      · exact e
      · rw [if_neg e] at h; exact (h (h3 i hi e)).elim
    have e2 : j = w := by
      by_cases e : j = w
      · exact e
      · rw [if_neg e] at h'; exact (h' (h3 j hj e)).elim
    rw [e1, e2]
theorem sw_keep {n : Nat} {s : Sm} {ins : Option Nat} (hlen : s.1.length = n) (J : JS n (stF s) s.2.1 ins) (G : GI s.2.2 ins) {w : Nat} (hw : w < n) : ∃ ins', JS n (stF (swF s w)) (swF s w).2.1 ins' ∧ GI (swF s w).2.2 ins' := by
  have hwl : w < s.1.length := by omega
  have h1 := J.bst w hw; have hi := J.bins
  simp only [stF] at h1
  have alone : (pr s w).step ≠ 0 → ∀ i, i < n → i ≠ w → stF s i = 0 := fun h i hi hiw => by
    rcases Int.lt_trichotomy (stF s i) 0 with h' | h' | h'
    · exact (hiw (J.one i w hi hw (by omega) h)).elim
    · exact h'
    · exact (hiw (J.one i w hi hw (by omega) h)).elim
  have tn : (pr s w).step ≠ 0 → s.2.1 ≠ 0 := fun h h' => h (J.zero h' w hw)
  unfold swF
  repeat' split
  · exact ⟨ins, J, G⟩
  · rename_i e ht
    have ht : s.2.1 = 0 := by simpa using ht
    refine ⟨ins, ?_, G⟩
    rw [stF_set hwl]
    exact J.upd hw (by simp only; omega) (by simp only; omega) (fun i hi _ => J.zero ht i hi) (insSame (P := fun _ => True) hi (by simp only [stF]; omega) (by simp only; omega))
  · rename_i e0 e
    have hn : ins = none := insIs hi fun i ⟨hi2, hi3⟩ => by
      by_cases hiw : i = w
      · subst hiw; simp only [stF] at hi3; omega
      · have := alone (by omega) i hi2 hiw; omega
    subst hn
    refine ⟨some w, ?_, G.enter⟩
    unfold enterF
    rw [stF_set hwl]
    refine J.upd hw (by simp only; omega) (by have := tn (by omega); simp only; omega) (alone (by omega)) fun i => ?_
    simp only
    by_cases hiw : i = w
    · subst hiw; simp [hw, e]
    · simp only [hiw, if_false]
      constructor
      · intro h; exact (hiw (Option.some.inj h).symm).elim
      · intro h; have := (hi i).2 h; cases this
  · rename_i e0 e1 e
    have hn : ins = some w := (hi w).2 ⟨hw, e⟩
    subst hn
    refine ⟨none, ?_, G.exit⟩
    unfold exitF
    rw [stF_set hwl]
    refine J.upd hw (by simp only; omega) (by have := tn (by omega); simp only; omega) (alone (by omega)) fun i => ?_
    simp only
    by_cases hiw : i = w
    · subst hiw; simp [e]
    · simp only [hiw, if_false]
      constructor
      · intro h; cases h
      · intro h; exact (hiw (Option.some.inj ((hi i).2 h)).symm).elim
  · rename_i e0 e1 e2
    refine ⟨ins, ?_, G⟩
    rw [stF_set hwl]
    exact J.upd hw (by simp only; omega) (by simp) (alone (by omega)) (insSame (P := fun _ => True) hi (by simp only [stF]; omega) (by simp only; omega))
end Mx

namespace Mx
/-! The bakery -/
def ahead (a : Int) (i : Nat) (b : Int) (j : Nat) : Prop := a < b ∨ a = b ∧ i < j
structure JB (n : Nat) (st nu k : Nat → Int) (fl : Nat → Bool) (ins : Option Nat) : Prop where
  bst : ∀ i, i < n → 0 ≤ st i ∧ st i ≤ 7
  bnu : ∀ i, i < n → 0 ≤ nu i ∧ (nu i = 0 ↔ st i ≤ 1)
  kk : ∀ i, i < n → (st i = 3 ∨ st i = 4) → 0 ≤ k i ∧ k i < n ∧ k i ≠ i
  pass : ∀ i j, i < n → j < n → j ≠ i → ((st i = 3 ∨ st i = 4) ∧ (j : Int) < k i ∨ 5 ≤ st i) → nu j ≠ 0 → ahead (nu i) i (nu j) j
  bfl : ∀ i, i < n → (fl i = true ↔ (st i = 1 ∨ st i = 2))
  bins : ∀ i, ins = some i ↔ i < n ∧ st i = 6
theorem JB.upd {n : Nat} {st nu k : Nat → Int} {fl : Nat → Bool} {ins : Option Nat} (J : JB n st nu k fl ins) {w : Nat} (hw : w < n) {a b c : Int} {d : Bool} {ins' : Option Nat}
    (h1 : 0 ≤ a ∧ a ≤ 7) (h2 : 0 ≤ b ∧ (b = 0 ↔ a ≤ 1)) (h3 : (a = 3 ∨ a = 4) → 0 ≤ c ∧ c < n ∧ c ≠ w)
    (h4 : ∀ j, j < n → j ≠ w → ((a = 3 ∨ a = 4) ∧ (j : Int) < c ∨ 5 ≤ a) → nu j ≠ 0 → ahead b w (nu j) j)
    (h5 : b = nu w ∨ b = 0 ∨ ∀ i, i < n → nu i < b) (h6 : d = true ↔ (a = 1 ∨ a = 2))
    (h7 : ∀ i, ins' = some i ↔ i < n ∧ (if i = w then a else st i) = 6) : JB n (upd st w a) (upd nu w b) (upd k w c) (upd fl w d) ins' := by
  refine ⟨fun i hi => ?_, fun i hi => ?_, fun i hi => ?_, fun i j hi hj hji => ?_, fun i hi => ?_, h7⟩ <;> unfold Mx.upd <;> by_cases hiw : i = w
  · simp only [hiw, if_true]; exact h1
  · simp only [hiw, if_false]; exact J.bst i hi
  · simp only [hiw, if_true]; exact h2
  · simp only [hiw, if_false]; exact J.bnu i hi
  · subst hiw; simp only [if_true]; exact h3
  · simp only [hiw, if_false]; exact J.kk i hi
  · subst hiw; simp only [if_true, hji, if_false]; exact h4 j hj hji
  · simp only [hiw, if_false]
    by_cases hjw : j = w
    · subst hjw; simp only [if_true]
      intro h hb
      rcases h5 with h5 | h5 | h5
      · rw [h5] at hb ⊢; exact J.pass i j hi hj hji h hb
      · exact (hb h5).elim
      · exact .inl (h5 i hi)
    · simp only [hjw, if_false]; exact J.pass i j hi hj hji
  · simp only [hiw, if_true]; exact h6
  · simp only [hiw, if_false]; exact J.bfl i hi
theorem bak_keep {n : Nat} {s : Sm} {ins : Option Nat} (hlen : s.1.length = n) (J : JB n (stF s) (nuF s) (kF s) (flF s) ins) (G : GI s.2.2 ins) {w : Nat} (hw : w < n) :
    ∃ ins', JB n (stF (bakF s w)) (nuF (bakF s w)) (kF (bakF s w)) (flF (bakF s w)) ins' ∧ GI (bakF s w).2.2 ins' := by
  have hwl : w < s.1.length := by omega
  have h1 := J.bst w hw; have h2 := J.bnu w hw; have h3 := J.kk w hw; have h6 := J.bfl w hw; have hi := J.bins
  have hp : ∀ j, j < n → j ≠ w → (((pr s w).step = 3 ∨ (pr s w).step = 4) ∧ (j : Int) < (pr s w).k ∨ 5 ≤ (pr s w).step) → (pr s j).number ≠ 0 → ahead (pr s w).number w (pr s j).number j := fun j hj hjw => J.pass w j hw hj hjw
  simp only [stF, nuF, kF, flF] at h1 h2 h3 h6
  have x1 := nxt_le 0 w; have x2 := nxt_le ((pr s w).k + 1) w
  unfold bakF
  repeat' split
  · refine ⟨ins, ?_, G⟩
    rw [stF_set hwl, nuF_set hwl, kF_set hwl, flF_set hwl]
    exact J.upd hw (by simp only; omega) (by simp only; omega) (by simp only; omega) (by simp only; intro _ _ _ h; omega) (.inl rfl) (by simp only [true_iff]; omega) (insSame (P := fun _ => True) hi (by simp only [stF]; omega) (by simp only; omega))
  · refine ⟨ins, ?_, G⟩
    rw [stF_set hwl, nuF_set hwl, kF_set hwl, flF_set hwl]
    have hm := mx_nn s.1
    exact J.upd hw (by simp only; omega) (by simp only; omega) (by simp only; omega) (by simp only; intro _ _ _ h; omega) (.inr (.inr fun i hi => by have := mx_ge (s := s) (i := i) (by omega); simp only [nuF]; omega)) (by simp only; rw [h6]; omega) (insSame (P := fun _ => True) hi (by simp only [stF]; omega) (by simp only; omega))
  · refine ⟨ins, ?_, G⟩
    rw [stF_set hwl, nuF_set hwl, kF_set hwl, flF_set hwl]
    exact J.upd hw (by simp only; omega) (by simp only; omega) (by simp only; omega) (by simp only; intro j hj _ h; omega) (.inl rfl) (by simp) (insSame (P := fun _ => True) hi (by simp only [stF]; omega) (by simp only; omega))
  · refine ⟨ins, ?_, G⟩
    rw [stF_set hwl, nuF_set hwl, kF_set hwl, flF_set hwl]
    exact J.upd hw (by simp only; omega) (by simp only; omega) (by simp only; omega) (by simp only; intro j hj _ h; omega) (.inl rfl) (by simp only [Bool.false_eq_true, false_iff]; omega) (insSame (P := fun _ => True) hi (by simp only [stF]; omega) (by simp only; omega))
  · exact ⟨ins, J, G⟩
  · refine ⟨ins, ?_, G⟩
    rw [stF_set hwl, nuF_set hwl, kF_set hwl, flF_set hwl]
    exact J.upd hw (by simp only; omega) (by simp only; omega) (by simp only; omega) (by simp only; intro j hj hjw h; exact hp j hj hjw (by omega)) (.inl rfl) (by simp only; rw [h6]; omega) (insSame (P := fun _ => True) hi (by simp only [stF]; omega) (by simp only; omega))
  · exact ⟨ins, J, G⟩
  all_goals first
    | (rename_i e0 e1 e2 e3 e hc hlt
       have h3' := h3 (by omega)
       obtain ⟨kn, hkn⟩ : ∃ kn : Nat, (pr s w).k = kn := ⟨(pr s w).k.toNat, by omega⟩
       rw [hkn, Int.toNat_natCast] at hc
       have hpk : (pr s kn).number ≠ 0 → ahead (pr s w).number w (pr s kn).number kn := by
         intro hz
         have : ¬((pr s kn).number < (pr s w).number ∨ (pr s kn).number = (pr s w).number ∧ (kn : Int) < w) := fun h => hc ⟨hz, h⟩
         unfold ahead; omega
       refine ⟨ins, ?_, G⟩
       rw [stF_set hwl, nuF_set hwl, kF_set hwl, flF_set hwl]
       refine J.upd hw (by simp only; omega) (by simp only; omega) (by simp only; omega) ?_ (.inl rfl) (by simp only; rw [h6]; omega) (insSame (P := fun _ => True) hi (by simp only [stF]; omega) (by simp only; omega))
       simp only
       intro j hj hjw h hz
       by_cases hjk : j = kn
       · subst hjk; exact hpk hz
       · exact hp j hj hjw (by omega) hz)
    | skip
  · rename_i e0 e1 e2 e3 e4 e
    have hn : ins = none := insIs hi fun i ⟨hi2, hi3⟩ => by
      by_cases hiw : i = w
      · subst hiw; simp only [stF] at hi3; omega
      · simp only [stF] at hi3
        have n1 := J.bnu i hi2; simp only [nuF, stF] at n1
        have a1 := hp i hi2 hiw (by omega) (by omega)
        have a2 := J.pass i w hi2 hw (fun h => hiw h.symm) (by simp only [stF]; omega) (by simp only [nuF]; omega)
        simp only [nuF] at a2
        unfold ahead at a1 a2; omega
    subst hn
    refine ⟨some w, ?_, G.enter⟩
    unfold enterF
    rw [stF_set hwl, nuF_set hwl, kF_set hwl, flF_set hwl]
    refine J.upd hw (by simp only; omega) (by simp only; omega) (by simp only; omega) (by simp only; intro j hj hjw h; exact hp j hj hjw (by omega)) (.inl rfl) (by simp only; rw [h6]; omega) fun i => ?_
    simp only
    by_cases hiw : i = w
    · subst hiw; simp [hw, e]
    · simp only [hiw, if_false]
      constructor
      · intro h; exact (hiw (Option.some.inj h).symm).elim
      · intro h; have := (hi i).2 h; cases this
  · rename_i e0 e1 e2 e3 e4 e5 e
    have hn : ins = some w := (hi w).2 ⟨hw, e⟩
    subst hn
    refine ⟨none, ?_, G.exit⟩
    unfold exitF
    rw [stF_set hwl, nuF_set hwl, kF_set hwl, flF_set hwl]
    refine J.upd hw (by simp only; omega) (by simp only; omega) (by simp only; omega) (by simp only; intro j hj hjw h; exact hp j hj hjw (by omega)) (.inl rfl) (by simp only; rw [h6]; omega) fun i => ?_
    simp only
    by_cases hiw : i = w
    · subst hiw; simp [e]
    · simp only [hiw, if_false]
      constructor
      · intro h; cases h
      · intro h; exact (hiw (Option.some.inj ((hi i).2 h)).symm).elim
  · refine ⟨ins, ?_, G⟩
    rw [stF_set hwl, nuF_set hwl, kF_set hwl, flF_set hwl]
    exact J.upd hw (by simp) (by simp) (by simp) (by simp only; intro _ _ _ h; omega) (.inr (.inl rfl)) (by simp only; rw [h6]; omega) (insSame (P := fun _ => True) hi (by simp only [stF]; omega) (by simp only; omega))
end Mx

end Go.Proofs.Ytkccgokdahlmeaa
