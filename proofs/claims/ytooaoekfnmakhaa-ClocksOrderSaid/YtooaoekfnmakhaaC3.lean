/- What events know, plainly. No program in sight. -/
import Derived.Test.YtooaoekfnmakhaaBit
set_option linter.unusedVariables false
set_option linter.unusedSimpArgs false
set_option linter.unusedSectionVars false
set_option maxRecDepth 100000
namespace Go.Proofs.Ytooaoekfnmakhaa
open Go.RowKit
namespace Ck
section
variable {n : Nat} {w : Nat → Nat} {g : Nat → Bool} {s : Nat → Nat} {o : Nat → Nat → Int}
/-- Whose last event ahead of q it is. -/
def lastOf (w : Nat → Nat) : Nat → Nat → Option Nat
  | 0, _ => none
  | q + 1, c => if w q = c then some q else lastOf w q c
/-- What is known there. -/
def pvo (w : Nat → Nat) (o : Nat → Nat → Int) (q c k : Nat) : Int := match lastOf w q c with
  | some j => o j k
  | none => 0
theorem last_lt {q c j : Nat} (h : lastOf w q c = some j) : j < q ∧ w j = c := by
  induction q with
  | zero => cases h
  | succ q ih =>
    simp only [lastOf] at h
    split at h
    · cases h; exact ⟨by omega, by assumption⟩
    · have := ih h; exact ⟨by omega, this.2⟩
theorem last_gt {q c i : Nat} (hi : i < q) (hw : w i = c) : ∃ j, lastOf w q c = some j ∧ i ≤ j := by
  induction q with
  | zero => omega
  | succ q ih =>
    simp only [lastOf]
    split
    · exact ⟨q, rfl, by omega⟩
    · by_cases hq : i = q
      · subst hq; contradiction
      · exact ih (by omega)
theorem pvo_next {q c k : Nat} : pvo w o (q + 1) c k = if w q = c then o q k else pvo w o q c k := by
  unfold pvo
  simp only [lastOf]
  by_cases h : w q = c
  · simp only [if_pos h]
  · simp only [if_neg h]
theorem pvo_cong {o' : Nat → Nat → Int} {q c k : Nat} (h : ∀ j, j < q → o j k = o' j k) : pvo w o q c k = pvo w o' q c k := by
  unfold pvo
  cases hl : lastOf w q c with
  | none => rfl
  | some j => exact h j (last_lt hl).1
/-- What events know: of each process so many. -/
structure Kn (n : Nat) (w : Nat → Nat) (g : Nat → Bool) (s : Nat → Nat) (o : Nat → Nat → Int) : Prop where
  w8 : ∀ i, i < n → w i < 8
  sl : ∀ i, i < n → g i = true → s i < i
  eq : ∀ i, i < n → ∀ k, k < 8 → o i k = (if k = w i then 1 else 0) + max (pvo w o i (w i) k) (if g i = true then o (s i) k else pvo w o i (w i) k)
namespace Kn
variable (K : Kn n w g s o)
include K
theorem nonneg : ∀ i, i < n → ∀ k, k < 8 → 0 ≤ o i k ∧ o i k ≤ i + 1 := by
  intro i
  induction i using Nat.strongRecOn with
  | _ i ih =>
    intro hi k hk
    have e := K.eq i hi k hk
    have hp : 0 ≤ pvo w o i (w i) k ∧ pvo w o i (w i) k ≤ i := by
      unfold pvo
      cases hl : lastOf w i (w i) with
      | none => exact ⟨Int.le_refl _, by simp⟩
      | some j => have h1 := last_lt hl; have h2 := ih j h1.1 (by omega) k hk; exact ⟨h2.1, by simp only; omega⟩
    by_cases hg : g i = true
    · have h1 := K.sl i hi hg
      have h2 := ih (s i) h1 (by omega) k hk
      rw [if_pos hg] at e
      split at e <;> omega
    · rw [if_neg hg] at e
      split at e <;> omega
theorem pnonneg {q c k : Nat} (hq : q ≤ n) (hk : k < 8) : 0 ≤ pvo w o q c k := by
  unfold pvo
  cases hl : lastOf w q c with
  | none => exact Int.le_refl _
  | some j => exact (K.nonneg j (by have := last_lt hl; omega) k hk).1
/-- What was known goes on. -/
theorem prev {i j : Nat} (hi : i < n) (h : lastOf w i (w i) = some j) : j < i ∧ w j = w i ∧ (∀ k, k < 8 → o j k ≤ o i k) ∧ o j (w i) < o i (w i) := by
  have h1 := last_lt h
  refine ⟨h1.1, h1.2, fun k hk => ?_, ?_⟩
  · have e := K.eq i hi k hk
    simp only [pvo, h] at e
    split at e <;> omega
  · have e := K.eq i hi _ (K.w8 i hi)
    simp only [pvo, h, if_true] at e
    omega
theorem sent {i : Nat} (hi : i < n) (hg : g i = true) : s i < i ∧ ∀ k, k < 8 → o (s i) k ≤ o i k := by
  refine ⟨K.sl i hi hg, fun k hk => ?_⟩
  have e := K.eq i hi k hk
  rw [if_pos hg] at e
  split at e <;> omega
/-- Of one process each knows more than the ones ahead. -/
theorem up : ∀ j, j < n → ∀ i, i < j → w i = w j → (∀ k, k < 8 → o i k ≤ o j k) ∧ o i (w j) < o j (w j) := by
  intro j
  induction j using Nat.strongRecOn with
  | _ j ih =>
    intro hj i hi hw
    obtain ⟨p, hp, hip⟩ := last_gt hi hw
    have h1 := K.prev hj hp
    rcases Nat.lt_or_ge i p with h | h
    · have h2 := ih p h1.1 (by omega) i h (by omega)
      rw [h1.2.1] at h2
      exact ⟨fun k hk => Int.le_trans (h2.1 k hk) (h1.2.2.1 k hk), by have := h1.2.2.2; omega⟩
    · obtain rfl : p = i := by omega
      exact ⟨h1.2.2.1, h1.2.2.2⟩
/-- Nobody knows more of one than that one itself. -/
theorem most : ∀ q, q ≤ n → ∀ c, c < 8 → ∀ j, j < q → o j c ≤ pvo w o q c c := by
  intro q
  induction q with
  | zero => intro _ _ _ j hj; omega
  | succ q ih =>
    intro hq c hc j hj
    rw [pvo_next]
    have hpn := K.pnonneg (q := q) (c := c) (k := c) (by omega) hc
    have e := K.eq q (by omega) c hc
    by_cases hw : w q = c
    · rw [if_pos hw]
      rcases Nat.lt_or_ge j q with h | h
      · have h1 := ih (by omega) c hc j h
        rw [hw, if_pos rfl] at e
        omega
      · obtain rfl : j = q := by omega
        exact Int.le_refl _
    · rw [if_neg hw]
      rcases Nat.lt_or_ge j q with h | h
      · exact ih (by omega) c hc j h
      · obtain rfl : j = q := by omega
        rw [if_neg (fun h => hw h.symm)] at e
        have h1 : pvo w o j (w j) c ≤ pvo w o j c c := by
          have : ∀ x, lastOf w j (w j) = x → pvo w o j (w j) c ≤ pvo w o j c c := by
            intro x hx
            cases x with
            | none => rw [show pvo w o j (w j) c = 0 by simp only [pvo, hx]]; exact hpn
            | some p => rw [show pvo w o j (w j) c = o p c by simp only [pvo, hx]]; exact ih (by omega) c hc p (last_lt hx).1
          exact this _ rfl
        by_cases hg : g j = true
        · rw [if_pos hg] at e
          have := ih (by omega) c hc (s j) (K.sl j (by omega) hg)
          omega
        · rw [if_neg hg] at e
          omega
theorem own {i : Nat} (hi : i < n) : o i (w i) = 1 + pvo w o i (w i) (w i) := by
  have e := K.eq i hi _ (K.w8 i hi)
  rw [if_pos rfl] at e
  by_cases hg : g i = true
  · rw [if_pos hg] at e
    have := K.most i (by omega) (w i) (K.w8 i hi) (s i) (K.sl i hi hg)
    omega
  · rw [if_neg hg] at e; omega
theorem all_le {i c : Nat} (hi : i < n) (hc : c < 8) : o i c ≤ pvo w o n c c := K.most n (Nat.le_refl _) c hc i hi
/-- Who knows an event knows what it knew; and stands behind it, by any count that goes up. -/
theorem knows {t : Nat → Int} (h1 : ∀ i, i < n → ∀ j, lastOf w i (w i) = some j → t j < t i) (h2 : ∀ i, i < n → g i = true → t (s i) < t i) :
    ∀ j, j < n → ∀ i, i < n → o i (w i) ≤ o j (w i) → (∀ k, k < 8 → o i k ≤ o j k) ∧ i ≤ j ∧ (i = j ∨ t i < t j) := by
  intro j
  induction j using Nat.strongRecOn with
  | _ j ih =>
    intro hj i hi hle
    by_cases hij : i = j
    · subst hij; exact ⟨fun _ _ => Int.le_refl _, Nat.le_refl _, .inl rfl⟩
    have via : ∀ p, p < j → (∀ k, k < 8 → o p k ≤ o j k) → t p < t j → o i (w i) ≤ o p (w i) → (∀ k, k < 8 → o i k ≤ o j k) ∧ i ≤ j ∧ (i = j ∨ t i < t j) := by
      intro p hp hpk ht hle
      have h := ih p hp (by omega) i hi hle
      refine ⟨fun k hk => Int.le_trans (h.1 k hk) (hpk k hk), by omega, .inr ?_⟩
      rcases h.2.2 with rfl | h3
      · exact ht
      · omega
    by_cases hw : w i = w j
    · rcases Nat.lt_or_ge i j with h | h
      · obtain ⟨p, hp, hip⟩ := last_gt h hw
        have h3 := K.prev hj hp
        refine via p h3.1 h3.2.2.1 (h1 j hj p hp) ?_
        rcases Nat.lt_or_ge i p with h4 | h4
        · exact (K.up p (by omega) i h4 (by omega)).1 _ (K.w8 i hi)
        · obtain rfl : i = p := by omega
          exact Int.le_refl _
      · have := (K.up i hi j (by omega) hw.symm).2
        omega
    · have e := K.eq j hj _ (K.w8 i hi)
      rw [if_neg hw] at e
      have hpos : 1 ≤ o i (w i) := by have := K.own hi; have := K.pnonneg (q := i) (c := w i) (k := w i) (by omega) (K.w8 i hi); omega
      have hprev : o i (w i) ≤ pvo w o j (w j) (w i) → (∀ k, k < 8 → o i k ≤ o j k) ∧ i ≤ j ∧ (i = j ∨ t i < t j) := by
        intro hx
        cases hp : lastOf w j (w j) with
        | none => simp only [pvo, hp] at hx; omega
        | some p =>
          simp only [pvo, hp] at hx
          have h3 := K.prev hj hp
          exact via p h3.1 h3.2.2.1 (h1 j hj p hp) hx
      by_cases hg : g j = true
      · rw [if_pos hg] at e
        by_cases hx : o i (w i) ≤ pvo w o j (w j) (w i)
        · exact hprev hx
        · have h3 := K.sent hj hg
          exact via (s j) h3.1 h3.2 (h2 j hj hg) (by omega)
      · rw [if_neg hg] at e
        exact hprev (by omega)
theorem knows' {i j : Nat} (hi : i < n) (hj : j < n) (h : o i (w i) ≤ o j (w i)) : (∀ k, k < 8 → o i k ≤ o j k) ∧ i ≤ j := by
  have := K.knows (t := fun i => (i : Int)) (fun i _ j h => by have := (last_lt h).1; omega) (fun i hi h => by have := K.sl i hi h; omega) j hj i hi h
  exact ⟨this.1, this.2.1⟩
end Kn
/-- A right cut. -/
structure CutOk (n : Nat) (w : Nat → Nat) (o : Nat → Nat → Int) (e : Nat → Int) : Prop where
  rng : ∀ k, k < 8 → 0 ≤ e k ∧ e k ≤ pvo w o n k k
  all : ∀ i, i < n → o i (w i) ≤ e (w i) → ∀ k, k < 8 → o i k ≤ e k
theorem CutOk.min {e f : Nat → Int} (he : CutOk n w o e) (hf : CutOk n w o f) : CutOk n w o fun k => Min.min (e k) (f k) := by
  refine ⟨fun k hk => ?_, fun i hi h k hk => ?_⟩
  · have h1 := he.rng k hk; have h2 := hf.rng k hk; omega
  · have h : o i (w i) ≤ Min.min (e (w i)) (f (w i)) := h
    have h1 := he.all i hi (by omega) k hk; have h2 := hf.all i hi (by omega) k hk; show o i k ≤ Min.min (e k) (f k); omega
theorem CutOk.max {e f : Nat → Int} (he : CutOk n w o e) (hf : CutOk n w o f) : CutOk n w o fun k => Max.max (e k) (f k) := by
  refine ⟨fun k hk => ?_, fun i hi h k hk => ?_⟩
  · have h1 := he.rng k hk; have h2 := hf.rng k hk; omega
  · have h : o i (w i) ≤ Max.max (e (w i)) (f (w i)) := h
    show o i k ≤ Max.max (e k) (f k)
    by_cases h3 : o i (w i) ≤ e (w i)
    · have h1 := he.all i hi h3 k hk; omega
    · have h1 := hf.all i hi (by omega) k hk; omega
theorem CutOk.knows (K : Kn n w g s o) {j : Nat} (hj : j < n) : CutOk n w o (o j) :=
  ⟨fun k hk => ⟨(K.nonneg j hj k hk).1, K.all_le hj hk⟩, fun _ hi h => (K.knows' hi hj h).1⟩
end
end Ck

end Go.Proofs.Ytooaoekfnmakhaa
