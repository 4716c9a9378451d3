/- Search, plainly: Valid. -/
import Derived.Test.YtkmmagekepoapaaL2
set_option linter.unusedVariables false
set_option linter.unusedSimpArgs false
set_option linter.unusedSectionVars false
set_option maxRecDepth 100000
namespace Go.Proofs.Ytkmmagekepoapaa
open Go.RowKit
namespace Sr
open Rl
/-- What is done to a thing. -/
def objl (c : List Call) (x : Nat) : List Step → List Do
  | [] => []
  | s :: t => if (c.getD s.call.toNat Call.z).thing.toNat = x then ⟨(c.getD s.call.toNat Call.z).kind, (c.getD s.call.toNat Call.z).arg, s.res⟩ :: objl c x t else objl c x t
def Ac (c : List Call) (q : Nat → Nat → Bool) : List Nat → List Step → Prop
  | _, [] => True
  | w, s :: t => ∃ i : Nat, s.call = (i : Int) ∧ i < c.length ∧ i ∉ w ∧ (∀ j, j ∈ w → q i j = false) ∧ ((c.getD i Call.z).to_ ≠ -1 → s.res = (c.getD i Call.z).res) ∧ Ac c q (w ++ [i]) t
theorem objl_app (c : List Call) (x : Nat) (a b : List Step) : objl c x (a ++ b) = objl c x a ++ objl c x b := by
  induction a with
  | nil => rfl
  | cons s a ih =>
    simp only [List.cons_append, objl, ih]
    split <;> rfl
theorem objl_len (c : List Call) (x : Nat) (a : List Step) : (objl c x a).length ≤ a.length := by
  induction a with
  | nil => simp [objl]
  | cons s a ih =>
    simp only [objl]
    split <;> simp <;> omega
theorem Ac.app {c : List Call} {q : Nat → Nat → Bool} : ∀ {a b : List Step} {w : List Nat}, Ac c q w (a ++ b) ↔ Ac c q w a ∧ Ac c q (w ++ nums a) b
  | [], b, w => by simp [Ac, nums]
  | s :: a, b, w => by
    have ih := fun i : Nat => Ac.app (a := a) (b := b) (w := w ++ [i]) (c := c) (q := q)
    constructor
    · rintro ⟨i, h1, h2, h3, h4, h5, h6⟩
      obtain ⟨g1, g2⟩ := (ih i).1 h6
      refine ⟨⟨i, h1, h2, h3, h4, h5, g1⟩, ?_⟩
      have e : w ++ nums (s :: a) = w ++ [i] ++ nums a := by simp [nums, h1]
      rw [e]; exact g2
    · rintro ⟨⟨i, h1, h2, h3, h4, h5, h6⟩, g⟩
      have e : w ++ nums (s :: a) = w ++ [i] ++ nums a := by simp [nums, h1]
      rw [e] at g
      exact ⟨i, h1, h2, h3, h4, h5, (ih i).2 ⟨h6, g⟩⟩
theorem Ac.nod {c : List Call} {q : Nat → Nat → Bool} : ∀ {t : List Step} {w : List Nat}, w.Nodup → (∀ j ∈ w, j < c.length) → Ac c q w t → (w ++ nums t).Nodup ∧ ∀ j ∈ w ++ nums t, j < c.length
  | [], w, h1, h2, _ => by simpa [nums] using ⟨h1, h2⟩
  | s :: t, w, h1, h2, ⟨i, g1, g2, g3, _, _, g6⟩ => by
    have e : w ++ nums (s :: t) = w ++ [i] ++ nums t := by simp [nums, g1]
    rw [e]
    exact Ac.nod (List.nodup_append.2 ⟨h1, by simp, fun a ha b hb e => g3 (by rw [List.mem_singleton] at hb; rw [← hb, ← e]; exact ha)⟩) (fun j hj => by
      rcases List.mem_append.1 hj with hj | hj
      · exact h2 j hj
      · rw [List.mem_singleton.1 hj]; exact g2) g6
theorem Ac.len {c : List Call} {q : Nat → Nat → Bool} {t : List Step} (h : Ac c q [] t) : t.length ≤ c.length := by
  obtain ⟨h1, h2⟩ := Ac.nod List.nodup_nil (by simp) h
  have := pig_lt h1 h2
  simpa [nums] using this
theorem pl_iff {types : List Int} {c : List Call} {rel : Rel} {q : Nat → Nat → Bool} (X : Cx types c rel q) : ∀ {t : List Step} {S : List (List Int)} {w : List Nat}, S.length = types.length → (Pl types c q S w t ↔ Ac c q w t ∧ ∀ x, x < types.length → ∃ s', Ob.run (types.getD x 0) (S.getD x []) (objl c x t) = some s')
  | [], S, w, hl => by
    refine ⟨fun _ => ⟨trivial, fun x _ => ⟨_, rfl⟩⟩, fun _ => trivial⟩
  | s :: t, S, w, hl => by
    have ih := fun (i : Nat) (x : Nat) (n : List Int) => pl_iff X (t := t) (S := S.set x n) (w := w ++ [i]) (by rw [List.length_set]; exact hl)
    constructor
    · rintro ⟨i, n, h1, h2, h3, h4, h5, h6, h7⟩
      obtain ⟨g1, g2⟩ := (ih i _ n).1 h7
      obtain ⟨t0, t1⟩ := X.th i h2
      refine ⟨⟨i, h1, h2, h3, h4, h5, g1⟩, fun x hx => ?_⟩
      obtain ⟨s', hs'⟩ := g2 x hx
      rw [getD_set (by omega)] at hs'
      simp only [objl, h1, Int.toNat_natCast]
      by_cases e : (c.getD i Call.z).thing.toNat = x
      · subst e
        rw [if_pos rfl] at hs' ⊢
        refine ⟨s', ?_⟩
        simp only [Ob.run, h6, if_pos]
        exact hs'
      · rw [if_neg e]
        rw [if_neg (fun h => e h.symm)] at hs'
        exact ⟨s', hs'⟩
    · rintro ⟨⟨i, h1, h2, h3, h4, h5, h6⟩, g⟩
      obtain ⟨t0, t1⟩ := X.th i h2
      obtain ⟨s1, hs1⟩ := g _ (show (c.getD i Call.z).thing.toNat < types.length by omega)
      simp only [objl, h1, Int.toNat_natCast, if_pos] at hs1
      simp only [Ob.run] at hs1
      cases hn : Ob.nx (types.getD (c.getD i Call.z).thing.toNat 0) (S.getD (c.getD i Call.z).thing.toNat []) (c.getD i Call.z).kind (c.getD i Call.z).arg with
      | none => rw [hn] at hs1; cases hs1
      | some p =>
        obtain ⟨n, res⟩ := p
        rw [hn] at hs1
        simp only at hs1
        split at hs1
        · rename_i hres
          refine ⟨i, n, h1, h2, h3, h4, h5, by rw [hn, hres], (ih i _ n).2 ⟨h6, fun x hx => ?_⟩⟩
          rw [getD_set (by omega)]
          by_cases e : x = (c.getD i Call.z).thing.toNat
          · subst e
            rw [if_pos rfl]
            exact ⟨s1, hs1⟩
          · rw [if_neg e]
            obtain ⟨s2, hs2⟩ := g x hx
            simp only [objl, h1, Int.toNat_natCast] at hs2
            rw [if_neg (fun h => e h.symm)] at hs2
            exact ⟨s2, hs2⟩
        · cases hs1
end Sr

end Go.Proofs.Ytkmmagekepoapaa
