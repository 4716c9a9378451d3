/- Search, plainly: Valid. -/
import Derived.Test.YteklmleiiiodfaaL2
set_option linter.unusedVariables false
set_option linter.unusedSimpArgs false
set_option linter.unusedSectionVars false
set_option maxRecDepth 100000
namespace Go.Proofs.Yteklmleiiiodfaa
open Go.RowKit
namespace Sr
open Rl
/-- What is done to a thing. -/
def objl (c : List Call) (x : Nat) : List Step → List Do
  | [] => []
  | s :: t => if (c.getD s.call.toNat Call.z).thing.toNat = x then ⟨(c.getD s.call.toNat Call.z).kind, (c.getD s.call.toNat Call.z).arg, s.res⟩ :: objl c x t else objl c x t
def Ac (c : List Call) (q : Nat → Nat → Bool) : List Nat → List Step → Prop
  | _, [] => True
  | w, s :: t => ∃ i : Nat, s.call = (i : Int) ∧ i < c.length ∧ i ∉ w ∧ (∀ j, j ∈ w → q i j = false) ∧ ((c.getD i Call.z).to_ ≠ -1 → s.res = (c.getD i Call.z).res) ∧ Ac c q (w ++ [i]) t
theorem objl_app (c : List Call) (x : Nat) (a b : List Step) : objl c x (a ++ b) = objl c x a ++ objl c x b := by
  induction a with
  | nil => rfl
  | cons s a ih =>
    simp only [List.cons_append, objl, ih]
    split <;> rfl
theorem objl_len (c : List Call) (x : Nat) (a : List Step) : (objl c x a).length ≤ a.length := by
  induction a with
  | nil => simp [objl]
  | cons s a ih =>
    simp only [objl]
    split <;> simp <;> omega
theorem Ac.app {c : List Call} {q : Nat → Nat → Bool} : ∀ {a b : List Step} {w : List Nat}, Ac c q w (a ++ b) ↔ Ac c q w a ∧ Ac c q (w ++ nums a) b
  | [], b, w => by simp [Ac, nums]
  | s :: a, b, w => by
    have ih := fun i : Nat => Ac.app (a := a) (b := b) (w := w ++ [i]) (c := c) (q := q)
    constructor
    · rintro ⟨i, h1, h2, h3, h4, h5, h6⟩
      obtain ⟨g1, g2⟩ := (ih i).1 h6
      refine ⟨⟨i, h1, h2, h3, h4, h5, g1⟩, ?_⟩
      have e : w ++ nums (s :: a) = w ++ [i] ++ nums a := by simp [nums, h1]
      rw [e]; exact g2
    · rintro ⟨⟨i, h1, h2, h3, h4, h5, h6⟩, g⟩
      have e : w ++ nums (s :: a) = w ++ [i] ++ nums a := by simp [nums, h1]
      rw [e] at g
      exact ⟨i, h1, h2, h3, h4, h5, (ih i).2 ⟨h6, g⟩⟩
theorem Ac.nod {c : List Call} {q : Nat → Nat → Bool} : ∀ {t : List Step} {w : List Nat}, w.Nodup → (∀ j ∈ w, j < c.length) → Ac c q w t → (w ++ nums t).Nodup ∧ ∀ j ∈ w ++ nums t, j < c.length
  | [], w, h1, h2, _ => by simpa [nums] using ⟨h1, h2⟩
  | s :: t, w, h1, h2, ⟨i, g1, g2, g3, _, _, g6⟩ => by
    have e : w ++ nums (s :: t) = w ++ [i] ++ nums t := by simp [nums, g1]
    rw [e]
    exact Ac.nod (List.nodup_append.2 ⟨h1, by simp, fun a ha b hb e => g3 (by rw [List.mem_singleton] at hb; rw [← hb, ← e]; exact ha)⟩) (fun j hj => by
      rcases List.mem_append.1 hj with hj | hj
      · exact h2 j hj
      · rw [List.mem_singleton.1 hj]; exact g2) g6
theorem Ac.len {c : List Call} {q : Nat → Nat → Bool} {t : List Step} (h : Ac c q [] t) : t.length ≤ c.length := by
  obtain ⟨h1, h2⟩ := Ac.nod List.nodup_nil (by simp) h
  have := pig_lt h1 h2
  simpa [nums] using this
theorem pl_iff {types : List Int} {c : List Call} {rel : Rel} {q : Nat → Nat → Bool} (X : Cx types c rel q) : ∀ {t : List Step} {S : List (List Int)} {w : List Nat}, S.length = types.length → (Pl types c q S w t ↔ Ac c q w t ∧ ∀ x, x < types.length → ∃ s', Ob.run (types.getD x 0) (S.getD x []) (objl c x t) = some s')
  | [], S, w, hl => by
    refine ⟨fun _ => ⟨trivial, fun x _ => ⟨_, rfl⟩⟩, fun _ => trivial⟩
  | s :: t, S, w, hl => by
    have ih := fun (i : Nat) (x : Nat) (n : List Int) => pl_iff X (t := t) (S := S.set x n) (w := w ++ [i]) (by rw [List.length_set]; exact hl)
    constructor
    · rintro ⟨i, n, h1, h2, h3, h4, h5, h6, h7⟩
      obtain ⟨g1, g2⟩ := (ih i _ n).1 h7
      obtain ⟨t0, t1⟩ := X.th i h2
      refine ⟨⟨i, h1, h2, h3, h4, h5, g1⟩, fun x hx => ?_⟩
      obtain ⟨s', hs'⟩ := g2 x hx
      rw [getD_set (by omega)] at hs'
      simp only [objl, h1, Int.toNat_natCast]
      by_cases e : (c.getD i Call.z).thing.toNat = x
      · subst e
        rw [if_pos rfl] at hs' ⊢
        refine ⟨s', ?_⟩
        simp only [Ob.run, h6, if_pos]
        exact hs'
      · rw [if_neg e]
        rw [if_neg (fun h => e h.symm)] at hs'
        exact ⟨s', hs'⟩
    · rintro ⟨⟨i, h1, h2, h3, h4, h5, h6⟩, g⟩
      obtain ⟨t0, t1⟩ := X.th i h2
      obtain ⟨s1, hs1⟩ := g _ (show (c.getD i Call.z).thing.toNat < types.length by omega)
      simp only [objl, h1, Int.toNat_natCast, if_pos] at hs1
      simp only [Ob.run] at hs1
      cases hn : Ob.nx (types.getD (c.getD i Call.z).thing.toNat 0) (S.getD (c.getD i Call.z).thing.toNat []) (c.getD i Call.z).kind (c.getD i Call.z).arg with
      | none => rw [hn] at hs1; cases hs1
      | some p =>
        obtain ⟨n, res⟩ := p
        rw [hn] at hs1
        simp only at hs1
        split at hs1
        · rename_i hres
          refine ⟨i, n, h1, h2, h3, h4, h5, by rw [hn, hres], (ih i _ n).2 ⟨h6, fun x hx => ?_⟩⟩
          rw [getD_set (by omega)]
          by_cases e : x = (c.getD i Call.z).thing.toNat
          · subst e
            rw [if_pos rfl]
            exact ⟨s1, hs1⟩
          · rw [if_neg e]
            obtain ⟨s2, hs2⟩ := g x hx
            simp only [objl, h1, Int.toNat_natCast] at hs2
            rw [if_neg (fun h => e h.symm)] at hs2
            exact ⟨s2, hs2⟩
        · cases hs1
theorem play_all {N : Nat} (hN : 300 < N) {typ : Int} (hT : Ob.Ty typ) {l : List Do} (hl : l.length ≤ 100) : Wp (object_Play N typ l) fun r => r.2 = 0 ∧ ((∃ s, Ob.run typ (Ob.st0 typ) l = some s) → r.1 = l.length) ∧ ((¬ ∃ s, Ob.run typ (Ob.st0 typ) l = some s) → r.1 < l.length) := by
  refine (Ob.play_wp hN typ (l := l) (by omega) (by omega)).mono fun r hr => ?_
  rcases hr with ⟨_, hz, k, hk, hkl, hk1, hk2⟩ | ⟨h, _⟩
  · refine ⟨hz, fun ⟨s, hs⟩ => ?_, fun hno => ?_⟩
    · rcases Nat.lt_or_ge k l.length with h | h
      · have h3 := hk2 h
        have e : l = l.take (k + 1) ++ l.drop (k + 1) := (List.take_append_drop _ _).symm
        rw [e, Ob.run_app, h3] at hs
        cases hs
      · omega
    · rcases Nat.lt_or_ge k l.length with h | h
      · omega
      · exfalso
        obtain rfl : k = l.length := by omega
        rw [List.take_length] at hk1
        exact hno hk1
  · exact (h hT).elim
/-- Valid tells whether steps may be so. -/
theorem valid_wp {N : Nat} (hN : 300 < N) {types : List Int} {c : List Call} {rel : Rel} {q : Nat → Nat → Bool} (X : Cx types c rel q) {w : List Step} (hw : w.length < N) : Wp (search_Valid N types c rel w) fun b => b = true ↔ Gd types c q (S0 types) [] w := by
  have htl := X.tl
  have hcl := X.cl
  have gd : Gd types c q (S0 types) [] w ↔ (Ac c q [] w ∧ Cm c (nums w)) ∧ ∀ x, x < types.length → ∃ s', Ob.run (types.getD x 0) (Ob.st0 (types.getD x 0)) (objl c x w) = some s' := by
    have h := pl_iff X (t := w) (S := S0 types) (w := []) (by simp [S0])
    have e : ∀ x, x < types.length → (S0 types).getD x [] = Ob.st0 (types.getD x 0) := fun x hx => by
      unfold S0
      rw [getD_of (by simpa using hx), getD_of hx, List.getElem_map]
    unfold Gd
    rw [h]
    simp only [List.nil_append]
    constructor
    · rintro ⟨⟨h1, h2⟩, h3⟩
      exact ⟨⟨h1, h3⟩, fun x hx => by rw [← e x hx]; exact h2 x hx⟩
    · rintro ⟨⟨h1, h3⟩, h2⟩
      exact ⟨⟨h1, fun x hx => by rw [e x hx]; exact h2 x hx⟩, h3⟩
  unfold search_Valid
  refine .ck (mkB_of (by omega) (by simp; omega) (by simp; omega)) ?_
  refine .elim (P := fun t => match t with | .inl st => Ac c q [] w ∧ Row st.1 (fun j => decide (j ∈ nums w)) ∧ st.2.length = types.length ∧ ∀ x, x < types.length → st.2.getD x [] = objl c x w | .inr b => b = false ∧ ¬ Ac c q [] w)
    (.iter w.length (fun k st => st.2.2 = (k : Int) ∧ Ac c q [] (w.take k) ∧ Row st.1 (fun j => decide (j ∈ nums (w.take k))) ∧ st.2.1.length = types.length ∧ ∀ x, x < types.length → st.2.1.getD x [] = objl c x (w.take k)) hw ⟨rfl, trivial, Row.zero.cong fun j => by simp [nums], by simp, fun x hx => by rw [getD_of (by simpa using hx)]; simp [objl]⟩ ?_ ?_) ?_ ?_
  · rintro k ⟨p, L, v⟩ hk ⟨hv, hA, hp, hL, hLx⟩
    simp only at hv hp hL hLx
    subst hv
    simp only [search_Valid_L7]
    have hk12 : k ≤ 12 := by
      have := hA.len
      rw [List.length_take] at this
      omega
    have e0 : w.take (k + 1) = w.take k ++ [w[k]] := (List.take_append_getElem hk).symm
    have notAc : ¬ Ac c q (nums (w.take k)) [w[k]] → ¬ Ac c q [] w := by
      intro h1 h2
      rw [← List.take_append_drop (k + 1) w, Ac.app, e0, Ac.app] at h2
      exact h1 (by simpa using h2.1.2)
    refine .condT (decide_eq_true (by omega)) (.ix hk ?_)
    obtain ⟨s, hs⟩ : ∃ s, w[k] = s := ⟨_, rfl⟩
    rw [hs] at e0 notAc ⊢
    by_cases hr : 0 ≤ s.call ∧ s.call < c.length
    · obtain ⟨i, hi⟩ : ∃ i : Nat, s.call = i := ⟨s.call.toNat, by omega⟩
      have hic : i < c.length := by omega
      rw [hi, wrapU64 (by omega) (by omega), hp.test i, decide_eq_false (show ¬ ((i : Int) < 0) by omega), decide_eq_false (show ¬ ((c.length : Int) ≤ (i : Int)) by omega)]
      refine .gax (fun _ => ⟨by omega, by omega⟩) fun x hx => ?_
      rw [Int.toNat_natCast] at hx
      refine .cond (fun h => .one ⟨rfl, notAc ?_⟩) fun h => ?_
      · rintro ⟨i', g1, g2, g3, g4, _⟩
        obtain rfl : i = i' := by omega
        rw [decide_eq_false g3] at h hx
        have hx := hx rfl
        have h : bandI .u16 x p ≠ 0 := by simpa using h
        refine h ?_
        rw [hx]
        refine ((X.row i (by omega)).and hp).empty.2 fun j => ?_
        by_cases hj : j ∈ nums (w.take k)
        · rw [g4 j hj]; rfl
        · simp [hj]
      · have h : ¬ (i ∈ nums (w.take k)) ∧ bandI .u16 x p = 0 := by simpa using h
        obtain ⟨g3, h0⟩ := h
        have hx := hx (by rw [decide_eq_false g3]; rfl)
        rw [hx] at h0
        have g4 : ∀ j, j ∈ nums (w.take k) → q i j = false := fun j hj => by
          have := ((X.row i (by omega)).and hp).empty.1 h0 j
          simpa [hj] using this
        obtain ⟨t0, t1⟩ := X.th i hic
        refine .ixD Call.z (by omega) (by omega) ?_
        rw [Int.toNat_natCast]
        refine .cond (fun h5 => .one ⟨rfl, notAc ?_⟩) fun h5 => ?_
        · rintro ⟨i', g1, _, _, _, g5, _⟩
          obtain rfl : i = i' := by omega
          have h5 : (c.getD i Call.z).to_ ≠ -1 ∧ s.res ≠ (c.getD i Call.z).res := by simpa using h5
          exact h5.2 (g5 h5.1)
        · have g5 : (c.getD i Call.z).to_ ≠ -1 → s.res = (c.getD i Call.z).res := fun h6 => by
            rw [decide_eq_false h6] at h5
            simpa using h5
          have hxs : (c.getD i Call.z).thing.toNat < types.length := by omega
          have hlx := hLx _ hxs
          have hll := objl_len c (c.getD i Call.z).thing.toNat (w.take k)
          rw [List.length_take] at hll
          refine .ixD [] t0 (by omega) ?_
          rw [hlx]
          refine .ck (limB_of ⟨by unfold maxLen; simp only [List.length_append, List.length_cons, List.length_nil]; omega, by simp only [List.length_append, List.length_cons, List.length_nil]; omega⟩) (.ixD [] t0 (by omega) (.ck64 (by omega) (.one ⟨by simp, ?_, ?_, by rw [List.length_set]; exact hL, fun x hx => ?_⟩)))
          · rw [e0, Ac.app]
            exact ⟨hA, i, hi, hic, by simpa using g3, fun j hj => g4 j (by simpa using hj), g5, trivial⟩
          · have := hp.set (j := i) (by omega)
            rw [wrapU64 (by omega) (by omega)] at this
            refine this.cong fun j => ?_
            have e1 : nums (w.take (k + 1)) = nums (w.take k) ++ [i] := by rw [e0]; simp [nums, hi]
            rw [e1, ← Bool.decide_or, decide_eq_decide, List.mem_append, List.mem_singleton]
            exact ⟨fun h => h.imp id Eq.symm, fun h => h.imp id Eq.symm⟩
          · simp only
            rw [getD_set (by omega), e0, objl_app]
            simp only [objl, hi, Int.toNat_natCast]
            by_cases e : x = (c.getD i Call.z).thing.toNat
            · subst e; rw [if_pos rfl, if_pos rfl]
            · rw [if_neg e, if_neg (fun h => e h.symm), List.append_nil]; exact hLx x hx
    · have hb : ((decide (s.call < 0)) || (decide ((c.length : Int) ≤ s.call))) = true := by
        simp only [Bool.or_eq_true, decide_eq_true_eq]; omega
      rw [hb]
      refine .gd 0 (fun h => by simp at h) fun x _ => .condT (by simp) (.one ⟨rfl, notAc ?_⟩)
      rintro ⟨i', g1, g2, _⟩
      exact hr ⟨by omega, by omega⟩
  · rintro ⟨p, L, v⟩ ⟨hv, hA, hp, hL, hLx⟩
    simp only at hv hp hL hLx
    subst hv
    simp only [search_Valid_L7]
    rw [List.take_length] at hA hp hLx
    exact .condF (decide_eq_false (by omega)) (.one ⟨hA, hp, hL, hLx⟩)
  · rintro ⟨p, L⟩ _ ⟨hA, hp, hL, hLx⟩
    simp only at hp hL hLx
    have hlen := hA.len
    refine .elim (P := fun t => match t with | .inl _ => Cm c (nums w) | .inr b => b = false ∧ ¬ Cm c (nums w)) (.iter c.length (fun k v => v = (k : Int) ∧ ∀ i, i < k → (c.getD i Call.z).to_ ≠ -1 → i ∈ nums w) (by omega) ⟨rfl, fun i h => absurd h (Nat.not_lt_zero _)⟩ ?_ ?_) (fun _ _ hC => ?_) (fun b _ h => .one ⟨fun e => (by rw [h.1] at e; cases e), fun e => (h.2 (gd.1 e).1.2).elim⟩)
    · rintro k v hk ⟨rfl, hr⟩
      simp only [search_Valid_L9]
      rw [wrapU64 (by omega) (by omega), hp.test0 k]
      refine .condT (decide_eq_true (by omega)) (.ixD Call.z (by omega) (by omega) ?_)
      simp only [Int.toNat_natCast]
      refine .cond (fun h => .one ⟨rfl, fun hC => ?_⟩) fun h => .ck64 (by omega) (.one ⟨by simp, fun i hi ht => ?_⟩)
      · simp only [Bool.and_eq_true, Bool.not_eq_true', decide_eq_false_iff_not] at h
        exact h.2 (hC k hk h.1)
      · rcases Nat.lt_or_ge i k with h1 | h1
        · exact hr i h1 ht
        · obtain rfl : i = k := by omega
          rw [decide_eq_false ht] at h
          simpa using h
    · rintro v ⟨rfl, hr⟩
      simp only [search_Valid_L9]
      exact .condF (decide_eq_false (by omega)) (.one hr)
    · have hC : Cm c (nums w) := hC
      refine .elim (P := fun t => match t with | .inl _ => ∀ x, x < types.length → ∃ s', Ob.run (types.getD x 0) (Ob.st0 (types.getD x 0)) (objl c x w) = some s' | .inr b => b = false ∧ ¬ ∀ x, x < types.length → ∃ s', Ob.run (types.getD x 0) (Ob.st0 (types.getD x 0)) (objl c x w) = some s') (.iter types.length (fun k v => v = (k : Int) ∧ ∀ x, x < k → ∃ s', Ob.run (types.getD x 0) (Ob.st0 (types.getD x 0)) (objl c x w) = some s') (by omega) ⟨rfl, fun i h => absurd h (Nat.not_lt_zero _)⟩ ?_ ?_) (fun _ _ h => .one ⟨fun _ => gd.2 ⟨⟨hA, hC⟩, h⟩, fun _ => rfl⟩) (fun b _ h => .one ⟨fun e => (by rw [h.1] at e; cases e), fun e => (h.2 (gd.1 e).2).elim⟩)
      · rintro k v hk ⟨rfl, hr⟩
        simp only [search_Valid_L11]
        have hll := objl_len c k w
        refine .condT (decide_eq_true (by omega)) (.ixD [] (by omega) (by omega) (.ixD 0 (by omega) (by omega) ?_))
        simp only [Int.toNat_natCast]
        have ek := hLx k hk
        refine .seq (play_all hN (X.ty k hk) (l := L.getD k []) (by rw [ek]; omega)) fun r _ hrr => ?_
        rw [ek] at hrr
        obtain ⟨h1, h2, h3⟩ := hrr
        refine .cond (fun h => .one ⟨rfl, fun hall => ?_⟩) fun h => .ck64 (by omega) (.one ⟨by simp, fun x hx => ?_⟩)
        · have := h2 (hall k hk)
          rw [h1] at h
          have h : r.1 < ((L.getD k []).length : Int) := by
            rcases Bool.or_eq_true_iff.1 h with h | h
            · cases h
            · exact of_decide_eq_true h
          rw [ek] at h
          omega
        · rcases Nat.lt_or_ge x k with h4 | h4
          · exact hr x h4
          · obtain rfl : x = k := by omega
            apply Classical.byContradiction
            intro hno
            have := h3 hno
            rw [h1] at h
            have h : ¬ r.1 < ((L.getD x []).length : Int) := of_decide_eq_false (Bool.or_eq_false_iff.1 h).2
            rw [ek] at h
            omega
      · rintro v ⟨rfl, hr⟩
        simp only [search_Valid_L11]
        exact .condF (decide_eq_false (by omega)) (.one hr)
  · intro b _ h
    exact .one ⟨fun e => (by rw [h.1] at e; cases e), fun e => (h.2 (gd.1 e).1.1).elim⟩
end Sr

end Go.Proofs.Yteklmleiiiodfaa
