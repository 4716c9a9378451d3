/- One that was not answered yet may be. -/
import Derived.Test.YtpakplmpihhmbaaN2
set_option linter.unusedVariables false
set_option linter.unusedSimpArgs false
set_option linter.unusedSectionVars false
set_option maxRecDepth 100000
namespace Go.Proofs.Ytpakplmpihhmbaa
open Go.RowKit
namespace Sr
open Rl Hs
theorem ac_not {c : List Call} {q : Nat → Nat → Bool} : ∀ {t : List Step} {w : List Nat}, Ac c q w t → ∀ s ∈ t, s.call.toNat ∉ w
  | [], _, _, s, hs => by cases hs
  | a :: t, w, ⟨i, h1, h2, h3, h4, h5, h6⟩, s, hs => by
    rcases List.mem_cons.1 hs with rfl | hs
    · rw [h1, Int.toNat_natCast]; exact h3
    · exact fun h => ac_not h6 s hs (List.mem_append.2 (.inl h))
theorem ac_uni {c : List Call} {q : Nat → Nat → Bool} : ∀ {t : List Step} {w : List Nat}, Ac c q w t → ∀ s ∈ t, ∀ s' ∈ t, s.call = s'.call → s = s'
  | [], _, _, s, hs, _, _, _ => by cases hs
  | a :: t, w, ⟨i, h1, h2, h3, h4, h5, h6⟩, s, hs, s', hs', e => by
    rcases List.mem_cons.1 hs with e1 | e1
    · rcases List.mem_cons.1 hs' with e2 | e2
      · rw [e1, e2]
      · exfalso
        have := ac_not h6 s' e2
        rw [← e, e1, h1, Int.toNat_natCast] at this
        simp at this
    · rcases List.mem_cons.1 hs' with e2 | e2
      · exfalso
        have := ac_not h6 s e1
        rw [e, e2, h1, Int.toNat_natCast] at this
        simp at this
      · exact ac_uni h6 s e1 s' e2 e
theorem asked_of {N : Nat} {types : List Int} {l : List Event} {k : Nat} {c : List Call} {op : List Int} (R : Rn N types l k c op) {m : Nat} (hm : m < c.length) : Ob.Asked (types.getD (c.getD m Call.z).thing.toNat 0) (c.getD m Call.z).kind (c.getD m Call.z).arg := by
  have O := R.wf.one m hm
  have a1 := (rn_arg R m hm).1
  rw [Ob.argument_ok] at a1
  refine ⟨O.fit.1, O.fit.2, fun h => ?_, fun h => ?_⟩
  · rw [if_pos h] at a1
    simpa using a1
  · rw [if_neg h] at a1
    have : 1 ≤ (c.getD m Call.z).arg ∧ (c.getD m Call.z).arg ≤ 1000 := by simpa using a1
    exact this
theorem nx_ex {typ : Int} {s : List Int} {kind arg : Int} (hO : Ob.OkS typ s) (hA : Ob.Asked typ kind arg) (hl : s.length ≤ 20) (h5 : typ ≠ 5 ∨ s.getD 0 0 ≤ 20) : ∃ n r, Ob.nx typ s kind arg = some (n, r) := by
  unfold Ob.nx
  rw [if_pos ⟨hO, hA⟩]
  unfold Ob.stp
  repeat' split
  all_goals first
    | exact ⟨_, _, rfl⟩
    | (exfalso; omega)
/-- How great a state is. -/
def Sz (types : List Int) (S : List (List Int)) (m : Nat) : Prop := ∀ x, x < types.length → (S.getD x []).length ≤ m ∧ (types.getD x 0 ≠ 5 ∨ (S.getD x []).getD 0 0 ≤ m)
theorem pl_fin {types : List Int} {c : List Call} {q : Nat → Nat → Bool} (hth : ∀ m, m < c.length → 0 ≤ (c.getD m Call.z).thing ∧ (c.getD m Call.z).thing < types.length) : ∀ {t : List Step} {S : List (List Int)} {w : List Nat} {m : Nat}, 1 ≤ m → StO types S → Sz types S m → Pl types c q S w t → ∃ S', StO types S' ∧ Sz types S' (m + t.length) ∧ ∀ u, Pl types c q S' (w ++ nums t) u → Pl types c q S w (t ++ u)
  | [], S, w, m, _, hO, hS, _ => ⟨S, hO, hS, fun u h => by simpa [nums] using h⟩
  | s :: t, S, w, m, hm, hO, hS, ⟨i, n, h1, h2, h3, h4, h5, h6, h7⟩ => by
    obtain ⟨t0, t1⟩ := hth i h2
    have hx : (c.getD i Call.z).thing.toNat < types.length := by omega
    obtain ⟨o1, o2, o3, o4⟩ := Ob.nx_ok h6
    have o5 := (Ob.stp_ok o1 o2 o3).2.1
    obtain ⟨z1, z2⟩ := hS _ hx
    have hS2 : Sz types (S.set (c.getD i Call.z).thing.toNat n) (m + 1) := fun x hx2 => by
      rw [getD_set (by rw [hO.1]; exact hx)]
      obtain ⟨y1, y2⟩ := hS x hx2
      by_cases ex : x = (c.getD i Call.z).thing.toNat
      · rw [if_pos ex]
        refine ⟨by omega, ?_⟩
        by_cases e5 : types.getD x 0 = 5
        · right
          rw [ex] at e5
          rw [e5] at o3
          unfold Ob.stp at o3
          rw [if_neg (by decide), if_pos rfl] at o3
          split at o3
          · cases o3
          · have en := (Prod.mk.inj (Option.some.inj o3)).1
            rw [e5] at z2
            rcases z2 with z2 | z2
            · exact (z2 rfl).elim
            · rw [← en]
              show (S.getD (c.getD i Call.z).thing.toNat []).getD 0 0 + 1 ≤ _
              omega
        · exact .inl e5
      · rw [if_neg ex]
        refine ⟨by omega, ?_⟩
        rcases y2 with y2 | y2
        · exact .inl y2
        · right; omega
    obtain ⟨S', g1, g2, g3⟩ := pl_fin hth (m := m + 1) (by omega) (hO.set hx o4) hS2 h7
    refine ⟨S', g1, by rw [List.length_cons, show m + (t.length + 1) = m + 1 + t.length by omega]; exact g2, fun u hu => ?_⟩
    have e : w ++ nums (s :: t) = w ++ [i] ++ nums t := by simp [nums, h1]
    rw [e] at hu
    exact ⟨i, n, h1, h2, h3, h4, h5, h6, g3 u hu⟩
theorem st0_sz (typ : Int) : (Ob.st0 typ).length ≤ 1 ∧ (Ob.st0 typ).getD 0 0 ≤ 1 := by
  unfold Ob.st0
  split
  · exact ⟨by simp, by simp⟩
  · exact ⟨by simp, by simp⟩
theorem gd_more {N : Nat} {types : List Int} {l : List Event} {k : Nat} {c : List Call} {op : List Int} (R : Rn N types l k c op) {rel : Rel} (X : Cx types c rel (bfA c)) (hc : c.length ≤ 9) {w : List Step} (g : Gd types c (bfA c) (S0 types) [] w) {m : Nat} (hm : m < c.length) (hto : (c.getD m Call.z).to_ = -1) (hno : m ∉ nums w) : ∃ r, Gd types c (bfA c) (S0 types) [] (w ++ [⟨(m : Int), r⟩]) := by
  have hth : ∀ m, m < c.length → 0 ≤ (c.getD m Call.z).thing ∧ (c.getD m Call.z).thing < types.length := fun m hm => (R.wf.one m hm).thing
  have hwl := (pl_ac g.1).len
  obtain ⟨S', g1, g2, g3⟩ := pl_fin hth (m := 1) (Nat.le_refl _) (S0_ok X) (fun x hx => by
    have e : (S0 types).getD x [] = Ob.st0 (types.getD x 0) := by
      unfold S0
      rw [getD_of (show x < (types.map Ob.st0).length by rw [List.length_map]; exact hx), getD_of hx, List.getElem_map]
    rw [e]
    obtain ⟨a, b⟩ := st0_sz (types.getD x 0)
    exact ⟨a, .inr b⟩) g.1
  obtain ⟨t0, t1⟩ := hth m hm
  have hx : (c.getD m Call.z).thing.toNat < types.length := by omega
  obtain ⟨z1, z2⟩ := g2 _ hx
  obtain ⟨n, r, hn⟩ := nx_ex (g1.2 _ hx) (asked_of R hm) (by omega) (by
    rcases z2 with z2 | z2
    · exact .inl z2
    · right; omega)
  refine ⟨r, g3 _ ⟨m, n, rfl, hm, by simpa using hno, fun j _ => decide_eq_false fun h => h.2.2.1 hto, fun h => (h hto).elim, hn, trivial⟩, fun i hi h => ?_⟩
  have := g.2 i hi h
  rw [List.nil_append] at this ⊢
  unfold nums at this ⊢
  rw [List.map_append]
  exact List.mem_append.2 (.inl this)
theorem first_of (s : List Step) (k : Int) : ∀ n, (∃ p, p < n ∧ (s.getD p Step.z).call = k ∧ ∀ i, i < p → (s.getD i Step.z).call ≠ k) ∨ ∀ i, i < n → (s.getD i Step.z).call ≠ k
  | 0 => .inr fun i h => absurd h (Nat.not_lt_zero _)
  | n + 1 => by
    rcases first_of s k n with ⟨p, h1, h2⟩ | h
    · exact .inl ⟨p, by omega, h2⟩
    · by_cases e : (s.getD n Step.z).call = k
      · exact .inl ⟨n, by omega, e, h⟩
      · refine .inr fun i hi => ?_
        rcases Nat.lt_or_ge i n with h1 | h1
        · exact h i h1
        · obtain rfl : i = n := by omega
          exact e
end Sr

end Go.Proofs.Ytpakplmpihhmbaa
