/- SitesRight, plainly. -/
import Derived.Test.YteklmleiiiodfaaH5b
import Derived.Test.YteklmleiiiodfaaL5
import Derived.Test.YteklmleiiiodfaaE6
set_option linter.unusedVariables false
set_option linter.unusedSimpArgs false
set_option linter.unusedSectionVars false
set_option maxRecDepth 100000
namespace Go.Proofs.Yteklmleiiiodfaa
open Go.RowKit
namespace Si
open Hs Sr
theorem tag_ext {a b : SitesTag} (h1 : a.stamp = b.stamp) (h2 : a.who = b.who) : a = b := by
  cases a; cases b; simp only at h1 h2; rw [h1, h2]
def rk (g : Gh) (i : Nat) : Int := (g.tag i).stamp * 8 + (g.tag i).who
def tgx (g : Gh) (i : Nat) : Bool := g.tg i && (decide ((g.call i).to_ ≠ -1) || decide ((g.call i).kind = 1))
section
variable {N : Nat} {fast : Bool} {np n : Nat} {m : M} {g : Gh}
theorem tgx_c {i : Nat} (h : tgx g i = true) : g.tg i = true ∧ ((g.call i).to_ ≠ -1 ∨ (g.call i).kind = 1) := by
  unfold tgx at h
  rw [Bool.and_eq_true, Bool.or_eq_true, decide_eq_true_eq, decide_eq_true_eq] at h
  exact h
theorem tag_rng (z : Z N fast np n m g) {i : Nat} (hi : i < g.c.length) (h : tgx g i = true) : (0 ≤ (g.tag i).who ∧ (g.tag i).who < 8) ∧ 0 ≤ (g.tag i).stamp := by
  have wr : ∀ k, k < g.c.length → g.tg k = true → (g.call k).kind = 1 → (0 ≤ (g.tag k).who ∧ (g.tag k).who < 8) ∧ 0 ≤ (g.tag k).stamp := fun k hk h1 h2 => by
    obtain ⟨t1, t2⟩ := z.tw k hk h1 h2
    have := (z.fr hk).2.2
    rw [t1]
    exact ⟨this, by omega⟩
  obtain ⟨h1, h2⟩ := tgx_c h
  by_cases hk : (g.call i).kind = 1
  · exact wr i hi h1 hk
  · rcases (z.dn i hi (h2.resolve_right hk)).2.2.2 hk with ⟨h3, _⟩ | ⟨k, k1, k2, k3, k4, _⟩
    · rw [h3]; exact ⟨⟨by decide, by decide⟩, by decide⟩
    · rw [← k4]; exact wr k k1 k2 k3
/-- Calls of a register that is kept by many have ranks. -/
theorem rank_of (z : Z N false np n m g) : Rank g.c (tgx g) (rk g) := by
  have hdn : ∀ i, i < g.c.length → (g.call i).to_ ≠ -1 → tgx g i = true := fun i hi h => by
    unfold tgx; rw [(z.dn i hi h).1, decide_eq_true h]; rfl
  refine ⟨hdn, fun a b ha hb h1 h2 h3 => ?_, fun a b ha hb h1 h2 k1 k2 e => ?_, fun i hi h1 h2 => ?_, fun i hi h1 h2 => ?_⟩
  · obtain ⟨t1, t2⟩ := z.ord a b ha hb h1 h2 (.inl rfl) (tgx_c h3).1
    have r1 := tag_rng z ha (hdn a ha h1)
    have r2 := tag_rng z hb h3
    unfold rk
    refine ⟨?_, fun hk => ?_⟩
    · unfold tlt at t1; omega
    · have t2 := t2 hk
      unfold tlt at t2; omega
  · have r1 := tag_rng z ha h1
    have r2 := tag_rng z hb h2
    unfold rk at e
    exact z.uni a b ha hb (tgx_c h1).1 (tgx_c h2).1 k1 k2 (tag_ext (by omega) (by omega))
  · have r1 := tag_rng z hi h1
    have t := (z.tw i hi (tgx_c h1).1 h2).2
    refine ⟨by unfold rk; omega, fun h => (z.dn i hi h).2.2.1 h2⟩
  · rcases (z.dn i hi h1).2.2.2 h2 with ⟨h3, h4⟩ | ⟨k, k1, k2, k3, k4, k5, _⟩
    · refine .inl ⟨?_, h4⟩
      unfold rk; rw [h3]; rfl
    · refine .inr ⟨k, k1, ?_, k3, ?_, k5⟩
      · unfold tgx; rw [k2, decide_eq_true k3]; simp
      · unfold rk; rw [k4]
end
theorem rightLaw {N : Nat} (hN : 5000 < N) (hL : alibkeep_sitesLives N = some true) (n : Int) (people : List (List Ask)) (acts : List Act) (hl : ∀ l ∈ people, l.length < N ∧ l.length ≤ 9223372036854775807) (ha : acts.length < N ∧ acts.length ≤ 9223372036854775807) : alibkeep_SitesRight N n people acts = some true := by
  refine Wp.eq ?_
  unfold alibkeep_SitesRight
  rcases play_res hN n false acts hl ha with ⟨e, he, hP⟩ | ⟨hP, hn, h8, hok, hlen, hact⟩
  · exact .bdO hP (.bdO hL (.condT (by simp [he]) (.bdO hL (.one rfl))))
  obtain ⟨g, A, _⟩ := run_zz (zz0 N false (n := n.toNat) h8 (by omega) (asks_of hok)) hact
  refine .bdO hP (.bdO hL (.condF (by simp) ?_))
  generalize run false (m0 n.toNat people) acts = X at A ⊢
  have R := A.z.run
  by_cases h2 : X.events.length ≤ 200
  rotate_left
  · have h3 : search_Find N [1] X.events = some ([], false, 2) := by
      unfold search_Find search_Calls history_Calls
      refine Wp.eq (.bdO (a := ([], 2)) (Wp.eq (.bdO (a := ([], 0, 2)) (Wp.eq (.bdO (types1 (by omega)) (.condF rfl (.condT (decide_eq_true (by omega)) (.one rfl))))) (.condT rfl (.one rfl)))) (.condT rfl (.one rfl)))
    exact .bdO h3 (.one rfl)
  have hc := calls_of (by omega) (types1 (by omega)) h2 R
  by_cases h9 : g.c.length ≤ 9
  rotate_left
  · have h3 : search_Find N [1] X.events = some ([], false, 2) := by
      unfold search_Find search_Calls
      refine Wp.eq (.bdO (a := ([], 2)) (Wp.eq (.bdO hc (.condF rfl (.condT (decide_eq_true (by show (9 : Int) < g.c.length; omega)) (.one rfl))))) (.condT rfl (.one rfl)))
    exact .bdO h3 (.one rfl)
  have hc9 := calls9_of hc h9
  have H := hc_of (by omega) hc9
  obtain ⟨rel, C⟩ := cx9 H (by omega)
  refine .seq (find_wp (by omega) hc9) fun r _ ⟨f1, _, f3⟩ => .one ?_
  have hF := (f3 rfl H).iff
  have hA : ∀ i, i < g.c.length → Ob.Asked 1 (g.c.getD i Call.z).kind (g.c.getD i Call.z).arg := fun i hi => by
    have h1 := asked_of R hi
    have hth := (R.wf.one i hi).thing
    simp only [List.length_singleton] at hth
    have e : (g.c.getD i Call.z).thing.toNat = 0 := by omega
    rw [e] at h1; exact h1
  have hft : ∀ i, i < g.c.length → (g.c.getD i Call.z).to_ ≠ -1 → (g.c.getD i Call.z).from_ ≤ (g.c.getD i Call.z).to_ := fun i hi h => by
    rcases (R.wf.one i hi).to with ⟨h2, _⟩ | ⟨h2, _⟩
    · exact (h h2).elim
    · omega
  have := hF.2 (reg_lin C hA hft (rank_of A.z))
  rw [f1, this]; rfl
end Si

end Go.Proofs.Yteklmleiiiodfaa
