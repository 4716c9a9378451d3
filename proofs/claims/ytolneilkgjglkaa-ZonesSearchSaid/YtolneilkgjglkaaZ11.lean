/- ZonesSearch, plainly. -/
import Derived.Test.YtolneilkgjglkaaL6
import Derived.Test.YtolneilkgjglkaaA3
set_option linter.unusedVariables false
set_option linter.unusedSimpArgs false
set_option linter.unusedSectionVars false
set_option maxRecDepth 100000
namespace Go.Proofs.Ytolneilkgjglkaa
open Go.RowKit
namespace Zo
open Hs
theorem good_rank {N : Nat} {l : List Event} {c : List Call} {op : List Int} (hl : l.length ≤ 200) (R : Rn N [1] l l.length c op) (D : Dist c) : Good c ↔ ∃ tg T, Sr.Rank c tg T := by
  constructor
  · intro G
    obtain ⟨tg, T, K⟩ := good_rk (wc_of hl R) D (kn_of R) G
    exact ⟨tg, T, K.dn, K.ord, K.uni, K.wr, K.rd⟩
  · rintro ⟨tg, T, K⟩
    exact rk_good (wc_of hl R) D (kn_of R) (tg := tg) (T := T) ⟨K.dn, K.ord, K.uni, K.wr, K.rd⟩
theorem kd_zero {c : List Call} {r : Int × Int × Int} (h : Kd c r) (h0 : r.1 = 0) : r = (0, 0, 0) := by
  rcases h with ⟨h, _⟩ | ⟨_, h⟩
  · rw [h0] at h; cases h
  rcases h with ⟨h, _⟩ | ⟨_, h⟩
  · rw [h0] at h; cases h
  rcases h with ⟨h, _⟩ | ⟨_, h⟩
  · rw [h0] at h; cases h
  rcases h with ⟨h, _⟩ | ⟨_, h⟩
  · rw [h0] at h; cases h
  · exact h
theorem find_any {N : Nat} (hN : 300 < N) (l : List Event) : Wp (search_Find N [1] l) fun _ => True := by
  obtain ⟨⟨c9, e9⟩, hc9, h9⟩ := Sr.calls9_wp (N := N) (by omega) [1] l
  exact (Sr.find_wp hN hc9).mono fun _ _ => trivial
theorem searchLaw {N : Nat} (hN : 5000 < N) (hL : alibkeep_zonesLives N = some true) (l : List Event) : alibkeep_ZonesSearch N l = some true := by
  refine Wp.eq ?_
  unfold alibkeep_ZonesSearch
  refine .seq (check_all (by omega) l) fun r _ hr => .seq (find_any (by omega) l) fun f hf _ => .bdO hL ?_
  rcases hr with ⟨h, h1, h2, h3, h4⟩ | ⟨h0, ht, hl, c, op, R, D, h1, h2⟩
  · rw [decide_eq_false h]
    refine .condT rfl (.bdO hL (.one ?_))
    rw [h1, h2, h3, h4]; rfl
  · rw [decide_eq_true h0]
    refine .condF rfl (.one ?_)
    have e1 : r.1 = decide (Bad.mk r.2.1 r.2.2.1 r.2.2.2.1 = Bad.mk 0 0 0) := by
      rw [h1]
      by_cases hz : r.2.1 = 0
      · have := kd_zero h2 hz
        have e2 : r.2.2.1 = 0 := congrArg (fun x : Int × Int × Int => x.2.1) this
        have e3 : r.2.2.2.1 = 0 := congrArg (fun x : Int × Int × Int => x.2.2) this
        rw [decide_eq_true hz, decide_eq_true (by rw [hz, e2, e3])]
      · rw [decide_eq_false hz, decide_eq_false (fun h => hz (congrArg Bad.kind h))]
    rw [← e1, beq_self_eq_true, Bool.true_and, Bool.or_eq_true]
    by_cases he : f.2.2 = 0
    · right
      obtain ⟨f2, hf2, hk⟩ := Sr.find_rg (by omega) ht hl R
      rw [hf] at hf2
      obtain rfl : f = f2 := Option.some.inj hf2
      rw [beq_iff_eq, Bool.eq_iff_iff, hk he, ← good_rank hl R D, h1, decide_eq_true_eq]
      exact h2.good
    · left
      rw [decide_eq_false he]; rfl
end Zo

end Go.Proofs.Ytolneilkgjglkaa
