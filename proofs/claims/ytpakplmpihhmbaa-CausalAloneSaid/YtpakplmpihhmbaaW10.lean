/- CausalWeaker, plainly. -/
import Derived.Test.YtpakplmpihhmbaaW9
set_option linter.unusedVariables false
set_option linter.unusedSimpArgs false
set_option linter.unusedSectionVars false
set_option maxRecDepth 100000
namespace Go.Proofs.Ytpakplmpihhmbaa
open Go.RowKit
namespace Sr
open Rl Hs Ca
theorem wcLaw {N : Nat} (hN : 70000 < N) (hL : alibkeep_causalLives N = some true) (types : List Int) (l : List Event) : alibkeep_CausalWeaker N types l = some true := by
  refine Wp.eq ?_
  unfold alibkeep_CausalWeaker
  obtain ⟨⟨c, e⟩, hc, hcs⟩ := calls9_wp (N := N) (by omega) types l
  refine .seq (Check_wp (types := types) (l := l) hN) fun r _ hr => .seq (sfind_wp (by omega) hc) fun r2 _ ⟨g1, _, g3⟩ => .seq (find_wp (by omega) hc) fun r3 _ ⟨f1, _, f3⟩ => ?_
  rw [g1, f1]
  refine .seq (P := fun v => v = decide (r.2.2 ≠ 0 ∨ e ≠ 0)) (.bdO hL (.condT rfl (.bdO (okd (by simp; omega) (by simp)) (.one ?_)))) fun v _ hv => ?_
  · rw [Bool.not_true, Bool.false_or, ← decide_not]
    refine decide_eq_decide.2 ⟨fun h => ?_, fun h h2 => ?_⟩
    · apply Classical.byContradiction
      intro h2
      have a : r.2.2 = 0 := Classical.byContradiction fun h3 => h2 (.inl h3)
      have b : e = 0 := Classical.byContradiction fun h3 => h2 (.inr h3)
      exact h fun x hx => by
        rcases List.mem_cons.1 hx with rfl | hx
        · exact a
        · rcases List.mem_cons.1 hx with rfl | hx
          · exact b
          · rw [List.mem_singleton.1 hx]; exact b
    · rcases h with h | h
      · exact h (h2 _ (.head _))
      · exact h (h2 _ (.tail _ (.head _)))
  · subst hv
    refine .cond (fun _ => .bdO hL (.one rfl)) fun h => .one ?_
    have h := of_decide_eq_false h
    have a : r.2.2 = 0 := Classical.byContradiction fun h3 => h (.inl h3)
    have b : e = 0 := Classical.byContradiction fun h3 => h (.inr h3)
    rcases hcs with ⟨_, H, hcalls⟩ | ⟨h2, _⟩
    · rcases hr with ⟨_, c2, hc2, F, ha, hb⟩ | ⟨h2, _⟩
      · rw [hcalls] at hc2
        obtain rfl : c = c2 := by cases hc2; rfl
        obtain ⟨t1, t2, op, R⟩ := rn_of (by omega) hcalls
        have Fs := (g3 b H).iff
        have Ft := (f3 b H).iff
        have ts : r3.2.1 = true → r2.2.1 = true := fun h => by
          obtain ⟨u, g⟩ := Ft.1 h
          exact Fs.2 ⟨u, g.mono fun i j => prS_bf R.wf⟩
        have sa : r2.2.1 = true → r.1 = true := fun h => by
          obtain ⟨u, g⟩ := Fs.1 h
          exact ha.2 (gd_causes R F g)
        have ab : r.1 = true → r.2.1 = true := fun h => hb.2 (views_weak (ha.1 h).2)
        cases h3 : r3.2.1 with
        | true => rw [ab (sa (ts h3)), sa (ts h3), ts h3]; rfl
        | false =>
          cases h2 : r2.2.1 with
          | true => rw [ab (sa h2), sa h2]; rfl
          | false =>
            cases h1 : r.1 with
            | true => rw [ab h1]; rfl
            | false => rfl
      · exact (h2 a).elim
    · exact (h2 b).elim
end Sr

theorem causalLives : alibkeep_causalLives 18446744073709551616 = some true := by kernel_rfl

end Go.Proofs.Ytpakplmpihhmbaa
