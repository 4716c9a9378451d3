/- TicketsSearch, plainly. -/
import Derived.Test.YtolneilkgjglkaaL7
set_option linter.unusedVariables false
set_option linter.unusedSimpArgs false
set_option linter.unusedSectionVars false
set_option maxRecDepth 100000
namespace Go.Proofs.Ytolneilkgjglkaa
open Go.RowKit
namespace Tk
open Hs Go.Sort
theorem check_of {N : Nat} (hN : 5000 < N) {l : List Event} {c : List Call} {op : List Int} {e : Int} (hl : l.length ≤ 200) (hc : history_Calls N [5] l = some (c, e, 0)) (R : Rn N [5] l l.length c op) : Wp (tickets_Check N l) fun r => r.2.2.2.2 = 0 ∧ (r.1 = true ↔ Good c) ∧ r.1 = decide (r.2.1 = 0) ∧ (r.2.1 = 0 → r.2.2.1 = 0 ∧ r.2.2.2.1 = 0) := by
  have hlen := R.wf.len
  have hr := (okl R).res
  unfold tickets_Check
  refine .bdO (read_ok hN hc (by omega) fun i hi => (hr i hi).2) (.condF rfl (.ck rfl (.seq (check_wp (c := c) hN (by omega) fun i hi => (hr i hi).2) fun r _ h => .one ⟨rfl, ?_, rfl, fun z => ?_⟩)))
  · rw [decide_eq_true_eq]; exact h.1
  · have z : r.1 = 0 := z
    rw [h.2 z]
    exact ⟨rfl, rfl⟩
theorem searchLaw {N : Nat} (hN : 5000 < N) (hL : alibkeep_ticketsLives N = some true) (l : List Event) : alibkeep_TicketsSearch N l = some true := by
  refine Wp.eq ?_
  unfold alibkeep_TicketsSearch
  obtain ⟨⟨c9, e9⟩, hc9, h9⟩ := Sr.calls9_wp (N := N) (by omega) [5] l
  obtain ⟨⟨c, e, er⟩, h1, h2⟩ := calls_rn (N := N) (types := [5]) (l := l) (by omega)
  by_cases h0 : er = 0
  case neg =>
    have hb : (!decide (er = 0)) = true := by simp only [Bool.not_eq_true', decide_eq_false_iff_not]; exact h0
    have hrd : tickets_read N l = some (false, [], [], [], er) := by
      unfold tickets_read
      exact Wp.eq (.bdO h1 (.condT hb (.one rfl)))
    have hck : tickets_Check N l = some (false, 0, 0, 0, er) := by
      unfold tickets_Check
      exact Wp.eq (.bdO hrd (.condT hb (.one rfl)))
    refine .bdO hck (.seq (order_all hN l) fun r _ hr => .seq (Sr.find_wp (by omega) hc9) fun r3 _ _ => .bdO hL (.condT ?_ (.bdO hL (.one ?_))))
    · show (false || !decide (er = 0)) = true
      rw [hb]; rfl
    · rcases hr with ⟨_, _, h3⟩ | ⟨_, c2, op2, ht, hl, R, _⟩
      · have := (h3 c e er h1).1 h0
        show ((true && true) && decide (r.2 = er)) = true
        rw [decide_eq_true this]; rfl
      · exfalso
        have := calls_of (N := N) (by omega) ht hl R
        rw [this] at h1
        cases h1
        exact h0 rfl
  subst h0
  obtain ⟨ht, _, hl, _, op, R⟩ := h2 rfl
  have R : Rn N [5] l l.length c op := R
  have W := okl R
  have hth : ∀ i, i < c.length → (c.getD i Call.z).thing = 0 := fun i hi => by
    have := (R.wf.one i hi).thing
    simp only [List.length_singleton] at this; omega
  have hA : ∀ i, i < c.length → Ob.Asked 5 (c.getD i Call.z).kind (c.getD i Call.z).arg := fun i hi => by
    have := Sr.asked_of R hi
    rw [hth i hi] at this
    exact this
  have hlen := R.wf.len
  refine .seq (check_of hN hl h1 R) fun r _ ⟨k1, k2, k3, k4⟩ => .seq (order_all hN l) fun r2 _ hr2 => .seq (Sr.find_wp (by omega) hc9) fun r3 _ ⟨f1, _, f3⟩ => ?_
  have ho : (Good c ∧ r2.2 = 0 ∧ r2.1 = sortL sort46S sort46C (steps c)) ∨ (¬ Good c ∧ r2.2 ≠ 0 ∧ r2.1 = []) := by
    rcases hr2 with ⟨a, b, h3⟩ | ⟨a, c2, op2, ht2, hl2, R2, G2, hw⟩
    · exact .inr ⟨(h3 c e 0 h1).2 rfl, a, b⟩
    · have := calls_of (N := N) (by omega) ht2 hl2 R2
      rw [h1] at this
      have ec : c = c2 := (Prod.mk.inj (Option.some.inj this)).1
      subst ec
      exact .inl ⟨G2, a, hw⟩
  have e1 : decide (Bad.mk r.2.1 r.2.2.1 r.2.2.2.1 = Bad.mk 0 0 0) = r.1 := by
    rw [k3]
    by_cases z : r.2.1 = 0
    · obtain ⟨z1, z2⟩ := k4 z
      rw [z, z1, z2]; rfl
    · rw [decide_eq_false z, decide_eq_false (fun h => z (Bad.mk.inj h).1)]
  have e2 : decide (r2.2 = 0) = r.1 := by
    rcases ho with ⟨G, a, _⟩ | ⟨G, a, _⟩
    · rw [a, k2.2 G]; rfl
    · rw [decide_eq_false a]
      cases hb : r.1 with
      | false => rfl
      | true => exact absurd (k2.1 hb) G
  refine .bdO hL (.condF (by rw [k1]; rfl) (.condF (by rw [e1, e2]; cases r.1 <;> rfl) (.cond (fun _ => .one rfl) fun hy => ?_)))
  have he : r3.2.2 = 0 := by simpa using hy
  have he9 : e9 = 0 := by omega
  rcases h9 with ⟨_, H, hcalls⟩ | ⟨x, _⟩
  case inr => exact absurd he9 x
  rw [h1] at hcalls
  have ec : c = c9 := (Prod.mk.inj (Option.some.inj hcalls)).1
  subst ec
  have F := f3 he9 H
  have hw : r2.1.length < N := by
    rcases ho with ⟨G, _, a⟩ | ⟨_, _, a⟩
    · rw [a]
      have := Sr.Ac.len ((pl5 (q := bfA c) hA hth (t := sortL sort46S sort46C (steps c)) (v := 0) (w := []) (by omega) (by omega)).1 (by have := (of_good W hA hth (by omega) G).1; rw [S05] at this; exact this)).1
      omega
    · rw [a]; show 0 < N; omega
  refine .seq (Sr.right_wp (by omega) hc9 hw) fun r4 _ ⟨g1, _, g3⟩ => .one ?_
  have g3 := g3 he9 H
  rw [g1, he9]
  rcases ho with ⟨G, _, a⟩ | ⟨G, _, a⟩
  · have y := k2.2 G
    have gd := of_good W hA hth (by omega) G
    have y4 : r4.1 = true := g3.2 (by rw [a]; exact gd)
    have y3 : r3.2.1 = true := by
      rcases F with ⟨h, _⟩ | ⟨_, _, hno⟩
      · exact h
      · exact absurd gd (hno _)
    rw [y, y3, y4]; rfl
  · have y : r.1 = false := by
      cases hb : r.1 with
      | false => rfl
      | true => exact absurd (k2.1 hb) G
    have y3 : r3.2.1 = false := by
      rcases F with ⟨_, g, _⟩ | ⟨h, _⟩
      · exact absurd (good_of W hA hth g) G
      · exact h
    rw [y, y3]; rfl
theorem lives : alibkeep_ticketsLives 18446744073709551616 = some true := by kernel_rfl
end Tk

end Go.Proofs.Ytolneilkgjglkaa
