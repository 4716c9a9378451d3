/- RegularAtomic, plainly. -/
import Derived.Test.YteklmleiiiodfaaAF4
import Derived.Test.YteklmleiiiodfaaAR2
set_option linter.unusedVariables false
set_option linter.unusedSimpArgs false
set_option linter.unusedSectionVars false
set_option maxRecDepth 100000
namespace Go.Proofs.Yteklmleiiiodfaa
open Go.RowKit
namespace Rg
open Rl Hs
theorem level_err {N : Nat} (hN : 5000 < N) {l : List Event} {c : List Call} {e er : Int} (hc : history_Calls N [1] l = some (c, e, er)) (h0 : er ≠ 0) : Wp (regular_Check N l) fun r => r.2 ≠ 0 ∧ r.1 = 0 := by
  unfold regular_Check
  refine .seq (read_wp (by omega) hc fun h => (h0 h).elim) fun r _ hr => ?_
  rcases hr with ⟨h, rfl⟩ | ⟨h, _⟩ | ⟨h, _⟩
  · exact .condT (by simpa using h) (.one ⟨h, rfl⟩)
  · exact (h0 h).elim
  · exact (h0 h).elim
theorem level2 {N : Nat} (hN : 5000 < N) {l : List Event} {c : List Call} (hc : history_Calls N [1] l = some (c, 0, 0)) (hlen : c.length ≤ 200) : Wp (regular_Check N l) fun r => (r.2 = 6 ∧ r.1 = 0) ∨ (r.2 = 0 ∧ Lin (ws c) ∧ (r.1 = 3 ↔ Lv c)) := by
  have hwl : (ws c).length ≤ 200 := by
    have := List.length_filter_le (fun x : Call => decide (x.kind = 1)) c
    show (List.filter _ c).length ≤ 200
    omega
  unfold regular_Check
  refine .seq (read_wp (by omega) hc fun _ => hlen) fun r _ hr => ?_
  rcases hr with ⟨h, rfl⟩ | ⟨h, hL, rfl⟩ | ⟨_, _, rfl⟩
  · exact (h rfl).elim
  · refine .condF rfl (.seq (P := fun v => ∃ t, Tn c (ws c) t ∧ v = if t.2.2 = true then (2 : Int) else 3) (.ck rfl (.seq (turned_wp (by omega) hlen hwl) fun t _ ht => .cond (fun h => .one ⟨t, ht, by rw [if_pos h]⟩) fun h => .one ⟨t, ht, by rw [if_neg (by rw [h]; decide)]⟩)) fun v _ ⟨t, ht, hv⟩ => ?_)
    have hrl := rdk_len c (ws c) c.length
    have hv2 : 2 ≤ v := by rw [hv]; split <;> omega
    refine .seq (P := fun x => ((∀ j, j < (rdk c (ws c) c.length).length → ((rdk c (ws c) c.length).getD j RegularJudged.z).regular = true) → x = v) ∧ ((∃ j, j < (rdk c (ws c) c.length).length ∧ ((rdk c (ws c) c.length).getD j RegularJudged.z).regular = false) → x ≤ 1)) (.bdO (reads_ok (by omega) hlen hwl) ?_) fun x _ ⟨hx1, hx2⟩ => .one (.inr ⟨rfl, hL, ?_⟩)
    · refine .iter (rdk c (ws c) c.length).length (fun k st => ((∀ j, j < k → ((rdk c (ws c) c.length).getD j RegularJudged.z).regular = true) → st.1 = v) ∧ ((∃ j, j < k ∧ ((rdk c (ws c) c.length).getD j RegularJudged.z).regular = false) → st.1 ≤ 1) ∧ st.2 = (k : Int)) (by omega) ⟨fun _ => rfl, fun ⟨j, h, _⟩ => absurd h (Nat.not_lt_zero _), rfl⟩ ?_ ?_
      · rintro k ⟨x, u⟩ hk ⟨h1, h2, hu⟩
        dsimp only at h1 h2 hu
        subst hu
        simp only [regular_Check_L3]
        refine .condT (decide_eq_true (by omega)) (.ixD RegularJudged.z (by omega) (by omega) ?_)
        simp only [Int.toNat_natCast]
        have hS : ((rdk c (ws c) c.length).getD k RegularJudged.z).regular = true → ((rdk c (ws c) c.length).getD k RegularJudged.z).safe = true := by
          intro hR
          obtain ⟨i, hi, ri, e⟩ := rdk_mem.1 (List.getElem_mem hk)
          rw [getD_of hk] at hR ⊢
          have : (judge (ws c) (c.getD i Call.z) (i : Int)).safe = ((judge (ws c) (c.getD i Call.z) (i : Int)).regular || decide (0 < ((ovk (ws c) (c.getD i Call.z) (ws c).length).length : Int))) := rfl
          rw [e, this, ← e, hR]; rfl
        refine .cond (fun hg => .ck64 (by omega) (.one ⟨fun h => ?_, fun _ => by show (0 : Int) ≤ 1; omega, by simp⟩)) fun _ => .cond (fun hg => .ck64 (by omega) (.one ⟨fun h => ?_, fun _ => by show min x 1 ≤ 1; omega, by simp⟩)) fun hg => .ck64 (by omega) (.one ⟨fun h => h1 fun j hj => h j (by omega), fun ⟨j, hj, h⟩ => ?_, by simp⟩)
        · rw [hS (h k (by omega))] at hg; cases hg
        · rw [h k (by omega)] at hg; cases hg
        · rcases Nat.lt_or_ge j k with h3 | h3
          · exact h2 ⟨j, h3, h⟩
          · obtain rfl : j = k := by omega
            rw [h] at hg; cases hg
      · rintro ⟨x, u⟩ ⟨h1, h2, hu⟩
        dsimp only at h1 h2 hu
        subst hu
        simp only [regular_Check_L3]
        exact .condF (decide_eq_false (by omega)) (.one ⟨h1, h2⟩)
    · show x = 3 ↔ Lv c
      by_cases hall : ∀ j, j < (rdk c (ws c) c.length).length → ((rdk c (ws c) c.length).getD j RegularJudged.z).regular = true
      · rw [hx1 hall, hv]
        have hreg : ∀ i, i < c.length → isRead (c.getD i Call.z) → (judge (ws c) (c.getD i Call.z) (i : Int)).regular = true := fun i hi ri => by
          obtain ⟨j, hj, e⟩ := List.getElem_of_mem (rdk_mem (w := ws c).2 ⟨i, hi, ri, rfl⟩)
          have := hall j hj
          rwa [getD_of hj, e] at this
        rcases ht with ⟨ht, hno⟩ | ⟨i, j, ht, hi, hj, ri, rj, gi, gj, hp, hlt⟩
        · have : t.2.2 = false := congrArg (fun x => x.2.2) ht
          rw [if_neg (by rw [this]; decide)]
          exact ⟨fun _ => ⟨hreg, fun i j hi hj ri rj hp hlt => hno i j hi hj ri rj (hreg i hi ri) (hreg j hj rj) ⟨hp, hlt⟩⟩, fun _ => rfl⟩
        · have h3 : t.2.2 = true := congrArg (fun x => x.2.2) ht
          rw [if_pos h3]
          exact ⟨fun h => (by cases h), fun L => (L.tn i j hi hj ri rj hp hlt).elim⟩
      · obtain ⟨j, hj⟩ := Classical.not_forall.1 hall
        obtain ⟨hj, h⟩ := Classical.not_imp.1 hj
        have hle := hx2 ⟨j, hj, by simpa using h⟩
        refine ⟨fun h3 => by omega, fun L => ?_⟩
        obtain ⟨i, hi, ri, e⟩ := rdk_mem.1 (List.getElem_mem hj)
        rw [getD_of hj, e] at h
        exact (h (L.reg i hi ri)).elim
  · exact .condT rfl (.one (.inl ⟨rfl, rfl⟩))
theorem lives : alibkeep_regularLives 18446744073709551616 = some true := by kernel_rfl
theorem atomicLaw {N : Nat} (hN : 5000 < N) (hLv : alibkeep_regularLives N = some true) (l : List Event) : alibkeep_RegularAtomic N l = some true := by
  refine Wp.eq ?_
  obtain ⟨⟨c, e, er⟩, hc, h⟩ := calls_rn (types := [1]) (l := l) (N := N) (by omega)
  unfold alibkeep_RegularAtomic
  by_cases h0 : er = 0
  · subst h0
    obtain ⟨ht, _, hl, he, op, R⟩ := h rfl
    have he : e = 0 := he
    subst he
    have hcl : c.length ≤ 200 := by
      have : c.length ≤ l.length := R.wf.len
      omega
    refine .seq (level2 hN hc hcl) fun r _ hr => .seq (Zo.find_any (by omega) l) fun f hf _ => ?_
    rcases hr with ⟨h6, hz⟩ | ⟨h0, hL, h3⟩
    · exact .seq (Zo.check_all (by omega) l) fun s _ _ => .bdO hLv (.condT (by rw [h6]; rfl) (.bdO hLv (.one (by rw [hz]; rfl))))
    · have W := Zo.wc_of hl R
      have Kc := Zo.kn_of R
      have D := dist_of Kc hL
      refine .seq (Zo.check_rn (by omega) ht hl R D) fun s _ ⟨s1, s2, s3⟩ => .bdO hLv (.condF (by rw [h0]; rfl) (.one ?_))
      have key : r.1 = 3 ↔ ∃ tg T, Sr.Rank c tg T := by
        rw [h3]
        constructor
        · intro L
          obtain ⟨tg, T, K⟩ := rank_of_lv W Kc hL L
          exact ⟨tg, T, K.dn, K.ord, K.uni, K.wr, K.rd⟩
        · rintro ⟨tg, T, K⟩
          exact lv_of_rank W Kc hL (tg := tg) (T := T) ⟨K.dn, K.ord, K.uni, K.wr, K.rd⟩
      have e1 : s.1 = decide (r.1 = 3) := by
        rw [s2, Bool.eq_iff_iff, decide_eq_true_eq, decide_eq_true_eq, key, ← Zo.good_rank hl R D]
        exact s3.good
      rw [e1, s1, beq_self_eq_true, Bool.and_true]
      show (_ && true) = true
      rw [Bool.and_true, Bool.or_eq_true]
      by_cases he : f.2.2 = 0
      · right
        obtain ⟨f2, hf2, hk⟩ := Sr.find_rg (by omega) ht hl R
        rw [hf] at hf2
        obtain rfl : f = f2 := Option.some.inj hf2
        rw [beq_iff_eq, Bool.eq_iff_iff, hk he, decide_eq_true_eq, key]
      · left
        rw [decide_eq_false he]; rfl
  · refine .seq (level_err hN hc h0) fun r _ ⟨h1, h2⟩ => .seq (Zo.find_any (by omega) l) fun f _ _ => .seq (Zo.check_all (by omega) l) fun s _ _ => .bdO hLv (.condT ?_ (.bdO hLv (.one (by rw [h2]; rfl))))
    rw [decide_eq_false h1]; rfl
end Rg

end Go.Proofs.Yteklmleiiiodfaa
