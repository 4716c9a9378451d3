/- SearchNever, plainly. -/
import Derived.Test.YtpakplmpihhmbaaN4
import Derived.Test.YtpakplmpihhmbaaL10
set_option linter.unusedVariables false
set_option linter.unusedSimpArgs false
set_option linter.unusedSectionVars false
set_option maxRecDepth 100000
namespace Go.Proofs.Ytpakplmpihhmbaa
open Go.RowKit
namespace Sr
open Rl Hs
theorem set_getD {w : List Step} {p : Nat} (h : p < w.length) : w.set p (w.getD p Step.z) = w := by
  rw [getD_of h, List.set_getElem_self]
theorem mem_set {w : List Step} {p : Nat} (h : p < w.length) (s : Step) : s ∈ w.set p s := by
  have h2 : p < (w.set p s).length := by rw [List.length_set]; exact h
  have := List.getElem_mem h2
  rwa [List.getElem_set_self] at this
theorem neverLaw {N : Nat} (hN : 5000 < N) (hL : alibkeep_searchLives N = some true) (types : List Int) (l : List Event) (k : Int) : alibkeep_SearchNever N types l k = some true := by
  refine Wp.eq ?_
  unfold alibkeep_SearchNever
  obtain ⟨⟨c, e⟩, hc, hcs⟩ := calls9_wp (N := N) (by omega) types l
  obtain ⟨h, hh, _⟩ := calls_rn (types := types) (l := l) (N := N) (by omega)
  refine .seq (find_wp (by omega) hc) fun r _ ⟨f1, _, f3⟩ => .bdO hh ?_
  rw [f1]
  refine .seq (P := fun v => v = false → e = 0 ∧ h.2.2 = 0 ∧ r.2.1 = true ∧ 0 ≤ k ∧ k < h.1.length ∧ (h.1.getD k.toNat Call.z).to_ = -1 ∧ l.length < 200) (.bdO hL (.condT rfl (.bdO (okd (by simp; omega) (by simp)) (.gd (h.1.getD k.toNat Call.z) (fun hg => ?_) fun x hx => .one fun hv => ?_)))) fun v _ hv => ?_
  · simp only [beq_iff_eq, Bool.not_true, Bool.false_or, Bool.or_eq_false_iff, Bool.not_eq_false', decide_eq_false_iff_not, decide_eq_true_eq] at hg
    obtain ⟨⟨_, h1⟩, h2⟩ := hg
    rw [ix_int (by omega) (by omega), getD_of]
  · have hx2 := fun h1 h2 h3 h4 => hx (by
      simp only [beq_iff_eq, Bool.not_true, Bool.false_or, Bool.or_eq_false_iff, Bool.not_eq_false', decide_eq_false_iff_not, decide_eq_true_eq]
      exact ⟨⟨⟨h1, h2⟩, h3⟩, h4⟩)
    simp only [Bool.not_true, Bool.false_or, Bool.or_eq_false_iff, Bool.not_eq_false', decide_eq_false_iff_not, decide_eq_true_eq] at hv
    obtain ⟨⟨⟨⟨⟨h1, h2⟩, h3⟩, h4⟩, h5⟩, h6⟩ := hv
    have hx3 := hx2 h1 h2 h3 h4
    rw [hx3] at h5
    exact ⟨h1 _ (.head _), h1 _ (.tail _ (.head _)), h2, by omega, by omega, h5, by omega⟩
  · refine .cond (fun _ => .bdO hL (.one rfl)) fun h1 => ?_
    obtain ⟨b, _, hr, k0, k1, k2, hl⟩ := hv h1
    rcases hcs with ⟨_, H, hcalls⟩ | ⟨h2, _⟩
    · rw [hcalls] at hh
      obtain rfl : h = (c, 0, 0) := by cases hh; rfl
      obtain ⟨t1, t2, op, R⟩ := rn_of (by omega) hcalls
      replace R : Rn N types l l.length c op := R
      have hf : c.length ≤ 9 := H.few
      obtain ⟨k, rfl⟩ : ∃ n : Nat, k = n := ⟨k.toNat, by omega⟩
      rw [Int.toNat_natCast] at k2
      have hk : k < c.length := by simpa using k1
      replace k2 : (c.getD k Call.z).to_ = -1 := k2
      obtain ⟨rel, X⟩ := cx9 H (by omega)
      have g : Gd types c (bfA c) (S0 types) [] r.1 := by
        rcases f3 b H with ⟨_, g, _⟩ | ⟨h2, _⟩
        · exact g
        · rw [hr] at h2; cases h2
      clear f3 f1 hv hr h1
      obtain ⟨w, fd, er⟩ := r
      replace g : Gd types c (bfA c) (S0 types) [] w := g
      have hwl := (pl_ac g.1).len
      refine .seq (P := fun w1 => ∃ (p : Nat) (r0 : Int), p < w1.length ∧ (w1.getD p Step.z).call = (k : Int) ∧ (∀ i, i < p → (w1.getD i Step.z).call ≠ (k : Int)) ∧ w1.length ≤ 10 ∧ Gd types c (bfA c) (S0 types) [] (w1.set p ⟨(k : Int), r0⟩)) (.seq (contains_wp (s := w) (by omega) (by omega)) fun b _ hb => ?_) fun w1 _ hw1 => ?_
      · rcases hb with ⟨rfl, p, p1, p2, p3⟩ | ⟨rfl, hno⟩
        · refine .condF rfl (.one ⟨p, (w.getD p Step.z).res, p1, p2, p3, by show w.length ≤ 10; omega, ?_⟩)
          have : (⟨(k : Int), (w.getD p Step.z).res⟩ : Step) = w.getD p Step.z := by rw [← p2]
          rw [this, set_getD p1]
          exact g
        · refine .condT rfl (.ck (limB_of ⟨by unfold maxLen; simp only; omega, by simp only; omega⟩) (.ck (limB_of ⟨by unfold maxLen; simp only [List.length_singleton]; omega, by simp only [List.length_singleton]; omega⟩) (.one ?_)))
          have hnk : k ∉ nums w := fun hm => by
            obtain ⟨s, hs, e2⟩ := List.mem_map.1 hm
            obtain ⟨i, hi, e3⟩ := List.getElem_of_mem hs
            have := hno i hi
            rw [getD_of hi, e3] at this
            have hr := g.1.rng s hs
            exact this (by omega)
          obtain ⟨r0, g0⟩ := gd_more R X hf g hk k2 hnk
          refine ⟨w.length, r0, by simp, by rw [getD_app, if_neg (Nat.lt_irrefl _), if_pos rfl], fun i hi => by rw [getD_app, if_pos hi]; exact hno i hi, by simp only [List.length_append, List.length_singleton]; omega, ?_⟩
          rw [List.set_append_right _ _ (Nat.le_refl _), Nat.sub_self, List.set_cons_zero]
          exact g0
      · obtain ⟨p, r0, p1, p2, p3, p4, g0⟩ := hw1
        have hres : ∀ n : Int, Gd types c (bfA c) (S0 types) [] (w1.set p ⟨(k : Int), n⟩) → history_result N (c.getD k Call.z).kind n = some true := fun n gn => by
          have := (pl_fit R gn.1 _ (mem_set p1 _)).2.2.2
          unfold cal at this
          rwa [Int.toNat_natCast] at this
        have hb0 := res_b (hres r0 g0)
        refine .elim (P := fun t => match t with | .inl _ => False | .inr b => b = true) (.iter ((r0 + 2).toNat) (fun j st => st.2 = (j : Int) - 1 ∧ (j : Int) - 1 ≤ r0 ∧ ∃ s : Step, s.call = (k : Int) ∧ st.1 = w1.set p s) (by omega) ⟨by simp, by omega, w1.getD p Step.z, p2, (set_getD p1).symm⟩ ?_ ?_) (fun _ _ h => h.elim) (fun b _ h => .one h)
        · rintro j ⟨w2, v⟩ hj ⟨hv, hj0, s, hs, hw2⟩
          simp only at hv hj0 hw2
          subst hv; subst hw2
          simp only [alibkeep_SearchNever_L3]
          have hl1 : (w1.set p s).length = w1.length := List.length_set
          have hat : (w1.set p s).getD p Step.z = s := by rw [getD_set p1, if_pos rfl]
          refine .condT (decide_eq_true (by omega)) (.bdO (index1 (by omega) (by omega) (p := p) (by omega) (by rw [hat]; exact hs) (fun i hi => by rw [getD_set p1, if_neg (by omega)]; exact p3 i hi)) (.ixD Step.z (by omega) (by omega) ?_))
          simp only [Int.toNat_natCast]
          rw [hat, hs, List.set_set]
          refine .seq (right_wp (by omega) hc (w := w1.set p ⟨(k : Int), (j : Int) - 1⟩) (by rw [List.length_set]; omega)) fun r2 _ ⟨q1, q2, q3⟩ => ?_
          rw [q1, b]
          have q3 := q3 b H
          refine .cond (fun hc2 => ?_) fun hc2 => ?_
          · have gn := q3.1 (by simpa using hc2)
            obtain ⟨c', a1, a2, a3⟩ := never_step (by omega) R t1 hl hk k2 gn (mem_set p1 _) (fun s hs e => by
              have := ac_uni (pl_ac gn.1) s hs _ (mem_set p1 ⟨(k : Int), (j : Int) - 1⟩) e
              rw [this]) (hres _ gn)
            have hs2 := calls9_of a1 (by omega)
            have H2 := hc_of (by omega) hs2
            refine .seq (P := fun m => m.1 = true ∧ m.2 = 0) (.ixD Call.z (by omega) (by simpa using hk) (.ck (limB_of ⟨by unfold maxLen; omega, by omega⟩) (.ck (limB_of ⟨by unfold maxLen; simp only [List.length_singleton]; omega, by simp only [List.length_singleton]; omega⟩) (.seq (find_wp (by omega) (c := c') (e := 0) (by first | exact hs2 | (simp only [Int.toNat_natCast]; exact hs2))) fun r3 _ ⟨d1, _, d3⟩ => .one ⟨(d3 rfl (by first | exact H2 | (simp only [Int.toNat_natCast]; exact H2))).iff.2 ⟨_, a3⟩, d1⟩)))) fun m _ hm => .one ?_
            · obtain ⟨m1, m2⟩ := m
              simp only at hm
              obtain ⟨rfl, rfl⟩ := hm
              rfl
          · refine .ck64 (by omega) (.one ⟨by simp only; omega, ?_, ⟨(k : Int), (j : Int) - 1⟩, rfl, rfl⟩)
            have : (j : Int) - 1 ≠ r0 := fun e0 => by
              rw [e0] at q3
              rw [q3.2 g0] at hc2
              simp at hc2
            omega
        · rintro ⟨w2, v⟩ ⟨hv, hj0, _⟩
          exfalso
          simp only at hv hj0
          omega
    · exact (h2 b).elim
end Sr

end Go.Proofs.Ytpakplmpihhmbaa
