/- LocalAny, plainly. -/
import Derived.Test.YtpakplmpihhmbaaLJ2
import Derived.Test.YtpakplmpihhmbaaLA6
set_option linter.unusedVariables false
set_option linter.unusedSimpArgs false
set_option linter.unusedSectionVars false
set_option maxRecDepth 100000
namespace Go.Proofs.Ytpakplmpihhmbaa
open Go.RowKit
namespace Lc
open Hs Rl Sr
theorem nat_ext {s t : List Nat} (hs : s.Pairwise (· < ·)) (ht : t.Pairwise (· < ·)) (h : ∀ x, x ∈ s ↔ x ∈ t) : s = t := by
  refine List.Perm.eq_of_pairwise (le := (· < ·)) (fun a b _ _ h1 h2 => by omega) hs ht ((List.perm_ext_iff_of_nodup ?_ ?_).2 h)
  · exact hs.imp fun h => by omega
  · exact ht.imp fun h => by omega
section
variable {N : Nat} {types : List Int} {p : List Event} {k : Nat} {out out' : List Call} {op op' : List Int} {idx pos : List Nat}
theorem sub_idx {z : Int} (P : SubH N types (gT z) p k out out' op op' idx pos) : idx = (List.range out.length).filter fun i => decide ((out.getD i Call.z).thing = z) := by
  refine nat_ext P.iinc (List.pairwise_lt_range.filter _) fun i => ?_
  rw [List.mem_filter, List.mem_range]
  constructor
  · intro hi
    exact ⟨P.ilt i hi, (P.cov i (P.ilt i hi)).1 hi⟩
  · rintro ⟨hi, h⟩
    exact (P.cov i hi).2 h
theorem numT_idx {z : Int} (P : SubH N types (gT z) p k out out' op op' idx pos) : numT out out.length z = idx.map fun (i : Nat) => (i : Int) := by
  rw [sub_idx P]; rfl
/-- How many are ahead of it, of its thing. -/
theorem idx_cnt {z : Int} (P : SubH N types (gT z) p k out out' op op' idx pos) {i : Nat} (hi : i < out.length) (hz : (out.getD i Call.z).thing = z) : idx.idxOf i = ((List.range i).filter fun i => decide ((out.getD i Call.z).thing = z)).length := by
  rw [sub_idx P]
  have e : List.range out.length = List.range i ++ (i :: (List.range (out.length - i - 1)).map fun j => i + 1 + j) := by
    apply List.ext_getElem
    · simp; omega
    · intro j h1 h2
      rw [List.getElem_range, List.getElem_append]
      split
      · simp
      · rename_i h3
        simp only [List.length_range] at h3 h1
        rcases Nat.lt_or_ge i j with h4 | h4
        · obtain ⟨d, hd⟩ : ∃ d, j - (List.range i).length = d + 1 := ⟨j - i - 1, by simp; omega⟩
          simp only [hd, List.getElem_cons_succ, List.getElem_map, List.getElem_range]
          simp at hd; omega
        · have hd : j - (List.range i).length = 0 := by simp; omega
          simp only [hd, List.getElem_cons_zero]
          omega
  rw [e, List.filter_append, List.filter_cons, if_pos (decide_eq_true hz), List.idxOf_append, if_neg, List.idxOf_cons_self]
  · rw [Nat.zero_add]
  · intro h
    have := (List.mem_filter.1 h).1
    rw [List.mem_range] at this
    omega
theorem up_dn {z : Nat} (P : SubH N types (gT (z : Int)) p k out out' op op' idx pos) {u : List Step} (h : ∀ s ∈ u, InC out s ∧ (out.getD s.call.toNat Call.z).thing = (z : Int)) : (u.map (dnS idx)).map (upS idx) = u := by
  rw [List.map_map]
  conv => rhs; rw [← List.map_id u]
  exact List.map_congr_left fun s hs => (dn_in P (h s hs).1 (decide_eq_true (h s hs).2)).2.1
end
theorem rightT_wp {N : Nat} (hN : 300 < N) {types : List Int} (ht : history_Types N types = some 0) {l : List Event} {c : List Call} {op : List Int} (hl : l.length ≤ 200) (R : Rn N types l l.length c op) {w : List Step} (hw : w.length < N) : Wp (search_Right N types l w) fun r => (r.2 = 0 ↔ c.length ≤ 9) ∧ (r.2 = 0 → (r.1 = true ↔ LinT types c w)) := by
  obtain ⟨⟨c9, e9⟩, hc9, h9⟩ := calls9_wp (N := N) hN types l
  refine (right_wp hN hc9 hw).mono fun r ⟨h1, h2, h3⟩ => ?_
  have hco := calls_of hN ht hl R
  rcases h9 with ⟨h0, H, hcc⟩ | ⟨h0, _⟩
  · dsimp only at h0 H hcc
    subst h0
    rw [hco] at hcc
    obtain rfl : c = c9 := by cases hcc; rfl
    obtain ⟨rel, X⟩ := cx9 H hN
    refine ⟨⟨fun _ => H.few, fun _ => h1⟩, fun _ => ?_⟩
    rw [h3 rfl H, linT X]
  · dsimp only at h0
    refine ⟨⟨fun h => (h0 (by omega)).elim, fun h => ?_⟩, fun h => (h0 (by omega)).elim⟩
    have := calls9_of hco h
    rw [this] at hc9
    cases hc9; exact (h0 rfl).elim
theorem anyLaw {N : Nat} (hN : 5000 < N) (hL : alibkeep_localLives N = some true) (types : List Int) (l : List Event) (w : List (List Step)) (hl : ∀ u ∈ w, u.length < N) : alibkeep_LocalAny N types l w = some true := by
  refine Wp.eq ?_
  unfold alibkeep_LocalAny
  refine .seq (join_wp hN types l hl) fun j _ hj => .bdO hL ?_
  rcases hj with ⟨h0, h1, h2, _⟩ | ⟨j0, c, op, K, R, hw, F, hj⟩
  · refine .condT (by simp [h0]) (.bdO hL (.one ?_))
    rw [h1, h2]; rfl
  · have htl := K.tl
    have h12 := K.c12
    have hth := fun i hi => (K.th i hi).1
    have hx : j.1.length ≤ 12 := by
      rcases hj with ⟨_, J⟩ | ⟨_, h, _⟩
      · have h1 := pig_lt J.nd fun x hx => by
          obtain ⟨s, hs, rfl⟩ := nums_mem.1 hx
          obtain ⟨_, _, _, _, _, _⟩ := F.mem ((J.mem s).1 hs)
          show s.call.toNat < c.length
          omega
        unfold nums at h1
        rw [List.length_map] at h1; omega
      · rw [h]; simp
    refine .condF (by simp [j0]) (.seq (rightT_wp (by omega) K.ty K.len R (w := j.1) (by omega)) fun q _ ⟨q1, q2⟩ => .cond (fun _ => .one rfl) fun hq => ?_)
    have hq : q.2 = 0 := by simpa using hq
    have h9 := q1.1 hq
    refine .bdO (calls_of (by omega) K.ty K.len R) ?_
    have hul : ∀ z, z < types.length → (w.getD z []).length ≤ 12 := fun z hz => by
      have h1 := pig_lt (F.sub (by omega : z < w.length)) fun x hx => by
        obtain ⟨s, hs, rfl⟩ := nums_mem.1 hx
        have := F.at_ z (by omega) s hs
        show s.call.toNat < c.length
        omega
      unfold nums at h1
      rw [List.length_map] at h1; omega
    refine .seq (P := fun b => b = true ↔ ∀ z, z < types.length → ∃ p c' op' idx pos, SubH N types (gT (z : Int)) p l.length c c' op op' idx pos ∧ LinT types c' ((w.getD z []).map (dnS idx)))
      (.iter types.length (fun k st => (st.1 = true ↔ ∀ z, z < k → ∃ p c' op' idx pos, SubH N types (gT (z : Int)) p l.length c c' op op' idx pos ∧ LinT types c' ((w.getD z []).map (dnS idx))) ∧ st.2 = (k : Int)) (by omega) ⟨⟨fun _ z h => absurd h (Nat.not_lt_zero _), fun _ => rfl⟩, rfl⟩ ?_ ?_) fun b _ hb => .one ?_
    · rintro k ⟨b, v⟩ hk ⟨hb, hv⟩
      dsimp only at hb hv
      subst hv
      simp only [alibkeep_LocalAny_L575]
      refine .condT (decide_eq_true (by omega)) (.seq (P := fun b2 => b2 = true ↔ b = true ∧ ∃ p c' op' idx pos, SubH N types (gT (k : Int)) p l.length c c' op op' idx pos ∧ LinT types c' ((w.getD k []).map (dnS idx))) (.seq (part_wp (by omega) K.ty K.len R hk) fun r _ ⟨r1, r2, c', op', idx, pos, P⟩ => ?_) fun b2 _ hb2 => .ck64 (by omega) (.one ⟨?_, by simp⟩))
      · have hc' : c'.length ≤ 9 := by rw [sub_cnt P]; exact K.few _
        have hkw : k < w.length := by omega
        have hat := F.at_ k hkw
        have hul := hul k hk
        refine .seq (P := fun o => o = (w.getD k []).map (dnS idx)) (.ixD [] (by omega) (by omega) ?_) fun o _ ho => ?_
        · rw [Int.toNat_natCast]
          obtain ⟨u, hu⟩ : ∃ u, w.getD k [] = u := ⟨_, rfl⟩
          rw [hu] at hat hul ⊢
          refine .iter u.length (fun a st => st.1 = (u.take a).map (dnS idx) ∧ st.2 = (a : Int)) (by omega) ⟨rfl, rfl⟩ ?_ ?_
          · rintro a ⟨o, v⟩ ha ⟨h1, hv⟩
            dsimp only at h1 hv
            subst hv
            simp only [alibkeep_LocalAny_L623]
            obtain ⟨s, hs⟩ : ∃ s, u[a] = s := ⟨_, rfl⟩
            obtain ⟨s0, s1, s2⟩ := hat s (by rw [← hs]; exact List.getElem_mem ha)
            have hol : o.length ≤ 12 := by rw [h1, List.length_map, List.length_take]; omega
            refine .condT (decide_eq_true (by omega)) (.seq (P := fun o2 => o2 = (u.take (a + 1)).map (dnS idx)) (.ix ha ?_) fun o2 _ h => .ck64 (by omega) (.one ⟨h, by simp⟩))
            rw [hs]
            refine .seq (P := fun n => n = ((idx.idxOf s.call.toNat : Nat) : Int)) (.ck (by simp [slB]; omega) ?_) fun n _ hn => .ck (limB_of ⟨?_, ?_⟩) (.one ?_)
            · have htl : (c.take s.call.toNat).length = s.call.toNat := by rw [List.length_take]; omega
              rw [idx_cnt P (i := s.call.toNat) (by omega) s2]
              refine .iter s.call.toNat (fun b st => st.1 = ((((List.range b).filter fun i => decide ((c.getD i Call.z).thing = (k : Int))).length : Nat) : Int) ∧ st.2 = (b : Int)) (by omega) ⟨rfl, rfl⟩ ?_ ?_
              · rintro b ⟨n, v⟩ hb ⟨h2, hv⟩
                dsimp only at h2 hv
                subst hv
                simp only [alibkeep_LocalAny_L627]
                have hnl := List.length_filter_le (fun i => decide ((c.getD i Call.z).thing = (k : Int))) (List.range b)
                rw [List.length_range] at hnl
                refine .condT (decide_eq_true (by omega)) (.ix (by omega) ?_)
                have e2 : (c.take s.call.toNat)[b]'(by omega) = c.getD b Call.z := by rw [List.getElem_take, getD_of (by omega)]
                rw [e2]
                refine .cond (fun h => .ck64 (by omega) (.ck64 (by omega) (.one ⟨?_, by simp⟩))) fun h => .ck64 (by omega) (.one ⟨?_, by simp⟩)
                · dsimp only
                  rw [List.range_succ, List.filter_append, List.filter_cons, if_pos h, h2]; simp
                · dsimp only
                  rw [List.range_succ, List.filter_append, List.filter_cons, if_neg (by rw [h]; exact Bool.false_ne_true), h2]; simp
              · rintro ⟨n, v⟩ ⟨h2, hv⟩
                dsimp only at h2 hv
                subst hv
                simp only [alibkeep_LocalAny_L627]
                exact .condF (decide_eq_false (by omega)) (.one h2)
            · simp only [List.length_singleton]; exact Nat.le_trans (m := 2000) (by omega) (by decide)
            · simp only [List.length_singleton]; omega
            · rw [← List.take_append_getElem ha, List.map_append, hs, h1, hn]; rfl
          · rintro ⟨o, v⟩ ⟨h1, hv⟩
            dsimp only at h1 hv
            subst hv
            simp only [alibkeep_LocalAny_L623]
            rw [List.take_length] at h1
            exact .condF (decide_eq_false (by omega)) (.one h1)
        · subst ho
          refine .seq (rightT_wp (by omega) K.ty (by have := K.len; omega) P.run (w := (w.getD k []).map (dnS idx)) (by rw [List.length_map]; omega)) fun y _ ⟨y1, y2⟩ => ?_
          have y0 := y1.2 hc'
          have hy := y2 y0
          have fin : ((b && true) && y.1) = true ↔ b = true ∧ ∃ p c' op' idx pos, SubH N types (gT (k : Int)) p l.length c c' op op' idx pos ∧ LinT types c' ((w.getD k []).map (dnS idx)) := by
            rw [Bool.and_true, Bool.and_eq_true, hy]
            refine and_congr_right fun _ => ⟨fun h => ⟨_, _, _, _, _, P, h⟩, ?_⟩
            rintro ⟨p2, c2, op2, idx2, pos2, P2, h⟩
            -- the same part
            have ei : idx2 = idx := by rw [sub_idx P2, sub_idx P]
            subst ei
            have hin : ∀ s ∈ w.getD k [], InC c s ∧ (c.getD s.call.toNat Call.z).thing = (k : Int) := by
              intro s hs
              obtain ⟨s0, s1, s2⟩ := hat s hs
              have hT := tho_up hk P2 h
              have hm : (s.call.toNat) ∈ idx2 := (P2.cov _ (by omega)).2 (decide_eq_true s2)
              obtain ⟨g1, g2⟩ := idx_at hm
              have hs3 : upS idx2 (dnS idx2 s) = s := by
                obtain ⟨sc, sr⟩ := s
                unfold upS dnS
                simp only [Int.toNat_natCast] at g2 s0 ⊢
                rw [g2, Int.toNat_of_nonneg s0]
              have := hT.inc s (by rw [← hs3]; exact List.mem_map_of_mem (List.mem_map_of_mem hs))
              exact ⟨this, s2⟩
            have hT := tho_up hk P2 h
            rw [up_dn P2 hin] at hT
            -- from the whole's terms back to the part
            refine ⟨fun t ht => ?_, ?_, ?_, fun x hx => ?_⟩
            · obtain ⟨s, hs, rfl⟩ := List.mem_map.1 ht
              exact (dn_in P (hin s hs).1 (decide_eq_true (hin s hs).2)).1
            · exact dn_pw P (fun s hs => ⟨(hin s hs).1, decide_eq_true (hin s hs).2⟩) hT.pw
            · exact cm_dn P fun i hi hg ha => hT.cm i hi (of_decide_eq_true hg) ha
            · have e3 : ((w.getD k []).map (dnS idx2)).map (D c') = (w.getD k []).map (D c) := by
                rw [List.map_map]
                exact List.map_congr_left fun s hs => (dn_in P (hin s hs).1 (decide_eq_true (hin s hs).2)).2.2
              rw [objl_eq]
              have hz : ∀ t ∈ (w.getD k []).map (dnS idx2), thN c' t = k := fun t ht => by
                obtain ⟨s, hs, rfl⟩ := List.mem_map.1 ht
                have hr := (dn_in P (hin s hs).1 (decide_eq_true (hin s hs).2)).1.rng
                unfold thN
                rw [sub_th P (by omega)]; omega
              by_cases hxk : x = k
              · subst hxk
                rw [filter_all fun t ht => decide_eq_true (hz t ht), e3]
                exact hT.run
              · rw [filter_none fun t ht => decide_eq_false fun e => hxk ((hz t ht).symm.trans e).symm]
                exact ⟨_, rfl⟩
          cases hbb : b with
          | true =>
            rw [hbb] at fin
            refine .condT rfl (.bdO (okd (by simp; omega) (by simp)) (.one ?_))
            have e4 : decide (∀ e ∈ [r.2, y.2], e = 0) = true := decide_eq_true (by simp [r1, y0])
            rw [e4]; exact fin
          | false =>
            refine .condF rfl (.one ⟨fun h => (by simp at h), fun h => (by cases h.1)⟩)
      · rw [hb2, hb]
        constructor
        · rintro ⟨h1, h2⟩ z hz
          rcases Nat.lt_or_ge z k with h | h
          · exact h1 z h
          · obtain rfl : z = k := by omega
            exact h2
        · intro h
          exact ⟨fun z hz => h z (by omega), h k (by omega)⟩
    · rintro ⟨b, v⟩ ⟨hb, hv⟩
      dsimp only at hb hv
      subst hv
      simp only [alibkeep_LocalAny_L575]
      exact .condF (decide_eq_false (by omega)) (.one hb)
    · have hall : b = true → ∀ z, z < types.length → ThO types c z (w.getD z []) := by
        intro h z hz
        obtain ⟨p, c', op', idx, pos, P, L⟩ := hb.1 h z hz
        have hT := tho_up hz P L
        have hin : ∀ s ∈ w.getD z [], InC c s ∧ (c.getD s.call.toNat Call.z).thing = (z : Int) := by
          intro s hs
          obtain ⟨s0, s1, s2⟩ := F.at_ z (by omega) s hs
          have hm : (s.call.toNat) ∈ idx := (P.cov _ (by omega)).2 (decide_eq_true s2)
          obtain ⟨g1, g2⟩ := idx_at hm
          have hs3 : upS idx (dnS idx s) = s := by
            obtain ⟨sc, sr⟩ := s
            unfold upS dnS
            simp only [Int.toNat_natCast] at g2 s0 ⊢
            rw [g2, Int.toNat_of_nonneg s0]
          have := hT.inc s (by rw [← hs3]; exact List.mem_map_of_mem (List.mem_map_of_mem hs))
          exact ⟨this, s2⟩
        rw [up_dn P hin] at hT
        exact hT
      rcases hj with ⟨j1, J⟩ | ⟨j1, _, hno⟩
      · have key : q.1 = b := by
          rw [Bool.eq_iff_iff, q2 hq, hb]
          constructor
          · intro L z hz
            obtain ⟨r, _, _, _, c', op', idx, pos, P⟩ := part_wp (by omega) K.ty K.len R hz
            refine ⟨r.1, c', op', idx, pos, P, ?_⟩
            have := lin_part hth P L
            rwa [J.part F (by omega)] at this
          · intro h
            exact J.right K hw F (hall (hb.2 h))
        rw [j1, key]
        cases b <;> rfl
      · have hbf : b = false := by
          cases hbb : b with
          | false => rfl
          | true => exact (hno (noround K R hw (hall hbb))).elim
        rw [hbf, j1]; rfl
end Lc

end Go.Proofs.Ytpakplmpihhmbaa
