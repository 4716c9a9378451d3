/- LocalJoined, plainly. -/
import Derived.Test.YtpakplmpihhmbaaLJ2
import Derived.Test.YtpakplmpihhmbaaLA5
set_option linter.unusedVariables false
set_option linter.unusedSimpArgs false
set_option linter.unusedSectionVars false
set_option maxRecDepth 100000
namespace Go.Proofs.Ytpakplmpihhmbaa
open Go.RowKit
namespace Lc
open Hs Rl Sr
theorem nat_ext {s t : List Nat} (hs : s.Pairwise (· < ·)) (ht : t.Pairwise (· < ·)) (h : ∀ x, x ∈ s ↔ x ∈ t) : s = t := by
  refine List.Perm.eq_of_pairwise (le := (· < ·)) (fun a b _ _ h1 h2 => by omega) hs ht ((List.perm_ext_iff_of_nodup ?_ ?_).2 h)
  · exact hs.imp fun h => by omega
  · exact ht.imp fun h => by omega
theorem upd {α : Type} {f : α → α} {d : α} {xs m : List α} (hl : m.length = xs.length) (h : ∀ j, j < xs.length → m.getD j d = f (xs.getD j d)) : m = xs.map f := by
  apply List.ext_getElem (by simpa using hl)
  intro i h1 h2
  have := h i (by omega)
  rw [getD_of h1, getD_of (by omega)] at this
  rw [this, List.getElem_map]
section
variable {N : Nat} {types : List Int} {p : List Event} {k : Nat} {out out' : List Call} {op op' : List Int} {idx pos : List Nat}
theorem sub_idx {z : Int} (P : SubH N types (gT z) p k out out' op op' idx pos) : idx = (List.range out.length).filter fun i => decide ((out.getD i Call.z).thing = z) := by
  refine nat_ext P.iinc (List.pairwise_lt_range.filter _) fun i => ?_
  rw [List.mem_filter, List.mem_range]
  constructor
  · intro hi
    exact ⟨P.ilt i hi, (P.cov i (P.ilt i hi)).1 hi⟩
  · rintro ⟨hi, h⟩
    exact (P.cov i hi).2 h
theorem numT_idx {z : Int} (P : SubH N types (gT z) p k out out' op op' idx pos) : numT out out.length z = idx.map fun (i : Nat) => (i : Int) := by
  rw [sub_idx P]; rfl
/-- How many are ahead of it, of its thing. -/
theorem idx_cnt {z : Int} (P : SubH N types (gT z) p k out out' op op' idx pos) {i : Nat} (hi : i < out.length) (hz : (out.getD i Call.z).thing = z) : idx.idxOf i = ((List.range i).filter fun i => decide ((out.getD i Call.z).thing = z)).length := by
  rw [sub_idx P]
  have e : List.range out.length = List.range i ++ (i :: (List.range (out.length - i - 1)).map fun j => i + 1 + j) := by
    apply List.ext_getElem
    · simp; omega
    · intro j h1 h2
      rw [List.getElem_range, List.getElem_append]
      split
      · simp
      · rename_i h3
        simp only [List.length_range] at h3 h1
        rcases Nat.lt_or_ge i j with h4 | h4
        · obtain ⟨d, hd⟩ : ∃ d, j - (List.range i).length = d + 1 := ⟨j - i - 1, by simp; omega⟩
          simp only [hd, List.getElem_cons_succ, List.getElem_map, List.getElem_range]
          simp at hd; omega
        · have hd : j - (List.range i).length = 0 := by simp; omega
          simp only [hd, List.getElem_cons_zero]
          omega
  rw [e, List.filter_append, List.filter_cons, if_pos (decide_eq_true hz), List.idxOf_append, if_neg, List.idxOf_cons_self]
  · rw [Nat.zero_add]
  · intro h
    have := (List.mem_filter.1 h).1
    rw [List.mem_range] at this
    omega
theorem up_dn {z : Nat} (P : SubH N types (gT (z : Int)) p k out out' op op' idx pos) {u : List Step} (h : ∀ s ∈ u, InC out s ∧ (out.getD s.call.toNat Call.z).thing = (z : Int)) : (u.map (dnS idx)).map (upS idx) = u := by
  rw [List.map_map]
  conv => rhs; rw [← List.map_id u]
  exact List.map_congr_left fun s hs => (dn_in P (h s hs).1 (decide_eq_true (h s hs).2)).2.1
end
theorem rn_uniq {N : Nat} (hN : 300 < N) {types : List Int} {l : List Event} {c d : List Call} {op oq : List Int} (K : Chk N types l c) (R : Rn N types l l.length c op) (R2 : Rn N types l l.length d oq) : d = c := by
  have h1 := calls_of hN K.ty K.len R
  have h2 := calls_of hN K.ty K.len R2
  rw [h1] at h2
  cases h2; rfl
/-- Parts of right orders are right of form. -/
theorem form_of {types : List Int} {c : List Call} {w : List (List Step)} (hth : ∀ i, i < c.length → 0 ≤ (c.getD i Call.z).thing) (h : ∀ z, z < w.length → ThO types c z (w.getD z [])) : Form c w := by
  have hat : ∀ z, z < w.length → ∀ s ∈ w.getD z [], 0 ≤ s.call ∧ s.call < c.length ∧ (c.getD s.call.toNat Call.z).thing = (z : Int) := by
    intro z hz s hs
    have h1 := ((h z hz).inc s hs).rng
    have h2 := (h z hz).th s hs
    have h3 := hth s.call.toNat (by omega)
    unfold thN at h2
    exact ⟨h1.1, h1.2, by omega⟩
  refine ⟨hat, ?_⟩
  unfold nums List.Nodup
  rw [List.pairwise_map, List.pairwise_flatten]
  constructor
  · intro u hu
    obtain ⟨z, hz, rfl⟩ := List.mem_iff_getElem.1 hu
    have H := h z hz
    have hg := hat z hz
    rw [getD_of hz] at H hg
    refine H.pw.imp_of_mem fun {a b} ha hb hab e => hab.1 ?_
    have := hg a ha; have := hg b hb
    omega
  · rw [List.pairwise_iff_getElem]
    intro i j hi hj hij x hx y hy e
    have h1 := hat i hi x (by rw [getD_of hi]; exact hx)
    have h2 := hat j hj y (by rw [getD_of hj]; exact hy)
    rw [e] at h1
    omega
theorem tho_len {types : List Int} {c : List Call} {z : Nat} {u : List Step} (h : ThO types c z u) : u.length ≤ c.length := by
  have h1 : (nums u).Nodup := by
    unfold nums List.Nodup
    rw [List.pairwise_map]
    refine h.pw.imp_of_mem fun {a b} ha hb hab e => hab.1 ?_
    have := (h.inc a ha).rng; have := (h.inc b hb).rng
    omega
  have := pig_lt h1 fun x hx => by
    obtain ⟨s, hs, rfl⟩ := nums_mem.1 hx
    have := (h.inc s hs).rng
    show s.call.toNat < c.length
    omega
  unfold nums at this
  simpa using this
theorem lin_ct {types : List Int} {c : List Call} {t : List Step} (h : LinT types c t) : t.length ≤ c.length := by
  have h1 : (nums t).Nodup := by
    unfold nums List.Nodup
    rw [List.pairwise_map]
    refine h.pw.imp_of_mem fun {a b} ha hb hab e => hab.1 ?_
    have := (h.inc a ha).rng; have := (h.inc b hb).rng
    omega
  have := pig_lt h1 fun x hx => by
    obtain ⟨s, hs, rfl⟩ := nums_mem.1 hx
    have := (h.inc s hs).rng
    show s.call.toNat < c.length
    omega
  unfold nums at this
  simpa using this
theorem orders_wp {N : Nat} (hN : 300 < N) (types : List Int) (l : List Event) : Wp (local_Orders N types l) fun r => (r.2 ≠ 0 ∧ r.1 = []) ∨ (r.2 = 0 ∧ ∃ c op, Chk N types l c ∧ Rn N types l l.length c op ∧ r.1.length = types.length ∧ ∀ z, z < types.length → ThO types c z (r.1.getD z [])) := by
  unfold local_Orders
  refine .seq (check_wp hN types l) fun r _ hr => ?_
  rcases hr with ⟨h1, h2⟩ | ⟨h1, K⟩
  · exact .condT (by simpa using h1) (.one (.inl ⟨h1, rfl⟩))
  · obtain ⟨op, R⟩ := K.run
    have htl := K.tl
    have h12 := K.c12
    refine .condF (by simpa using h1) (.seq (numbers_wp hN (by omega)) fun m _ ⟨m1, _, _, _⟩ => ?_)
    refine .elim (P := fun t => match t with | .inl o => o.length = types.length ∧ ∀ z, z < types.length → ThO types r.1 z (o.getD z []) | .inr q => q = ([], 4))
      (.iter types.length (fun k st => st.1.length = k ∧ (∀ z, z < k → ThO types r.1 z (st.1.getD z [])) ∧ st.2 = (k : Int)) (by omega) ⟨rfl, fun z h => absurd h (Nat.not_lt_zero _), rfl⟩ ?_ ?_) (fun o _ h => .one (.inr ⟨rfl, r.1, op, K, R, h⟩)) (fun q _ h => .one (.inl (by rw [show q = ([], 4) from h]; exact ⟨by simp, rfl⟩)))
    · rintro k ⟨o, v⟩ hk ⟨h1, h2, hv⟩
      dsimp only at h1 h2 hv
      subst hv
      simp only [local_Orders_L47]
      refine .condT (decide_eq_true (by omega)) (.elim (P := fun t => match t with | .inl o2 => o2.length = k + 1 ∧ ∀ z, z < k + 1 → ThO types r.1 z (o2.getD z []) | .inr q => q = ([], 4)) (.seq (lfind_wp hN K R hk) fun q _ ⟨p, c', op', idx, pos, P, h9, q2, _, q4⟩ => ?_) (fun o2 _ h => .ck64 (by omega) (.one ⟨h.1, h.2, by simp⟩)) (fun t _ h => .one h))
      · refine .cond (fun _ => .one rfl) fun hq => ?_
        have hq : q.2 = true := by simpa using hq
        have L := q2 hq
        have hlen := lin_ct L
        have e1 := numT_idx P
        have hil := P.ilen
        refine .seq (P := fun u => u = q.1.map (upS idx)) (.iter q.1.length (fun a st => st.1.length = q.1.length ∧ (∀ j, j < q.1.length → st.1.getD j Step.z = if j < a then upS idx (q.1.getD j Step.z) else q.1.getD j Step.z) ∧ st.2 = (a : Int)) (by omega) ⟨rfl, fun j _ => by rw [if_neg (Nat.not_lt_zero _)], rfl⟩ ?_ ?_) fun u _ hu => ?_
        · rintro a ⟨w, v⟩ ha ⟨w1, w2, hv⟩
          dsimp only at w1 w2 hv
          subst hv
          simp only [local_Orders_L51]
          have hwa := w2 a ha
          rw [if_neg (Nat.lt_irrefl _)] at hwa
          have hr := q4 (q.1.getD a Step.z) (by rw [getD_of ha]; exact List.getElem_mem ha)
          refine .condT (decide_eq_true (by omega)) (.ixD Step.z (by omega) (by omega) ?_)
          simp only [Int.toNat_natCast, hwa]
          rw [m1, e1]
          refine .ixD 0 hr.1 (by rw [List.length_map]; omega) (.ck64 (by omega) (.one ⟨by rw [List.length_set]; exact w1, fun j hj => ?_, by simp⟩))
          rw [getD_set2 (by omega)]
          by_cases e : j = a
          · subst e
            rw [if_pos rfl, if_pos (by omega)]
            unfold upS
            congr 1
            rw [getD_of (by rw [List.length_map]; omega), List.getElem_map]; exact congrArg (fun n : Nat => (n : Int)) (getD_of (by omega)).symm
          · rw [if_neg e, w2 j hj]
            by_cases e2 : j < a
            · rw [if_pos e2, if_pos (by omega)]
            · rw [if_neg e2, if_neg (by omega)]
        · rintro ⟨w, v⟩ ⟨w1, w2, hv⟩
          dsimp only at w1 w2 hv
          subst hv
          simp only [local_Orders_L51]
          exact .condF (decide_eq_false (by omega)) (.one (upd (d := Step.z) w1 fun j hj => by rw [w2 j hj, if_pos hj]))
        · subst hu
          refine .ck (limB_of ⟨?_, ?_⟩) (.one ⟨by simp [h1], fun z hz => ?_⟩)
          · simp only [List.length_singleton]; exact Nat.le_trans (m := 2000) (by omega) (by decide)
          · simp only [List.length_singleton]; omega
          · rcases Nat.lt_or_ge z k with h | h
            · rw [getDn_app (by omega)]; exact h2 z h
            · obtain rfl : z = k := by omega
              have e : (o ++ [q.1.map (upS idx)]).getD z [] = q.1.map (upS idx) := by
                rw [List.getD_eq_getElem?_getD, ← h1, List.getElem?_concat_length]; rfl
              rw [e]; exact tho_up hk P L
    · rintro ⟨o, v⟩ ⟨h1, h2, hv⟩
      dsimp only at h1 h2 hv
      subst hv
      simp only [local_Orders_L47]
      exact .condF (decide_eq_false (by omega)) (.one ⟨h1, h2⟩)
theorem stepEq_ok {N : Nat} {s t : List Step} (hN : s.length < N) (hs : s.length ≤ 1000) (h : s = t) : slices_Equal_api_Step_api_Step N s t = some true := by
  subst h
  unfold slices_Equal_api_Step_api_Step
  refine Wp.eq (.condF (by simp) (.elim (P := fun t => match t with | .inl _ => True | .inr _ => False) (.iter s.length (fun k v => v = (k : Int)) hN rfl ?_ ?_) (fun _ _ _ => .one rfl) (fun _ _ h => h.elim)))
  · rintro k v hk rfl
    simp only [slices_Equal_api_Step_api_Step_L3]
    exact .condT (decide_eq_true (by omega)) (.ix hk (.ix hk (.condF (by simp) (.ck64 (by omega) (.one (by simp))))))
  · rintro v rfl
    simp only [slices_Equal_api_Step_api_Step_L3]
    exact .condF (decide_eq_false (by omega)) (.one trivial)
/-- Right tells of a whole that is read. -/
theorem rightT_wp {N : Nat} (hN : 300 < N) {types : List Int} (ht : history_Types N types = some 0) {l : List Event} {c : List Call} {op : List Int} (hl : l.length ≤ 200) (R : Rn N types l l.length c op) {w : List Step} (hw : w.length < N) : Wp (search_Right N types l w) fun r => (r.2 = 0 ↔ c.length ≤ 9) ∧ (r.2 = 0 → (r.1 = true ↔ LinT types c w)) := by
  obtain ⟨⟨c9, e9⟩, hc9, h9⟩ := calls9_wp (N := N) hN types l
  refine (right_wp hN hc9 hw).mono fun r ⟨h1, h2, h3⟩ => ?_
  have hco := calls_of hN ht hl R
  rcases h9 with ⟨h0, H, hcc⟩ | ⟨h0, _⟩
  · dsimp only at h0 H hcc
    subst h0
    rw [hco] at hcc
    obtain rfl : c = c9 := by cases hcc; rfl
    obtain ⟨rel, X⟩ := cx9 H hN
    refine ⟨⟨fun _ => H.few, fun _ => h1⟩, fun _ => ?_⟩
    rw [h3 rfl H, linT X]
  · dsimp only at h0
    refine ⟨⟨fun h => (h0 (by omega)).elim, fun h => ?_⟩, fun h => (h0 (by omega)).elim⟩
    have := calls9_of hco h
    rw [this] at hc9
    cases hc9; exact (h0 rfl).elim
theorem joinedLaw {N : Nat} (hN : 5000 < N) (hL : alibkeep_localLives N = some true) (types : List Int) (l : List Event) : alibkeep_LocalJoined N types l = some true := by
  refine Wp.eq ?_
  unfold alibkeep_LocalJoined
  refine .seq (orders_wp (by omega) types l) fun r _ hr => .bdO hL ?_
  rcases hr with ⟨h0, h1⟩ | ⟨h0, c, op, K, R, hlen, ho⟩
  · refine .condT (by simp [h0]) (.bdO hL (.one ?_))
    rw [h1]; rfl
  · have htl := K.tl
    have h12 := K.c12
    have hth := fun i hi => (K.th i hi).1
    have F : Form c r.1 := form_of hth fun z hz => ho z (by omega)
    have hll : ∀ u ∈ r.1, u.length ≤ 12 := fun u hu => by
      obtain ⟨z, hz, rfl⟩ := List.mem_iff_getElem.1 hu
      have := tho_len (ho z (by omega))
      rw [getD_of hz] at this; omega
    refine .condF (by simp [h0]) (.seq (join_wp hN types l (w := r.1) fun u hu => by have := hll u hu; omega) fun j _ hj => .bdO (calls_of (by omega) K.ty K.len R) ?_)
    rcases hj with ⟨_, _, _, h | h | ⟨c2, op2, K2, R2, hF⟩⟩ | ⟨j0, c2, op2, K2, R2, _, F2, hj⟩
    · exact (h c K).elim
    · exact (h hlen).elim
    · rw [rn_uniq (by omega) K R R2] at hF; exact (hF F).elim
    · obtain rfl := rn_uniq (by omega) K R R2
      rcases hj with ⟨j1, J⟩ | ⟨_, _, h⟩
      · have hx : j.1.length ≤ 12 := by
          have h1 := pig_lt J.nd fun x hx => by
            obtain ⟨s, hs, rfl⟩ := nums_mem.1 hx
            obtain ⟨_, _, _, _, _, _⟩ := F.mem ((J.mem s).1 hs)
            show s.call.toNat < c2.length
            omega
          unfold nums at h1
          rw [List.length_map] at h1; omega
        rw [j0, j1]
        refine .bdO (okd (by simp; omega) (by simp)) (.condF (by simp) ?_)
        refine .elim (P := fun t => match t with | .inl _ => True | .inr _ => False) (.iter r.1.length (fun k v => v = (k : Int)) (by omega) rfl ?_ ?_) (fun _ _ _ => ?_) (fun _ _ h => h.elim)
        · rintro k v hk rfl
          simp only [alibkeep_LocalJoined_L47]
          refine .condT (decide_eq_true (by omega)) (.elim (P := fun t => match t with | .inl _ => True | .inr _ => False) (.elim (P := fun t => match t with | .inl o => o = j.1.filter (fun s => decide (thN c2 s = k)) | .inr _ => False) (.iter j.1.length (fun a st => st.1 = (j.1.take a).filter (fun s => decide (thN c2 s = k)) ∧ st.2 = (a : Int)) (by omega) ⟨rfl, rfl⟩ ?_ ?_) (fun o _ h => ?_) (fun _ _ h => h.elim)) (fun _ _ _ => .ck64 (by omega) (.one (by simp))) (fun _ _ h => h.elim))
          · rintro a ⟨o, v⟩ ha ⟨h1, hv⟩
            dsimp only at h1 hv
            subst hv
            simp only [alibkeep_LocalJoined_L51]
            obtain ⟨s, hs⟩ : ∃ s, j.1[a] = s := ⟨_, rfl⟩
            have hsm : s ∈ j.1 := by rw [← hs]; exact List.getElem_mem ha
            obtain ⟨_, _, _, s0, s1, _⟩ := F.mem ((J.mem s).1 hsm)
            have hs2 := hth s.call.toNat (by omega)
            have e1 : (j.1.take (a + 1)).filter (fun s => decide (thN c2 s = k)) = o ++ [s].filter (fun s => decide (thN c2 s = k)) := by
              rw [← List.take_append_getElem ha, List.filter_append, hs, h1]
            have hol : o.length ≤ 12 := by
              rw [h1]
              have := List.length_filter_le (fun s => decide (thN c2 s = k)) (j.1.take a)
              rw [List.length_take] at this; omega
            refine .condT (decide_eq_true (by omega)) (.ix ha ?_)
            rw [hs]
            refine .condF (by simp only [Bool.or_eq_false_iff, decide_eq_false_iff_not]; omega) (.ixD Call.z s0 (by omega) ?_)
            refine .cond (fun h => .ck (limB_of ⟨?_, ?_⟩) (.ck64 (by omega) (.one ⟨?_, by simp⟩))) fun h => .ck64 (by omega) (.one ⟨?_, by simp⟩)
            · simp only [List.length_singleton]; exact Nat.le_trans (m := 2000) (by omega) (by decide)
            · simp only [List.length_singleton]; omega
            · have h : (c2.getD s.call.toNat Call.z).thing = (k : Int) := of_decide_eq_true h
              rw [e1, List.filter_cons, if_pos]
              · rfl
              · refine decide_eq_true ?_; unfold thN; omega
            · have h : ¬ (c2.getD s.call.toNat Call.z).thing = (k : Int) := of_decide_eq_false h
              rw [e1, List.filter_cons, if_neg]
              · simp
              · intro h2
                have h2 := of_decide_eq_true h2
                unfold thN at h2; omega
          · rintro ⟨o, v⟩ ⟨h1, hv⟩
            dsimp only at h1 hv
            subst hv
            simp only [alibkeep_LocalJoined_L51]
            rw [List.take_length] at h1
            exact .condF (decide_eq_false (by omega)) (.one h1)
          · have h : o = j.1.filter (fun s => decide (thN c2 s = k)) := h
            rw [J.part F hk] at h
            have hol : o.length ≤ 12 := by rw [h, getD_of hk]; exact hll _ (List.getElem_mem hk)
            refine .ix hk (.bdO (stepEq_ok (by omega) (by omega) (by rw [h, getD_of hk])) (.condF rfl (.one trivial)))
        · rintro v rfl
          simp only [alibkeep_LocalJoined_L47]
          exact .condF (decide_eq_false (by omega)) (.one trivial)
        · refine .seq (rightT_wp (by omega) K.ty K.len R (w := j.1) (by omega)) fun q _ ⟨_, q2⟩ => .one ?_
          by_cases h : q.2 = 0
          · rw [(q2 h).2 (J.right K hlen F ho)]; simp
          · rw [decide_eq_false h]; rfl
      · exact (h (noround K R hlen ho)).elim
end Lc

end Go.Proofs.Ytpakplmpihhmbaa
