/- RowsOnly, plainly. -/
import Derived.Test.YtgmodmacchdkiaaRB6
set_option linter.unusedVariables false
set_option linter.unusedSimpArgs false
set_option linter.unusedSectionVars false
set_option maxRecDepth 100000
namespace Go.Proofs.Ytgmodmacchdkiaa
open Go.RowKit
namespace Rw
open Hs Sr
def mx (c : List Call) (i : Nat) : Int := max (c.getD i Call.z).arg (c.getD i Call.z).res
theorem marks_wp {N : Nat} (hN : 300 < N) {c : List Call} {a b : Int} {s : List Int} {L : Nat} (hc : c.length ≤ 200) (hsN : s.length < N) (hs : s.length ≤ 9223372036854775807) (hfr : ∀ i, i < c.length → 0 ≤ (c.getD i Call.z).from_ ∧ (c.getD i Call.z).from_ < L) (hto : ∀ i, i < c.length → (c.getD i Call.z).to_ = -1 ∨ (0 ≤ (c.getD i Call.z).to_ ∧ (c.getD i Call.z).to_ < L)) :
    Wp (iter (alibkeep_RowsOnly_L5 N (c, a, b) s) N (List.replicate L false, 0)) fun o => o.length = L ∧ ∀ t : Nat, o.getD t false = true ↔ ∃ i, i < c.length ∧ mx c i ∉ s ∧ ((c.getD i Call.z).from_ = t ∨ (c.getD i Call.z).to_ = t) := by
  refine .iter c.length (fun (k : Nat) (st : List Bool × Int) => st.2 = (k : Int) ∧ st.1.length = L ∧ ∀ t : Nat, st.1.getD t false = true ↔ ∃ i, i < k ∧ mx c i ∉ s ∧ ((c.getD i Call.z).from_ = t ∨ (c.getD i Call.z).to_ = t)) (by omega) ⟨rfl, List.length_replicate, fun t => ⟨fun h => ?_, fun ⟨i, h, _⟩ => absurd h (Nat.not_lt_zero _)⟩⟩ ?_ ?_
  · rw [List.getD_eq_getElem?_getD, List.getElem?_replicate] at h
    split at h <;> cases h
  · rintro k ⟨o, v⟩ hk ⟨hv, hl, ho⟩
    dsimp only at hv hl ho
    subst hv
    simp only [alibkeep_RowsOnly_L5]
    have f := hfr k hk
    have t0 := hto k hk
    have split : ∀ t : Nat, (∃ i, i < k + 1 ∧ mx c i ∉ s ∧ ((c.getD i Call.z).from_ = t ∨ (c.getD i Call.z).to_ = t)) ↔ (o.getD t false = true ∨ (mx c k ∉ s ∧ ((c.getD k Call.z).from_ = t ∨ (c.getD k Call.z).to_ = t))) := fun t => by
      rw [ho t]
      constructor
      · rintro ⟨i, hi, h⟩
        rcases Nat.lt_or_ge i k with g | g
        · exact .inl ⟨i, g, h⟩
        · obtain rfl : i = k := by omega
          exact .inr h
      · rintro (⟨i, hi, h⟩ | h)
        · exact ⟨i, by omega, h⟩
        · exact ⟨k, by omega, h⟩
    have put : ∀ {x : List Bool} {m t : Nat}, m < x.length → ((x.set m true).getD t false = true ↔ x.getD t false = true ∨ t = m) := fun {x m t} hm => by
      rw [getD_set2 hm]
      by_cases e : t = m
      · rw [if_pos e]; exact ⟨fun _ => .inr e, fun _ => rfl⟩
      · rw [if_neg e]; exact ⟨.inl, fun h => h.elim id fun h => (e h).elim⟩
    refine .condT (decide_eq_true (by show (k : Int) < c.length; omega)) (.ixD Call.z (by omega) (by show (k : Int) < c.length; omega) ?_)
    simp only [Int.toNat_natCast]
    refine .seq (contains_wp hsN hs _) fun r _ hr => ?_
    subst hr
    refine .cond (fun h => ?_) fun h => .ck64 (by omega) (.one ⟨by simp, hl, fun t => ?_⟩)
    · have h : mx c k ∉ s := by unfold mx; simpa using h
      refine .ixD false (by omega) (by omega) (.cond (fun h2 => ?_) fun h2 => .ck64 (by omega) (.one ⟨by simp, by simp [hl], fun t => ?_⟩))
      · have h2 : (c.getD k Call.z).to_ ≠ -1 := by simpa using h2
        refine .ixD false (by omega) (by rw [List.length_set]; omega) (.ck64 (by omega) (.one ⟨by simp, by simp [hl], fun t => ?_⟩))
        rw [split t, put (by rw [List.length_set]; omega), put (by omega)]
        constructor
        · rintro ((g | g) | g)
          · exact .inl g
          · exact .inr ⟨h, .inl (by omega)⟩
          · exact .inr ⟨h, .inr (by omega)⟩
        · rintro (g | ⟨_, g | g⟩)
          · exact .inl (.inl g)
          · exact .inl (.inr (by omega))
          · exact .inr (by omega)
      · have h2 : (c.getD k Call.z).to_ = -1 := by simpa using h2
        rw [split t, put (by omega)]
        constructor
        · rintro (g | g)
          · exact .inl g
          · exact .inr ⟨h, .inl (by omega)⟩
        · rintro (g | ⟨_, g | g⟩)
          · exact .inl g
          · exact .inr (by omega)
          · omega
    · have h : mx c k ∈ s := by unfold mx; simpa using h
      rw [split t]
      exact ⟨.inl, fun g => g.elim id fun g => (g.1 h).elim⟩
  · rintro ⟨o, v⟩ ⟨hv, hl, ho⟩
    dsimp only at hv hl ho
    subst hv
    simp only [alibkeep_RowsOnly_L5]
    exact .condF (decide_eq_false (by show ¬ (c.length : Int) < c.length; omega)) (.one ⟨hl, ho⟩)
theorem pickO_wp {N : Nat} (hN : 300 < N) {l : List Event} (hl : l.length ≤ 200) {o : List Bool} (ho : o.length = l.length) : Wp (iter (alibkeep_RowsOnly_L7 N l o) N ([], 0)) fun m => m = pickE l (fun t => !o.getD t false) l.length := by
  refine .iter l.length (fun (k : Nat) (st : List Event × Int) => st.2 = (k : Int) ∧ st.1 = pickE l (fun t => !o.getD t false) k) (by omega) ⟨rfl, rfl⟩ ?_ ?_
  · rintro k ⟨m, v⟩ hk ⟨hv, hm⟩
    dsimp only at hv hm
    subst hv; subst hm
    have hp := pick_len l (fun t => !o.getD t false) k
    simp only [alibkeep_RowsOnly_L7]
    refine .condT (decide_eq_true (by omega)) (.ixD Event.z (by omega) (by omega) (.ixD false (by omega) (by omega) ?_))
    simp only [Int.toNat_natCast]
    refine .cond (fun h => .ck (limB_of ⟨?_, ?_⟩) (.ck64 (by omega) (.one ⟨by simp, by rw [pickE, if_pos h]⟩))) fun h => .ck64 (by omega) (.one ⟨by simp, by rw [pickE, if_neg (by rw [h]; decide)]⟩)
    · simp only [List.length_singleton]; exact Nat.le_trans (m := 2000) (by omega) (by decide)
    · simp only [List.length_singleton]; omega
  · rintro ⟨m, v⟩ ⟨hv, hm⟩
    dsimp only at hv hm
    subst hv
    simp only [alibkeep_RowsOnly_L7]
    exact .condF (decide_eq_false (by omega)) (.one hm)
theorem onlyLaw {N : Nat} (hN : 300 < N) (hL : alibkeep_rowsLives N = some true) (l : List Event) (s : List Int) (hsN : s.length < N) (hs : s.length ≤ 9223372036854775807) : alibkeep_RowsOnly N l s = some true := by
  refine Wp.eq ?_
  unfold alibkeep_RowsOnly
  obtain ⟨q, hq, hqc⟩ := calls_rn (N := N) (types := [2]) (l := l) hN
  refine .seq (check_wp hN l) fun r _ hr => .bdO hq ?_
  refine .seq (P := fun b => b = false → r.2.2.2.2 = 0 ∧ r.1 = true) (.bdO hL (.condT rfl (.bdO (ok2 hN _ _) (.one fun h => ?_)))) fun b _ hb => .cond (fun _ => .bdO hL (.one rfl)) fun hg => ?_
  · simp only [Bool.or_eq_false_iff, Bool.not_true, Bool.false_or, Bool.not_eq_false', decide_eq_true_eq] at h
    exact ⟨h.1.1, h.2⟩
  obtain ⟨h0, h1⟩ := hb hg
  rcases hr with ⟨h, _⟩ | ⟨_, ht, hl, c, op, R, C, hr⟩
  · exact (h h0).elim
  have hcq := calls_of hN ht hl R
  rw [hq] at hcq
  cases hcq
  have Qc := q_of hl R
  have W := R.wf
  have hcl := W.len
  have hfr : ∀ i, i < c.length → 0 ≤ (c.getD i Call.z).from_ ∧ (c.getD i Call.z).from_ < l.length := fun i hi => (W.one i hi).fr
  have hto : ∀ i, i < c.length → (c.getD i Call.z).to_ = -1 ∨ (0 ≤ (c.getD i Call.z).to_ ∧ (c.getD i Call.z).to_ < l.length) := fun i hi => by
    have := hfr i hi
    rcases (W.one i hi).to with h | h <;> omega
  refine .ck (mkB_of (by omega) (by rw [Int.toNat_natCast]; omega) (by rw [Int.toNat_natCast]; omega)) ?_
  rw [Int.toNat_natCast]
  refine .seq (marks_wp hN (by omega) hsN hs hfr hto) fun o _ ⟨ho, hm⟩ => .seq (pickO_wp hN hl ho) fun m _ hme => ?_
  subst hme
  have Kto : ∀ i, i < c.length → (c.getD i Call.z).to_ ≠ -1 → (fun t => !o.getD t false) (c.getD i Call.z).to_.toNat = (fun t => !o.getD t false) (c.getD i Call.z).from_.toNat := fun i hi h => by
    have f := hfr i hi
    have t := hto i hi
    show (!_) = (!_)
    congr 1
    rw [Bool.eq_iff_iff, hm, hm]
    constructor
    · rintro ⟨j, j1, j2, j3 | j3⟩
      · exact (Qc.ne i j hi j1 h (by omega)).elim
      · obtain rfl := Qc.nt i j hi j1 h (by omega)
        exact ⟨i, hi, j2, .inl (by omega)⟩
    · rintro ⟨j, j1, j2, j3 | j3⟩
      · obtain rfl := Qc.nf i j hi j1 (by omega)
        exact ⟨i, hi, j2, .inr (by omega)⟩
      · exact (Qc.ne j i j1 hi (by omega) (by omega)).elim
  obtain ⟨d, op', idx, pos, P⟩ := pick_run (K := fun t => !o.getD t false) R Kto
  have kept : ∀ i, i < c.length → ((fun f : Int => !o.getD f.toNat false) (c.getD i Call.z).from_ = true ↔ mx c i ∈ s) := fun i hi => by
    show (!_) = true ↔ _
    rw [Bool.not_eq_true', ← Bool.not_eq_true, hm]
    have f := hfr i hi
    constructor
    · intro h
      apply Classical.byContradiction
      intro h2
      exact h ⟨i, hi, h2, .inl (by omega)⟩
    · rintro h ⟨j, j1, j2, j3 | j3⟩
      · obtain rfl := Qc.nf i j hi j1 (by omega)
        exact j2 h
      · exact Qc.ne j i j1 hi (by omega) (by omega)
  have D := sub_cls P C
  have cl : ∀ {v : Int}, v ∈ s → 1 ≤ v → Clo (fun f : Int => !o.getD f.toNat false) c v := fun hv h1 => clo_of Qc (fun i hi h => (kept i hi).2 h) hv h1
  have kE : ∀ e, e < d.length → (d.getD e Call.z).kind = 3 → Clo (fun f : Int => !o.getD f.toNat false) c (d.getD e Call.z).arg := fun e he h => by
    have O := P.one e he
    have hk := (kept _ (sub_lt P he)).1 (sub_kp P he)
    have h2 := Qc.ea _ (sub_lt P he) (O.kind ▸ h)
    unfold mx at hk
    rw [h2.2.2, ← O.arg, show max (d.getD e Call.z).arg 0 = (d.getD e Call.z).arg by rw [O.arg]; omega] at hk
    exact cl hk (by rw [O.arg]; exact h2.1)
  have kD : ∀ e, e < d.length → (d.getD e Call.z).kind = 4 ∧ (d.getD e Call.z).res ≠ -1 → Clo (fun f : Int => !o.getD f.toNat false) c (d.getD e Call.z).res := fun e he h => by
    have O := P.one e he
    have hk := (kept _ (sub_lt P he)).1 (sub_kp P he)
    have h2 := Qc.da _ (sub_lt P he) (O.kind ▸ h.1)
    have h3 := h2.2.2 (C.dn _ (sub_lt P he) (O.kind ▸ h.1))
    have h4 := h.2
    rw [O.res] at h4
    unfold mx at hk
    rw [h2.1, ← O.res, show max 0 (d.getD e Call.z).res = (d.getD e Call.z).res by rw [O.res]; omega] at hk
    exact cl hk (by rw [O.res]; omega)
  obtain ⟨p1, p2, p3, p4, p5⟩ := res_true hr h1
  have hlen := pick_len l (fun t => !o.getD t false) l.length
  refine .seq (check_rn hN ht (by omega) P.run) fun r2 _ h2 => .one ?_
  rcases h2 with ⟨h, _⟩ | ⟨_, h2⟩
  · exact (h D).elim
  rw [res_ok h2 (fun ⟨i, S⟩ => p1 ⟨_, sub_stray P (kD i S.lt S.dq) S⟩) (fun ⟨i, S⟩ => p2 ⟨_, sub_twice P S⟩) (fun ⟨i, S⟩ => p3 ⟨_, sub_early P D S⟩) (fun ⟨a, b, S⟩ => p4 ⟨_, _, sub_ordr P (kE a S.la S.ka) (kE b S.lb S.kb) S⟩) (fun ⟨i, S⟩ => p5 ⟨_, sub_empt P D kE S⟩)]
  rfl
end Rw

end Go.Proofs.Ytgmodmacchdkiaa
