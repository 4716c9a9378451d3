/- RegularLevels, plainly. -/
import Derived.Test.YteklmleiiiodfaaLF4
import Derived.Test.YteklmleiiiodfaaLR1
set_option linter.unusedVariables false
set_option linter.unusedSimpArgs false
set_option linter.unusedSectionVars false
set_option maxRecDepth 100000
namespace Go.Proofs.Yteklmleiiiodfaa
open Go.RowKit
namespace Rg
open Hs
theorem slB_of {n : Nat} {lo hi : Int} (h : 0 ≤ lo ∧ lo ≤ hi ∧ hi ≤ n) : slB n lo hi = true := decide_eq_true h
theorem delEv_ok (N : Nat) {s : List Event} {p : Nat} (hp : p < s.length) : slices_Delete_api_Event_api_Event N s (p : Int) ((p : Int) + 1) = some (s.eraseIdx p) := by
  have e1 : ((p : Int) + 1).toNat = p + 1 := by omega
  have hd : (s.drop (p + 1)).length = s.length - (p + 1) := List.length_drop ..
  have hq : ((p : Int) + ((s.drop (p + 1)).length : Int)).toNat = s.length - 1 := by rw [hd]; omega
  have hA : ovr s p (s.drop (p + 1)) = (s.take p ++ s.drop (p + 1)) ++ s.drop (s.length - 1) := by
    rw [ovr_eq (by rw [hd]; omega), List.append_assoc]
    have : p + (s.drop (p + 1)).length = s.length - 1 := by rw [hd]; omega
    rw [this]
  have hB : (s.take p ++ s.drop (p + 1)).length = s.length - 1 := by rw [List.length_append, List.length_take, hd]; omega
  have hAq : (ovr s p (s.drop (p + 1))).take (s.length - 1) = s.take p ++ s.drop (p + 1) := by rw [hA, List.take_append_of_le_length (by omega), List.take_of_length_le (by omega)]
  have hl : (ovr s p (s.drop (p + 1))).length = s.length := ovr_len _ _ _
  refine Wp.eq ?_
  unfold slices_Delete_api_Event_api_Event
  simp only [e1, Int.toNat_natCast]
  refine .ck (slB_of (by omega)) (.ck (slB_of (by omega)) (.condF (decide_eq_false (by omega)) (.ck (slB_of (by omega)) (.ck (slB_of (by omega)) (.ck (slB_of (by rw [hl, hd]; omega)) ?_)))))
  rw [hq, hAq, hB]
  refine .ck (slB_of (by rw [hl]; omega)) (.one ?_)
  rw [ovr_eq (by rw [List.length_replicate, List.length_drop, List.length_take, hl]; omega), List.take_append_of_le_length (by rw [List.length_take, hl]; omega), List.take_take, Nat.min_self, hAq, List.eraseIdx_eq_take_drop_succ]
theorem gx {c : List Call} {b : Bool} {a : Int} {i : Nat} (hb : b = false) (ha : a = i) (hi : i < c.length) : cond (b == false) (ix c a) (some Call.z) = some (c.getD i Call.z) := by
  subst hb; subst ha
  show ix c (i : Int) = _
  rw [ix_of hi, getD_of hi]
theorem ok_wp {N : Nat} {l : List Int} (hN : l.length < N) (hl : l.length ≤ 1000) : Wp (alibkeep_ok N l) fun r => r = true ↔ ∀ x ∈ l, x = 0 := by
  unfold alibkeep_ok
  refine .elim (P := fun t => match t with | .inl _ => ∀ x ∈ l, x = 0 | .inr r => r = false ∧ ∃ x ∈ l, x ≠ 0) (.iter l.length (fun k v => v = (k : Int) ∧ ∀ j, (h : j < l.length) → j < k → l[j] = 0) hN ⟨rfl, fun j _ h => absurd h (Nat.not_lt_zero _)⟩ ?_ ?_) (fun _ _ h => .one ⟨fun _ => h, fun _ => rfl⟩) (fun r _ h => .one ?_)
  · rintro k v hk ⟨rfl, hr⟩
    simp only [alibkeep_ok_L3]
    refine .condT (decide_eq_true (by omega)) (.ix hk (.cond (fun h => .one ⟨rfl, l[k], List.getElem_mem hk, by simpa using h⟩) (fun h => .ck64 (by omega) (.one ⟨by simp, fun j hj hjk => ?_⟩))))
    rcases Nat.lt_or_ge j k with h1 | h1
    · exact hr j hj h1
    · obtain rfl : j = k := by omega
      simpa using h
  · rintro v ⟨rfl, hr⟩
    simp only [alibkeep_ok_L3]
    refine .condF (decide_eq_false (by omega)) (.one fun x hx => ?_)
    obtain ⟨j, hj, rfl⟩ := List.mem_iff_getElem.1 hx
    exact hr j hj hj
  · obtain ⟨rfl, x, hx, h0⟩ := h
    exact ⟨fun h => (by cases h), fun h => (h0 (h x hx)).elim⟩
theorem check_any {N : Nat} (hN : 5000 < N) (l : List Event) : Wp (regular_Check N l) fun _ => True := by
  obtain ⟨⟨c, e, er⟩, hc, h⟩ := calls_rn (types := [1]) (l := l) (N := N) (by omega)
  by_cases h0 : er = 0
  · subst h0
    obtain ⟨_, _, hl, he, op, R⟩ := h rfl
    have he : e = 0 := he
    subst he
    exact (level3 hN hc (by have : c.length ≤ l.length := R.wf.len; omega)).mono fun _ _ => trivial
  · unfold regular_Check
    refine .seq (read_wp (by omega) hc fun h => (h0 h).elim) fun r _ hr => ?_
    rcases hr with ⟨h, rfl⟩ | ⟨h, _⟩ | ⟨h, _⟩
    · exact .condT (by simpa using h) (.one trivial)
    · exact (h0 h).elim
    · exact (h0 h).elim
theorem lives : alibkeep_regularLives 18446744073709551616 = some true := by kernel_rfl
theorem levelsLaw {N : Nat} (hN : 5000 < N) (hLv : alibkeep_regularLives N = some true) (l : List Event) (n : Int) : alibkeep_RegularLevels N l n = some true := by
  refine Wp.eq ?_
  unfold alibkeep_RegularLevels
  obtain ⟨⟨c, e, er⟩, hc, h⟩ := calls_rn (types := [1]) (l := l) (N := N) (by omega)
  by_cases h0 : er = 0
  · subst h0
    obtain ⟨ht, _, hl, he, op, R⟩ := h rfl
    have he : e = 0 := he
    subst he
    have R : Rn N [1] l l.length c op := R
    have W := R.wf
    have hcl : c.length ≤ 200 := by
      have := W.len
      omega
    refine .seq (level3 hN hc hcl) fun r _ hr => .bdO hc ?_
    refine .seq (P := fun v => v = false → r.2 = 0 ∧ 0 ≤ n ∧ n ≤ (l.length : Int)) (.bdO hLv (.condT rfl (.seq (ok_wp (by simp; omega) (by simp)) fun t _ ht2 => .one fun hv => ?_))) fun v _ hv => .cond (fun _ => .bdO hLv (.one rfl)) fun hf => ?_
    · simp only [Bool.or_eq_false_iff, Bool.not_true, Bool.not_eq_false', decide_eq_false_iff_not, true_and] at hv
      obtain ⟨⟨g1, g2⟩, g3⟩ := hv
      exact ⟨(ht2.1 g1) _ (.head _), by omega, by omega⟩
    obtain ⟨r0, n0, n1⟩ := hv hf
    rcases hr with ⟨h6, _⟩ | ⟨_, hL, hK⟩
    · omega
    obtain ⟨n, rfl⟩ : ∃ q : Nat, n = q := ⟨n.toNat, by omega⟩
    refine .ck (slB_of (by omega)) ?_
    rw [Int.toNat_natCast]
    -- a begin
    have hft : ∀ i, i < c.length → (c.getD i Call.z).to_ ≠ -1 → (c.getD i Call.z).from_ < (c.getD i Call.z).to_ := fun i hi h => by
      rcases (W.one i hi).to with ⟨g, _⟩ | ⟨g, _⟩
      · exact (h g).elim
      · exact g
    obtain ⟨a, oa, Ra, P⟩ := Sr.Rn.pre R n (by omega)
    have Rt := Sr.Rn.take Ra (Nat.le_refl n)
    have hml : (l.take n).length = n := by rw [List.length_take]; omega
    have Rt : Rn N [1] (l.take n) (l.take n).length a oa := by rw [hml]; exact Rt
    have X := tr_pre P hft fun i hi => by
      have O := Ra.wf.one i hi
      refine ⟨by have := O.fr; omega, fun h => ?_⟩
      rcases O.to with ⟨g, _⟩ | ⟨_, g⟩
      · exact (h g).elim
      · exact g
    have hal : a.length ≤ 200 := by have := P.len; omega
    refine .seq (level3 hN (calls_of (by omega) ht (by omega) Rt) hal) fun r2 _ hr2 => ?_
    rcases hr2 with ⟨_, g⟩ | ⟨z0, _, hK2⟩
    · exact (g (X.lin hL)).elim
    have le := X.lvl hL hK hK2
    have rg := hK.rng
    refine .condF ?_ ?_
    · rw [decide_eq_true z0, decide_eq_false (show ¬ r2.1 < r.1 by omega), decide_eq_false (show ¬ r.1 < 0 by omega), decide_eq_false (show ¬ 3 < r.1 by omega)]; rfl
    dsimp only
    rcases Nat.lt_or_ge n c.length with hnc | hnc
    · have hg0 : decide ((c.length : Int) ≤ (n : Int)) = false := decide_eq_false (by omega)
      refine .bdO (gx hg0 rfl hnc) (.cond (fun _ => .one rfl) fun hg => ?_)
      rw [hg0, Bool.false_or, Bool.not_eq_false', decide_eq_true_eq] at hg
      refine .ixD Call.z (by omega) (by omega) ?_
      rw [Int.toNat_natCast]
      have O := W.one n hnc
      have hfr := O.fr
      obtain ⟨F, hF⟩ : ∃ F : Nat, (c.getD n Call.z).from_ = F := ⟨(c.getD n Call.z).from_.toNat, by omega⟩
      obtain ⟨T, hT, hTl, hFT⟩ : ∃ T : Nat, (((c.getD n Call.z).to_ = -1 ∧ T = l.length) ∨ (c.getD n Call.z).to_ = T) ∧ T ≤ l.length ∧ F < T := by
        rcases O.to with ⟨g, _⟩ | ⟨g1, g2⟩
        · exact ⟨l.length, .inl ⟨g, rfl⟩, Nat.le_refl _, by omega⟩
        · exact ⟨(c.getD n Call.z).to_.toNat, .inr (by omega), by omega, by omega⟩
      obtain ⟨d, op', idx, pos, PS⟩ := cut_run R (fun i j hi hj h1 e => by
          have h2 := (W.one i hi).evt h1
          have h3 := (W.one j hj).evf
          rw [e, h3.1] at h2
          have : (c.getD j Call.z).kind = 0 := congrArg (·.kind) h2
          exact h3.2 this) (fun i j hi hj e => by
          rcases Nat.lt_trichotomy i j with h | h | h
          · have := (W.two i j h hj).fr; omega
          · exact h
          · have := (W.two j i h hi).fr; omega) (fun i j hi hj h1 e => by
          rcases Nat.lt_trichotomy i j with h | h | h
          · exact ((W.two i j h hj).to h1 e).elim
          · exact h
          · exact ((W.two j i h hi).to (by omega) e.symm).elim) hnc hF hT hFT
      have X2 := tr_cut PS (fun i j hi hj e => by
          rcases Nat.lt_trichotomy i j with h | h | h
          · have := (W.two i j h hj).fr; omega
          · exact h
          · have := (W.two j i h hi).fr; omega) hnc hF (by omega)
      have hl1 : (l.eraseIdx T).length ≤ l.length := by rw [List.length_eraseIdx]; split <;> omega
      have hFl : F < (l.eraseIdx T).length := by rw [List.length_eraseIdx]; split <;> omega
      have hcut : (cutE l F T).length ≤ 200 := by
        unfold cutE
        rw [List.length_eraseIdx]; split <;> omega
      refine .ck (limB_of ⟨Nat.le_trans (m := 2000) (by omega) (by decide), by omega⟩) (.seq (P := fun s => s = l.eraseIdx T) (.cond (fun hb => ?_) fun hb => ?_) fun s _ hs => ?_)
      · rw [Bool.not_eq_true', decide_eq_false_iff_not] at hb
        have hT2 : (c.getD n Call.z).to_ = (T : Int) := by
          rcases hT with ⟨g, _⟩ | g
          · exact (hb g).elim
          · exact g
        have hTl2 : T < l.length := by
          rcases O.to with ⟨g, _⟩ | ⟨_, g⟩
          · exact (hb g).elim
          · omega
        rw [hT2]
        exact .ck64 (by omega) (.bdO (delEv_ok N hTl2) (.one rfl))
      · rw [Bool.not_eq_false', decide_eq_true_eq] at hb
        have : T = l.length := by
          rcases hT with ⟨_, g⟩ | g
          · exact g
          · omega
        rw [this]
        exact .one (List.eraseIdx_of_length_le (Nat.le_refl _)).symm
      · subst hs
        rw [hF]
        refine .ck64 (by omega) (.bdO (delEv_ok N hFl) ?_)
        have hdl : d.length ≤ 200 := by
          have := PS.run.wf.len
          omega
        refine .seq (level3 hN (calls_of (by omega) ht hcut PS.run) hdl) fun r3 _ hr3 => .one ?_
        rcases hr3 with ⟨_, g⟩ | ⟨z0, _, hK3⟩
        · exact (g (X2.lin hL)).elim
        · rw [decide_eq_true z0, decide_eq_true (X2.lvl hL hK hK3)]; rfl
    · have hg0 : decide ((c.length : Int) ≤ (n : Int)) = true := decide_eq_true (by omega)
      rw [hg0]
      exact .bdO (a := Call.z) rfl (.condT rfl (.one rfl))
  · refine .seq (check_any hN l) fun r _ _ => .bdO hc (.seq (P := fun v => v = true) (.bdO hLv (.condT rfl (.seq (ok_wp (by simp; omega) (by simp)) fun t _ ht => .one ?_))) fun v _ hv => .condT hv (.bdO hLv (.one rfl)))
    have : t = false := by
      cases t with
      | false => rfl
      | true => exact (h0 ((ht.1 rfl) er (by simp))).elim
    rw [this]; rfl
end Rg

end Go.Proofs.Yteklmleiiiodfaa
