/- ZonesShown, plainly. -/
import Derived.Test.YtolneilkgjglkaaZ12
import Derived.Test.YtolneilkgjglkaaZ8
set_option linter.unusedVariables false
set_option linter.unusedSimpArgs false
set_option linter.unusedSectionVars false
set_option maxRecDepth 100000
namespace Go.Proofs.Ytolneilkgjglkaa
open Go.RowKit
namespace Zo
open Hs
theorem ok_wp {N : Nat} {l : List Int} (hN : l.length < N) (hl : l.length ≤ 1000) : Wp (alibkeep_ok N l) fun r => r = true ↔ ∀ x ∈ l, x = 0 := by
  unfold alibkeep_ok
  refine .elim (P := fun t => match t with | .inl _ => ∀ x ∈ l, x = 0 | .inr r => r = false ∧ ∃ x ∈ l, x ≠ 0) (.iter l.length (fun k v => v = (k : Int) ∧ ∀ j, (h : j < l.length) → j < k → l[j] = 0) hN ⟨rfl, fun j _ h => absurd h (Nat.not_lt_zero _)⟩ ?_ ?_) (fun _ _ h => .one ⟨fun _ => h, fun _ => rfl⟩) (fun r _ h => .one ?_)
  · rintro k v hk ⟨rfl, hr⟩
    simp only [alibkeep_ok_L3]
    refine .condT (decide_eq_true (by omega)) (.ix hk (.cond (fun h => .one ⟨rfl, l[k], List.getElem_mem hk, by simpa using h⟩) (fun h => .ck64 (by omega) (.one ⟨by simp, fun j hj hjk => ?_⟩))))
    rcases Nat.lt_or_ge j k with h1 | h1
    · exact hr j hj h1
    · obtain rfl : j = k := by omega
      simpa using h
  · rintro v ⟨rfl, hr⟩
    simp only [alibkeep_ok_L3]
    refine .condF (decide_eq_false (by omega)) (.one fun x hx => ?_)
    obtain ⟨j, hj, rfl⟩ := List.mem_iff_getElem.1 hx
    exact hr j hj hj
  · obtain ⟨rfl, x, hx, h0⟩ := h
    exact ⟨fun h => (by cases h), fun h => (h0 (h x hx)).elim⟩
theorem has_b (v : Int) (x : Call) : (((decide (x.kind = 1)) && (decide (x.arg = v))) || (((decide (x.kind = 2)) && (!(decide (x.to_ = (-1))))) && (decide (x.res = v)))) = true ↔ inC v x := by
  unfold inC isRd
  rw [Bool.or_eq_true, Bool.and_eq_true, decide_eq_true_eq, decide_eq_true_eq, Bool.and_eq_true (_ && _), decide_eq_true_eq (p := x.res = v)]
section
variable {c : List Call}
theorem c2_wp {N : Nat} (hN : c.length < N) (hc : c.length ≤ 1000) (a : Int) (y : Call) : Wp (slices_ContainsFunc_api_Call_api_Call_2 N c a y) fun r => r = true ↔ ∃ i, i < c.length ∧ inC a (c.getD i Call.z) ∧ (c.getD i Call.z).to_ ≠ -1 ∧ (c.getD i Call.z).to_ < y.from_ := by
  obtain ⟨Q, hQ⟩ : ∃ Q : Nat → Prop, Q = fun i => inC a (c.getD i Call.z) ∧ (c.getD i Call.z).to_ ≠ -1 ∧ (c.getD i Call.z).to_ < y.from_ := ⟨_, rfl⟩
  unfold slices_ContainsFunc_api_Call_api_Call_2 slices_IndexFunc_api_Call_api_Call_2
  refine .seq (P := fun i => (0 ≤ i ∧ ∃ j, j < c.length ∧ Q j) ∨ (i < 0 ∧ ∀ j, j < c.length → ¬ Q j)) (.elim (P := fun t => match t with | .inl _ => ∀ j, j < c.length → ¬ Q j | .inr r => 0 ≤ r ∧ ∃ j, j < c.length ∧ Q j) (.iter c.length (fun k v => v = (k : Int) ∧ ∀ j, j < k → ¬ Q j) hN ⟨rfl, fun j h => absurd h (Nat.not_lt_zero _)⟩ ?_ ?_) (fun _ _ h => .one (.inr ⟨by decide, h⟩)) (fun r _ h => .one (.inl h))) fun i _ hi => .one ?_
  · rintro k v hk ⟨rfl, hr⟩
    simp only [slices_IndexFunc_api_Call_api_Call_2_L3]
    refine .condT (decide_eq_true (by omega)) (.ixD Call.z (by omega) (by omega) (.bdO (a := ()) rfl ?_))
    simp only [Int.toNat_natCast]
    have hb : (((((decide ((c.getD k Call.z).kind = 1)) && (decide ((c.getD k Call.z).arg = a))) || (((decide ((c.getD k Call.z).kind = 2)) && (!(decide ((c.getD k Call.z).to_ = (-1))))) && (decide ((c.getD k Call.z).res = a)))) && (!(decide ((c.getD k Call.z).to_ = (-1))))) && (decide ((c.getD k Call.z).to_ < y.from_))) = true ↔ Q k := by
      rw [hQ, Bool.and_eq_true, Bool.and_eq_true (_ || _), has_b, Bool.not_eq_true', decide_eq_false_iff_not, decide_eq_true_eq, and_assoc]
    refine .cond (fun h => .one ⟨by omega, k, hk, hb.1 h⟩) fun h => .ck64 (by omega) (.one ⟨by simp, fun j hj => ?_⟩)
    rcases Nat.lt_or_ge j k with h1 | h1
    · exact hr j h1
    · obtain rfl : j = k := by omega
      intro hq
      rw [hb.2 hq] at h; cases h
  · rintro v ⟨rfl, hr⟩
    simp only [slices_IndexFunc_api_Call_api_Call_2_L3]
    exact .condF (decide_eq_false (by omega)) (.one hr)
  · rw [decide_eq_true_eq]
    rcases hi with ⟨h1, j, hj, hq⟩ | ⟨h1, h2⟩
    · rw [hQ] at hq
      exact ⟨fun _ => ⟨j, hj, hq⟩, fun _ => h1⟩
    · exact ⟨fun h => by omega, fun ⟨j, hj, hq⟩ => (h2 j hj (by rw [hQ]; exact hq)).elim⟩
theorem ah_wp {N : Nat} (hN : c.length < N) (hc : c.length ≤ 1000) (a b : Int) : Wp (alibkeep_ZonesShown_2 N a b c) fun r => r = true ↔ Ah c a b := by
  obtain ⟨Q, hQ⟩ : ∃ Q : Nat → Prop, Q = fun j => inC b (c.getD j Call.z) ∧ (a = 0 ∨ ∃ i, i < c.length ∧ inC a (c.getD i Call.z) ∧ (c.getD i Call.z).to_ ≠ -1 ∧ (c.getD i Call.z).to_ < (c.getD j Call.z).from_) := ⟨_, rfl⟩
  unfold alibkeep_ZonesShown_2 slices_ContainsFunc_api_Call_api_Call_1 slices_IndexFunc_api_Call_api_Call_1
  refine .seq (P := fun r => r = true ↔ Ah c a b) (.seq (P := fun i => (0 ≤ i ∧ ∃ j, j < c.length ∧ Q j) ∨ (i < 0 ∧ ∀ j, j < c.length → ¬ Q j)) (.elim (P := fun t => match t with | .inl _ => ∀ j, j < c.length → ¬ Q j | .inr r => 0 ≤ r ∧ ∃ j, j < c.length ∧ Q j) (.iter c.length (fun k v => v = (k : Int) ∧ ∀ j, j < k → ¬ Q j) hN ⟨rfl, fun j h => absurd h (Nat.not_lt_zero _)⟩ ?_ ?_) (fun _ _ h => .one (.inr ⟨by decide, h⟩)) (fun r _ h => .one (.inl h))) fun i _ hi => .one ?_) fun r _ hr => .one hr
  · rintro k v hk ⟨rfl, hr⟩
    simp only [slices_IndexFunc_api_Call_api_Call_1_L3]
    refine .condT (decide_eq_true (by omega)) (.ixD Call.z (by omega) (by omega) ?_)
    simp only [Int.toNat_natCast]
    refine .seq (P := fun r => r = true ↔ Q k) ?_ fun r _ hb => .cond (fun h => .one ⟨by omega, k, hk, hb.1 h⟩) fun h => .ck64 (by omega) (.one ⟨by simp, fun j hj => ?_⟩)
    · unfold alibkeep_ZonesShown_2_1
      refine .seq (P := fun r => r = true ↔ Q k) (.bdO (a := ()) rfl ?_) fun r _ hr => .one hr
      have hh := has_b b (c.getD k Call.z)
      generalize (((decide ((c.getD k Call.z).kind = 1)) && (decide ((c.getD k Call.z).arg = b))) || (((decide ((c.getD k Call.z).kind = 2)) && (!(decide ((c.getD k Call.z).to_ = (-1))))) && (decide ((c.getD k Call.z).res = b)))) = B at hh ⊢
      have hQk : Q k ↔ (B = true ∧ (a = 0 ∨ ∃ i, i < c.length ∧ inC a (c.getD i Call.z) ∧ (c.getD i Call.z).to_ ≠ -1 ∧ (c.getD i Call.z).to_ < (c.getD k Call.z).from_)) := by rw [hQ, hh]
      refine .cond (fun _ => .seq (c2_wp hN hc a _) fun t _ ht => .one ?_) fun hg => .one ?_
      · rw [hQk, Bool.and_eq_true, Bool.or_eq_true, decide_eq_true_eq, ht]
      · rw [hQk, Bool.and_eq_true, Bool.or_false, decide_eq_true_eq]
        by_cases h0 : a = 0
        · exact ⟨fun h => ⟨h.1, .inl h0⟩, fun h => ⟨h.1, h0⟩⟩
        · cases B with
          | false => exact ⟨fun h => (by cases h.1), fun h => (by cases h.1)⟩
          | true => rw [decide_eq_false h0] at hg; cases hg
    · rcases Nat.lt_or_ge j k with h1 | h1
      · exact hr j h1
      · obtain rfl : j = k := by omega
        intro hq
        rw [hb.2 hq] at h; cases h
  · rintro v ⟨rfl, hr⟩
    simp only [slices_IndexFunc_api_Call_api_Call_1_L3]
    exact .condF (decide_eq_false (by omega)) (.one hr)
  · rw [decide_eq_true_eq]
    unfold Ah
    rcases hi with ⟨h1, j, hj, hq⟩ | ⟨h1, h2⟩
    · rw [hQ] at hq
      exact ⟨fun _ => ⟨j, hj, hq⟩, fun _ => h1⟩
    · exact ⟨fun h => by omega, fun ⟨j, hj, hq⟩ => (h2 j hj (by rw [hQ]; exact hq)).elim⟩
theorem gx {b : Bool} {a : Int} {i : Nat} (hb : b = true) (ha : a = i) (hi : i < c.length) : cond (b == true) (ix c a) (some Call.z) = some (c.getD i Call.z) := by
  subst hb; subst ha
  show ix c (i : Int) = _
  rw [ix_of hi, getD_of hi]
theorem c0_wp {N : Nat} (hN : c.length < N) (hc : c.length ≤ 1000) (d : Bad) {p : Nat} (hp : d.a = p) (hpl : p < c.length) : Wp (slices_ContainsFunc_api_Call_api_Call N c d) fun r => r = true ↔ ∃ i, i < c.length ∧ (c.getD i Call.z).kind = 1 ∧ (c.getD i Call.z).arg = (c.getD p Call.z).res := by
  obtain ⟨Q, hQ⟩ : ∃ Q : Nat → Prop, Q = fun i => (c.getD i Call.z).kind = 1 ∧ (c.getD i Call.z).arg = (c.getD p Call.z).res := ⟨_, rfl⟩
  unfold slices_ContainsFunc_api_Call_api_Call slices_IndexFunc_api_Call_api_Call
  refine .seq (P := fun i => (0 ≤ i ∧ ∃ j, j < c.length ∧ Q j) ∨ (i < 0 ∧ ∀ j, j < c.length → ¬ Q j)) (.elim (P := fun t => match t with | .inl _ => ∀ j, j < c.length → ¬ Q j | .inr r => 0 ≤ r ∧ ∃ j, j < c.length ∧ Q j) (.iter c.length (fun k v => v = (k : Int) ∧ ∀ j, j < k → ¬ Q j) hN ⟨rfl, fun j h => absurd h (Nat.not_lt_zero _)⟩ ?_ ?_) (fun _ _ h => .one (.inr ⟨by decide, h⟩)) (fun r _ h => .one (.inl h))) fun i _ hi => .one ?_
  · rintro k v hk ⟨rfl, hr⟩
    simp only [slices_IndexFunc_api_Call_api_Call_L3]
    refine .condT (decide_eq_true (by omega)) (.ixD Call.z (by omega) (by omega) ?_)
    simp only [Int.toNat_natCast]
    refine .seq (P := fun r => r = true ↔ Q k) ?_ fun r _ hb => .cond (fun h => .one ⟨by omega, k, hk, hb.1 h⟩) fun h => .ck64 (by omega) (.one ⟨by simp, fun j hj => ?_⟩)
    · unfold alibkeep_ZonesShown_3
      by_cases h1 : (c.getD k Call.z).kind = 1
      · refine .bdO (gx (decide_eq_true h1) hp hpl) (.one ?_)
        rw [hQ, Bool.and_eq_true, decide_eq_true_eq, decide_eq_true_eq]
      · rw [decide_eq_false h1]
        refine .bdO (a := Call.z) rfl (.one ?_)
        rw [hQ]
        exact ⟨fun h => (by cases h), fun h => (h1 h.1).elim⟩
    · rcases Nat.lt_or_ge j k with h1 | h1
      · exact hr j h1
      · obtain rfl : j = k := by omega
        intro hq
        rw [hb.2 hq] at h; cases h
  · rintro v ⟨rfl, hr⟩
    simp only [slices_IndexFunc_api_Call_api_Call_L3]
    exact .condF (decide_eq_false (by omega)) (.one hr)
  · rw [decide_eq_true_eq]
    rcases hi with ⟨h1, j, hj, hq⟩ | ⟨h1, h2⟩
    · rw [hQ] at hq
      exact ⟨fun _ => ⟨j, hj, hq⟩, fun _ => h1⟩
    · exact ⟨fun h => by omega, fun ⟨j, hj, hq⟩ => (h2 j hj (by rw [hQ]; exact hq)).elim⟩
theorem two_wp {N : Nat} (hN : c.length < N) (hc : c.length ≤ 1000) {k a b : Int} (hk : k = 4 ∨ k = 5) (h1 : Ah c a b) (h2 : Ah c b a) : Wp (bd (α := Bool) (cond (((decide (k = 4)) || (decide (k = 5))) == true)
              (bd (alibkeep_ZonesShown_2 N a b c) fun (r27 : Bool) =>
              cond ((((decide (k = 4)) || (decide (k = 5))) && r27) == true)
                (bd (alibkeep_ZonesShown_2 N b a c) fun (r28 : Bool) =>
                some ((((decide (k = 4)) || (decide (k = 5))) && r27) && r28))
                (some ((((decide (k = 4)) || (decide (k = 5))) && r27) && false)))
              (cond ((((decide (k = 4)) || (decide (k = 5))) && false) == true)
                (bd (alibkeep_ZonesShown_2 N b a c) fun (r29 : Bool) =>
                some ((((decide (k = 4)) || (decide (k = 5))) && false) && r29))
                (some ((((decide (k = 4)) || (decide (k = 5))) && false) && false)))) fun (v26 : Bool) => some v26) fun r => r = true := by
  have hK : (decide (k = 4) || decide (k = 5)) = true := by rw [Bool.or_eq_true, decide_eq_true_eq, decide_eq_true_eq]; exact hk
  rw [hK]
  refine .seq (P := fun r => r = true) (.condT rfl (.seq (ah_wp hN hc a b) fun t _ ht => ?_)) fun r _ hr => .one hr
  rw [ht.2 h1]
  refine .condT rfl (.seq (ah_wp hN hc b a) fun u _ hu => .one ?_)
  rw [hu.2 h2]; rfl
end
theorem shownLaw {N : Nat} (hN : 5000 < N) (hL : alibkeep_zonesLives N = some true) (l : List Event) : alibkeep_ZonesShown N l = some true := by
  refine Wp.eq ?_
  unfold alibkeep_ZonesShown
  refine .seq (check_all (by omega) l) fun r _ hr => ?_
  obtain ⟨⟨c0, e, er⟩, hc, _⟩ := calls_rn (types := [1]) (l := l) (N := N) (by omega)
  rcases hr with ⟨h, _⟩ | ⟨h0, ht, hl, c, op, R, D, h1, h2⟩
  · refine .bdO hc (.seq (P := fun v => v = true) (.bdO hL (.condT rfl (.seq (ok_wp (by simp; omega) (by simp)) fun t _ ht => .one ?_))) fun v _ hv => .condT hv (.bdO hL (.one rfl)))
    have : t = false := by
      cases t with
      | false => rfl
      | true => exact (h ((ht.1 rfl) _ (.head _))).elim
    rw [this]; rfl
  have hcl : c.length ≤ 200 := by
    have : c.length ≤ l.length := R.wf.len
    omega
  refine .bdO (calls_of (by omega) ht hl R) (.seq (P := fun v => v = r.1) (.bdO hL (.condT rfl (.seq (ok_wp (by simp; omega) (by simp)) fun t _ ht => .one ?_))) fun v _ hv => ?_)
  · rw [ht.2 (fun x hx => by rcases List.mem_cons.1 hx with rfl | hx; exact h0; rcases List.mem_cons.1 hx with rfl | hx; rfl; cases hx)]; simp
  subst hv
  refine .cond (fun _ => .bdO hL (.one rfl)) fun hb => ?_
  dsimp only
  have no0 : r.2.1 ≠ 0 := fun h => by rw [h1, decide_eq_true h] at hb; cases hb
  rcases h2 with ⟨k1, i, hs, e⟩ | ⟨_, h2⟩
  · have k1 : r.2.1 = 1 := k1
    have ha : r.2.2.1 = (i : Int) := congrArg (fun x : Int × Int => x.1) e
    have hG : (decide (0 ≤ r.2.2.1) && decide (r.2.2.1 < (c.length : Int))) = true := by
      have := hs.1
      rw [Bool.and_eq_true, decide_eq_true_eq, decide_eq_true_eq]; omega
    have hk := (isRd_iff.1 hs.2.1).1
    refine .condT (decide_eq_true k1) (.seq (P := fun v => v = true) (.bdO (gx hG ha hs.1) (.condT (by rw [hG, decide_eq_true hk]; rfl) (.seq (c0_wp (by omega) (by omega) _ ha hs.1) fun t _ ht => .one ?_))) fun v _ hv => .one hv)
    have : t = false := by
      cases t with
      | false => rfl
      | true =>
        obtain ⟨j, hj, g1, g2⟩ := ht.1 rfl
        exact (hs.2.2 (.inr ⟨j, hj, g1, g2⟩)).elim
    rw [hG, decide_eq_true hk, this]; rfl
  refine .condF (decide_eq_false fun h => ?_) ?_
  · rcases h2 with ⟨g, _⟩ | ⟨_, ⟨g, _⟩ | ⟨_, ⟨g, _⟩ | ⟨_, g⟩⟩⟩
    · have g : r.2.1 = 3 := g
      omega
    · have g : r.2.1 = 4 := g
      omega
    · have g : r.2.1 = 5 := g
      omega
    · exact no0 (congrArg (fun x : Int × Int × Int => x.1) g)
  rcases h2 with ⟨k3, i, j, hs, e⟩ | ⟨_, h2⟩
  · have k3 : r.2.1 = 3 := k3
    obtain ⟨s1, s2, s3, s4, s5, s6⟩ := hs
    have ha : r.2.2.1 = (i : Int) := congrArg (fun x : Int × Int => x.1) e
    have hb' : r.2.2.2.1 = (j : Int) := congrArg (fun x : Int × Int => x.2) e
    have hG : (((decide (0 ≤ r.2.2.1) && decide (r.2.2.1 < (c.length : Int))) && decide (0 ≤ r.2.2.2.1)) && decide (r.2.2.2.1 < (c.length : Int))) = true := by
      simp only [Bool.and_eq_true, decide_eq_true_eq]; omega
    have hG2 : ((((decide (0 ≤ r.2.2.1) && decide (r.2.2.1 < (c.length : Int))) && decide (0 ≤ r.2.2.2.1)) && decide (r.2.2.2.1 < (c.length : Int))) && decide ((c.getD j Call.z).arg = (c.getD i Call.z).res)) = true := by
      rw [hG, decide_eq_true s5]; rfl
    refine .condT (decide_eq_true k3) (.bdO (gx hG hb' s2) (.bdO (gx hG ha s1) (.bdO (gx hG2 ha s1) (.bdO (gx hG2 hb' s2) (.one ?_)))))
    rw [hG2, decide_eq_true s6]; rfl
  have hk : (r.2.1 = 4 ∨ r.2.1 = 5) ∧ Ah c r.2.2.1 r.2.2.2.1 ∧ Ah c r.2.2.2.1 r.2.2.1 := by
    rcases h2 with ⟨g, h, _⟩ | ⟨_, ⟨g, h, _⟩ | ⟨_, g⟩⟩
    · obtain ⟨_, _, _, _, _, _, a7, a8⟩ := h
      exact ⟨.inl g, a7, a8⟩
    · obtain ⟨_, _, _, _, _, _, a7, a8⟩ := h
      exact ⟨.inr g, a7, a8⟩
    · exact (no0 (congrArg (fun x : Int × Int × Int => x.1) g)).elim
  refine .condF (decide_eq_false fun h => by rcases hk.1 with g | g <;> omega) ?_
  exact two_wp (by omega) (by omega) hk.1 hk.2.1 hk.2.2
end Zo

end Go.Proofs.Ytolneilkgjglkaa
