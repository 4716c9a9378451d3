/- Events of calls. -/
import Derived.Test.YtooaoekfnmakhaaS9
set_option linter.unusedVariables false
set_option linter.unusedSimpArgs false
set_option linter.unusedSectionVars false
set_option maxRecDepth 100000
namespace Go.Proofs.Ytooaoekfnmakhaa
open Go.RowKit
namespace Hs
/-- How far the events of calls are laid. -/
structure Laid (types : List Int) (l : List Event) (c : List Call) (k : Nat) (T : List Int) (out : List Event) (used : List Bool) : Prop where
  ty : ∀ m, m < k → (c.getD m Call.z).thing < T.length ∧ T.getD (c.getD m Call.z).thing.toNat 0 = types.getD (c.getD m Call.z).thing.toNat 0
  us : ∀ e : Nat, e < l.length → (used.getD e false = true ↔ ∃ m, m < k ∧ ((c.getD m Call.z).from_ = e ∨ (c.getD m Call.z).to_ = e))
  ev : ∀ e : Nat, e < l.length → used.getD e false = true → out.getD e Event.z = l.getD e Event.z
theorem events_wp {N : Nat} {c : List Call} (types : List Int) (l : List Event) (hN : 1000 < N) : Wp (history_Events N c) fun r => ((r.2 ≠ 0 → r.1 = []) ∧ (r.2 = 0 → ∃ T, His N T r.1 c ∧ history_Calls N T r.1 = some (c, 0, 0))) ∧ (His N types l c → history_Calls N types l = some (c, 0, 0) → r = (l, 0)) := by
  unfold history_Events
  refine .cond (fun h => .one ⟨⟨fun _ => rfl, fun h => by cases h⟩, fun H => ?_⟩) (fun h => ?_)
  · obtain ⟨op, W⟩ := H.wf
    have := H.len; have := W.len
    simp only [Bool.or_eq_true, Bool.and_eq_true, Bool.not_eq_true', Bool.not_eq_false', Bool.or_eq_false_iff, Bool.and_eq_false_imp, decide_eq_true_eq, decide_eq_false_iff_not, beq_iff_eq, not_or, Int.not_lt, Int.not_le, Bool.false_eq_true, not_false_eq_true, not_true_eq_false, Decidable.not_not] at *; omega
  · simp only [Bool.or_eq_true, Bool.and_eq_true, Bool.not_eq_true', Bool.not_eq_false', Bool.or_eq_false_iff, Bool.and_eq_false_imp, decide_eq_true_eq, decide_eq_false_iff_not, beq_iff_eq, not_or, Int.not_lt, Int.not_le, Bool.false_eq_true, not_false_eq_true, not_true_eq_false, Decidable.not_not] at *
    refine .seq (.iter c.length (fun k st => st.2 = (k : Int) ∧ st.1 = ((c.length + (c.take k).countP (fun c => !decide (c.to_ = -1)) : Nat) : Int)) (Q := fun n => n = ((c.length + c.countP (fun c => !decide (c.to_ = -1)) : Nat) : Int)) (by omega) ⟨rfl, by simp⟩ ?_ ?_) fun n0 _ hn0 => ?_
    · rintro k ⟨n, v⟩ hk ⟨hv, hn⟩
      simp only at hv hn
      subst hv
      have hcp : (c.take k).countP (fun c => !decide (c.to_ = -1)) ≤ 200 := Nat.le_trans List.countP_le_length (by simp; omega)
      simp only [history_Events_L29]
      refine .condT (decide_eq_true (by omega)) (.ix hk (.cond (fun h => .ck64 (by omega) (.ck64 (by omega) (.one ⟨by simp, ?_⟩))) (fun h => .ck64 (by omega) (.one ⟨by simp, ?_⟩))))
      · simp only
        rw [List.take_succ_eq_append_getElem hk, List.countP_append, List.countP_singleton, h, hn]
        simp; omega
      · simp only
        rw [List.take_succ_eq_append_getElem hk, List.countP_append, List.countP_singleton, h, hn]
        simp
    · rintro ⟨n, v⟩ ⟨hv, hn⟩
      simp only at hv hn
      subst hv
      simp only [history_Events_L29]
      exact .condF (by simp) (.one (by rw [hn, List.take_length]))
    have hcp : c.countP (fun c => !decide (c.to_ = -1)) ≤ c.length := List.countP_le_length
    obtain ⟨n, hn⟩ : ∃ n : Nat, n = c.length + c.countP (fun c => !decide (c.to_ = -1)) := ⟨_, rfl⟩
    rw [← hn] at hn0
    subst hn0
    have hnl : His N types l c → n = l.length := fun H => by
      obtain ⟨op, W⟩ := H.wf
      rw [hn]; exact W.cnt
    refine .ck (mkB_of (by omega) (by simp; omega) (by simp; omega)) (.ck (mkB_of (by omega) (by simp; omega) (by simp; omega)) ?_)
    refine .elim (P := fun t => match t with
        | .inl s => ((1 ≤ s.1.length ∧ s.1.length ≤ 4) ∧ s.2.length = n) ∧ (His N types l c → (∀ m, m < c.length → (c.getD m Call.z).thing < s.1.length ∧ s.1.getD (c.getD m Call.z).thing.toNat 0 = types.getD (c.getD m Call.z).thing.toNat 0) ∧ (∀ e : Nat, e < l.length → s.2.getD e Event.z = l.getD e Event.z) ∧ ∀ j, j < s.1.length → 1 ≤ s.1.getD j 0 ∧ s.1.getD j 0 ≤ 5)
        | .inr r => r = ([], 3) ∧ ¬ His N types l c)
      (.iter c.length (fun k s => s.2.2.2 = (k : Int) ∧ ((1 ≤ s.1.length ∧ s.1.length ≤ 4) ∧ s.2.1.length = n ∧ s.2.2.1.length = n) ∧ (His N types l c → Laid types l c k s.1 s.2.1 s.2.2.1 ∧ ∀ j, j < s.1.length → 1 ≤ s.1.getD j 0 ∧ s.1.getD j 0 ≤ 5)) (by omega)
        ⟨rfl, ⟨⟨by simp, by simp⟩, by simp, by simp⟩, fun H => ⟨⟨fun m h => absurd h (Nat.not_lt_zero _), fun e he => ?_, fun e he h => ?_⟩, fun j hj => ?_⟩⟩ ?_ ?_) (fun s _ hs => ?_) (fun r _ hr => ?_)
    · have := hnl H
      rw [getD_of (by simp; omega)]
      simp
    · have := hnl H
      rw [getD_of (by simp; omega)] at h
      simp at h
    · have hj : j < 1 := hj
      obtain rfl : j = 0 := by omega
      exact ⟨by show (1 : Int) ≤ 1; decide, by show (1 : Int) ≤ 5; decide⟩
    · rintro k ⟨T, out, used, v⟩ hk ⟨hv, ⟨hT, ho, hu⟩, hL⟩
      simp only at hv hT ho hu hL
      subst hv
      simp only [history_Events_L51]
      refine .condT (decide_eq_true (by omega)) ?_
      have fin : ∀ (T' : List Int) (out' : List Event) (used' : List Bool), True → True := fun _ _ _ _ => trivial
      refine .elim (P := fun t => match t with
          | .inl s => ((1 ≤ s.1.length ∧ s.1.length ≤ 4) ∧ s.2.1.length = n ∧ s.2.2.length = n) ∧ (His N types l c → Laid types l c (k + 1) s.1 s.2.1 s.2.2 ∧ ∀ j, j < s.1.length → 1 ≤ s.1.getD j 0 ∧ s.1.getD j 0 ≤ 5)
          | .inr r => r = ([], 3) ∧ ¬ His N types l c) (.bd (.ixV hk (.cond (fun h => .one ⟨rfl, fun H => ?_⟩) (fun h => ?_)))) (fun s _ hs => .ck64 (by omega) (.one ⟨by simp, hs.1, hs.2⟩)) (fun r _ hr => .one hr)
      · have ht : 0 ≤ c[k].thing ∧ c[k].thing < 4 := by simp only [Bool.or_eq_true, Bool.and_eq_true, Bool.not_eq_true', Bool.not_eq_false', Bool.or_eq_false_iff, Bool.and_eq_false_imp, decide_eq_true_eq, decide_eq_false_iff_not, beq_iff_eq, not_or, Int.not_lt, Int.not_le, Bool.false_eq_true, not_false_eq_true, not_true_eq_false, Decidable.not_not] at *; omega
        refine .seq (grow_wp (by omega) ht hT) fun T' _ hT' => .bdO (typeOf_eq ..) (.ixD 0 ht.1 hT'.1.1 (.seq (put_wp hu ho) fun r1 _ h1 => ?_))
        refine .seq (P := fun s => (s.2.2 = true → (s.1.length = n ∧ s.2.1.length = n) ∧ (His N types l c → Laid types l c (k + 1) (T'.set c[k].thing.toNat (max (tyF c[k].kind) 1)) s.1 s.2.1)) ∧ (s.2.2 = false → ¬ His N types l c)) ?_ fun s _ hs => .cond (fun h => .one ⟨rfl, hs.2 (by simpa using h)⟩) (fun h => .one ⟨⟨by simp; omega, (hs.1 (by simpa using h)).1⟩, fun H => ⟨(hs.1 (by simpa using h)).2 H, fun j hj => ?_⟩⟩)
        · have key : His N types l c → n = l.length ∧ (∀ (U : List Bool) (O : List Event), U.length = n → O.length = n → (∀ e : Nat, e < l.length → (U.getD e false = true ↔ used.getD e false = true ∨ c[k].from_ = e ∨ c[k].to_ = e)) → (∀ e : Nat, e < l.length → U.getD e false = true → O.getD e Event.z = l.getD e Event.z) → Laid types l c (k + 1) (T'.set c[k].thing.toNat (max (tyF c[k].kind) 1)) O U) := by
            intro H
            obtain ⟨op, W⟩ := H.wf
            have L := (hL H).1
            have O := W.one k hk
            rw [getD_of hk] at O
            have hth := O.thing
            have hf : 1 ≤ tyF c[k].kind ∧ tyF c[k].kind ≤ 5 := by
              rw [O.fit.2, getD_of (by omega)]
              exact H.tys.2.2 _ (List.getElem_mem _)
            refine ⟨hnl H, fun U O' hU hO' h3 h4 => ⟨fun m hm => ?_, fun e he => ?_, h4⟩⟩
            · rw [getD_set2 (by omega), List.length_set]
              rcases Nat.lt_or_ge m k with h5 | h5
              · have h6 := L.ty m h5
                have h8 := (W.one m (by omega)).thing
                refine ⟨by omega, ?_⟩
                split
                · rename_i h7
                  have h9 : (c.getD m Call.z).thing = c[k].thing := by omega
                  rw [h9, ← O.fit.2]; omega
                · rw [hT'.2 _ (by omega), if_pos (by omega)]; exact h6.2
              · obtain rfl : m = k := by omega
                rw [getD_of hk, if_pos rfl, ← O.fit.2]
                exact ⟨hT'.1.1, by omega⟩
            · rw [h3 e he, L.us e he]
              constructor
              · rintro (⟨m, hm, h5⟩ | h5)
                · exact ⟨m, by omega, h5⟩
                · exact ⟨k, by omega, by rw [getD_of hk]; exact h5⟩
              · rintro ⟨m, hm, h5⟩
                rcases Nat.lt_or_ge m k with h6 | h6
                · exact .inl ⟨m, h6, h5⟩
                · obtain rfl : m = k := by omega
                  rw [getD_of hk] at h5
                  exact .inr h5
          have free : His N types l c → ((0 ≤ c[k].from_ ∧ c[k].from_ < n) ∧ used.getD c[k].from_.toNat false = false) ∧ l.getD c[k].from_.toNat Event.z = ⟨c[k].who, c[k].thing, c[k].kind, c[k].arg⟩ ∧ (c[k].to_ ≠ -1 → (c[k].from_ < c[k].to_ ∧ c[k].to_ < n ∧ used.getD c[k].to_.toNat false = false) ∧ l.getD c[k].to_.toNat Event.z = ⟨c[k].who, c[k].thing, 0, c[k].res⟩) := by
            intro H
            have hnl := hnl H
            obtain ⟨op, W⟩ := H.wf
            have L := (hL H).1
            have O := W.one k hk
            rw [getD_of hk] at O
            have hfr := O.fr
            have un : ∀ e : Nat, e < l.length → (∀ m, m < k → ¬ ((c.getD m Call.z).from_ = e ∨ (c.getD m Call.z).to_ = e)) → used.getD e false = false := fun e he hm => by
              cases hu : used.getD e false with
              | false => rfl
              | true => obtain ⟨m, h1, h2⟩ := (L.us e he).1 hu; exact absurd h2 (hm m h1)
            refine ⟨⟨by omega, un _ (by omega) fun m hm h5 => ?_⟩, O.evf.1, fun hto => ?_⟩
            · have T2 := W.two m k hm hk
              have Om := W.one m (by omega)
              rw [getD_of hk] at T2
              have := T2.fr
              rcases h5 with h5 | h5
              · omega
              · have h6 := Om.evt (by omega)
                rw [h5, Int.toNat_natCast] at h6
                rw [O.evf.1] at h6
                exact O.evf.2 (congrArg Event.kind h6)
            · have h6 : c[k].from_ < c[k].to_ ∧ c[k].to_ < l.length := by rcases O.to with h | h <;> omega
              refine ⟨⟨h6.1, by omega, un _ (by omega) fun m hm h5 => ?_⟩, O.evt hto⟩
              have T2 := W.two m k hm hk
              rw [getD_of hk] at T2
              have := T2.fr
              rcases h5 with h5 | h5
              · omega
              · exact T2.to (by omega) (by omega)
          have one : ∀ e : Nat, ((e = c[k].from_.toNat) ↔ (c[k].from_ = e)) ∨ True := fun _ => .inr trivial
          rcases h1 with ⟨b1, b2, b3, b4, b5⟩ | ⟨b1, b2, b3, b4⟩
          · rw [b1, b4, b5]
            refine .cond (fun h => .seq (put_wp (by simpa using hu) (by simpa using ho)) fun r2 _ h2 => .one ?_) (fun h => .one ⟨fun _ => ⟨⟨by simpa using ho, by simpa using hu⟩, fun H => ?_⟩, fun h => by cases h⟩)
            · have hto : c[k].to_ ≠ -1 := by simpa using h
              rcases h2 with ⟨a1, a2, a3, a4, a5⟩ | ⟨a1, a2, a3, a4⟩
              · refine ⟨fun _ => ⟨⟨by rw [a5]; simpa using ho, by rw [a4]; simpa using hu⟩, fun H => ?_⟩, fun h => (by rw [a1] at h; cases h)⟩
                have F := free H
                have F2 := F.2.2 hto
                have Kk := key H
                refine Kk.2 _ _ (by rw [a4]; simpa using hu) (by rw [a5]; simpa using ho) (fun e he => ?_) (fun e he h => ?_)
                · rw [a4, getD_set2 (by simp; omega), getD_set2 (by omega)]
                  by_cases e1 : e = c[k].to_.toNat
                  · rw [if_pos e1]; exact ⟨fun _ => .inr (.inr (by omega)), fun _ => rfl⟩
                  · rw [if_neg e1]
                    by_cases e2 : e = c[k].from_.toNat
                    · rw [if_pos e2]; exact ⟨fun _ => .inr (.inl (by omega)), fun _ => rfl⟩
                    · rw [if_neg e2]; exact ⟨fun h => .inl h, fun h => h.resolve_right (by omega)⟩
                · rw [a4, getD_set2 (by simp; omega), getD_set2 (by omega)] at h
                  rw [a5, getD_set2 (by simp; omega), getD_set2 (by omega)]
                  by_cases e1 : e = c[k].to_.toNat
                  · rw [if_pos e1, e1, F2.2]
                  · rw [if_neg e1] at h ⊢
                    by_cases e2 : e = c[k].from_.toNat
                    · rw [if_pos e2, e2, F.2.1]
                    · rw [if_neg e2] at h ⊢
                      exact (hL H).1.ev e he h
              · refine ⟨fun h => (by rw [a1] at h; cases h), fun _ H => a4 ?_⟩
                have F := free H
                have F2 := F.2.2 hto
                refine ⟨by omega, ?_⟩
                rw [getD_set2 (by omega), if_neg (by omega)]
                exact F2.1.2.2
            · have hto : c[k].to_ = -1 := by simpa using h
              have F := free H
              refine (key H).2 _ _ (by simpa using hu) (by simpa using ho) (fun e he => ?_) (fun e he h => ?_)
              · rw [getD_set2 (by omega)]
                by_cases e2 : e = c[k].from_.toNat
                · rw [if_pos e2]; exact ⟨fun _ => .inr (.inl (by omega)), fun _ => rfl⟩
                · rw [if_neg e2]; exact ⟨fun h => .inl h, fun h => h.resolve_right (by omega)⟩
              · rw [getD_set2 (by omega)] at h ⊢
                by_cases e2 : e = c[k].from_.toNat
                · rw [if_pos e2, e2, F.2.1]
                · rw [if_neg e2] at h ⊢
                  exact (hL H).1.ev e he h
          · rw [b1]
            exact .condF rfl (.one ⟨fun h => (by cases h), fun _ H => b4 (free H).1⟩)
        · simp only [List.length_set] at hj
          obtain ⟨op, W⟩ := H.wf
          have O := W.one k hk
          rw [getD_of hk] at O
          have hf : 1 ≤ tyF c[k].kind ∧ tyF c[k].kind ≤ 5 := by
            rw [O.fit.2, getD_of (by have := O.thing; omega)]
            exact H.tys.2.2 _ (List.getElem_mem _)
          rw [getD_set2 (by omega)]
          split
          · omega
          · rw [hT'.2 j hj]
            split
            · exact (hL H).2 j (by assumption)
            · exact ⟨by show (1 : Int) ≤ 1; decide, by show (1 : Int) ≤ 5; decide⟩
      · obtain ⟨op, W⟩ := H.wf
        have O := W.one k hk
        rw [getD_of hk] at O
        have := O.thing
        have := H.tys
        simp only [Bool.or_eq_true, Bool.and_eq_true, Bool.not_eq_true', Bool.not_eq_false', Bool.or_eq_false_iff, Bool.and_eq_false_imp, decide_eq_true_eq, decide_eq_false_iff_not, beq_iff_eq, not_or, Int.not_lt, Int.not_le, Bool.false_eq_true, not_false_eq_true, not_true_eq_false, Decidable.not_not] at *; omega
    · rintro ⟨T, out, used, v⟩ ⟨hv, ⟨hT, ho, hu⟩, hL⟩
      simp only at hv hT ho hu hL
      subst hv
      simp only [history_Events_L51]
      refine .condF (by simp) (.one ⟨⟨hT, ho⟩, fun H => ?_⟩)
      obtain ⟨hl1, hl2⟩ := hL H
      obtain ⟨op, W⟩ := H.wf
      exact ⟨hl1.ty, fun e he => hl1.ev e he ((hl1.us e he).2 (W.all e he)), hl2⟩
    · obtain ⟨⟨hT, ho⟩, hL⟩ := hs
      refine .seq (calls_wp (by omega)) fun r57 hr57 hc => ?_
      refine .seq (P := fun b => r57.2.2 = 0 → (b = true ↔ r57.1 = c)) (.cond (fun h => ?_) (fun h => .one fun h2 => by simp [h2] at h)) fun b _ hb => ?_
      · have h0 : r57.2.2 = 0 := by simpa using h
        have hH := (hc h0).1
        obtain ⟨op, W⟩ := hH.wf
        exact (eqCall_wp hN (by have := W.len; have := hH.len; omega)).mono fun b hb _ => hb
      have good : His N types l c → history_Calls N types l = some (c, 0, 0) → s.2 = l ∧ r57 = (c, 0, 0) := by
        intro H hC
        have h := hL H
        have he : s.2 = l := List.ext_getElem (by rw [ho]; exact hnl H) fun j h1 h2 => by
          have := h.2.1 j h2
          rw [getD_of h1, getD_of h2] at this
          exact this
        refine ⟨he, ?_⟩
        have := calls_cong (by omega) H hC hT h.2.2 h.1
        rw [he, this] at hr57
        exact (Option.some.inj hr57).symm
      refine .cond (fun h => .one ⟨⟨fun _ => rfl, fun h => by cases h⟩, fun H hC => ?_⟩) (fun h => .one ⟨⟨fun h => absurd rfl h, fun _ => ?_⟩, fun H hC => by rw [(good H hC).1]⟩)
      · have g := (good H hC).2
        have hb := (hb (by rw [g])).2 (by rw [g])
        rw [hb, g] at h
        simp at h
      · have h0 : r57.2.2 = 0 ∧ b = true := by simpa using h
        have he := (hb h0.1).1 h0.2
        have hH := hc h0.1
        refine ⟨s.1, by rw [← he]; exact hH.1, ?_⟩
        rw [hr57]
        obtain ⟨x, y, z⟩ := r57
        simp only at h0 he hH ⊢
        rw [he, hH.2, h0.1]
    · have hr : r = ([], 3) ∧ ¬ His N types l c := hr
      rw [hr.1]
      exact .one ⟨⟨fun _ => rfl, fun h => by cases h⟩, fun H => absurd H hr.2⟩
end Hs

end Go.Proofs.Ytooaoekfnmakhaa
