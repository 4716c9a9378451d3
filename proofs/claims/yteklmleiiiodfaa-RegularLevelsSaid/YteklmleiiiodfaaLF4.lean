/- Levels, plainly. -/
import Derived.Test.YteklmleiiiodfaaLF3
set_option linter.unusedVariables false
set_option linter.unusedSimpArgs false
set_option linter.unusedSectionVars false
set_option maxRecDepth 100000
namespace Go.Proofs.Yteklmleiiiodfaa
open Go.RowKit
namespace Rg
open Hs
theorem nat_ext {s t : List Nat} (hs : s.Pairwise (· < ·)) (ht : t.Pairwise (· < ·)) (h : ∀ x, x ∈ s ↔ x ∈ t) : s = t := by
  refine List.Perm.eq_of_pairwise (le := (· < ·)) (fun a b _ _ h1 h2 => by omega) hs ht ((List.perm_ext_iff_of_nodup ?_ ?_).2 h)
  · exact hs.imp fun h => by omega
  · exact ht.imp fun h => by omega
theorem map_getD_range (c : List Call) : (List.range c.length).map (fun i => c.getD i Call.z) = c := by
  apply List.ext_getElem
  · simp
  · intro i h1 h2
    rw [List.getElem_map, List.getElem_range, getD_of h2]
theorem ws_range (c : List Call) (s : List Nat) : ws (s.map fun i => c.getD i Call.z) = (s.filter fun i => decide ((c.getD i Call.z).kind = 1)).map fun i => c.getD i Call.z := by
  unfold ws
  rw [List.filter_map]
  rfl
theorem prec_bf {c : List Call} {i j : Nat} (hi : i < c.length) (hj : j < c.length) : bfA c i j = true ↔ prec (c.getD i Call.z) (c.getD j Call.z) := by
  unfold bfA prec
  rw [decide_eq_true_eq]
  exact ⟨fun h => h.2.2, fun h => ⟨hi, hj, h⟩⟩
theorem tr_cut {N : Nat} {types : List Int} {c d : List Call} {op op' : List Int} {idx pos : List Nat} {p : List Event} {k n F : Nat} (P : SubH N types (fun f => decide (f ≠ (F : Int))) p k c d op op' idx pos)
    (Knf : ∀ i j, i < c.length → j < c.length → (c.getD i Call.z).from_ = (c.getD j Call.z).from_ → i = j) (hn : n < c.length) (hF : (c.getD n Call.z).from_ = F) (hk : (c.getD n Call.z).kind ≠ 1) : Tr c d fun j => idx.getD j 0 := by
  have hil := P.ilen
  have hlt : ∀ i, i < d.length → idx.getD i 0 < c.length := fun i hi => P.ilt _ (mem_getD (by omega))
  have hmem : ∀ x, x ∈ idx ↔ x ∈ (List.range c.length).filter fun i => decide (i ≠ n) := by
    intro x
    rw [List.mem_filter, List.mem_range, decide_eq_true_eq]
    have key : ∀ x, x < c.length → (x ∈ idx ↔ x ≠ n) := fun x hx => by
      rw [P.cov x hx]
      show decide ((c.getD x Call.z).from_ ≠ (F : Int)) = true ↔ _
      rw [decide_eq_true_eq]
      constructor
      · intro h e; subst e; exact h hF
      · intro h e; exact h (Knf x n hx hn (by rw [e, hF]))
    exact ⟨fun h => ⟨P.ilt x h, (key x (P.ilt x h)).1 h⟩, fun ⟨h1, h2⟩ => (key x h1).2 h2⟩
  have hidx : idx = (List.range c.length).filter fun i => decide (i ≠ n) := nat_ext P.iinc (List.pairwise_lt_range.sublist List.filter_sublist) hmem
  have hws : ws (idx.map fun i => c.getD i Call.z) = ws c := by
    have e : ws c = ws ((List.range c.length).map fun i => c.getD i Call.z) := by rw [map_getD_range]
    rw [e, ws_range, ws_range, hidx, List.filter_filter]
    congr 1
    refine List.filter_congr fun x hx => ?_
    by_cases h : x = n
    · subst h
      rw [decide_eq_false hk]; rfl
    · rw [decide_eq_true h, Bool.and_true]
  have hget : ∀ i, i < d.length → (idx.map fun i => c.getD i Call.z).getD i Call.z = c.getD (idx.getD i 0) Call.z := fun i hi => by
    rw [getD_of (by rw [List.length_map]; omega), List.getElem_map, getD_of (l := idx) (d := 0) (by omega)]
  obtain ⟨w1, w2, w3⟩ := ws_corr (a := d) (c := idx.map fun i => c.getD i Call.z) (by rw [List.length_map]; omega) fun i hi => by rw [hget i hi]; exact (P.one i hi).kind
  rw [hws] at w1 w2 w3
  refine ⟨hlt, fun i hi => (P.one i hi).kind, fun i hi => (P.one i hi).arg, fun i hi h => ?_, fun i j hi hj => ?_, w1, fun p hp => ?_, fun p i g1 g2 hi h => ?_⟩
  · have O := P.one i hi
    refine ⟨?_, O.res.symm⟩
    rcases O.to with ⟨_, g⟩ | ⟨_, _, g⟩
    · exact (h g).elim
    · show (c.getD (idx.getD i 0) Call.z).to_ ≠ -1
      rw [g]; omega
  · rw [← prec_bf hi hj, ← prec_bf (hlt i hi) (hlt j hj), P.bef hi hj]
  · obtain ⟨i, hi, e1, e2⟩ := w2 p hp
    exact ⟨i, hi, e1, by rw [e2, hget i hi]⟩
  · obtain ⟨q, q1, q2, _⟩ := w3 p g1 g2
    rw [List.length_map] at q2
    omega
theorem level3 {N : Nat} (hN : 5000 < N) {l : List Event} {c : List Call} (hc : history_Calls N [1] l = some (c, 0, 0)) (hlen : c.length ≤ 200) : Wp (regular_Check N l) fun r => (r.2 = 6 ∧ ¬ Lin (ws c)) ∨ (r.2 = 0 ∧ Lin (ws c) ∧ Lvl c r.1) := by
  have hwl : (ws c).length ≤ 200 := by
    have := List.length_filter_le (fun x : Call => decide (x.kind = 1)) c
    show (List.filter _ c).length ≤ 200
    omega
  unfold regular_Check
  refine .seq (read_wp (by omega) hc fun _ => hlen) fun r _ hr => ?_
  rcases hr with ⟨h, rfl⟩ | ⟨h, hL, rfl⟩ | ⟨_, hnL, rfl⟩
  · exact (h rfl).elim
  · refine .condF rfl (.seq (P := fun v => ∃ t, Tn c (ws c) t ∧ v = if t.2.2 = true then (2 : Int) else 3) (.ck rfl (.seq (turned_wp (by omega) hlen hwl) fun t _ ht => .cond (fun h => .one ⟨t, ht, by rw [if_pos h]⟩) fun h => .one ⟨t, ht, by rw [if_neg (by rw [h]; decide)]⟩)) fun v _ ⟨t, ht, hv⟩ => ?_)
    have hrl := rdk_len c (ws c) c.length
    have hv2 : v = 2 ∨ v = 3 := by rw [hv]; split <;> simp
    obtain ⟨L, hLd⟩ : ∃ L, rdk c (ws c) c.length = L := ⟨_, rfl⟩
    rw [hLd] at hrl
    have hgm : ∀ j, j < L.length → L.getD j RegularJudged.z ∈ L := fun j hj => by rw [getD_of hj]; exact List.getElem_mem hj
    have hSR : ∀ j, j < L.length → (L.getD j RegularJudged.z).regular = true → (L.getD j RegularJudged.z).safe = true := fun j hj h => by
      have hm := hgm j hj
      rw [← hLd] at hm
      obtain ⟨i, _, _, e⟩ := rdk_mem.1 hm
      rw [hLd] at e
      rw [e] at h ⊢
      exact safe_iff.2 (.inl h)
    refine .seq (P := fun x => ((∃ j, j < L.length ∧ (L.getD j RegularJudged.z).safe = false) ∧ x = 0) ∨ ((∀ j, j < L.length → (L.getD j RegularJudged.z).safe = true) ∧ (∃ j, j < L.length ∧ (L.getD j RegularJudged.z).regular = false) ∧ x = 1) ∨ ((∀ j, j < L.length → (L.getD j RegularJudged.z).safe = true) ∧ (∀ j, j < L.length → (L.getD j RegularJudged.z).regular = true) ∧ x = v)) (.bdO ((reads_ok (by omega) hlen hwl).trans (by rw [hLd])) ?_) fun x _ hx => .one (.inr ⟨rfl, hL, ?_⟩)
    · refine .iter L.length (fun k st => st.2 = (k : Int) ∧ (((∃ j, j < k ∧ (L.getD j RegularJudged.z).safe = false) ∧ st.1 = 0) ∨ ((∀ j, j < k → (L.getD j RegularJudged.z).safe = true) ∧ (∃ j, j < k ∧ (L.getD j RegularJudged.z).regular = false) ∧ st.1 = 1) ∨ ((∀ j, j < k → (L.getD j RegularJudged.z).safe = true) ∧ (∀ j, j < k → (L.getD j RegularJudged.z).regular = true) ∧ st.1 = v))) (by omega) ⟨rfl, .inr (.inr ⟨fun j h => absurd h (Nat.not_lt_zero _), fun j h => absurd h (Nat.not_lt_zero _), rfl⟩)⟩ ?_ ?_
      · rintro k ⟨x, u⟩ hk ⟨hu, hI⟩
        dsimp only at hu hI
        subst hu
        simp only [regular_Check_L3]
        refine .condT (decide_eq_true (by omega)) (.ixD RegularJudged.z (by omega) (by omega) ?_)
        simp only [Int.toNat_natCast]
        have ext : ∀ {q : Nat → Prop}, (∀ j, j < k → q j) → q k → ∀ j, j < k + 1 → q j := fun h1 h2 j hj => by
          rcases Nat.lt_or_ge j k with g | g
          · exact h1 j g
          · obtain rfl : j = k := by omega
            exact h2
        refine .cond (fun hg => .ck64 (by omega) (.one ⟨by simp, .inl ⟨⟨k, by omega, by simpa using hg⟩, rfl⟩⟩)) fun hg => .cond (fun hr => .ck64 (by omega) (.one ⟨by simp, ?_⟩)) fun hr => .ck64 (by omega) (.one ⟨by simp, ?_⟩)
        · have hg : (L.getD k RegularJudged.z).safe = true := by simpa using hg
          have hr : (L.getD k RegularJudged.z).regular = false := by simpa using hr
          show _ ∨ _ ∨ _
          rcases hI with ⟨⟨j, hj, h1⟩, h2⟩ | ⟨h1, _, h2⟩ | ⟨h1, _, h2⟩
          · exact .inl ⟨⟨j, by omega, h1⟩, by show min x 1 = 0; omega⟩
          · exact .inr (.inl ⟨ext h1 hg, ⟨k, by omega, hr⟩, by show min x 1 = 1; omega⟩)
          · exact .inr (.inl ⟨ext h1 hg, ⟨k, by omega, hr⟩, by show min x 1 = 1; omega⟩)
        · have hg : (L.getD k RegularJudged.z).safe = true := by simpa using hg
          have hr : (L.getD k RegularJudged.z).regular = true := by simpa using hr
          show _ ∨ _ ∨ _
          rcases hI with ⟨⟨j, hj, h1⟩, h2⟩ | ⟨h1, ⟨j, hj, h3⟩, h2⟩ | ⟨h1, h3, h2⟩
          · exact .inl ⟨⟨j, by omega, h1⟩, h2⟩
          · exact .inr (.inl ⟨ext h1 hg, ⟨j, by omega, h3⟩, h2⟩)
          · exact .inr (.inr ⟨ext h1 hg, ext h3 hr, h2⟩)
      · rintro ⟨x, u⟩ ⟨hu, hI⟩
        dsimp only at hu hI
        subst hu
        simp only [regular_Check_L3]
        exact .condF (decide_eq_false (by omega)) (.one hI)
    · show Lvl c x
      have back : ∀ i, i < c.length → isRead (c.getD i Call.z) → ∃ j, j < L.length ∧ L.getD j RegularJudged.z = judge (ws c) (c.getD i Call.z) (i : Int) := fun i hi ri => by
        have hm : judge (ws c) (c.getD i Call.z) (i : Int) ∈ L := by rw [← hLd]; exact rdk_mem.2 ⟨i, hi, ri, rfl⟩
        obtain ⟨j, hj, e⟩ := List.getElem_of_mem hm
        exact ⟨j, hj, by rw [getD_of hj]; exact e⟩
      have forth : ∀ j, j < L.length → ∃ i, i < c.length ∧ isRead (c.getD i Call.z) ∧ L.getD j RegularJudged.z = judge (ws c) (c.getD i Call.z) (i : Int) := fun j hj => by
        have hm := hgm j hj
        rw [← hLd] at hm
        obtain ⟨i, h1, h2, e⟩ := rdk_mem.1 hm
        rw [hLd] at e
        exact ⟨i, h1, h2, e⟩
      have hsf : Sf c ↔ ∀ j, j < L.length → (L.getD j RegularJudged.z).safe = true := by
        constructor
        · intro h j hj
          obtain ⟨i, h1, h2, e⟩ := forth j hj
          rw [e]; exact h i h1 h2
        · intro h i hi ri
          obtain ⟨j, hj, e⟩ := back i hi ri
          rw [← e]; exact h j hj
      have hrg : Rgl c ↔ ∀ j, j < L.length → (L.getD j RegularJudged.z).regular = true := by
        constructor
        · intro h j hj
          obtain ⟨i, h1, h2, e⟩ := forth j hj
          rw [e]; exact h i h1 h2
        · intro h i hi ri
          obtain ⟨j, hj, e⟩ := back i hi ri
          rw [← e]; exact h j hj
      unfold Lvl
      rw [hsf, hrg]
      rcases hx with ⟨⟨j, hj, h1⟩, h2⟩ | ⟨h1, ⟨j, hj, h3⟩, h2⟩ | ⟨h1, h3, h2⟩
      · exact .inl ⟨fun h => (by rw [h j hj] at h1; cases h1), h2⟩
      · exact .inr (.inl ⟨h1, fun h => (by rw [h j hj] at h3; cases h3), h2⟩)
      · have hreg := hrg.2 h3
        rcases ht with ⟨ht, hno⟩ | ⟨i, j, ht, hi, hj, ri, rj, gi, gj, hp, hlt⟩
        · have : t.2.2 = false := congrArg (fun x => x.2.2) ht
          rw [if_neg (by rw [this]; decide)] at hv
          exact .inr (.inr (.inr ⟨h1, h3, ⟨hreg, fun i j hi hj ri rj hp hlt => hno i j hi hj ri rj (hreg i hi ri) (hreg j hj rj) ⟨hp, hlt⟩⟩, by rw [h2, hv]⟩))
        · have h4 : t.2.2 = true := congrArg (fun x => x.2.2) ht
          rw [if_pos h4] at hv
          exact .inr (.inr (.inl ⟨h1, h3, fun Lc => Lc.tn i j hi hj ri rj hp hlt, by rw [h2, hv]⟩))
  · exact .condT rfl (.one (.inl ⟨rfl, hnL⟩))
end Rg

end Go.Proofs.Yteklmleiiiodfaa
