/- What events know: the code. -/
import Derived.Test.YtooaoekfnmakhaaC4
set_option linter.unusedVariables false
set_option linter.unusedSimpArgs false
set_option linter.unusedSectionVars false
set_option maxRecDepth 100000
namespace Go.Proofs.Ytooaoekfnmakhaa
open Go.RowKit
namespace Ck
theorem mkB_len {b n : Nat} (h : b * n ≤ 140737488355328) (h1 : n ≤ 140737488355328) : mkB b (n : Int) = true := mkB_of (Int.natCast_nonneg _) (by simpa using h) (by simpa using h1)
theorem join_wp {N : Nat} {v w : List Int} (hN : 300 < N) : Wp (clocks_vector_join N v w) fun r => ∀ k, k < 8 → r.getD k 0 = max (v.getD k 0) (w.getD k 0) := by
  unfold clocks_vector_join
  refine .seq (P := fun r => ∀ k, k < 8 → r.getD k 0 = max (v.getD k 0) (w.getD k 0)) (.iter 8 (fun k st => st.2 = (k : Int) ∧ ∀ j, j < 8 → st.1.getD j 0 = if j < k then max (v.getD j 0) (w.getD j 0) else v.getD j 0) (by omega) ⟨rfl, fun j _ => by simp⟩ ?_ ?_) fun r _ h => .one h
  · rintro k ⟨r, i⟩ hk ⟨hi, hr⟩
    simp only at hi hr
    subst hi
    simp only [clocks_vector_join_L3]
    refine .condT (decide_eq_true (by omega)) (.axN hk (.axN hk (.axN hk (.ck64 (by omega) (.one ⟨by simp, fun j hj => ?_⟩)))))
    rw [setA_get hj]
    have hrk := hr k hk
    rw [if_neg (Nat.lt_irrefl _)] at hrk
    by_cases h : j = k
    · subst h; rw [if_pos (by simp), if_pos (by omega), hrk]
    · rw [if_neg (by simpa using h), hr j hj]
      by_cases h2 : j < k
      · rw [if_pos h2, if_pos (by omega)]
      · rw [if_neg h2, if_neg (by omega)]
  · rintro ⟨r, i⟩ ⟨hi, hr⟩
    simp only at hi hr
    subst hi
    simp only [clocks_vector_join_L3]
    refine .condF (by simp) (.one fun j hj => ?_)
    rw [hr j hj, if_pos hj]
def wF (l : List Mark) (i : Nat) : Nat := (l.getD i Mark.z).who.toNat
def gF (l : List Mark) (i : Nat) : Bool := decide ((l.getD i Mark.z).kind = 2)
def sF (l : List Mark) (m : List (Int × Int)) (i : Nat) : Nat := ((mget m (l.getD i Mark.z).letter).getD 0).toNat
def oF (out : List (List Int)) (i k : Nat) : Int := (out.getD i []).getD k 0
theorem getD_set' {α : Type} {l : List α} {i j : Nat} {v d : α} (h : i < l.length) : (l.set i v).getD j d = if j = i then v else l.getD j d := by
  simp only [List.getD_eq_getElem?_getD, List.getElem?_set, h, if_true]
  by_cases hj : i = j
  · subst hj; simp
  · rw [if_neg hj, if_neg (fun e => hj e.symm)]
theorem oF_set {out : List (List Int)} {k : Nat} {v : List Int} (h : k < out.length) (i x : Nat) : oF (out.set k v) i x = if i = k then v.getD x 0 else oF out i x := by
  unfold oF
  rw [getD_set' h]
  split <;> rfl
theorem Kn.next {n : Nat} {w : Nat → Nat} {g : Nat → Bool} {s : Nat → Nat} {o o' : Nat → Nat → Int} (K : Kn n w g s o) (h : ∀ i, i < n → ∀ x, o' i x = o i x) (hw : w n < 8) (hs : g n = true → s n < n)
    (he : ∀ k, k < 8 → o' n k = (if k = w n then 1 else 0) + max (pvo w o n (w n) k) (if g n = true then o (s n) k else pvo w o n (w n) k)) : Kn (n + 1) w g s o' := by
  refine ⟨fun i hi => ?_, fun i hi hg => ?_, fun i hi k hk => ?_⟩
  · rcases Nat.lt_or_ge i n with h1 | h1
    · exact K.w8 i h1
    · obtain rfl : i = n := by omega
      exact hw
  · rcases Nat.lt_or_ge i n with h1 | h1
    · exact K.sl i h1 hg
    · obtain rfl : i = n := by omega
      exact hs hg
  · rcases Nat.lt_or_ge i n with h1 | h1
    · rw [h i h1, K.eq i h1 k hk, pvo_cong (o := o') (o' := o) (fun j hj => h j (by omega) k)]
      congr 2
      split
      · rename_i hg; rw [h _ (by have := K.sl i h1 hg; omega)]
      · rfl
    · obtain rfl : i = n := by omega
      rw [he k hk, pvo_cong (o := o') (o' := o) (fun j hj => h j (by omega) k)]
      congr 2
      split
      · rename_i hg; rw [h _ (hs hg)]
      · rfl
theorem knows_wp {N : Nat} {l : List Mark} {S : List (Int × Int) × Int × Int} (hN : 300 < N) (R : Rt N l S) : Wp (clocks_knows N l) fun out => out.length = l.length ∧ Kn l.length (wF l) (gF l) (sF l S.1) (oF out) := by
  have hle := R.le
  unfold clocks_knows
  refine .bdO R.run (.ck (mkB_len (by omega) (by omega)) ?_)
  refine .seq (P := fun out => out.length = l.length ∧ Kn l.length (wF l) (gF l) (sF l S.1) (oF out)) (.iter l.length (fun k st => st.2.2 = (k : Int) ∧ st.2.1.length = l.length ∧ Kn k (wF l) (gF l) (sF l S.1) (oF st.2.1) ∧ ∀ c, c < 8 → ∀ x, x < 8 → (st.1.getD c []).getD x 0 = pvo (wF l) (oF st.2.1) k c x) (by omega) ⟨rfl, by simp, ⟨fun i h => absurd h (Nat.not_lt_zero _), fun i h => absurd h (Nat.not_lt_zero _), fun i h => absurd h (Nat.not_lt_zero _)⟩, fun c _ x _ => rfl⟩ ?_ ?_) fun r _ h => .one h
  · rintro k ⟨last, out, v⟩ hk ⟨hv, hlen, K, hlast⟩
    simp only at hv hlen K hlast
    subst hv
    simp only [clocks_knows_L3]
    have hr := R.right k hk hk
    have hwk : wF l k = l[k].who.toNat := by unfold wF; rw [getD_of hk]
    have hgk : gF l k = decide (l[k].kind = 2) := by unfold gF; rw [getD_of hk]
    have hsk : sF l S.1 k = ((mget S.1 l[k].letter).getD 0).toNat := by unfold sF; rw [getD_of hk]
    have hw8 : wF l k < 8 := by omega
    have hs : gF l k = true → 0 ≤ (mget S.1 l[k].letter).getD 0 ∧ sF l S.1 k < k := by
      intro hg
      obtain ⟨i, hi, he⟩ := hr.2.2 (by simpa [hgk] using hg)
      rw [hsk, he]
      simp [hi]
    refine .condT (by simpa using hk) (.ix hk (.ax hr.1 hr.2.1 ?_))
    refine .seq (P := fun v => ∀ x, x < 8 → v.getD x 0 = max (pvo (wF l) (oF out) k (wF l k) x) (if gF l k = true then oF out (sF l S.1 k) x else pvo (wF l) (oF out) k (wF l k) x)) ?_ ?_
    · refine .cond (fun c => ?_) (fun c => ?_)
      · have hg : gF l k = true := hgk.trans c
        have h1 := hs hg
        refine .ixD [] h1.1 (by have := h1.2; rw [hsk] at this; omega) (.seq (join_wp hN) fun r _ h => .one fun x hx => ?_)
        rw [h x hx, if_pos hg, ← hwk, hlast _ hw8 x hx, ← hsk]
        rfl
      · have hg : ¬ gF l k = true := by rw [hgk, c]; simp
        refine .one fun x hx => ?_
        rw [if_neg hg, ← hwk, hlast _ hw8 x hx, Int.max_self]
    · intro v _ hv
      have hv0 : ∀ x, x < 8 → 0 ≤ v.getD x 0 ∧ v.getD x 0 ≤ k := by
        intro x hx
        have h1 : 0 ≤ pvo (wF l) (oF out) k (wF l k) x ∧ pvo (wF l) (oF out) k (wF l k) x ≤ k := by
          refine ⟨K.pnonneg (Nat.le_refl _) hx, ?_⟩
          unfold pvo
          cases hl : lastOf (wF l) k (wF l k) with
          | none => simp
          | some j => have h2 := last_lt hl; have h3 := K.nonneg j h2.1 x hx; simp only; omega
        rw [hv x hx]
        by_cases hg : gF l k = true
        · rw [if_pos hg]
          have h2 := hs hg
          have h3 := K.nonneg _ h2.2 x hx
          omega
        · rw [if_neg hg]; omega
      have e1 : l[k].who = (wF l k : Int) := by omega
      have h1 := hv0 _ hw8
      refine .ax hr.1 hr.2.1 ?_
      simp only [e1, Int.toNat_natCast]
      refine .ck64 (by omega) (.axN hw8 (.ix (by omega) (.axN hw8 (.ck64 (by omega) (.one ?_)))))
      have hrow : ∀ x, x < 8 → (setA 8 0 v (wF l k : Int) (v.getD (wF l k) 0 + 1)).getD x 0 = (if x = wF l k then 1 else 0) + v.getD x 0 := by
        intro x hx
        rw [setA_get hx]
        simp only [Int.toNat_natCast]
        by_cases h : x = wF l k
        · subst h; rw [if_pos rfl, if_pos rfl]; omega
        · rw [if_neg h, if_neg h]; omega
      have hk' : k < out.length := by omega
      have hoth : ∀ i, i < k → ∀ x, oF (out.set k (setA 8 0 v (wF l k : Int) (v.getD (wF l k) 0 + 1))) i x = oF out i x := fun i hi x => by rw [oF_set hk', if_neg (by omega)]
      refine ⟨by simp, by simpa using hlen, K.next hoth hw8 (fun hg => (hs hg).2) (fun x hx => ?_), fun c hc x hx => ?_⟩
      · simp only [Int.toNat_natCast]
        rw [oF_set hk', if_pos rfl, hrow x hx, hv x hx]
      · simp only [Int.toNat_natCast]
        rw [setA_get hc, pvo_next]
        simp only [Int.toNat_natCast]
        by_cases h : c = wF l k
        · subst h
          rw [if_pos rfl, if_pos rfl, oF_set hk', if_pos rfl]
        · rw [if_neg h, if_neg (fun e => h e.symm), hlast c hc x hx, pvo_cong (fun j hj => (hoth j hj x).symm)]
  · rintro ⟨last, out, v⟩ ⟨hv, hlen, K, hlast⟩
    simp only at hv hlen K hlast
    subst hv
    simp only [clocks_knows_L3]
    exact .condF (by simp) (.one ⟨hlen, K⟩)
/-- Right marks, and what they know. -/
structure Gd (N : Nat) (l : List Mark) (S : List (Int × Int) × Int × Int) (out : List (List Int)) : Prop extends Rt N l S where
  know : clocks_knows N l = some out
  chk : ∃ a, clocks_Check N l = some (a, 0)
  len : out.length = l.length
  kn : Kn l.length (wF l) (gF l) (sF l S.1) (oF out)
theorem two {N : Nat} (l : List Mark) (hN : 300 < N) : (∃ S out, Gd N l S out) ∨ ∃ a e, clocks_Check N l = some (a, e) ∧ e ≠ 0 := by
  obtain ⟨⟨a, e⟩, h1, h2⟩ := check_wp (l := l) hN
  by_cases he : e = 0
  · subst he
    obtain ⟨S, hS⟩ := h2 rfl
    obtain ⟨out, h3, h4, h5⟩ := knows_wp hN hS
    exact .inl ⟨S, out, ⟨hS, h3, ⟨a, h1⟩, h4, h5⟩⟩
  · exact .inr ⟨a, e, h1, he⟩
theorem gd_who {N : Nat} {l : List Mark} {S : List (Int × Int) × Int × Int} {out : List (List Int)} (G : Gd N l S out) {k : Nat} (hk : k < l.length) : l[k].who = (wF l k : Int) ∧ wF l k < 8 := by
  have := G.right k hk hk
  have hwk : wF l k = l[k].who.toNat := by unfold wF; rw [getD_of hk]
  omega
theorem knowsAll_good {N : Nat} {l : List Mark} {S : List (Int × Int) × Int × Int} {out : List (List Int)} (hN : 300 < N) (G : Gd N l S out) : clocks_Knows N l = some (out.map (arrL 8 0), 0) := by
  refine Wp.eq ?_
  unfold clocks_Knows
  obtain ⟨a, hc⟩ := G.chk
  have hle := G.le
  have hlen := G.len
  refine .bdO hc (.condF rfl (.seq (P := fun r => r = out.map (arrL 8 0)) (.bdO G.know ?_) fun r _ h => .one (by rw [h])))
  refine .iter out.length (fun k st => st.2 = (k : Int) ∧ st.1 = (out.take k).map (arrL 8 0)) (by omega) ⟨rfl, rfl⟩ ?_ ?_
  · rintro k ⟨o, v⟩ hk ⟨hv, ho⟩
    simp only at hv ho
    subst hv ho
    simp only [clocks_Knows_L3]
    refine .condT (by simpa using hk) (.ix hk (.ck (limB_of ⟨by rw [lenL]; decide, by rw [lenL]; decide⟩) (.ck (limB_of ?_) (.ck64 (by omega) (.one ⟨by simp, ?_⟩)))))
    · simp only [List.length_map, List.length_take, List.length_singleton]; exact ⟨Nat.le_trans (m := 300) (by omega) (by decide), by omega⟩
    · simp only; rw [List.take_succ_eq_append_getElem hk, List.map_append]; rfl
  · rintro ⟨o, v⟩ ⟨hv, ho⟩
    simp only at hv ho
    subst hv ho
    simp only [clocks_Knows_L3]
    exact .condF (by simp) (.one (by rw [List.take_length]))
theorem knowsAll_bad {N : Nat} {l : List Mark} {a x : Int} (hc : clocks_Check N l = some (a, x)) (hx : x ≠ 0) : clocks_Knows N l = some ([], x) := by
  unfold clocks_Knows
  rw [bd_of hc]
  exact cond_of (by simpa using hx)
theorem knowsAll_wp {N : Nat} {l : List Mark} (hN : 300 < N) : Wp (clocks_Knows N l) fun r => (r.2 = 0 → ∃ S out, Gd N l S out ∧ r.1 = out.map (arrL 8 0)) ∧ (r.2 ≠ 0 → r.1 = []) := by
  rcases two l hN with ⟨S, out, G⟩ | ⟨a, e, hc, he⟩
  · exact .of (knowsAll_good hN G) ⟨fun _ => ⟨S, out, G, rfl⟩, fun h => absurd rfl h⟩
  · exact .of (knowsAll_bad hc he) ⟨fun h => absurd h he, fun _ => rfl⟩
end Ck

end Go.Proofs.Ytooaoekfnmakhaa
