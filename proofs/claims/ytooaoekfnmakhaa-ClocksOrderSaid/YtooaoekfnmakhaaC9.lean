/- Before and Times: the code. -/
import Derived.Test.YtooaoekfnmakhaaC2
import Derived.Test.YtooaoekfnmakhaaC7
set_option linter.unusedVariables false
set_option linter.unusedSimpArgs false
set_option linter.unusedSectionVars false
set_option maxRecDepth 100000
namespace Go.Proofs.Ytooaoekfnmakhaa
open Go.RowKit
namespace Ck
/-- Ahead of it. -/
def bfB (l : List Mark) (out : List (List Int)) (i j : Nat) : Bool := decide (i < l.length ∧ j < l.length ∧ i ≠ j ∧ oF out i (wF l i) ≤ oF out j (wF l i))
theorem before_wp {N : Nat} {l : List Mark} {S : List (Int × Int) × Int × Int} {out : List (List Int)} (hN : 300 < N) (G : Gd N l S out) (h12 : l.length ≤ 12) :
    Wp (clocks_Before N l) fun r => r.1 = l.length ∧ r.2.2 = 0 ∧ ∀ i, i < 12 → Row (r.2.1.getD i 0) (bfB l out i) := by
  obtain ⟨a, hc⟩ := G.chk
  have hlen := G.len
  unfold clocks_Before
  refine .bdO hc (.condF rfl (.condF (decide_eq_false (by omega)) (.bdO G.know ?_)))
  refine .seq (P := fun A => ∀ i, i < 12 → Row (A.getD i 0) (bfB l out i)) (.iter l.length (fun k st => st.2 = (k : Int) ∧ ∀ i, i < 12 → Row (st.1.getD i 0) fun j => decide (i < k) && bfB l out i j) (by omega) ⟨rfl, fun i _ => Row.zero.cong fun j => by simp⟩ ?_ ?_) fun A _ hA => .one ⟨rfl, rfl, hA⟩
  · rintro k ⟨A, v⟩ hk ⟨hv, hA⟩
    simp only at hv hA
    subst hv
    simp only [clocks_Before_L25]
    have hw := gd_who G hk
    refine .condT (decide_eq_true (by omega)) ?_
    refine .seq (P := fun A' => ∀ i, i < 12 → Row (A'.getD i 0) fun j => decide (i < k + 1) && bfB l out i j) (.bd (.ixV hk ?_)) fun A' _ hA' => .ck64 (by omega) (.one ⟨by simp, hA'⟩)
    refine .iter l.length (fun q st => st.2 = (q : Int) ∧ ∀ i, i < 12 → Row (st.1.getD i 0) fun j => (decide (i < k) && bfB l out i j) || (decide (i = k) && decide (j < q) && bfB l out i j)) (by omega) ⟨rfl, fun i hi => (hA i hi).cong fun j => by simp⟩ ?_ ?_
    · rintro q ⟨B, v⟩ hq ⟨hv, hB⟩
      simp only at hv hB
      subst hv
      simp only [clocks_Before_L27, hw.1]
      refine .condT (decide_eq_true (by omega)) (.gix [] (fun _ => by omega) fun x1 h1 => .gax (fun _ => by omega) fun x2 h2 => .gix [] (fun _ => by omega) fun x3 h3 => .gax (fun _ => by omega) fun x4 h4 => ?_)
      have hbit : ((!(decide ((k : Int) = (q : Int)))) && (decide (x4 ≤ x2))) = bfB l out k q := by
        unfold bfB
        by_cases hkq : k = q
        · subst hkq; simp
        · have hg : ((!(decide ((k : Int) = (q : Int)))) == true) = true := by simp; omega
          rw [h4 hg, h3 hg, h2 hg, h1 hg]
          simp only [Int.toNat_natCast]
          rw [show (!(decide ((k : Int) = (q : Int)))) = true by simp; omega, Bool.true_and]
          exact decide_eq_decide.2 ⟨fun h => ⟨hk, hq, hkq, h⟩, fun h => h.2.2.2⟩
      rw [hbit]
      have other : ∀ (i j : Nat), ¬ (i = k ∧ j = q ∧ bfB l out k q = true) → ((decide (i < k) && bfB l out i j) || (decide (i = k) && decide (j < q) && bfB l out i j)) = ((decide (i < k) && bfB l out i j) || (decide (i = k) && decide (j < q + 1) && bfB l out i j)) := by
        intro i j h
        congr 1
        by_cases hi : i = k
        · subst hi
          by_cases hj : j = q
          · subst hj
            have : bfB l out i j = false := by cases hb : bfB l out i j with
              | false => rfl
              | true => exact absurd ⟨rfl, rfl, hb⟩ h
            simp [this]
          · congr 1
            congr 1
            exact decide_eq_decide.2 (by omega)
        · simp [hi]
      refine .cond (fun hb => .axN (by omega) (.axN (by omega) (.ck64 (by omega) (.one ⟨by simp, fun i hi => ?_⟩)))) (fun hb => .ck64 (by omega) (.one ⟨by simp, fun i hi => (hB i hi).cong fun j => other i j fun h => by rw [hb] at h; simp at h⟩))
      simp only
      rw [setA_get hi]
      simp only [Int.toNat_natCast]
      by_cases h : i = k
      · subst h
        rw [if_pos rfl]
        refine ((hB i hi).set (j := q) (by omega)).cong fun j => ?_
        by_cases hj : j = q
        · subst hj; simp [hb]
        · rw [← other i j (fun h => hj h.2.1), show decide (q = j) = false from decide_eq_false (fun e => hj e.symm), Bool.or_false]
      · rw [if_neg h]
        exact (hB i hi).cong fun j => other i j fun hh => h hh.1
    · rintro ⟨B, v⟩ ⟨hv, hB⟩
      simp only at hv hB
      subst hv
      simp only [clocks_Before_L27]
      refine .condF (by simp) (.one fun i hi => (hB i hi).cong fun j => ?_)
      by_cases h : i = k
      · subst h
        by_cases hj : j < l.length
        · simp [hj]
        · have : bfB l out i j = false := decide_eq_false (fun h => hj h.2.1)
          simp [this]
      · rw [decide_eq_false h, Bool.false_and, Bool.false_and, Bool.or_false]
        congr 1
        exact decide_eq_decide.2 (by omega)
  · rintro ⟨B, v⟩ ⟨hv, hB⟩
    simp only at hv hB
    subst hv
    simp only [clocks_Before_L25]
    refine .condF (by simp) (.one fun i hi => (hB i hi).cong fun j => ?_)
    by_cases h : i < l.length
    · simp [h]
    · have : bfB l out i j = false := decide_eq_false (fun hh => h hh.1)
      simp [this]
theorem before_large {N : Nat} {l : List Mark} {S : List (Int × Int) × Int × Int} {out : List (List Int)} (G : Gd N l S out) (h12 : ¬ l.length ≤ 12) : clocks_Before N l = some (0, [], 2) := by
  obtain ⟨a, hc⟩ := G.chk
  unfold clocks_Before
  rw [bd_of hc]
  exact (cond_no rfl).trans (cond_of (decide_eq_true (by omega)))
theorem before_bad {N : Nat} {l : List Mark} {a x : Int} (hc : clocks_Check N l = some (a, x)) (hx : x ≠ 0) : clocks_Before N l = some (0, [], x) := by
  unfold clocks_Before
  rw [bd_of hc]
  exact cond_of (by simpa using hx)
def tF (out : List Int) (i : Nat) : Int := out.getD i 0
theorem times_wp {N : Nat} {l : List Mark} {S : List (Int × Int) × Int × Int} {out : List (List Int)} (hN : 300 < N) (G : Gd N l S out) :
    Wp (clocks_Times N l) fun r => r.2 = 0 ∧ r.1.length = l.length ∧ (∀ i, i < l.length → ∀ j, lastOf (wF l) i (wF l i) = some j → tF r.1 j < tF r.1 i) ∧ ∀ i, i < l.length → gF l i = true → tF r.1 (sF l S.1 i) < tF r.1 i := by
  obtain ⟨a, hc⟩ := G.chk
  have hle := G.le
  have K := G.kn
  unfold clocks_Times
  refine .bdO hc (.condF rfl (.bdO G.run (.ck (mkB_len (by omega) (by omega)) ?_)))
  refine .seq (P := fun T => T.length = l.length ∧ (∀ i, i < l.length → ∀ j, lastOf (wF l) i (wF l i) = some j → tF T j < tF T i) ∧ ∀ i, i < l.length → gF l i = true → tF T (sF l S.1 i) < tF T i)
    (.iter l.length (fun k st => st.2.2 = (k : Int) ∧ (st.2.1.length = l.length ∧ ∀ i, i < k → 0 ≤ tF st.2.1 i ∧ tF st.2.1 i ≤ i + 1) ∧ (∀ c, c < 8 → st.1.getD c 0 = pvo (wF l) (fun i _ => tF st.2.1 i) k c 0) ∧ (∀ i, i < k → ∀ j, lastOf (wF l) i (wF l i) = some j → tF st.2.1 j < tF st.2.1 i) ∧ ∀ i, i < k → gF l i = true → tF st.2.1 (sF l S.1 i) < tF st.2.1 i) (by omega)
      ⟨rfl, ⟨by simp, fun i h => absurd h (Nat.not_lt_zero _)⟩, fun c _ => rfl, fun i h => absurd h (Nat.not_lt_zero _), fun i h => absurd h (Nat.not_lt_zero _)⟩ ?_ ?_) fun T _ hT => .one ⟨rfl, hT.1, hT.2.1, hT.2.2⟩
  · rintro k ⟨last, T, v⟩ hk ⟨hv, ⟨hlen, hb⟩, hlast, h1, h2⟩
    simp only at hv hlen hb hlast h1 h2
    subst hv
    simp only [clocks_Times_L3]
    have hw := gd_who G hk
    have hr := G.right k hk hk
    have hgk : gF l k = decide (l[k].kind = 2) := by unfold gF; rw [getD_of hk]
    have hsk : sF l S.1 k = ((mget S.1 l[k].letter).getD 0).toNat := by unfold sF; rw [getD_of hk]
    have hs : gF l k = true → 0 ≤ (mget S.1 l[k].letter).getD 0 ∧ sF l S.1 k < k := by
      intro hg
      obtain ⟨i, hi, he⟩ := hr.2.2 (by simpa [hgk] using hg)
      rw [hsk, he]
      simp [hi]
    have hp : 0 ≤ pvo (wF l) (fun i _ => tF T i) k (wF l k) 0 ∧ pvo (wF l) (fun i _ => tF T i) k (wF l k) 0 ≤ k := by
      unfold pvo
      cases hl : lastOf (wF l) k (wF l k) with
      | none => simp
      | some j => have h3 := last_lt hl; have h4 := hb j h3.1; simp only; omega
    refine .condT (decide_eq_true (by omega)) (.ix hk ?_)
    simp only [hw.1]
    refine .axN hw.2 ?_
    refine .seq (P := fun x : Int => 0 ≤ x ∧ x ≤ k ∧ pvo (wF l) (fun i _ => tF T i) k (wF l k) 0 ≤ x ∧ (gF l k = true → tF T (sF l S.1 k) ≤ x)) ?_ fun x _ hx => ?_
    · rw [hlast _ hw.2]
      refine .cond (fun c => ?_) (fun c => .one ⟨hp.1, hp.2, Int.le_refl _, fun hg => ?_⟩)
      · have h3 := hs (hgk.trans c)
        have h4 := hb _ h3.2
        refine .ixD 0 h3.1 (by have := h3.2; rw [hsk] at this; omega) (.one ?_)
        rw [← hsk]
        have e : T.getD (sF l S.1 k) 0 = tF T (sF l S.1 k) := rfl
        rw [e]
        refine ⟨by omega, by omega, by omega, fun _ => by omega⟩
      · rw [hgk, c] at hg; cases hg
    · refine .ck64 (by omega) (.ix (by omega) (.ck64 (by omega) (.axN hw.2 (.ck64 (by omega) (.one ?_)))))
      simp only [Int.toNat_natCast]
      have ht : ∀ i, tF (T.set k (x + 1)) i = if i = k then x + 1 else tF T i := fun i => getD_set' (by omega)
      have hpk : ∀ j, lastOf (wF l) k (wF l k) = some j → tF T j ≤ x := by
        intro j hj
        have := hx.2.2.1
        simp only [pvo, hj] at this
        exact this
      refine ⟨by simp, ⟨by simpa using hlen, fun i hi => ?_⟩, fun c hc => ?_, fun i hi j hj => ?_, fun i hi hg => ?_⟩
      · rw [ht]
        split
        · omega
        · exact hb i (by omega)
      · rw [setA_get hc, pvo_next]
        simp only [Int.toNat_natCast]
        by_cases h : c = wF l k
        · subst h; rw [if_pos rfl, if_pos rfl, ht, if_pos rfl]
        · rw [if_neg h, if_neg (fun e => h e.symm), hlast c hc]
          exact pvo_cong fun j hj => by rw [ht, if_neg (by omega)]
      · have h3 := (last_lt hj).1
        rw [ht, ht, if_neg (by omega)]
        split
        · subst i; have := hpk j hj; omega
        · exact h1 i (by omega) j hj
      · have h3 : sF l S.1 i < i := K.sl i (by omega) hg
        rw [ht, ht, if_neg (by omega)]
        split
        · subst i; have := hx.2.2.2 hg; omega
        · exact h2 i (by omega) hg
  · rintro ⟨last, T, v⟩ ⟨hv, ⟨hlen, hb⟩, hlast, h1, h2⟩
    simp only at hv hlen hb hlast h1 h2
    subst hv
    simp only [clocks_Times_L3]
    exact .condF (by simp) (.one ⟨hlen, h1, h2⟩)
theorem times_bad {N : Nat} {l : List Mark} {a x : Int} (hc : clocks_Check N l = some (a, x)) (hx : x ≠ 0) : clocks_Times N l = some ([], x) := by
  unfold clocks_Times
  rw [bd_of hc]
  exact cond_of (by simpa using hx)
end Ck

end Go.Proofs.Ytooaoekfnmakhaa
