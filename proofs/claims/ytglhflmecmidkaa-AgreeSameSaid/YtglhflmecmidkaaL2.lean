/- Plain laws of package agree: nobody waits. -/
import Derived.Test.YtglhflmecmidkaaL1
set_option linter.unusedVariables false
set_option linter.unusedSimpArgs false
set_option linter.unusedSectionVars false
set_option maxRecDepth 100000
namespace Go.Proofs.Ytglhflmecmidkaa
open Go.RowKit
theorem getD_set_same {xs : List Int} {k : Nat} {v : Int} (h : k < xs.length) : (xs.set k v).getD k 0 = v := by simp [h]
theorem getD_set_other {xs : List Int} {j k : Nat} {v : Int} (h : k ≠ j) : (xs.set j v).getD k 0 = xs.getD k 0 := by simp [List.getElem?_set_ne (Ne.symm h)]
theorem getZ_put (l : List (Int × Int)) (k v j : Int) : getZ (putZ l k v) j = if j = k then some v else getZ l j := by
  induction l with
  | nil => simp only [putZ, getZ]; split <;> split <;> first | rfl | omega
  | cons p l ih =>
    obtain ⟨a, u⟩ := p
    simp only [putZ]
    by_cases h : a = k
    · subst h; simp only [if_true, getZ]; split <;> split <;> first | rfl | omega
    · simp only [if_neg h, getZ, ih]
      by_cases h1 : a = j
      · subst h1; simp [h]
      · simp [h1]
/-- What is so of a machine under way: 'c': how often each one has had a turn. -/
structure Way (algo : Int) (vs : List Int) (s : Mac) (c : Nat → Nat) : Prop where
  pl : ∀ k v, getZ s.places k = some v → 0 ≤ v
  un : ∀ w, w < vs.length → s.out.getD w 0 < 0 → s.out.getD w 0 = -1 ∧ s.step.getD w 0 = c w ∧ c w ≤ 2 ∧ (algo ≠ 2 → c w ≤ 1)
theorem turn_other {algo : Int} {vs : List Int} {s : Mac} {q w : Nat} (h : w ≠ q) : (turnF algo vs s q).out.getD w 0 = s.out.getD w 0 ∧ (turnF algo vs s q).step.getD w 0 = s.step.getD w 0 := by
  unfold turnF ticF naiF casF ownF
  repeat' split
  all_goals simp only [getD_set_other h, and_self]
theorem way_step {algo : Int} {vs : List Int} {s : Mac} {c : Nat → Nat} {q : Nat} (h : Way algo vs s c) (hok : s.Ok vs.length) (hq : q < vs.length) (hvs : ∀ k (hk : k < vs.length), 0 ≤ vs[k]) (hal : algo = 1 ∨ algo = 2 ∨ algo = 3) :
    Way algo vs (stepF algo vs s q) (fun w => if w = q then c w + 1 else c w) := by
  have hqo : q < s.out.length := by rw [hok.out]; exact hq
  have hqs : q < s.step.length := by rw [hok.step]; exact hq
  have hqx : q < s.x.length := by rw [hok.x]; exact hq
  have hvq := hvs q hq
  have hvd : vs.getD q 0 = vs[q] := getD_get hq
  unfold stepF
  simp only [Int.toNat_natCast]
  by_cases ho : s.out.getD q 0 < 0
  · rw [if_pos ho]
    obtain ⟨h1, h2, h3, h4⟩ := h.un q hq ho
    have pl0 : ∀ k, 0 ≤ (getZ s.places k).getD 0 := by
      intro k
      cases hk : getZ s.places k with
      | none => simp
      | some v => simpa using h.pl k v hk
    have own_pl : ∀ k v, getZ (putZ s.places q (vs.getD q 0)) k = some v → 0 ≤ v := by
      intro k v hk
      rw [getZ_put, hvd] at hk
      split at hk
      · cases hk; exact hvq
      · exact h.pl k v hk
    have other : ∀ w, w < vs.length → w ≠ q → (turnF algo vs s q).out.getD w 0 < 0 → (turnF algo vs s q).out.getD w 0 = -1 ∧ (turnF algo vs s q).step.getD w 0 = (if w = q then c w + 1 else c w : Nat) ∧ (if w = q then c w + 1 else c w) ≤ 2 ∧ (algo ≠ 2 → (if w = q then c w + 1 else c w) ≤ 1) := by
      intro w hw hwq hlt
      obtain ⟨e1, e2⟩ := turn_other (algo := algo) (vs := vs) (s := s) hwq
      rw [e1] at hlt ⊢
      rw [e2, if_neg hwq]
      exact h.un w hw hlt
    refine ⟨?_, fun w hw hlt => ?_⟩
    · unfold turnF ticF naiF casF ownF
      intro k v hk
      rcases hal with rfl | rfl | rfl
      · simp only [if_neg (by decide : ¬ (1 : Int) = 2), if_neg (by decide : ¬ (1 : Int) = 3)] at hk
        split at hk
        · simp only at hk
          split at hk
          · exact h.pl k v hk
          · rw [getZ_put, hvd] at hk
            split at hk
            · cases hk; exact hvq
            · exact h.pl k v hk
        · exact h.pl k v hk
      · simp only [if_true] at hk
        split at hk
        · exact own_pl k v hk
        · split at hk
          · exact h.pl k v hk
          · split at hk <;> exact h.pl k v hk
      · simp only [if_neg (by decide : ¬ (3 : Int) = 2), if_true] at hk
        split at hk
        · exact own_pl k v hk
        · exact h.pl k v hk
    · by_cases hwq : w = q
      · subst hwq
        simp only [if_true]
        rcases hal with rfl | rfl | rfl
        · simp only [turnF, if_neg (by decide : ¬ (1 : Int) = 2), if_neg (by decide : ¬ (1 : Int) = 3)] at hlt ⊢
          unfold casF at hlt ⊢
          by_cases hs : s.step.getD w 0 = 0
          · simp only [if_pos hs] at hlt ⊢
            rw [getD_set_same hqs]
            refine ⟨h1, by omega, by omega, fun _ => by omega⟩
          · simp only [if_neg hs] at hlt
            rw [getD_set_same hqo] at hlt
            have := pl0 (-1); omega
        · simp only [turnF, if_true] at hlt ⊢
          unfold ticF ownF at hlt ⊢
          by_cases hs : s.step.getD w 0 = 0
          · simp only [if_pos hs] at hlt ⊢
            rw [getD_set_same hqs]
            exact ⟨h1, by omega, by omega, fun h => absurd rfl h⟩
          · simp only [if_neg hs] at hlt ⊢
            by_cases hs1 : s.step.getD w 0 = 1
            · simp only [if_pos hs1] at hlt ⊢
              rw [getD_set_same hqs]
              exact ⟨h1, by omega, by omega, fun h => absurd rfl h⟩
            · simp only [if_neg hs1] at hlt
              split at hlt
              · simp only at hlt
                rw [getD_set_same hqo] at hlt; omega
              · simp only at hlt
                rw [getD_set_same hqo] at hlt
                have := pl0 (1 - (w : Int)); omega
        · simp only [turnF, if_neg (by decide : ¬ (3 : Int) = 2), if_true] at hlt ⊢
          unfold naiF ownF at hlt ⊢
          by_cases hs : s.step.getD w 0 = 0
          · simp only [if_pos hs] at hlt ⊢
            rw [getD_set_same hqs]
            refine ⟨h1, by omega, by omega, fun _ => by omega⟩
          · simp only [if_neg hs] at hlt
            rw [getD_set_same hqo] at hlt
            cases hz : getZ s.places (1 - (w : Int)) with
            | none => rw [hz] at hlt; simp only at hlt; omega
            | some v => rw [hz] at hlt; simp only at hlt; have := h.pl _ _ hz; omega
      · exact other w hw hwq hlt
  · rw [if_neg ho]
    refine ⟨h.pl, fun w hw hlt => ?_⟩
    have hwq : w ≠ q := fun e => ho (e ▸ hlt)
    rw [if_neg hwq]
    exact h.un w hw hlt
def cnt (ls : List Int) (q w : Nat) : Nat := (ls.take q).count (w : Int)
theorem cnt_succ {ls : List Int} {q : Nat} (h : q < ls.length) (w : Nat) : cnt ls (q + 1) w = if ls[q] = (w : Int) then cnt ls q w + 1 else cnt ls q w := by
  unfold cnt
  rw [List.take_succ_eq_append_getElem h, List.count_append]
  by_cases hc : ls[q] = (w : Int)
  · simp [hc]
  · simp [hc]
theorem ways {algo : Int} {vs ls : List Int} (h : checkF algo vs ls = 0) : ∀ q, q ≤ ls.length → Way algo vs (runF algo vs ls q) (cnt ls q) := by
  obtain ⟨hn1, hn8, hl, hall⟩ := check_zero h
  obtain ⟨hv, hal⟩ := vs_ge h
  intro q
  induction q with
  | zero =>
    intro _
    refine ⟨fun k v hk => by simp [runF, initF, getZ] at hk, fun w hw _ => ?_⟩
    simp [runF, initF, hw, cnt]
  | succ q ih =>
    intro hq
    have h1 := ih (by omega)
    have hqq := hall q (by omega)
    obtain ⟨z, hz⟩ : ∃ z : Nat, ls[q]'(by omega) = z := ⟨(ls[q]'(by omega)).toNat, by omega⟩
    rw [runF_succ (by omega), hz]
    have h2 := way_step (q := z) h1 (run_ok hn8 (by omega) hl) (by omega) (fun k hk => (hv k hk).1) (by omega)
    refine ⟨h2.pl, fun w hw hlt => ?_⟩
    have h3 := h2.un w hw hlt
    rw [cnt_succ (by omega), hz]
    by_cases hwz : w = z
    · subst hwz; simpa using h3
    · rw [if_neg hwz] at h3
      rw [if_neg (by omega)]
      exact h3
theorem stays {algo : Int} {vs ls : List Int} (h : checkF algo vs ls = 0) {w : Nat} (q : Nat) (h0 : 0 ≤ (runF algo vs ls q).out.getD w 0) : ∀ d, q + d ≤ ls.length → (runF algo vs ls (q + d)).out.getD w 0 = (runF algo vs ls q).out.getD w 0 := by
  obtain ⟨hn1, hn8, hl, hall⟩ := check_zero h
  intro d
  induction d with
  | zero => intro _; rfl
  | succ d ih =>
    intro hd
    have h1 := ih (by omega)
    rw [← Nat.add_assoc, runF_succ (by omega), ← h1]
    unfold stepF
    split
    · rename_i hlt
      have hqq := hall (q + d) (by omega)
      refine (turn_other (fun e => ?_)).1
      rw [← e, h1] at hlt; omega
    · rfl
theorem check_take {algo : Int} {vs ls : List Int} (h : checkF algo vs ls = 0) (n : Nat) : checkF algo vs (ls.take n) = 0 := by
  obtain ⟨hn1, hn8, hl, hall⟩ := check_zero h
  unfold checkF at h ⊢
  split at h
  · omega
  · rename_i h1
    rw [if_neg h1]
    split at h
    · omega
    · rename_i h2
      rw [if_neg h2, if_neg (by simp; omega), if_neg]
      simp only [List.any_eq_true, Bool.or_eq_true, decide_eq_true_eq, not_exists, not_and]
      intro x hx
      obtain ⟨i, hi, rfl⟩ := List.getElem_of_mem (List.mem_of_mem_take hx)
      have := hall i hi
      omega
theorem play_take {algo : Int} {vs ls : List Int} (n : Nat) : playF algo vs (ls.take n) = (runF algo vs ls n).out := rfl
/-- Nobody waits for anybody. -/
theorem free1 {algo : Int} {vs ls : List Int} (h : checkF algo vs ls = 0) {k : Nat} (hk : k < vs.length) (hc : 3 ≤ ls.count (k : Int)) : (playF algo vs ls).getD k 0 ≠ -1 := by
  intro he
  rw [playF_eq] at he
  have h1 := (ways h ls.length (Nat.le_refl _)).un k hk (by omega)
  have : cnt ls ls.length k = ls.count (k : Int) := by unfold cnt; rw [List.take_length]
  omega
/-- What was decided stays. -/
theorem free2 {algo : Int} {vs ls : List Int} (h : checkF algo vs ls = 0) {k n : Nat} (hk : k < vs.length) (hn : n ≤ ls.length) (hc : (playF algo vs (ls.take n)).getD k 0 ≠ -1) : (playF algo vs (ls.take n)).getD k 0 = (playF algo vs ls).getD k 0 := by
  rw [play_take] at hc ⊢
  rw [playF_eq]
  have h0 : 0 ≤ (runF algo vs ls n).out.getD k 0 := by
    rcases Int.lt_or_le ((runF algo vs ls n).out.getD k 0) 0 with hlt | hge
    · exact absurd ((ways h n hn).un k hk hlt).1 hc
    · exact hge
  have := stays h n h0 (ls.length - n) (by omega)
  rw [show n + (ls.length - n) = ls.length by omega] at this
  exact this.symm

end Go.Proofs.Ytglhflmecmidkaa
