/- Plain laws of package agree: all decide the same. -/
import Derived.Test.YtglhflmecmidkaaL2
set_option linter.unusedVariables false
set_option linter.unusedSimpArgs false
set_option linter.unusedSectionVars false
set_option maxRecDepth 100000
namespace Go.Proofs.Ytglhflmecmidkaa
open Go.RowKit
theorem getD_set {xs : List Int} {j k : Nat} {v : Int} (h : j < xs.length) : (xs.set j v).getD k 0 = if k = j then v else xs.getD k 0 := by
  by_cases hk : k = j
  · subst hk; rw [if_pos rfl]; exact getD_set_same h
  · rw [if_neg hk]; exact getD_set_other hk
/-- The value of somebody of the list. -/
def Begun (vs ls : List Int) (v : Int) : Prop := ∃ z : Nat, z < vs.length ∧ (z : Int) ∈ ls ∧ vs.getD z 0 = v
structure InvC (vs ls : List Int) (s : Mac) : Prop where
  c1 : ∀ v, getZ s.places (-1) = some v → Begun vs ls v
  c2 : ∀ q, q < vs.length → s.step.getD q 0 ≠ 0 → (getZ s.places (-1)).isSome = true
  c3 : ∀ q, q < vs.length → s.out.getD q 0 ≠ -1 → getZ s.places (-1) = some (s.out.getD q 0)
structure InvN (vs ls : List Int) (s : Mac) : Prop where
  n1 : ∀ k v, getZ s.places k = some v → Begun vs ls v
  n2 : ∀ q, q < vs.length → s.out.getD q 0 ≠ -1 → Begun vs ls (s.out.getD q 0)
def Won (s : Mac) (w : Nat) : Prop := w < 2 ∧ s.step.getD w 0 = 2 ∧ s.x.getD w 0 = 0
structure InvT (vs ls : List Int) (s : Mac) : Prop where
  t0 : ∀ q, q < 2 → s.step.getD q 0 = 0 ∨ s.step.getD q 0 = 1 ∨ s.step.getD q 0 = 2
  t1 : ∀ q : Nat, q < 2 → s.step.getD q 0 ≠ 0 → getZ s.places (q : Int) = some (vs.getD q 0) ∧ Begun vs ls (vs.getD q 0)
  t2 : (s.count = 0 ∧ ∀ q, q < 2 → s.step.getD q 0 ≠ 2) ∨ (1 ≤ s.count ∧ ∃ w, Won s w ∧ ∀ q, q < 2 → q ≠ w → s.step.getD q 0 = 2 → s.x.getD q 0 ≠ 0)
  t3 : ∀ q, q < 2 → s.out.getD q 0 ≠ -1 → ∃ w, Won s w ∧ s.out.getD q 0 = vs.getD w 0
theorem stepC {vs ls : List Int} {s : Mac} {z : Nat} (h : InvC vs ls s) (hok : s.Ok vs.length) (hz : z < vs.length) (hb : (z : Int) ∈ ls) : InvC vs ls (stepF 1 vs s z) := by
  have hzo : z < s.out.length := by rw [hok.out]; exact hz
  have hzs : z < s.step.length := by rw [hok.step]; exact hz
  unfold stepF
  simp only [Int.toNat_natCast]
  split
  · rename_i ho
    simp only [turnF, if_neg (by decide : ¬ (1 : Int) = 2), if_neg (by decide : ¬ (1 : Int) = 3)]
    unfold casF
    by_cases hs : s.step.getD z 0 = 0
    · simp only [if_pos hs]
      by_cases hm : (getZ s.places (-1)).isSome = true
      · simp only [if_pos hm]
        exact ⟨h.c1, fun q hq _ => hm, h.c3⟩
      · simp only [if_neg hm]
        have hn : getZ s.places (-1) = none := by simpa using hm
        refine ⟨fun v hv => ?_, fun q hq _ => by simp [getZ_put], fun q hq hoq => ?_⟩
        · rw [getZ_put, if_pos rfl] at hv
          exact ⟨z, hz, hb, Option.some.inj hv⟩
        · have := h.c3 q hq hoq
          rw [hn] at this; cases this
    · simp only [if_neg hs]
      refine ⟨h.c1, h.c2, fun q hq hoq => ?_⟩
      simp only at hoq ⊢
      rw [getD_set hzo] at hoq ⊢
      split
      · obtain ⟨v, hv⟩ := Option.isSome_iff_exists.1 (h.c2 z hz hs)
        rw [hv]; rfl
      · rename_i hne
        rw [if_neg hne] at hoq
        exact h.c3 q hq hoq
  · exact h
theorem stepN {vs ls : List Int} {s : Mac} {z : Nat} (h : InvN vs ls s) (hok : s.Ok vs.length) (hz : z < vs.length) (hb : (z : Int) ∈ ls) : InvN vs ls (stepF 3 vs s z) := by
  have hzo : z < s.out.length := by rw [hok.out]; exact hz
  have hown : Begun vs ls (vs.getD z 0) := ⟨z, hz, hb, rfl⟩
  unfold stepF
  simp only [Int.toNat_natCast]
  split
  · simp only [turnF, if_neg (by decide : ¬ (3 : Int) = 2), if_true]
    unfold naiF ownF
    split
    · refine ⟨fun k v hv => ?_, h.n2⟩
      simp only at hv
      rw [getZ_put] at hv
      split at hv
      · cases hv; exact hown
      · exact h.n1 k v hv
    · refine ⟨h.n1, fun q hq hoq => ?_⟩
      simp only at hoq ⊢
      rw [getD_set hzo] at hoq ⊢
      split
      · cases hm : getZ s.places (1 - (z : Int)) with
        | none => exact hown
        | some v =>
          simp only
          rcases Int.le_total v (vs.getD z 0) with hle | hle
          · rw [Int.min_eq_left hle]; exact h.n1 _ _ hm
          · rw [Int.min_eq_right hle]; exact hown
      · rename_i hne
        rw [if_neg hne] at hoq
        exact h.n2 q hq hoq
  · exact h
theorem stepT {vs ls : List Int} {s : Mac} {z : Nat} (h : InvT vs ls s) (hok : s.Ok vs.length) (h2 : vs.length = 2) (hz : z < vs.length) (hb : (z : Int) ∈ ls) : InvT vs ls (stepF 2 vs s z) := by
  have hzo : z < s.out.length := by rw [hok.out]; exact hz
  have hzs : z < s.step.length := by rw [hok.step]; exact hz
  have hzx : z < s.x.length := by rw [hok.x]; exact hz
  unfold stepF
  simp only [Int.toNat_natCast]
  split
  · rename_i ho
    simp only [turnF, if_true]
    unfold ticF ownF
    by_cases hs : s.step.getD z 0 = 0
    · simp only [if_pos hs]
      have hw : ∀ w, Won s w → w ≠ z := fun w hw e => by have := hw.2.1; rw [e] at this; omega
      have hw' : ∀ w, Won s w → Won { s with places := putZ s.places z (vs.getD z 0), step := s.step.set z 1 } w := fun w h1 => ⟨h1.1, by simp only; rw [getD_set hzs, if_neg (hw w h1)]; exact h1.2.1, h1.2.2⟩
      refine ⟨fun q hq => ?_, fun q hq hsq => ?_, ?_, fun q hq hoq => ?_⟩
      · simp only; rw [getD_set hzs]; split
        · omega
        · exact h.t0 q hq
      · simp only at hsq ⊢
        rw [getD_set hzs] at hsq
        rw [getZ_put]
        by_cases hqz : q = z
        · subst hqz; rw [if_pos rfl]; exact ⟨rfl, q, hz, hb, rfl⟩
        · rw [if_neg hqz] at hsq; rw [if_neg (by omega)]; exact h.t1 q hq hsq
      · rcases h.t2 with ⟨h3, h4⟩ | ⟨h3, w, h4, h5⟩
        · refine .inl ⟨h3, fun q hq => ?_⟩
          simp only; rw [getD_set hzs]; split
          · omega
          · exact h4 q hq
        · refine .inr ⟨h3, w, hw' w h4, fun q hq hqw hsq => ?_⟩
          simp only at hsq ⊢
          rw [getD_set hzs] at hsq
          split at hsq
          · omega
          · exact h5 q hq hqw hsq
      · obtain ⟨w, h4, h5⟩ := h.t3 q hq hoq
        exact ⟨w, hw' w h4, h5⟩
    · simp only [if_neg hs]
      by_cases hs1 : s.step.getD z 0 = 1
      · simp only [if_pos hs1]
        have hw : ∀ w, Won s w → w ≠ z := fun w hw e => by have := hw.2.1; rw [e] at this; omega
        have hw' : ∀ w, Won s w → Won { s with x := s.x.set z s.count, count := s.count + 1, step := s.step.set z 2 } w := fun w h1 =>
          ⟨h1.1, by simp only; rw [getD_set hzs, if_neg (hw w h1)]; exact h1.2.1, by simp only; rw [getD_set hzx, if_neg (hw w h1)]; exact h1.2.2⟩
        refine ⟨fun q hq => ?_, fun q hq hsq => ?_, ?_, fun q hq hoq => ?_⟩
        · simp only; rw [getD_set hzs]; split
          · omega
          · exact h.t0 q hq
        · simp only at hsq ⊢
          rw [getD_set hzs] at hsq
          by_cases hqz : q = z
          · subst hqz; exact h.t1 q hq hs
          · rw [if_neg hqz] at hsq; exact h.t1 q hq hsq
        · right
          rcases h.t2 with ⟨h3, h4⟩ | ⟨h3, w, h4, h5⟩
          · refine ⟨by simp only; omega, z, ⟨by omega, by simp only; rw [getD_set hzs, if_pos rfl], by simp only; rw [getD_set hzx, if_pos rfl]; exact h3⟩, fun q hq hqz hsq => ?_⟩
            simp only at hsq
            rw [getD_set hzs, if_neg hqz] at hsq
            exact absurd hsq (h4 q hq)
          · refine ⟨by simp only; omega, w, hw' w h4, fun q hq hqw hsq => ?_⟩
            simp only at hsq ⊢
            rw [getD_set hzs] at hsq
            rw [getD_set hzx]
            by_cases hqz : q = z
            · rw [if_pos hqz]; omega
            · rw [if_neg hqz] at hsq ⊢; exact h5 q hq hqw hsq
        · obtain ⟨w, h4, h5⟩ := h.t3 q hq hoq
          exact ⟨w, hw' w h4, h5⟩
      · simp only [if_neg hs1]
        have hs2 : s.step.getD z 0 = 2 := by rcases h.t0 z (by omega) with h1 | h1 | h1 <;> omega
        by_cases hx : s.x.getD z 0 = 0
        · simp only [if_pos hx]
          refine ⟨h.t0, h.t1, h.t2, fun q hq hoq => ?_⟩
          simp only at hoq ⊢
          rw [getD_set hzo] at hoq ⊢
          by_cases hqz : q = z
          · rw [if_pos hqz]; exact ⟨z, ⟨by omega, hs2, hx⟩, rfl⟩
          · rw [if_neg hqz] at hoq ⊢; exact h.t3 q hq hoq
        · simp only [if_neg hx]
          refine ⟨h.t0, h.t1, h.t2, fun q hq hoq => ?_⟩
          simp only at hoq ⊢
          rw [getD_set hzo] at hoq ⊢
          by_cases hqz : q = z
          · rw [if_pos hqz]
            rcases h.t2 with ⟨h3, h4⟩ | ⟨h3, w, h4, h5⟩
            · exact absurd hs2 (h4 z (by omega))
            · have hwz : w ≠ z := fun e => hx (e ▸ h4.2.2)
              have hw1 := h4.1
              have h6 := (h.t1 w h4.1 (by rw [h4.2.1]; decide)).1
              refine ⟨w, h4, ?_⟩
              rw [show 1 - (z : Int) = w by omega, h6]; rfl
          · rw [if_neg hqz] at hoq ⊢; exact h.t3 q hq hoq
  · exact h
theorem invs {algo : Int} {vs ls : List Int} (h : checkF algo vs ls = 0) (Inv : Mac → Prop) (h0 : Inv (initF vs.length)) (hs : ∀ s (z : Nat), Inv s → s.Ok vs.length → z < vs.length → (z : Int) ∈ ls → Inv (stepF algo vs s z)) : ∀ q, q ≤ ls.length → Inv (runF algo vs ls q) := by
  obtain ⟨hn1, hn8, hl, hall⟩ := check_zero h
  intro q
  induction q with
  | zero => intro _; simpa [runF] using h0
  | succ q ih =>
    intro hq
    have hqq := hall q (by omega)
    obtain ⟨z, hz⟩ : ∃ z : Nat, ls[q]'(by omega) = z := ⟨(ls[q]'(by omega)).toNat, by omega⟩
    rw [runF_succ (by omega), hz]
    exact hs _ z (ih (by omega)) (run_ok hn8 (by omega) hl) (by omega) (hz ▸ List.getElem_mem _)
theorem init_out {m q : Nat} (h : q < m) : (initF m).out.getD q 0 = -1 := by simp [initF, h]
theorem init_step {m q : Nat} (h : q < m) : (initF m).step.getD q 0 = 0 := by simp [initF, h]
/-- Who decides has the value of somebody who has begun; and but by the naive one all have the same. -/
theorem same1 {algo : Int} {vs ls : List Int} (h : checkF algo vs ls = 0) {k : Nat} (hk : k < vs.length) (hx : (playF algo vs ls).getD k 0 ≠ -1) : Begun vs ls ((playF algo vs ls).getD k 0) := by
  obtain ⟨hv, hal⟩ := vs_ge h
  rw [playF_eq] at hx ⊢
  rcases hal with rfl | ⟨rfl, h2⟩ | ⟨rfl, h2⟩
  · have := invs h (InvC vs ls) ⟨fun v hv => by simp [initF, getZ] at hv, fun q hq hs => absurd (init_step hq) hs, fun q hq ho => absurd (init_out hq) ho⟩ (fun s z h1 h2 h3 h4 => stepC h1 h2 h3 h4) ls.length (Nat.le_refl _)
    exact this.c1 _ (this.c3 k hk hx)
  · have := invs h (InvT vs ls) ⟨fun q hq => .inl (init_step (by omega)), fun q hq hs => absurd (init_step (by omega)) hs, .inl ⟨rfl, fun q hq => by rw [init_step (by omega)]; decide⟩, fun q hq ho => absurd (init_out (by omega)) ho⟩ (fun s z h1 h3 h4 h5 => stepT h1 h3 h2 h4 h5) ls.length (Nat.le_refl _)
    obtain ⟨w, h3, h4⟩ := this.t3 k (by omega) hx
    rw [h4]
    exact (this.t1 w h3.1 (by rw [h3.2.1]; decide)).2
  · have := invs h (InvN vs ls) ⟨fun k v hv => by simp [initF, getZ] at hv, fun q hq ho => absurd (init_out hq) ho⟩ (fun s z h1 h2 h3 h4 => stepN h1 h2 h3 h4) ls.length (Nat.le_refl _)
    exact this.n2 k hk hx
theorem same2 {algo : Int} {vs ls : List Int} (h : checkF algo vs ls = 0) (h3 : algo ≠ 3) {j k : Nat} (hj : j < vs.length) (hk : k < vs.length) (hy : (playF algo vs ls).getD j 0 ≠ -1) (hx : (playF algo vs ls).getD k 0 ≠ -1) : (playF algo vs ls).getD j 0 = (playF algo vs ls).getD k 0 := by
  obtain ⟨hv, hal⟩ := vs_ge h
  rw [playF_eq] at hx hy ⊢
  rcases hal with rfl | ⟨rfl, h2⟩ | ⟨rfl, h2⟩
  · have := invs h (InvC vs ls) ⟨fun v hv => by simp [initF, getZ] at hv, fun q hq hs => absurd (init_step hq) hs, fun q hq ho => absurd (init_out hq) ho⟩ (fun s z h1 h2 h3 h4 => stepC h1 h2 h3 h4) ls.length (Nat.le_refl _)
    exact Option.some.inj ((this.c3 j hj hy).symm.trans (this.c3 k hk hx))
  · have := invs h (InvT vs ls) ⟨fun q hq => .inl (init_step (by omega)), fun q hq hs => absurd (init_step (by omega)) hs, .inl ⟨rfl, fun q hq => by rw [init_step (by omega)]; decide⟩, fun q hq ho => absurd (init_out (by omega)) ho⟩ (fun s z h1 h3 h4 h5 => stepT h1 h3 h2 h4 h5) ls.length (Nat.le_refl _)
    obtain ⟨u, h5, h6⟩ := this.t3 j (by omega) hy
    obtain ⟨w, h7, h8⟩ := this.t3 k (by omega) hx
    rcases this.t2 with ⟨h9, h10⟩ | ⟨h9, q, h10, h11⟩
    · exact absurd h5.2.1 (h10 u h5.1)
    · have e1 : u = q := Decidable.byContradiction fun hne => h11 u h5.1 hne h5.2.1 h5.2.2
      have e2 : w = q := Decidable.byContradiction fun hne => h11 w h7.1 hne h7.2.1 h7.2.2
      rw [h6, h8, e1, e2]
  · exact absurd rfl h3

end Go.Proofs.Ytglhflmecmidkaa
