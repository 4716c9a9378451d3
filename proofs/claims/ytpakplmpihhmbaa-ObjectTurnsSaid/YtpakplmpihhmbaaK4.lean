/- ObjectTurns, plainly. -/
import Derived.Test.YtpakplmpihhmbaaK3
set_option linter.unusedVariables false
set_option linter.unusedSimpArgs false
set_option linter.unusedSectionVars false
set_option maxRecDepth 100000
namespace Go.Proofs.Ytpakplmpihhmbaa
open Go.RowKit
namespace Ob
/-- What a step does to a set: who is in it behind. -/
def inn (kind arg : Int) (P : Int → Prop) (x : Int) : Prop := if kind = 7 then x = arg ∨ P x else if kind = 8 then x ≠ arg ∧ P x else P x
open Classical in
noncomputable def ans (kind arg : Int) (P : Int → Prop) : Int := if kind = 7 then (if P arg then 0 else 1) else (if P arg then 1 else 0)
theorem set_step {s : List Int} {kind arg : Int} (hO : OkS 4 s) (hA : Asked 4 kind arg) {n : List Int} {res : Int} (h : stp 4 s kind arg = some (n, res)) :
    (∀ x, x ∈ n ↔ inn kind arg (· ∈ s) x) ∧ res = ans kind arg (· ∈ s) := by
  obtain ⟨hl, hs⟩ : s.length ≤ 50 ∧ Inc s := by
    rcases hO with ⟨h, _⟩ | ⟨h, _⟩ | ⟨_, h1, _, h2⟩
    · omega
    · omega
    · exact ⟨h1, h2⟩
  have hinv := tyK_inv hA.2.1 hA.1
  unfold stp at h
  rw [if_neg (by decide), if_neg (by decide), if_neg (by decide), if_neg (by decide)] at h
  unfold inn ans
  by_cases h7 : kind = 7
  · subst h7
    rw [if_pos rfl] at h
    by_cases hm : arg ∈ s
    · rw [if_pos hm] at h
      cases h
      refine ⟨fun x => ?_, ?_⟩
      · rw [if_pos rfl]
        exact ⟨.inr, fun h => h.elim (fun e => e ▸ hm) id⟩
      · rw [if_pos rfl, if_pos hm]
    · rw [if_neg hm] at h
      split at h
      · cases h
      · obtain ⟨rfl, rfl⟩ : ins s arg = n ∧ 1 = res := by simpa [ins] using h
        exact ⟨fun x => by rw [if_pos rfl]; exact ins_mem, by rw [if_pos rfl, if_neg hm]⟩
  · rw [if_neg h7] at h
    by_cases h8 : kind = 8
    · subst h8
      rw [if_pos rfl] at h
      by_cases hm : arg ∈ s
      · rw [if_pos hm] at h
        obtain ⟨rfl, rfl⟩ : del s arg = n ∧ 1 = res := by simpa [del] using h
        exact ⟨fun x => by rw [if_neg (by decide), if_pos rfl]; exact del_mem (by omega) hs hm, by rw [if_neg (by decide), if_pos hm]⟩
      · rw [if_neg hm] at h
        cases h
        refine ⟨fun x => ?_, ?_⟩
        · rw [if_neg (by decide), if_pos rfl]
          exact ⟨fun h => ⟨fun e => hm (e ▸ h), h⟩, fun h => h.2⟩
        · rw [if_neg (by decide), if_neg hm]
    · rw [if_neg h8] at h
      cases h
      refine ⟨fun x => ?_, ?_⟩
      · rw [if_neg h7, if_neg h8]
      · rw [if_neg h7]
        by_cases hm : arg ∈ s
        · rw [if_pos hm, if_pos hm]
        · rw [if_neg hm, if_neg hm]
theorem ok2 {N : Nat} (hN : 300 < N) (a b : Int) : alibkeep_ok N [a, b] = some (decide (a = 0 ∧ b = 0)) := by
  obtain ⟨M, rfl⟩ : ∃ M, N = M + 3 := ⟨N - 3, by omega⟩
  by_cases h1 : a = 0
  · subst h1
    by_cases h2 : b = 0
    · subst h2; rfl
    · have : decide ((0 : Int) = 0 ∧ b = 0) = false := decide_eq_false fun h => h2 h.2
      rw [this]
      simp [alibkeep_ok, alibkeep_ok_L3, iter, bd, ix, ck, ok64, h2]
  · have : decide (a = 0 ∧ b = 0) = false := decide_eq_false fun h => h1 h.1
    rw [this]
    simp [alibkeep_ok, alibkeep_ok_L3, iter, bd, ix, ck, ok64, h1]
theorem turnsLaw {N : Nat} (hN : 300 < N) (hL : alibkeep_objectLives N = some true) (s : List Int) (a b : Do) : alibkeep_ObjectTurns N s a b = some true := by
  refine Wp.eq ?_
  unfold alibkeep_ObjectTurns
  refine .bdO hL ?_
  obtain ⟨e, he, hc⟩ := check_wp hN 4 s
  refine .gd e (fun _ => he) fun e' he' => .cond (fun _ => .bdO hL (.one rfl)) fun hg => ?_
  simp only [Bool.or_eq_false_iff, Bool.not_true, Bool.false_or, Bool.not_eq_false', decide_eq_true_eq, decide_eq_false_iff_not] at hg
  obtain ⟨⟨hg1, hg2⟩, _⟩ := hg
  have hab : a.arg ≠ b.arg ∨ (a.kind = 9 ∧ b.kind = 9) := by
    by_cases h : a.arg = b.arg
    · right
      rw [decide_eq_true h, Bool.true_and] at hg1
      simpa using hg1
    · exact .inl h
  have hO : OkS 4 s := by
    have := he' (by simp only [Bool.not_true, Bool.false_or, hg1]; rfl)
    rcases hc with ⟨_, h⟩ | ⟨h, _⟩
    · exact h
    · exact (h (this ▸ hg2)).elim
  obtain ⟨r1, q1, h1⟩ := step_eq hN 4 s a.kind a.arg
  obtain ⟨r2, q2, h2⟩ := step_eq hN 4 r1.1 b.kind b.arg
  obtain ⟨r3, q3, h3⟩ := step_eq hN 4 s b.kind b.arg
  obtain ⟨r4, q4, h4⟩ := step_eq hN 4 r3.1 a.kind a.arg
  refine .bdO q1 (.bdO q2 (.bdO q3 (.bdO q4 ?_)))
  refine .seq (P := fun v => v = false → (r1.2.2 = 0 ∧ r2.2.2 = 0) ∧ r3.2.2 = 0 ∧ r4.2.2 = 0) (.bdO (ok2 hN _ _) (.cond (fun h => .bdO (ok2 hN _ _) (.one fun hv => ?_)) fun h => .one fun hv => ?_)) fun v _ hv => .cond (fun _ => .one rfl) fun hvf => ?_
  · simpa using hv
  · rw [Bool.or_false] at hv
    rw [hv] at h
    cases h
  obtain ⟨⟨z1, z2⟩, z3, z4⟩ := hv hvf
  have zr : ∀ {s : List Int} {k x : Int} {r : List Int × Int × Int}, St 4 s k x r → r.2.2 = 0 → OkS 4 s ∧ Asked 4 k x ∧ stp 4 s k x = some (r.1, r.2.1) := by
    intro s k x r h hz
    rcases h with ⟨hO, hA, ⟨n, res, h, rfl⟩ | ⟨_, rfl⟩⟩ | ⟨_, e, he, rfl⟩
    · exact ⟨hO, hA, h⟩
    · cases hz
    · exact (he hz).elim
  obtain ⟨_, A1, s1⟩ := zr h1 z1
  obtain ⟨O2, A2, s2⟩ := zr h2 z2
  obtain ⟨_, A3, s3⟩ := zr h3 z3
  obtain ⟨O4, A4, s4⟩ := zr h4 z4
  obtain ⟨m1, a1⟩ := set_step hO A1 s1
  obtain ⟨m2, a2⟩ := set_step O2 A2 s2
  obtain ⟨m3, a3⟩ := set_step hO A3 s3
  obtain ⟨m4, a4⟩ := set_step O4 A4 s4
  have P2 := (stp_ok O2 A2 s2).1
  have P4 := (stp_ok O4 A4 s4).1
  have inc : ∀ {t : List Int}, OkS 4 t → Inc t := by
    intro t h
    rcases h with ⟨h, _⟩ | ⟨h, _⟩ | ⟨_, _, _, h⟩
    · omega
    · omega
    · exact h
  have key : ∀ x, inn b.kind b.arg (inn a.kind a.arg (· ∈ s)) x ↔ inn a.kind a.arg (inn b.kind b.arg (· ∈ s)) x := by
    intro x
    rcases hab with hab | ⟨k1, k2⟩
    · unfold inn
      by_cases x1 : x = a.arg
      · have x2 : ¬ x = b.arg := fun e => hab (x1.symm.trans e)
        split <;> split <;> simp_all
      · by_cases x2 : x = b.arg
        · split <;> split <;> simp_all
        · split <;> split <;> simp_all
    · unfold inn
      simp [k1, k2]
  have in1 : ∀ (k y : Int) (P : Int → Prop) (x : Int), x ≠ y → (inn k y P x ↔ P x) := by
    intro k y P x h
    unfold inn
    split
    · simp [h]
    split
    · simp [h]
    · exact Iff.rfl
  have in9 : ∀ (y : Int) (P : Int → Prop) (x : Int), inn 9 y P x ↔ P x := fun y P x => by unfold inn; simp
  have anc : ∀ {k y : Int} {P Q : Int → Prop}, (P y ↔ Q y) → ans k y P = ans k y Q := by
    intro k y P Q h
    unfold ans
    by_cases hp : P y
    · have hq := h.1 hp
      simp [hp, hq]
    · have hq : ¬ Q y := fun q => hp (h.2 q)
      simp [hp, hq]
  have e1 : r2.1 = r4.1 := inc_ext (inc P2) (inc P4) fun x => by
    rw [m2, m4]
    have g1 : inn b.kind b.arg (· ∈ r1.1) x ↔ inn b.kind b.arg (inn a.kind a.arg (· ∈ s)) x := by unfold inn; simp only [m1]; rfl
    have g2 : inn a.kind a.arg (· ∈ r3.1) x ↔ inn a.kind a.arg (inn b.kind b.arg (· ∈ s)) x := by unfold inn; simp only [m3]; rfl
    rw [g1, g2, key]
  have e2 : r1.2.1 = r4.2.1 := by
    rw [a1, a4]
    refine anc ?_
    rw [m3]
    rcases hab with hab | ⟨k1, k2⟩
    · exact (in1 _ _ _ _ hab).symm
    · rw [k2]; exact (in9 _ _ _).symm
  have e3 : r2.2.1 = r3.2.1 := by
    rw [a2, a3]
    refine anc ?_
    rw [m1]
    rcases hab with hab | ⟨k1, k2⟩
    · exact in1 _ _ _ _ (Ne.symm hab)
    · rw [k1]; exact in9 _ _ _
  refine .bdO (eq_ok hN (by have := P2.len; omega)) (.one ?_)
  rw [decide_eq_true e1, decide_eq_true e2, decide_eq_true e3]
  rfl
end Ob

end Go.Proofs.Ytpakplmpihhmbaa
