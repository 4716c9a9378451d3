/- The steps of the machine: the code. -/
import Derived.Test.YtkccgokdahlmeaaM3
set_option linter.unusedVariables false
set_option linter.unusedSimpArgs false
set_option linter.unusedSectionVars false
set_option maxRecDepth 100000
namespace Go.Proofs.Ytkccgokdahlmeaa
open Go.RowKit
namespace Mx
theorem pr_set {l : List MutexProcess} {r : Int × Int × Int × List Gate} {w : Nat} {p : MutexProcess} {i : Nat} (h : w < l.length) : pr (l.set w p, r) i = if i = w then p else pr (l, r) i := by
  unfold pr
  simp only [List.getD_eq_getElem?_getD, List.getElem?_set]
  by_cases hi : w = i
  · subst hi; simp [h]
  · simp [hi, Ne.symm hi]
theorem pr_cong {l : List MutexProcess} {r r' : Int × Int × Int × List Gate} {i : Nat} : pr (l, r) i = pr (l, r') i := rfl
theorem Bd.upd {bk : Prop} {n k : Nat} {s : Sm} (B : Bd bk n k s) {w : Nat} (hw : w < n) (p : MutexProcess) (r : Int × Int × Int × List Gate)
    (h1 : 0 ≤ p.step ∧ p.step ≤ 7) (h2 : 0 ≤ p.left ∧ p.left ≤ 5) (h3 : 0 ≤ p.number ∧ p.number ≤ k + 1) (h4 : 0 ≤ p.k ∧ (bk → (p.step = 3 ∨ p.step = 4) → p.k < n) ∧ p.k ≤ n)
    (h5 : -((k : Int) + 1) ≤ r.2.1 ∧ r.2.1 ≤ k + 1) (h6 : r.2.2.2.length ≤ k + 1) : Bd bk n (k + 1) (s.1.set w p, r) := by
  obtain ⟨l, r0⟩ := s
  have hl : w < l.length := by rw [show l.length = n from B.len]; exact hw
  refine ⟨by simpa using B.len, fun i hi => ?_, fun i hi => ?_, fun i hi => ?_, fun i hi => ?_, by simpa using h5, h6⟩ <;> simp only [pr_set hl] <;> by_cases e : i = w <;> simp only [e, if_true, if_false]
  · exact h1
  · exact B.step i hi
  · exact h2
  · exact B.left i hi
  · simpa using h3
  · have : 0 ≤ (pr (l, r) i).number ∧ (pr (l, r) i).number ≤ k := B.num i hi
    omega
  · exact h4
  · exact B.kk i hi
theorem enterOK {bk : Prop} {N n k : Nat} {s : Sm} (B : Bd bk n k s) (hk : k ≤ 1000) (who : Int) : mutex_machine_enter N s.1 s.2.1 s.2.2.1 s.2.2.2.1 s.2.2.2.2 who = some () := by
  have h1 := B.gl; have h2 := B.inn
  unfold mutex_machine_enter
  rw [ckL (by simp only [List.length_cons, List.length_nil]; omega) (by simp only [List.length_cons, List.length_nil]; omega), ck64 (by omega)]
theorem exitOK {bk : Prop} {N n k : Nat} {s : Sm} (B : Bd bk n k s) (hk : k ≤ 1000) (who : Int) : mutex_machine_exit N s.1 s.2.1 s.2.2.1 s.2.2.2.1 s.2.2.2.2 who = some () := by
  have h1 := B.gl; have h2 := B.inn
  unfold mutex_machine_exit
  rw [ckL (by simp only [List.length_cons, List.length_nil]; omega) (by simp only [List.length_cons, List.length_nil]; omega), ck64 (by omega)]
theorem endOK {N : Nat} {l : List MutexProcess} {who : Nat} {p : MutexProcess} (hw : who < l.length) (h1 : 0 ≤ p.left ∧ p.left ≤ 5) (t a b : Int) (g : List Gate) : mutex_machine_end N (l.set who p) t a b g who = some (l.set who ⟨0, p.left - 1, p.flag, p.number, p.k⟩) := by
  unfold mutex_machine_end
  rw [bd_of (ix_of (by simpa using hw)), ck64 (by simp only [List.getElem_set_self]; omega)]
  simp
theorem petOK {bk : Prop} {N k : Nat} {s : Sm} (B : Bd bk 2 k s) (hk : k ≤ 1000) {who : Nat} (hw : who < 2) (hl : (pr s who).left ≠ 0) :
    mutex_machine_peterson N s.1 s.2.1 s.2.2.1 s.2.2.2.1 s.2.2.2.2 who who = some (petF s who) := by
  have hwl : who < s.1.length := by rw [B.len]; exact hw
  have hs := B.step who hw; have hf := B.left who hw
  refine Wp.eq ?_
  unfold mutex_machine_peterson
  refine .ixD MutexProcess.z (by omega) (by omega) ?_
  have hp0 : s.1.getD who MutexProcess.z = pr s who := rfl
  simp only [Int.toNat_natCast, hp0]
  clear hp0
  unfold petF
  generalize hp : pr s who = x at *
  refine .ck64 (by omega) ?_
  refine .cond (fun h => ?_) fun h => ?_
  · simp only [Bool.or_eq_true, Bool.and_eq_true, Bool.not_eq_true', Bool.not_eq_false', Bool.or_eq_false_iff, Bool.and_eq_false_imp, decide_eq_true_eq, decide_eq_false_iff_not, beq_iff_eq, not_or, Int.not_lt, Int.not_le, Bool.false_eq_true, not_false_eq_true, not_true_eq_false, Decidable.not_not] at *; exact .ck64 (by omega) (.one (by simp [hp, h]))
  refine .cond (fun h2 => ?_) fun h2 => ?_
  · simp only [Bool.or_eq_true, Bool.and_eq_true, Bool.not_eq_true', Bool.not_eq_false', Bool.or_eq_false_iff, Bool.and_eq_false_imp, decide_eq_true_eq, decide_eq_false_iff_not, beq_iff_eq, not_or, Int.not_lt, Int.not_le, Bool.false_eq_true, not_false_eq_true, not_true_eq_false, Decidable.not_not] at *; exact .ck64 (by omega) (.one (by simp [hp, h2]))
  refine .cond (fun h3 => ?_) fun h3 => ?_
  · refine .ixD MutexProcess.z (by omega) (by rw [B.len]; omega) ?_
    have e1 : (1 - (who : Int)).toNat = 1 - who := by omega
    have hq : s.1.getD (1 - who) MutexProcess.z = pr s (1 - who) := rfl
    rw [e1, hq]
    refine .cond (fun h4 => ?_) fun h4 => ?_
    · simp only [Bool.or_eq_true, Bool.and_eq_true, Bool.not_eq_true', Bool.not_eq_false', Bool.or_eq_false_iff, Bool.and_eq_false_imp, decide_eq_true_eq, decide_eq_false_iff_not, beq_iff_eq, not_or, Int.not_lt, Int.not_le, Bool.false_eq_true, not_false_eq_true, not_true_eq_false, Decidable.not_not] at *; exact .one (by rw [if_neg h, if_neg h2, if_pos h3, if_pos h4])
    · refine .bdO (enterOK B hk _) ?_
      simp only [Bool.or_eq_true, Bool.and_eq_true, Bool.not_eq_true', Bool.not_eq_false', Bool.or_eq_false_iff, Bool.and_eq_false_imp, decide_eq_true_eq, decide_eq_false_iff_not, beq_iff_eq, not_or, Int.not_lt, Int.not_le, Bool.false_eq_true, not_false_eq_true, not_true_eq_false, Decidable.not_not] at *
      refine .ck64 (by omega) (.one ?_)
      have h5 : ¬((pr s (1 - who)).flag = true ∧ s.2.1 ≠ who) := fun ⟨a, b⟩ => b (h4 a)
      rw [if_neg h, if_neg h2, if_pos h3, if_neg h5]
      rfl
  refine .cond (fun h4 => ?_) fun h4 => ?_
  · refine .bdO (exitOK B hk _) ?_
    simp only [Bool.or_eq_true, Bool.and_eq_true, Bool.not_eq_true', Bool.not_eq_false', Bool.or_eq_false_iff, Bool.and_eq_false_imp, decide_eq_true_eq, decide_eq_false_iff_not, beq_iff_eq, not_or, Int.not_lt, Int.not_le, Bool.false_eq_true, not_false_eq_true, not_true_eq_false, Decidable.not_not] at *; exact .ck64 (by omega) (.one (by simp [hp, h4, exitF]))
  · refine .bdO (endOK (p := ⟨x.step, x.left, false, x.number, x.k⟩) hwl hf _ _ _ _) ?_
    simp only [Bool.or_eq_true, Bool.and_eq_true, Bool.not_eq_true', Bool.not_eq_false', Bool.or_eq_false_iff, Bool.and_eq_false_imp, decide_eq_true_eq, decide_eq_false_iff_not, beq_iff_eq, not_or, Int.not_lt, Int.not_le, Bool.false_eq_true, not_false_eq_true, not_true_eq_false, Decidable.not_not] at *; exact .one (by simp [hp, h, h2, h3, h4])
theorem swOK {bk : Prop} {N n k : Nat} {s : Sm} (B : Bd bk n k s) (hk : k ≤ 1000) {who : Nat} (hw : who < n) (hl : (pr s who).left ≠ 0) :
    mutex_machine_swap N s.1 s.2.1 s.2.2.1 s.2.2.2.1 s.2.2.2.2 who who = some (swF s who) := by
  have hwl : who < s.1.length := by rw [B.len]; exact hw
  have hs := B.step who hw; have hf := B.left who hw
  refine Wp.eq ?_
  unfold mutex_machine_swap
  refine .ixD MutexProcess.z (by omega) (by omega) ?_
  have hp0 : s.1.getD who MutexProcess.z = pr s who := rfl
  simp only [Int.toNat_natCast, hp0]
  clear hp0
  unfold swF
  generalize hp : pr s who = x at *
  refine .cond (fun h => ?_) fun h => ?_
  · refine .cond (fun h2 => ?_) fun h2 => ?_
    · simp only [Bool.or_eq_true, Bool.and_eq_true, Bool.not_eq_true', Bool.not_eq_false', Bool.or_eq_false_iff, Bool.and_eq_false_imp, decide_eq_true_eq, decide_eq_false_iff_not, beq_iff_eq, not_or, Int.not_lt, Int.not_le, Bool.false_eq_true, not_false_eq_true, not_true_eq_false, Decidable.not_not] at *; exact .one (by simp [hp, h, h2])
    · simp only [Bool.or_eq_true, Bool.and_eq_true, Bool.not_eq_true', Bool.not_eq_false', Bool.or_eq_false_iff, Bool.and_eq_false_imp, decide_eq_true_eq, decide_eq_false_iff_not, beq_iff_eq, not_or, Int.not_lt, Int.not_le, Bool.false_eq_true, not_false_eq_true, not_true_eq_false, Decidable.not_not] at *; exact .ck64 (by omega) (.one (by simp [hp, h, h2]))
  refine .cond (fun h2 => ?_) fun h2 => ?_
  · refine .bdO (enterOK B hk _) ?_
    simp only [Bool.or_eq_true, Bool.and_eq_true, Bool.not_eq_true', Bool.not_eq_false', Bool.or_eq_false_iff, Bool.and_eq_false_imp, decide_eq_true_eq, decide_eq_false_iff_not, beq_iff_eq, not_or, Int.not_lt, Int.not_le, Bool.false_eq_true, not_false_eq_true, not_true_eq_false, Decidable.not_not] at *; exact .ck64 (by omega) (.one (by simp [hp, h2, enterF]))
  refine .cond (fun h3 => ?_) fun h3 => ?_
  · refine .bdO (exitOK B hk _) ?_
    simp only [Bool.or_eq_true, Bool.and_eq_true, Bool.not_eq_true', Bool.not_eq_false', Bool.or_eq_false_iff, Bool.and_eq_false_imp, decide_eq_true_eq, decide_eq_false_iff_not, beq_iff_eq, not_or, Int.not_lt, Int.not_le, Bool.false_eq_true, not_false_eq_true, not_true_eq_false, Decidable.not_not] at *; exact .ck64 (by omega) (.one (by simp [hp, h3, exitF]))
  · have e : s.1 = s.1.set who x := by
      rw [← hp]; unfold pr; rw [getD_of hwl]; simp
    have e2 := endOK (N := N) (who := who) hwl hf 0 s.2.2.1 s.2.2.2.1 s.2.2.2.2
    rw [← e] at e2
    refine .bdO e2 ?_
    simp only [Bool.or_eq_true, Bool.and_eq_true, Bool.not_eq_true', Bool.not_eq_false', Bool.or_eq_false_iff, Bool.and_eq_false_imp, decide_eq_true_eq, decide_eq_false_iff_not, beq_iff_eq, not_or, Int.not_lt, Int.not_le, Bool.false_eq_true, not_false_eq_true, not_true_eq_false, Decidable.not_not] at *; exact .one (by simp [hp, h, h2, h3])
theorem mxIter {N : Nat} {l : List MutexProcess} (hN : l.length < N) (hl : l.length ≤ 1000) : iter (mutex_machine_bakery_L7 N l) N (0, 0) = some (mxF l) := by
  refine iter_up (fun k => ((l.take k).foldl (fun m p => max m p.number) 0, (k : Int))) _ l.length _ (by simp) (fun k hk => ?_) ?_ N hN
  · unfold mutex_machine_bakery_L7
    simp only
    rw [cond_of (by simpa using hk), bd_of (ix_of hk), ck64 (by omega), List.take_succ_eq_append_getElem hk, List.foldl_append]
    simp
  · unfold mutex_machine_bakery_L7
    simp only
    rw [cond_no (by simp)]
    simp [mxF]
theorem foldMax (l : List MutexProcess) : ∀ m : Int, (m ≤ l.foldl (fun m p => max m p.number) m) ∧ (∀ p ∈ l, p.number ≤ l.foldl (fun m p => max m p.number) m) ∧ ∀ b, m ≤ b → (∀ p ∈ l, p.number ≤ b) → l.foldl (fun m p => max m p.number) m ≤ b := by
  induction l with
  | nil => intro m; exact ⟨Int.le_refl _, fun p h => (List.not_mem_nil h).elim, fun b h _ => h⟩
  | cons a l ih =>
    intro m
    obtain ⟨h1, h2, h3⟩ := ih (max m a.number)
    refine ⟨?_, fun p hp => ?_, fun b hb h => ?_⟩
    · simp only [List.foldl_cons]; omega
    · simp only [List.foldl_cons]
      rcases List.mem_cons.1 hp with rfl | hp
      · omega
      · exact h2 p hp
    · simp only [List.foldl_cons]
      exact h3 b (by have := h a (List.mem_cons_self ..); omega) fun p hp => h p (List.mem_cons_of_mem _ hp)
theorem pr_mem {s : Sm} {p : MutexProcess} (h : p ∈ s.1) : ∃ i, i < s.1.length ∧ pr s i = p := by
  obtain ⟨i, hi, e⟩ := List.getElem_of_mem h
  exact ⟨i, hi, by unfold pr; rw [getD_of hi, e]⟩
theorem mx_ge {s : Sm} {i : Nat} (h : i < s.1.length) : (pr s i).number ≤ mxF s.1 := by
  unfold pr; rw [getD_of h]; exact (foldMax s.1 0).2.1 _ (List.getElem_mem h)
theorem mx_nn (l : List MutexProcess) : 0 ≤ mxF l := (foldMax l 0).1
theorem mx_le {bk : Prop} {n k : Nat} {s : Sm} (B : Bd bk n k s) : mxF s.1 ≤ k := by
  refine (foldMax s.1 0).2.2 _ (by omega) fun p hp => ?_
  obtain ⟨i, hi, rfl⟩ := pr_mem hp
  exact (B.num i (by rw [← B.len]; exact hi)).2
theorem otherOK {N : Nat} {k who : Int} (h : 0 ≤ k ∧ k ≤ 1000) : mutex_other N k who = some (nxt k who) := by
  unfold mutex_other nxt
  by_cases e : k = who
  · rw [cond_of (by simp [e]), ck64 (by omega), if_pos e]
  · rw [cond_no (by simp [e]), if_neg e]
theorem nxt_le (k who : Int) : k ≤ nxt k who ∧ nxt k who ≤ k + 1 ∧ nxt k who ≠ who ∧ (nxt k who = k ∨ k = who) := by
  unfold nxt; split <;> omega
theorem bakOK {N n k : Nat} {s : Sm} (hN : 1000 < N) (hn : n ≤ 1000) (B : Bd True n k s) (hk : k ≤ 1000) {who : Nat} (hw : who < n) (hl : (pr s who).left ≠ 0) :
    (bd (mutex_machine_bakery N s.1 s.2.1 s.2.2.1 s.2.2.2.1 s.2.2.2.2 who who) fun r => some (r.1, s.2.1, r.2.1, r.2.2.1, r.2.2.2)) = some (bakF s who) := by
  have hwl : who < s.1.length := by rw [B.len]; exact hw
  have hlen := B.len
  have hs := B.step who hw; have hf := B.left who hw; have hnm := B.num who hw; have hkk := B.kk who hw; have hmx := mx_le B; have hmn := mx_nn s.1
  refine Wp.eq (.bd ?_)
  unfold mutex_machine_bakery
  refine .ixD MutexProcess.z (by omega) (by omega) ?_
  have hp0 : s.1.getD who MutexProcess.z = pr s who := rfl
  simp only [Int.toNat_natCast, hp0]
  clear hp0
  unfold bakF
  generalize hp : pr s who = x at *
  have hset : s.1.set who x = s.1 := by
    rw [← hp]; unfold pr; rw [getD_of hwl]; simp
  -- what comes behind, for a row whose own one is p
  have fin : ∀ (p : MutexProcess) (a b : Int) (g : List Gate), 0 ≤ p.step ∧ p.step ≤ 7 → ∀ Q : Sm → Prop, Q (s.1.set who ⟨p.step + 1, p.left, p.flag, p.number, p.k⟩, s.2.1, a, b, g) →
      Wp (bd (ix (s.1.set who p) who) fun (x39 : MutexProcess) => ck (ok64 (x39.step + 1)) <| bd (ix (s.1.set who p) who) fun (x41 : MutexProcess) => some (((s.1.set who p).set who (MutexProcess.mk (x39.step + 1) x41.left x41.flag x41.number x41.k)), a, b, g)) fun r => Wp (some (r.1, s.2.1, r.2.1, r.2.2.1, r.2.2.2)) Q := by
    intro p a b g hq Q hQ
    have e : ix (s.1.set who p) (who : Int) = some p := by rw [ix_of (by simpa using hwl)]; simp
    refine .bdO e (.ck64 (by omega) (.bdO e (.one (.one ?_))))
    simpa using hQ
  have fin0 : ∀ (a b : Int) (g : List Gate), ∀ Q : Sm → Prop, Q (s.1.set who ⟨x.step + 1, x.left, x.flag, x.number, x.k⟩, s.2.1, a, b, g) →
      Wp (bd (ix s.1 who) fun (x39 : MutexProcess) => ck (ok64 (x39.step + 1)) <| bd (ix s.1 who) fun (x41 : MutexProcess) => some ((s.1.set who (MutexProcess.mk (x39.step + 1) x41.left x41.flag x41.number x41.k)), a, b, g)) fun r => Wp (some (r.1, s.2.1, r.2.1, r.2.2.1, r.2.2.2)) Q := by
    intro a b g Q hQ
    have := fin x a b g hs Q hQ
    rw [hset] at this
    exact this
  have he0 := otherOK (N := N) (k := 0) (who := who) (by omega)
  refine .bd (.cond (fun h => ?_) fun h => .cond (fun h1 => ?_) fun h1 => .cond (fun h2 => ?_) fun h2 => .cond (fun h3 => ?_) fun h3 => .cond (fun h4 => ?_) fun h4 => .cond (fun h5 => ?_) fun h5 => .cond (fun h6 => ?_) fun h6 => ?_)
  · exact .one (fin ⟨x.step, x.left, true, x.number, x.k⟩ _ _ _ hs (· = _) (by simp only [Bool.or_eq_true, Bool.and_eq_true, Bool.not_eq_true', Bool.not_eq_false', Bool.or_eq_false_iff, Bool.and_eq_false_imp, decide_eq_true_eq, decide_eq_false_iff_not, beq_iff_eq, not_or, Int.not_lt, Int.not_le, Bool.false_eq_true, not_false_eq_true, not_true_eq_false, Decidable.not_not] at *; simp [hp, h]))
  · refine .bdO (mxIter (by omega) (by omega)) (.ck64 (by omega) (.one (fin ⟨x.step, x.left, x.flag, 1 + mxF s.1, x.k⟩ _ _ _ hs (· = _) (by simp only [Bool.or_eq_true, Bool.and_eq_true, Bool.not_eq_true', Bool.not_eq_false', Bool.or_eq_false_iff, Bool.and_eq_false_imp, decide_eq_true_eq, decide_eq_false_iff_not, beq_iff_eq, not_or, Int.not_lt, Int.not_le, Bool.false_eq_true, not_false_eq_true, not_true_eq_false, Decidable.not_not] at *; simp [hp, h1]))))
  · refine .bdO he0 (.cond (fun h7 => .one (.one (.one ?_))) fun h7 => .one (fin ⟨x.step, x.left, false, x.number, nxt 0 who⟩ _ _ _ hs (· = _) ?_))
    · simp only [Bool.or_eq_true, Bool.and_eq_true, Bool.not_eq_true', Bool.not_eq_false', Bool.or_eq_false_iff, Bool.and_eq_false_imp, decide_eq_true_eq, decide_eq_false_iff_not, beq_iff_eq, not_or, Int.not_lt, Int.not_le, Bool.false_eq_true, not_false_eq_true, not_true_eq_false, Decidable.not_not] at *; simp [hp, h2, h7]
    · simp only [Bool.or_eq_true, Bool.and_eq_true, Bool.not_eq_true', Bool.not_eq_false', Bool.or_eq_false_iff, Bool.and_eq_false_imp, decide_eq_true_eq, decide_eq_false_iff_not, beq_iff_eq, not_or, Int.not_lt, Int.not_le, Bool.false_eq_true, not_false_eq_true, not_true_eq_false, Decidable.not_not] at *; simp [hp, h2, show ¬ ((s.1.length : Int) ≤ nxt 0 who) by omega]
  · have hk3 := hkk.2.1 trivial (.inl (by simpa using h3))
    have hq : s.1.getD x.k.toNat MutexProcess.z = pr s x.k.toNat := rfl
    refine .ixD MutexProcess.z hkk.1 (by omega) ?_
    rw [hq]
    refine .cond (fun h7 => .one (.one (.one ?_))) fun h7 => .one (fin0 _ _ _ (· = _) ?_)
    · simp only [Bool.or_eq_true, Bool.and_eq_true, Bool.not_eq_true', Bool.not_eq_false', Bool.or_eq_false_iff, Bool.and_eq_false_imp, decide_eq_true_eq, decide_eq_false_iff_not, beq_iff_eq, not_or, Int.not_lt, Int.not_le, Bool.false_eq_true, not_false_eq_true, not_true_eq_false, Decidable.not_not] at *; rw [if_neg h, if_neg h1, if_neg h2, if_pos h3, if_pos h7]
    · simp only [Bool.or_eq_true, Bool.and_eq_true, Bool.not_eq_true', Bool.not_eq_false', Bool.or_eq_false_iff, Bool.and_eq_false_imp, decide_eq_true_eq, decide_eq_false_iff_not, beq_iff_eq, not_or, Int.not_lt, Int.not_le, Bool.false_eq_true, not_false_eq_true, not_true_eq_false, Decidable.not_not] at *; rw [if_neg h, if_neg h1, if_neg h2, if_pos h3, if_neg (by rw [h7]; decide)]
  · have hk4 := hkk.2.1 trivial (.inr (by simpa using h4))
    have hx1 := nxt_le (x.k + 1) who
    have hq : s.1.getD x.k.toNat MutexProcess.z = pr s x.k.toNat := rfl
    refine .ixD MutexProcess.z hkk.1 (by omega) ?_
    rw [hq]
    refine .cond (fun h7 => .one (.one (.one ?_))) fun h7 => .ck64 (by omega) (.bdO (otherOK (by omega)) (.cond (fun h8 => .one (.one (.one ?_))) fun h8 => .one (fin ⟨x.step, x.left, x.flag, x.number, nxt (x.k + 1) who⟩ _ _ _ hs (· = _) ?_)))
    · simp only [Bool.or_eq_true, Bool.and_eq_true, Bool.not_eq_true', Bool.not_eq_false', Bool.or_eq_false_iff, Bool.and_eq_false_imp, decide_eq_true_eq, decide_eq_false_iff_not, beq_iff_eq, not_or, Int.not_lt, Int.not_le, Bool.false_eq_true, not_false_eq_true, not_true_eq_false, Decidable.not_not] at *; rw [if_neg h, if_neg h1, if_neg h2, if_neg h3, if_pos h4, if_pos h7]
    · have e7 : ¬((pr s x.k.toNat).number ≠ 0 ∧ ((pr s x.k.toNat).number < x.number ∨ (pr s x.k.toNat).number = x.number ∧ x.k < who)) := by
        intro hh; simp [hh.1] at h7; rcases hh.2 with h9 | ⟨h9, h10⟩
        · omega
        · have := h7.2 h9; omega
      simp only [Bool.or_eq_true, Bool.and_eq_true, Bool.not_eq_true', Bool.not_eq_false', Bool.or_eq_false_iff, Bool.and_eq_false_imp, decide_eq_true_eq, decide_eq_false_iff_not, beq_iff_eq, not_or, Int.not_lt, Int.not_le, Bool.false_eq_true, not_false_eq_true, not_true_eq_false, Decidable.not_not] at *; rw [if_neg h, if_neg h1, if_neg h2, if_neg h3, if_pos h4, if_neg e7, if_pos (by omega)]
    · have e7 : ¬((pr s x.k.toNat).number ≠ 0 ∧ ((pr s x.k.toNat).number < x.number ∨ (pr s x.k.toNat).number = x.number ∧ x.k < who)) := by
        intro hh; simp [hh.1] at h7; rcases hh.2 with h9 | ⟨h9, h10⟩
        · omega
        · have := h7.2 h9; omega
      simp only [Bool.or_eq_true, Bool.and_eq_true, Bool.not_eq_true', Bool.not_eq_false', Bool.or_eq_false_iff, Bool.and_eq_false_imp, decide_eq_true_eq, decide_eq_false_iff_not, beq_iff_eq, not_or, Int.not_lt, Int.not_le, Bool.false_eq_true, not_false_eq_true, not_true_eq_false, Decidable.not_not] at *; rw [if_neg h, if_neg h1, if_neg h2, if_neg h3, if_pos h4, if_neg e7, if_neg (by omega)]
  · refine .bdO (enterOK B hk _) (.one (fin0 _ _ _ (· = _) ?_))
    simp only [Bool.or_eq_true, Bool.and_eq_true, Bool.not_eq_true', Bool.not_eq_false', Bool.or_eq_false_iff, Bool.and_eq_false_imp, decide_eq_true_eq, decide_eq_false_iff_not, beq_iff_eq, not_or, Int.not_lt, Int.not_le, Bool.false_eq_true, not_false_eq_true, not_true_eq_false, Decidable.not_not] at *; simp [hp, h5, enterF]
  · refine .bdO (exitOK B hk _) (.one (fin0 _ _ _ (· = _) ?_))
    simp only [Bool.or_eq_true, Bool.and_eq_true, Bool.not_eq_true', Bool.not_eq_false', Bool.or_eq_false_iff, Bool.and_eq_false_imp, decide_eq_true_eq, decide_eq_false_iff_not, beq_iff_eq, not_or, Int.not_lt, Int.not_le, Bool.false_eq_true, not_false_eq_true, not_true_eq_false, Decidable.not_not] at *; simp [hp, h6, exitF]
  · refine .bdO (endOK (p := ⟨x.step, x.left, x.flag, 0, x.k⟩) hwl hf _ _ _ _) (.one (.one (.one ?_)))
    simp only [Bool.or_eq_true, Bool.and_eq_true, Bool.not_eq_true', Bool.not_eq_false', Bool.or_eq_false_iff, Bool.and_eq_false_imp, decide_eq_true_eq, decide_eq_false_iff_not, beq_iff_eq, not_or, Int.not_lt, Int.not_le, Bool.false_eq_true, not_false_eq_true, not_true_eq_false, Decidable.not_not] at *; simp [hp, h, h1, h2, h3, h4, h5, h6]
/-- The naive one looks whether a flag is up. -/
theorem naiIter {bk : Prop} {N n k : Nat} {s : Sm} (hN : 1000 < N) (hn : n ≤ 1000) (B : Bd bk n k s) (who : Nat) :
    ((∃ i, i < s.1.length ∧ i ≠ who ∧ (pr s i).flag = true) ∧ iter (mutex_machine_naive_L3 N s.1 who s.2.2.1 s.2.2.2.1 s.2.2.2.2) N 0 = some (.inr (s.1, s.2.2.1, s.2.2.2.1, s.2.2.2.2))) ∨
    ((¬∃ i, i < s.1.length ∧ i ≠ who ∧ (pr s i).flag = true) ∧ iter (mutex_machine_naive_L3 N s.1 who s.2.2.1 s.2.2.2.1 s.2.2.2.2) N 0 = some (.inl (s.1, s.2.2.1, s.2.2.2.1, s.2.2.2.2))) := by
  have hlen := B.len
  have key := iter_find (body := mutex_machine_naive_L3 N s.1 who s.2.2.1 s.2.2.2.1 s.2.2.2.2) (fun k => (k : Int)) (fun k => (decide (k ≠ who)) && (pr s k).flag) (fun _ => .inr (s.1, s.2.2.1, s.2.2.2.1, s.2.2.2.2)) (.inl (s.1, s.2.2.1, s.2.2.2.1, s.2.2.2.2)) s.1.length (s := 0) rfl (fun k hk hb => ?_) (fun k hk hb => ?_) ?_ (N := N) (by omega)
  · rcases key with ⟨k, h1, h2, _, h4⟩ | ⟨h1, h2⟩
    · refine .inl ⟨⟨k, h1, ?_⟩, h4⟩
      simpa using h2
    · refine .inr ⟨fun ⟨i, h3, h4, h5⟩ => ?_, h2⟩
      have := h1 i h3
      simp [h4, h5] at this
  · unfold mutex_machine_naive_L3
    simp only
    have e : pr s k = s.1[k] := by unfold pr; rw [getD_of hk]
    rw [e] at hb
    rw [cond_of (by simpa using hk), bd_of (ix_of hk), cond_no, ck64 (by omega)]
    · rfl
    · rw [← hb]; congr 1; simp only [decide_not, Int.ofNat_inj]
  · unfold mutex_machine_naive_L3
    simp only
    have e : pr s k = s.1[k] := by unfold pr; rw [getD_of hk]
    rw [e] at hb
    rw [cond_of (by simpa using hk), bd_of (ix_of hk), cond_of]
    rw [← hb]; congr 1; simp only [decide_not, Int.ofNat_inj]
  · unfold mutex_machine_naive_L3
    simp only
    rw [cond_no (by simp)]
open Classical in
theorem naiOK {bk : Prop} {N n k : Nat} {s : Sm} (hN : 1000 < N) (hn : n ≤ 1000) (B : Bd bk n k s) (hk : k ≤ 1000) {who : Nat} (hw : who < n) (hl : (pr s who).left ≠ 0) :
    (bd (mutex_machine_naive N s.1 s.2.1 s.2.2.1 s.2.2.2.1 s.2.2.2.2 who who) fun r => some (r.1, s.2.1, r.2.1, r.2.2.1, r.2.2.2)) = some (naiF s who) := by
  have hwl : who < s.1.length := by rw [B.len]; exact hw
  have hlen := B.len
  have hs := B.step who hw; have hf := B.left who hw
  have hit := naiIter hN hn B who
  refine Wp.eq (.bd ?_)
  unfold mutex_machine_naive
  refine .ixD MutexProcess.z (by omega) (by omega) ?_
  have hp0 : s.1.getD who MutexProcess.z = pr s who := rfl
  simp only [Int.toNat_natCast, hp0]
  clear hp0
  unfold naiF
  generalize hp : pr s who = x at *
  have hset : s.1.set who x = s.1 := by
    rw [← hp]; unfold pr; rw [getD_of hwl]; simp
  have fin : ∀ (p : MutexProcess) (a b : Int) (g : List Gate), 0 ≤ p.step ∧ p.step ≤ 7 → ∀ Q : Sm → Prop, Q (s.1.set who ⟨p.step + 1, p.left, p.flag, p.number, p.k⟩, s.2.1, a, b, g) →
      Wp (bd (ix (s.1.set who p) who) fun (x39 : MutexProcess) => ck (ok64 (x39.step + 1)) <| bd (ix (s.1.set who p) who) fun (x41 : MutexProcess) => some (((s.1.set who p).set who (MutexProcess.mk (x39.step + 1) x41.left x41.flag x41.number x41.k)), a, b, g)) fun r => Wp (some (r.1, s.2.1, r.2.1, r.2.2.1, r.2.2.2)) Q := by
    intro p a b g hq Q hQ
    have e : ix (s.1.set who p) (who : Int) = some p := by rw [ix_of (by simpa using hwl)]; simp
    refine .bdO e (.ck64 (by omega) (.bdO e (.one (.one ?_))))
    simpa using hQ
  have fin0 : ∀ (a b : Int) (g : List Gate), ∀ Q : Sm → Prop, Q (s.1.set who ⟨x.step + 1, x.left, x.flag, x.number, x.k⟩, s.2.1, a, b, g) →
      Wp (bd (ix s.1 who) fun (x39 : MutexProcess) => ck (ok64 (x39.step + 1)) <| bd (ix s.1 who) fun (x41 : MutexProcess) => some ((s.1.set who (MutexProcess.mk (x39.step + 1) x41.left x41.flag x41.number x41.k)), a, b, g)) fun r => Wp (some (r.1, s.2.1, r.2.1, r.2.2.1, r.2.2.2)) Q := by
    intro a b g Q hQ
    have := fin x a b g hs Q hQ
    rw [hset] at this
    exact this
  refine .bd (.cond (fun h => ?_) fun h => .cond (fun h1 => ?_) fun h1 => .cond (fun h2 => ?_) fun h2 => .cond (fun h3 => ?_) fun h3 => ?_)
  · rcases hit with ⟨he, hi⟩ | ⟨he, hi⟩
    · refine ⟨_, hi, .one (.one ?_)⟩
      simp only [Bool.or_eq_true, Bool.and_eq_true, Bool.not_eq_true', Bool.not_eq_false', Bool.or_eq_false_iff, Bool.and_eq_false_imp, decide_eq_true_eq, decide_eq_false_iff_not, beq_iff_eq, not_or, Int.not_lt, Int.not_le, Bool.false_eq_true, not_false_eq_true, not_true_eq_false, Decidable.not_not] at *; rw [if_pos h, if_pos he]
    · refine ⟨_, hi, fin0 _ _ _ (· = _) ?_⟩
      simp only [Bool.or_eq_true, Bool.and_eq_true, Bool.not_eq_true', Bool.not_eq_false', Bool.or_eq_false_iff, Bool.and_eq_false_imp, decide_eq_true_eq, decide_eq_false_iff_not, beq_iff_eq, not_or, Int.not_lt, Int.not_le, Bool.false_eq_true, not_false_eq_true, not_true_eq_false, Decidable.not_not] at *; rw [if_pos h, if_neg he]
  · exact .one (fin ⟨x.step, x.left, true, x.number, x.k⟩ _ _ _ hs (· = _) (by simp only [Bool.or_eq_true, Bool.and_eq_true, Bool.not_eq_true', Bool.not_eq_false', Bool.or_eq_false_iff, Bool.and_eq_false_imp, decide_eq_true_eq, decide_eq_false_iff_not, beq_iff_eq, not_or, Int.not_lt, Int.not_le, Bool.false_eq_true, not_false_eq_true, not_true_eq_false, Decidable.not_not] at *; simp [hp, h1]))
  · refine .bdO (enterOK B hk _) (.one (fin0 _ _ _ (· = _) ?_))
    simp only [Bool.or_eq_true, Bool.and_eq_true, Bool.not_eq_true', Bool.not_eq_false', Bool.or_eq_false_iff, Bool.and_eq_false_imp, decide_eq_true_eq, decide_eq_false_iff_not, beq_iff_eq, not_or, Int.not_lt, Int.not_le, Bool.false_eq_true, not_false_eq_true, not_true_eq_false, Decidable.not_not] at *; simp [hp, h2, enterF]
  · refine .bdO (exitOK B hk _) (.one (fin0 _ _ _ (· = _) ?_))
    simp only [Bool.or_eq_true, Bool.and_eq_true, Bool.not_eq_true', Bool.not_eq_false', Bool.or_eq_false_iff, Bool.and_eq_false_imp, decide_eq_true_eq, decide_eq_false_iff_not, beq_iff_eq, not_or, Int.not_lt, Int.not_le, Bool.false_eq_true, not_false_eq_true, not_true_eq_false, Decidable.not_not] at *; simp [hp, h3, exitF]
  · refine .bdO (endOK (p := ⟨x.step, x.left, false, x.number, x.k⟩) hwl hf _ _ _ _) (.one (.one (.one ?_)))
    simp only [Bool.or_eq_true, Bool.and_eq_true, Bool.not_eq_true', Bool.not_eq_false', Bool.or_eq_false_iff, Bool.and_eq_false_imp, decide_eq_true_eq, decide_eq_false_iff_not, beq_iff_eq, not_or, Int.not_lt, Int.not_le, Bool.false_eq_true, not_false_eq_true, not_true_eq_false, Decidable.not_not] at *; simp [hp, h, h1, h2, h3]
end Mx

end Go.Proofs.Ytkccgokdahlmeaa
