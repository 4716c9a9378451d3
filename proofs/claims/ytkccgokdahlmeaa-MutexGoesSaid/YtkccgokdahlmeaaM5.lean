/- Play. -/
import Derived.Test.YtkccgokdahlmeaaM4
set_option linter.unusedVariables false
set_option linter.unusedSimpArgs false
set_option linter.unusedSectionVars false
set_option maxRecDepth 100000
namespace Go.Proofs.Ytkccgokdahlmeaa
open Go.RowKit
namespace Mx
theorem Bd.enter {bk : Prop} {n k : Nat} {s : Sm} (B : Bd bk n k s) {w : Nat} (hw : w < n) (p : MutexProcess)
    (h1 : 0 ≤ p.step ∧ p.step ≤ 7) (h2 : 0 ≤ p.left ∧ p.left ≤ 5) (h3 : 0 ≤ p.number ∧ p.number ≤ k + 1) (h4 : 0 ≤ p.k ∧ (bk → (p.step = 3 ∨ p.step = 4) → p.k < n) ∧ p.k ≤ n) : Bd bk n (k + 1) (enterF s w p) := by
  have h5 := B.inn; have h6 := B.gl
  exact B.upd hw p _ h1 h2 h3 h4 (by simp only; omega) (by simp only [List.length_append, List.length_cons, List.length_nil]; omega)
theorem Bd.exit {bk : Prop} {n k : Nat} {s : Sm} (B : Bd bk n k s) {w : Nat} (hw : w < n) (p : MutexProcess)
    (h1 : 0 ≤ p.step ∧ p.step ≤ 7) (h2 : 0 ≤ p.left ∧ p.left ≤ 5) (h3 : 0 ≤ p.number ∧ p.number ≤ k + 1) (h4 : 0 ≤ p.k ∧ (bk → (p.step = 3 ∨ p.step = 4) → p.k < n) ∧ p.k ≤ n) : Bd bk n (k + 1) (exitF s w p) := by
  have h5 := B.inn; have h6 := B.gl
  exact B.upd hw p _ h1 h2 h3 h4 (by simp only; omega) (by simp only [List.length_append, List.length_cons, List.length_nil]; omega)
theorem Bd.turn {bk : Prop} {n k : Nat} {s : Sm} (B : Bd bk n k s) {w : Nat} (hw : w < n) (p : MutexProcess) (t : Int)
    (h1 : 0 ≤ p.step ∧ p.step ≤ 7) (h2 : 0 ≤ p.left ∧ p.left ≤ 5) (h3 : 0 ≤ p.number ∧ p.number ≤ k + 1) (h4 : 0 ≤ p.k ∧ (bk → (p.step = 3 ∨ p.step = 4) → p.k < n) ∧ p.k ≤ n) : Bd bk n (k + 1) (s.1.set w p, t, s.2.2) := by
  have h5 := B.inn; have h6 := B.gl
  exact B.upd hw p _ h1 h2 h3 h4 (by simp only; omega) (by simp only; omega)
theorem bd_pet {n k : Nat} {s : Sm} (B : Bd False n k s) {who : Nat} (hw : who < n) (hl : (pr s who).left ≠ 0) : Bd False n (k + 1) (petF s who) := by
  have h1 := B.step who hw; have h2 := B.left who hw; have h3 := B.num who hw; have h4 := B.kk who hw
  have h4' : 0 ≤ (pr s who).k ∧ (False → ∀ a : Prop, a) ∧ (pr s who).k ≤ n := ⟨h4.1, fun h => h.elim, h4.2.2⟩
  unfold petF
  repeat' split
  · exact B.turn hw _ _ ⟨by simp only; omega, by simp only; omega⟩ h2 ⟨h3.1, by simp only; omega⟩ ⟨h4.1, fun h => h.elim, h4.2.2⟩
  · exact B.turn hw _ _ ⟨by simp only; omega, by simp only; omega⟩ h2 ⟨h3.1, by simp only; omega⟩ ⟨h4.1, fun h => h.elim, h4.2.2⟩
  · exact B.grow
  · exact B.enter hw _ ⟨by simp only; omega, by simp only; omega⟩ h2 ⟨h3.1, by simp only; omega⟩ ⟨h4.1, fun h => h.elim, h4.2.2⟩
  · exact B.exit hw _ ⟨by simp only; omega, by simp only; omega⟩ h2 ⟨h3.1, by simp only; omega⟩ ⟨h4.1, fun h => h.elim, h4.2.2⟩
  · exact B.turn hw _ _ ⟨by simp only; omega, by simp only; omega⟩ ⟨by simp only; omega, by simp only; omega⟩ ⟨h3.1, by simp only; omega⟩ ⟨h4.1, fun h => h.elim, h4.2.2⟩
theorem bd_sw {n k : Nat} {s : Sm} (B : Bd False n k s) {who : Nat} (hw : who < n) (hl : (pr s who).left ≠ 0) : Bd False n (k + 1) (swF s who) := by
  have h1 := B.step who hw; have h2 := B.left who hw; have h3 := B.num who hw; have h4 := B.kk who hw
  unfold swF
  repeat' split
  · exact B.grow
  · exact B.turn hw _ _ ⟨by simp only; omega, by simp only; omega⟩ h2 ⟨h3.1, by simp only; omega⟩ ⟨h4.1, fun h => h.elim, h4.2.2⟩
  · exact B.enter hw _ ⟨by simp only; omega, by simp only; omega⟩ h2 ⟨h3.1, by simp only; omega⟩ ⟨h4.1, fun h => h.elim, h4.2.2⟩
  · exact B.exit hw _ ⟨by simp only; omega, by simp only; omega⟩ h2 ⟨h3.1, by simp only; omega⟩ ⟨h4.1, fun h => h.elim, h4.2.2⟩
  · exact B.turn hw _ _ ⟨by simp only; omega, by simp only; omega⟩ ⟨by simp only; omega, by simp only; omega⟩ ⟨h3.1, by simp only; omega⟩ ⟨h4.1, fun h => h.elim, h4.2.2⟩
open Classical in
theorem bd_nai {n k : Nat} {s : Sm} (B : Bd False n k s) {who : Nat} (hw : who < n) (hl : (pr s who).left ≠ 0) : Bd False n (k + 1) (naiF s who) := by
  have h1 := B.step who hw; have h2 := B.left who hw; have h3 := B.num who hw; have h4 := B.kk who hw
  unfold naiF
  repeat' split
  · exact B.grow
  · exact B.turn hw _ _ ⟨by simp only; omega, by simp only; omega⟩ h2 ⟨h3.1, by simp only; omega⟩ ⟨h4.1, fun h => h.elim, h4.2.2⟩
  · exact B.turn hw _ _ ⟨by simp only; omega, by simp only; omega⟩ h2 ⟨h3.1, by simp only; omega⟩ ⟨h4.1, fun h => h.elim, h4.2.2⟩
  · exact B.enter hw _ ⟨by simp only; omega, by simp only; omega⟩ h2 ⟨h3.1, by simp only; omega⟩ ⟨h4.1, fun h => h.elim, h4.2.2⟩
  · exact B.exit hw _ ⟨by simp only; omega, by simp only; omega⟩ h2 ⟨h3.1, by simp only; omega⟩ ⟨h4.1, fun h => h.elim, h4.2.2⟩
  · exact B.turn hw _ _ ⟨by simp only; omega, by simp only; omega⟩ ⟨by simp only; omega, by simp only; omega⟩ ⟨h3.1, by simp only; omega⟩ ⟨h4.1, fun h => h.elim, h4.2.2⟩
theorem bd_bak {n k : Nat} {s : Sm} (B : Bd True n k s) {who : Nat} (hw : who < n) (hl : (pr s who).left ≠ 0) : Bd True n (k + 1) (bakF s who) := by
  have h1 := B.step who hw; have h2 := B.left who hw; have h3 := B.num who hw; have h4 := B.kk who hw; have hm := mx_le B; have hm0 := mx_nn s.1; have hlen := B.len
  have x1 := nxt_le 0 who; have x2 := nxt_le ((pr s who).k + 1) who
  have h4' := h4.2.1 trivial
  unfold bakF
  repeat' split
  · exact B.turn hw _ _ ⟨by simp only; omega, by simp only; omega⟩ h2 ⟨h3.1, by simp only; omega⟩ ⟨h4.1, by simp only; omega, h4.2.2⟩
  · exact B.turn hw _ _ ⟨by simp only; omega, by simp only; omega⟩ h2 ⟨by simp only; omega, by simp only; omega⟩ ⟨h4.1, by simp only; omega, h4.2.2⟩
  · exact B.turn hw _ _ ⟨by simp only; omega, by simp only; omega⟩ h2 ⟨h3.1, by simp only; omega⟩ ⟨by simp only; omega, by simp only; omega, by simp only; omega⟩
  · exact B.turn hw _ _ ⟨by simp only; omega, by simp only; omega⟩ h2 ⟨h3.1, by simp only; omega⟩ ⟨by simp only; omega, by simp only; omega, by simp only; omega⟩
  · exact B.grow
  · exact B.turn hw _ _ ⟨by simp only; omega, by simp only; omega⟩ h2 ⟨h3.1, by simp only; omega⟩ ⟨h4.1, by simp only; omega, h4.2.2⟩
  · exact B.grow
  · exact B.turn hw _ _ ⟨by simp only; omega, by simp only; omega⟩ h2 ⟨h3.1, by simp only; omega⟩ ⟨by simp only; omega, by simp only; omega, by simp only; omega⟩
  · exact B.turn hw _ _ ⟨by simp only; omega, by simp only; omega⟩ h2 ⟨h3.1, by simp only; omega⟩ ⟨by simp only; omega, by simp only; omega, by simp only; omega⟩
  · exact B.enter hw _ ⟨by simp only; omega, by simp only; omega⟩ h2 ⟨h3.1, by simp only; omega⟩ ⟨h4.1, by simp only; omega, h4.2.2⟩
  · exact B.exit hw _ ⟨by simp only; omega, by simp only; omega⟩ h2 ⟨h3.1, by simp only; omega⟩ ⟨h4.1, by simp only; omega, h4.2.2⟩
  · exact B.turn hw _ _ ⟨by simp only; omega, by simp only; omega⟩ ⟨by simp only; omega, by simp only; omega⟩ ⟨by simp, by simp only; omega⟩ ⟨h4.1, by simp only; omega, h4.2.2⟩
/-! Play -/
structure Good (algo people turns : Int) (list : List Int) : Prop where
  al : 1 ≤ algo ∧ algo ≤ 4
  pe : 1 ≤ people ∧ people ≤ 4
  p2 : algo = 1 → people = 2
  tu : 0 ≤ turns ∧ turns ≤ 5
  ln : list.length ≤ 600
  el : ∀ t ∈ list, 0 ≤ t ∧ t < people
theorem checkOK {N : Nat} (hN : 1000 < N) (algo people turns : Int) (list : List Int) : Wp (mutex_check N algo people turns list) fun e => (e = 0 ↔ Good algo people turns list) := by
  unfold mutex_check
  refine .cond (fun h => .one ⟨fun h' => absurd h' (by decide), fun G => ?_⟩) fun h => .cond (fun h2 => .one ⟨fun h' => absurd h' (by decide), fun G => ?_⟩) fun h2 => ?_
  · have h1 := G.al; have h2 := G.pe; have h3 := G.p2; have h4 := G.tu
    simp only [Bool.or_eq_true, Bool.and_eq_true, Bool.not_eq_true', Bool.not_eq_false', Bool.or_eq_false_iff, Bool.and_eq_false_imp, decide_eq_true_eq, decide_eq_false_iff_not, beq_iff_eq, not_or, Int.not_lt, Int.not_le, Bool.false_eq_true, not_false_eq_true, not_true_eq_false, Decidable.not_not] at *; omega
  · have h1 := G.ln
    simp only [Bool.or_eq_true, Bool.and_eq_true, Bool.not_eq_true', Bool.not_eq_false', Bool.or_eq_false_iff, Bool.and_eq_false_imp, decide_eq_true_eq, decide_eq_false_iff_not, beq_iff_eq, not_or, Int.not_lt, Int.not_le, Bool.false_eq_true, not_false_eq_true, not_true_eq_false, Decidable.not_not] at *; omega
  · simp only [Bool.or_eq_true, Bool.and_eq_true, Bool.not_eq_true', Bool.not_eq_false', Bool.or_eq_false_iff, Bool.and_eq_false_imp, decide_eq_true_eq, decide_eq_false_iff_not, beq_iff_eq, not_or, Int.not_lt, Int.not_le, Bool.false_eq_true, not_false_eq_true, not_true_eq_false, Decidable.not_not] at *
    have key := iter_find (body := mutex_check_L3 N list people) (fun k => (k : Int)) (fun k => decide (list.getD k 0 < 0) || decide (people ≤ list.getD k 0)) (fun _ => .inr 1) (.inl ()) list.length (s := 0) rfl (fun k hk hb => ?_) (fun k hk hb => ?_) ?_ (N := N) (by omega)
    · rcases key with ⟨k, h3, h4, _, h6⟩ | ⟨h3, h4⟩
      · refine .bdO h6 (.one ⟨fun h' => absurd h' (by decide), fun G => ?_⟩)
        have := G.el (list.getD k 0) (by rw [getD_of h3]; exact List.getElem_mem h3)
        simp only [Bool.or_eq_true, Bool.and_eq_true, Bool.not_eq_true', Bool.not_eq_false', Bool.or_eq_false_iff, Bool.and_eq_false_imp, decide_eq_true_eq, decide_eq_false_iff_not, beq_iff_eq, not_or, Int.not_lt, Int.not_le, Bool.false_eq_true, not_false_eq_true, not_true_eq_false, Decidable.not_not] at *; omega
      · refine .bdO h4 (.one ⟨fun _ => ?_, fun _ => rfl⟩)
        refine ⟨by omega, by omega, by omega, by omega, by omega, fun t ht => ?_⟩
        obtain ⟨k, hk, rfl⟩ := List.getElem_of_mem ht
        have := h3 k hk
        rw [getD_of hk] at this
        simp only [Bool.or_eq_true, Bool.and_eq_true, Bool.not_eq_true', Bool.not_eq_false', Bool.or_eq_false_iff, Bool.and_eq_false_imp, decide_eq_true_eq, decide_eq_false_iff_not, beq_iff_eq, not_or, Int.not_lt, Int.not_le, Bool.false_eq_true, not_false_eq_true, not_true_eq_false, Decidable.not_not] at *; omega
    · unfold mutex_check_L3
      rw [getD_of hk] at hb
      rw [cond_of (by simpa using hk), bd_of (ix_of hk), cond_no hb, ck64 (by omega)]
      rfl
    · unfold mutex_check_L3
      rw [getD_of hk] at hb
      rw [cond_of (by simpa using hk), bd_of (ix_of hk), cond_of hb]
    · unfold mutex_check_L3
      rw [cond_no (by simp)]
def init (n : Nat) (turns : Int) : Sm := (List.replicate n ⟨0, turns, false, 0, 0⟩, 0, 0, 0, [])
noncomputable def run (algo : Int) (n : Nat) (turns : Int) (list : List Int) : Sm := list.foldl (fun s w => stepF algo s w.toNat) (init n turns)
theorem bd_step {algo : Int} {n k : Nat} {s : Sm} (B : Bd (algo = 2) n k s) {who : Nat} (hw : who < n) : Bd (algo = 2) n (k + 1) (stepF algo s who) := by
  unfold stepF
  by_cases h0 : (pr s who).left = 0
  · rw [if_pos h0]; exact B.grow
  rw [if_neg h0]
  by_cases h1 : algo = 1
  · subst h1
    rw [if_pos rfl]
    exact (propext (by simp) : ((1 : Int) = 2) = False) ▸ bd_pet ((propext (by simp) : ((1 : Int) = 2) = False) ▸ B) hw h0
  rw [if_neg h1]
  by_cases h2 : algo = 2
  · subst h2
    rw [if_pos rfl]
    exact (propext (by simp) : ((2 : Int) = 2) = True) ▸ bd_bak ((propext (by simp) : ((2 : Int) = 2) = True) ▸ B) hw h0
  rw [if_neg h2]
  have e : (algo = 2) = False := propext ⟨h2, False.elim⟩
  by_cases h3 : algo = 3
  · rw [if_pos h3]
    exact e ▸ bd_nai (e ▸ B) hw h0
  · rw [if_neg h3]
    exact e ▸ bd_sw (e ▸ B) hw h0
theorem bd_init {bk : Prop} {n : Nat} {turns : Int} (h : 0 ≤ turns ∧ turns ≤ 5) : Bd bk n 0 (init n turns) := by
  have e : ∀ i, i < n → pr (init n turns) i = ⟨0, turns, false, 0, 0⟩ := by
    intro i hi; unfold pr init; rw [getD_of (by simpa using hi)]; simp
  refine ⟨by simp [init], fun i hi => ?_, fun i hi => ?_, fun i hi => ?_, fun i hi => ?_, by simp [init], by simp [init]⟩ <;> rw [e i hi]
  · simp
  · exact h
  · simp
  · simp
theorem run_snoc {algo : Int} {n : Nat} {turns : Int} {l : List Int} {k : Nat} (hk : k < l.length) : run algo n turns (l.take (k + 1)) = stepF algo (run algo n turns (l.take k)) (l[k].toNat) := by
  unfold run
  rw [List.take_succ_eq_append_getElem hk, List.foldl_append]; rfl
theorem bd_run {algo people turns : Int} {list : List Int} (G : Good algo people turns list) : ∀ k, k ≤ list.length → Bd (algo = 2) people.toNat k (run algo people.toNat turns (list.take k)) := by
  intro k
  induction k with
  | zero => intro _; exact bd_init G.tu
  | succ k ih =>
    intro hk
    rw [run_snoc (by omega)]
    have := G.el list[k] (List.getElem_mem (by omega))
    exact bd_step (ih (by omega)) (by omega)
theorem Good.take {algo people turns : Int} {list : List Int} (G : Good algo people turns list) (k : Nat) : Good algo people turns (list.take k) :=
  ⟨G.al, G.pe, G.p2, G.tu, by have := G.ln; simp; omega, fun t ht => G.el t (List.mem_of_mem_take ht)⟩
theorem playOK {N : Nat} (hN : 1000 < N) {algo people turns : Int} {list : List Int} (G : Good algo people turns list) :
    mutex_Play N algo people turns list = some ((run algo people.toNat turns list).2.2.2.2, (run algo people.toNat turns list).2.2.2.1, 0) := by
  have g1 := G.al; have g2 := G.pe; have g3 := G.p2; have g4 := G.tu; have g5 := G.ln
  obtain ⟨n, rfl⟩ : ∃ n : Nat, people = n := ⟨people.toNat, by omega⟩
  refine Wp.eq ?_
  unfold mutex_Play
  refine .seq (checkOK hN _ _ _ _) fun e _ he => ?_
  have e0 := he.2 G
  subst e0
  refine .condF (by simp) (.ck (mkB_of (by omega) (by omega) (by omega)) ?_)
  simp only [Int.toNat_natCast]
  have hfst : iter (mutex_Play_L5 N n turns) N ((List.replicate n (MutexProcess.z : MutexProcess)), 0) = some (List.replicate n ⟨0, turns, false, 0, 0⟩) := by
    refine iter_up (fun k => (List.replicate k ⟨0, turns, false, 0, 0⟩ ++ List.replicate (n - k) MutexProcess.z, (k : Int))) _ n _ (by simp) (fun k hk => ?_) ?_ N (by omega)
    · unfold mutex_Play_L5
      simp only [Int.toNat_natCast]
      have e2 : (List.replicate k (⟨0, turns, false, 0, 0⟩ : MutexProcess) ++ List.replicate (n - k) MutexProcess.z)[k]'(by simp; omega) = MutexProcess.z := by
        rw [List.getElem_append_right (by simp)]; simp
      rw [cond_of (by simp; omega), bd_of (ix_of (by simp; omega)), ck64 (by omega), e2]
      rw [List.set_append_right _ _ (by simp)]
      have e1 : List.replicate (n - k) MutexProcess.z = MutexProcess.z :: List.replicate (n - (k + 1)) MutexProcess.z := by
        rw [show n - k = (n - (k + 1)) + 1 by omega, List.replicate_succ]
      rw [e1]
      simp [List.replicate_succ', MutexProcess.z]
    · unfold mutex_Play_L5
      simp only [Int.toNat_natCast]
      rw [cond_no (by simp)]
      simp
  refine .bdO hfst ?_
  have hsnd : iter (mutex_Play_L7 N list algo) N (List.replicate n ⟨0, turns, false, 0, 0⟩, 0, 0, 0, [], 0) = some (run algo n turns list) := by
    refine iter_up (fun k => ((run algo n turns (list.take k)).1, (run algo n turns (list.take k)).2.1, (run algo n turns (list.take k)).2.2.1, (run algo n turns (list.take k)).2.2.2.1, (run algo n turns (list.take k)).2.2.2.2, (k : Int))) _ list.length _ (by simp [run, init]) (fun k hk => ?_) ?_ N (by omega)
    · have B := bd_run G k (by omega)
      rw [Int.toNat_natCast] at B
      rw [run_snoc hk]
      have hel := G.el list[k] (List.getElem_mem hk)
      obtain ⟨who, hwho⟩ : ∃ who : Nat, list[k] = who := ⟨list[k].toNat, by omega⟩
      rw [hwho] at hel
      have hw : who < n := by omega
      have hwl : who < (run algo n turns (list.take k)).1.length := by rw [B.len]; exact hw
      generalize run algo n turns (list.take k) = s at *
      unfold mutex_Play_L7
      simp only
      rw [cond_of (by simpa using hk), bd_of (ix_of hk), hwho, bd_of (ix_of hwl)]
      have e : s.1[who] = pr s who := by unfold pr; rw [getD_of hwl]
      rw [e, Int.toNat_natCast]
      unfold stepF
      by_cases h0 : (pr s who).left = 0
      · rw [cond_of (by simp [h0]), if_pos h0, ck64 (by omega)]; rfl
      rw [cond_no (by simp [h0]), if_neg h0]
      by_cases h1 : algo = 1
      · rw [cond_of (by simp [h1]), if_pos h1]
        have : n = 2 := by have := g3 h1; omega
        subst this
        rw [petOK B (by omega) hw h0, bd_some, ck64 (by omega)]; rfl
      rw [cond_no (by simp [h1]), if_neg h1]
      by_cases h2 : algo = 2
      · rw [cond_of (by simp [h2]), if_pos h2]
        have B' : Bd True n k s := (propext (by simp [h2]) : (algo = 2) = True) ▸ B
        have := bakOK hN (by omega) B' (by omega) hw h0
        obtain ⟨r, hr1, hr2⟩ := bnd this
        rw [hr1, bd_some]
        rw [← Option.some.inj hr2]
        simp only
        rw [ck64 (by omega)]
        rfl
      rw [cond_no (by simp [h2]), if_neg h2]
      by_cases h3 : algo = 3
      · rw [cond_of (by simp [h3]), if_pos h3]
        have := naiOK hN (by omega) B (by omega) hw h0
        obtain ⟨r, hr1, hr2⟩ := bnd this
        rw [hr1, bd_some]
        rw [← Option.some.inj hr2]
        simp only
        rw [ck64 (by omega)]
        rfl
      · rw [cond_no (by simp [h3]), if_neg h3]
        rw [swOK B (by omega) hw h0, bd_some, ck64 (by omega)]; rfl
    · unfold mutex_Play_L7
      simp only
      rw [cond_no (by simp), List.take_length]
  exact .bdO hsnd (.one rfl)
theorem playBad {N : Nat} (hN : 1000 < N) {algo people turns : Int} {list : List Int} (G : ¬Good algo people turns list) : Wp (mutex_Play N algo people turns list) fun r => r.1 = [] ∧ r.2.1 = 0 ∧ r.2.2 ≠ 0 := by
  unfold mutex_Play
  refine .seq (checkOK hN _ _ _ _) fun e _ he => ?_
  have h : ¬ e = 0 := fun h => G (he.1 h)
  exact .condT (by simp [h]) (.one ⟨rfl, rfl, h⟩)
end Mx

end Go.Proofs.Ytkccgokdahlmeaa
