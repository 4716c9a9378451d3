/- StepsRight, plainly. -/
import Derived.Test.YtkmmagekepoapaaP13
import Derived.Test.YtkmmagekepoapaaA6
set_option linter.unusedVariables false
set_option linter.unusedSimpArgs false
set_option linter.unusedSectionVars false
set_option maxRecDepth 100000
namespace Go.Proofs.Ytkmmagekepoapaa
open Go.RowKit
namespace Sp
open Ob Hs
section
variable {N : Nat} {P0 : List (List Ask)}
theorem types_ok {T : Int} (h : threads_Check N [T] P0 = some 0) : history_Types N [T] = some 0 := by
  unfold threads_Check at h
  obtain ⟨r, hr, h⟩ := bd_inv h
  rcases cond_inv h with ⟨_, h⟩ | ⟨hc, _⟩
  · cases h
  simp only [Bool.or_eq_false_iff, Bool.not_eq_false', decide_eq_true_eq] at hc
  rw [hr, hc.1]
theorem lives : alibkeep_stepsLives 18446744073709551616 = some true := by kernel_rfl
end
end Sp

namespace Sr
open Rl Hs
theorem rn_arg {N : Nat} {types : List Int} {l : List Event} {k : Nat} {out : List Call} {op : List Int} (R : Rn N types l k out op) : ∀ m, m < out.length → history_Argument N (out.getD m Call.z).kind (out.getD m Call.z).arg = some true ∧ ((out.getD m Call.z).to_ ≠ -1 → history_result N (out.getD m Call.z).kind (out.getD m Call.z).res = some true) := by
  induction R with
  | zero => exact fun m h => absurd h (Nat.not_lt_zero _)
  | @succ k out out' op op' R hk S ih =>
    intro m hm
    rcases S.how with ⟨_, _, ha, _, rfl, _⟩ | ⟨_, m0, _, hml, _, hr, rfl, _⟩
    · rw [List.length_append, List.length_singleton] at hm
      rw [getD_app]
      by_cases h : m < out.length
      · rw [if_pos h]; exact ih m h
      · rw [if_neg h, if_pos (by omega)]
        exact ⟨ha, fun h => (h rfl).elim⟩
    · rw [List.length_set] at hm
      rw [getD_set2 hml]
      by_cases e : m = m0
      · subst e
        rw [if_pos rfl]
        exact ⟨(ih m hm).1, fun _ => hr⟩
      · rw [if_neg e]; exact ih m hm
theorem asked_of {N : Nat} {types : List Int} {l : List Event} {k : Nat} {c : List Call} {op : List Int} (R : Rn N types l k c op) {m : Nat} (hm : m < c.length) : Ob.Asked (types.getD (c.getD m Call.z).thing.toNat 0) (c.getD m Call.z).kind (c.getD m Call.z).arg := by
  have O := R.wf.one m hm
  have a1 := (rn_arg R m hm).1
  rw [Ob.argument_ok] at a1
  refine ⟨O.fit.1, O.fit.2, fun h => ?_, fun h => ?_⟩
  · rw [if_pos h] at a1
    simpa using a1
  · rw [if_neg h] at a1
    have : 1 ≤ (c.getD m Call.z).arg ∧ (c.getD m Call.z).arg ≤ 1000 := by simpa using a1
    exact this
end Sr
namespace Sp
open Ob Hs Sr
section
variable {N : Nat} {algo T : Int} {P0 : List (List Ask)} {m m' : M} {w k : Nat} {out out' : List Call} {op op' : List Int} {steps : List Step} {st st' : List Int}
def LinX (algo : Int) (np : Nat) (m : M) (out : List Call) (op : List Int) : Prop :=
  (algo = 1 → ∃ steps, L 5 np m out op steps [m.n]) ∧ (algo = 3 → ∃ cs steps, S m cs ∧ L 3 np m out op steps (stV m cs)) ∧ (algo = 4 → ∃ qs hh t steps, Q m qs hh t ∧ L 2 np m out op steps (quV m qs hh) ∧ MK np m out op steps)
theorem lin_trn (hP : OkP [tyA algo] P0) (I : Inv algo P0 k m) (h : H N (tyA algo) P0 m out op) (hw : w < P0.length) (mv : Mv algo m w out op out' op') (l : LinX algo P0.length m out op) : LinX algo P0.length (trn algo m w) out' op' := by
  refine ⟨fun e => ?_, fun e => ?_, fun e => ?_⟩
  · subst e
    obtain ⟨steps, l⟩ := l.1 rfl
    exact tick_trn (N := N) hP I h hw mv l
  · subst e
    exact stack_trn (N := N) hP I h hw mv (l.2.1 rfl)
  · subst e
    exact queue_trn (N := N) hP I h hw mv (l.2.2 rfl)
theorem lin0 : LinX algo P0.length (m0 P0) [] [] := by
  refine ⟨fun e => ⟨[], l0⟩, fun e => ?_, fun e => ?_⟩
  · obtain ⟨cs, hS⟩ := (inv0 (algo := algo) (P0 := P0)).x.1 e
    have hc : cs = [] := by
      cases cs with
      | nil => rfl
      | cons c cs =>
        have := hS.ch.1
        simp [m0] at this
    subst hc
    exact ⟨[], [], hS, l0⟩
  · have : Q (m0 P0) [0] 0 0 := by
      refine ⟨by simp, by simp, by simp, rfl, rfl, by simp, by simp [m0], fun i hi => by simp at hi, rfl, fun i h1 h2 => by simp at h2; omega, fun w _ ha => ?_, fun w _ ha => ?_, fun w v _ _ _ ha => ?_⟩
      all_goals
        have := ha.1
        rw [m0_pend] at this
        cases this
    exact ⟨[0], 0, 0, [], this, l0, fun w _ ha => by have := ha.1; rw [m0_pend] at this; cases this⟩
theorem lrun (hP : OkP [tyA algo] P0) : ∀ {turns : List Int} {k : Nat} {m : M} {out : List Call} {op : List Int}, Inv algo P0 k m → H N (tyA algo) P0 m out op → LinX algo P0.length m out op → (∀ t ∈ turns, 0 ≤ t ∧ t < P0.length) → k + turns.length ≤ 1000 → ∃ out' op', H N (tyA algo) P0 (runM algo m turns) out' op' ∧ LinX algo P0.length (runM algo m turns) out' op'
  | [], _, m, out, op, _, h, l, _, _ => ⟨out, op, h, l⟩
  | t :: turns, k, m, out, op, I, h, l, ht, hk => by
    have hw : t.toNat < P0.length := by have := ht t (.head _); omega
    have hk' : k + (turns.length + 1) ≤ 1000 := hk
    obtain ⟨out', op', mv, h'⟩ := turn_mv hP I (by omega) h hw
    exact lrun hP (turns := turns) (I.trn hP hw) h' (lin_trn hP I h hw mv l) (fun x hx => ht x (.tail _ hx)) (by omega)
/-- There is an order in which it was done. -/
theorem lin_ex (hP : OkP [tyA algo] P0) (h2 : algo ≠ 2) (l : LinX algo P0.length m out op) : ∃ steps st, L (tyA algo) P0.length m out op steps st := by
  rcases ty_cases hP with e | e | e | e
  · subst e
    obtain ⟨steps, l⟩ := l.1 rfl
    exact ⟨steps, _, l⟩
  · exact (h2 e).elim
  · subst e
    obtain ⟨cs, steps, _, l⟩ := l.2.1 rfl
    exact ⟨steps, _, l⟩
  · subst e
    obtain ⟨qs, hh, t, steps, _, l, _⟩ := l.2.2 rfl
    exact ⟨steps, _, l⟩
/-! Where there is room the objects do so. -/
theorem stp_ust {s : List Int} {kind arg : Int} (hT : T = 5 ∨ T = 2 ∨ T = 3) (hA : Asked T kind arg) (hs : OkS T s) (hb : (T = 5 → s.getD 0 0 < 1000) ∧ (T ≠ 5 → s.length < 50)) : nx T s kind arg = some (ust T s kind arg) := by
  unfold nx
  rw [if_pos ⟨hs, hA⟩]
  unfold stp ust
  rcases hT with rfl | rfl | rfl
  · have := hb.1 rfl
    rw [if_neg (by decide), if_pos rfl, if_neg (by omega), if_pos rfl]
  · have := hb.2 (by decide)
    have h50 : s.length ≠ 50 := by omega
    by_cases h3 : kind = 3
    · simp [h3, h50]
    · cases s with
      | nil => simp [h3]
      | cons a s => simp [h3]
  · have := hb.2 (by decide)
    have h50 : s.length ≠ 50 := by omega
    by_cases h3 : kind = 5
    · simp [h3, h50]
    · cases s with
      | nil => simp [h3]
      | cons a s => simp [h3]
theorem ust_len {s : List Int} {kind arg : Int} (hT : T = 2 ∨ T = 3) : (ust T s kind arg).1.length ≤ s.length + 1 := by
  unfold ust
  rcases hT with rfl | rfl
  · rw [if_neg (by decide), if_pos rfl]
    split
    · simp
    · split
      · simp
      · simp; omega
  · rw [if_neg (by decide), if_neg (by decide)]
    split
    · simp
    · split
      · simp
      · simp; omega
theorem sq_run (hT : T = 5 ∨ T = 2 ∨ T = 3) : ∀ {l : List Do} {s t : List Int}, (∀ d ∈ l, Asked T d.kind d.arg) → OkS T s → ((T = 5 → s.getD 0 0 + l.length ≤ 1000) ∧ (T ≠ 5 → s.length + l.length ≤ 50)) → sq T s l = some t → Ob.run T s l = some t
  | [], s, t, _, _, _, h => h
  | d :: l, s, t, hA, hs, hb, h => by
    simp only [sq] at h
    split at h
    · rename_i hr
      have hl : (d :: l).length = l.length + 1 := rfl
      have e1 := stp_ust hT (hA d (.head _)) hs ⟨fun e => by have := hb.1 e; omega, fun e => by have := hb.2 e; omega⟩
      have hok := (nx_ok (n := (ust T s d.kind d.arg).1) (res := (ust T s d.kind d.arg).2) e1).2.2.2
      simp only [Ob.run]
      rw [e1]
      simp only
      rw [if_pos hr]
      refine sq_run hT (fun x hx => hA x (.tail _ hx)) hok ⟨fun e => ?_, fun e => ?_⟩ h
      · have := hb.1 e
        have e2 : (ust T s d.kind d.arg).1.getD 0 0 = s.getD 0 0 + 1 := by unfold ust; rw [if_pos e]; rfl
        omega
      · have := hb.2 e
        have := ust_len (s := s) (kind := d.kind) (arg := d.arg) (T := T) (by rcases hT with g | g | g; exact (e g).elim; exact .inl g; exact .inr g)
        omega
    · cases h
theorem objl_asked {types : List Int} {l : List Event} {k : Nat} (R : Rn N [T] l k out op) {steps : List Step} (hin : ∀ s ∈ steps, s.call.toNat < out.length) : ∀ d ∈ objl out 0 steps, Asked T d.kind d.arg := by
  induction steps with
  | nil => intro d hd; cases hd
  | cons s steps ih =>
    intro d hd
    have hs := hin s (.head _)
    have ih := ih fun s hs => hin s (.tail _ hs)
    unfold objl at hd
    split at hd
    · rcases List.mem_cons.1 hd with g | g
      · rw [g]
        have a := asked_of R hs
        have ht := (R.wf.one _ hs).thing
        have : (out.getD s.call.toNat Call.z).thing = 0 := by
          have a1 := ht.1
          have a2 := ht.2
          rw [List.length_singleton] at a2
          omega
        rw [this] at a
        exact a
      · exact ih d g
    · exact ih d hd
theorem rightLaw (hN : 5000 < N) (hL : alibkeep_stepsLives N = some true) (algo : Int) (P0 : List (List Ask)) (turns : List Int) (hl : ∀ l ∈ P0, l.length < N ∧ l.length ≤ 9223372036854775807) : alibkeep_StepsRight N algo P0 turns = some true := by
  refine Wp.eq ?_
  unfold alibkeep_StepsRight
  refine .seq (play_wp hN hl turns) fun r _ hr => .bdO hL (.cond (fun hc => .bdO hL (.one ?_)) fun hc => ?_)
  · rcases hr with ⟨h, h1⟩ | ⟨_, _, _, rfl⟩
    · rw [h1]; simp
    · simp
  simp only [Bool.or_eq_false_iff, Bool.not_eq_false', decide_eq_true_eq, decide_eq_false_iff_not, Bool.not_true] at hc
  obtain ⟨⟨_, h0⟩, h2⟩ := hc
  obtain ⟨hP, hck, hT, rfl⟩ : OkP [tyA algo] P0 ∧ threads_Check N [tyA algo] P0 = some 0 ∧ (turns.length ≤ 300 ∧ ∀ t ∈ turns, 0 ≤ t ∧ t < P0.length) ∧ r = ((runM algo (m0 P0) turns).events, (runM algo (m0 P0) turns).restarts, 0) := by
    rcases hr with ⟨h, _⟩ | h
    · exact (h h0).elim
    · exact h
  obtain ⟨out, op, h, lx⟩ := lrun (N := N) hP inv0 Sp.h0 lin0 hT.2 (by omega)
  obtain ⟨steps, st, l⟩ := lin_ex hP h2 lx
  generalize runM algo (m0 P0) turns = x at *
  refine .bdO (type_eq N algo) ?_
  have htz := types_ok hck
  have hTT : tyA algo = 5 ∨ tyA algo = 2 ∨ tyA algo = 3 := by
    rcases ty_cases hP with e | e | e | e <;> subst e <;> decide
  by_cases h200 : x.events.length ≤ 200
  · have hcalls := calls_of (by omega : 300 < N) htz h200 h.rn
    by_cases h9 : out.length ≤ 9
    · have hc9 : search_Calls N [tyA algo] x.events = some (out, 0) := by
        unfold search_Calls
        rw [bd_of hcalls, cond_no (by simp), cond_no (decide_eq_false (by simp only; omega))]
      have Hx : Hc N [tyA algo] x.events out := by
        obtain ⟨⟨c, ec⟩, hc, hcs⟩ := calls9_wp (N := N) (by omega) [tyA algo] x.events
        rw [hc9] at hc
        cases hc
        rcases hcs with ⟨_, Hx, _⟩ | ⟨z, _⟩
        · exact Hx
        · exact (z rfl).elim
      obtain ⟨rel, X9⟩ := cx9 Hx (by omega)
      refine .seq (find_wp (by omega) hc9) fun q _ ⟨f1, f2, f3⟩ => .one ?_
      have hF := f3 rfl Hx
      have hin : ∀ s ∈ steps, s.call.toNat < out.length := fun s hs => (ac_res l.ac s hs).1.2
      have hlen : steps.length ≤ 9 := by
        have := Ac.nod List.nodup_nil (by simp) l.ac
        have h5 := Rl.pig_lt this.1 this.2
        simp [nums] at h5
        omega
      have hol := objl_len out 0 steps
      have hrun := sq_run hTT (objl_asked (types := [tyA algo]) h.rn hin) (st0_ok (hP.ty.2.2 _ (.head _))) ⟨fun e => by rw [e]; show (0 : Int) + _ ≤ 1000; omega, fun e => by
        have : (st0 (tyA algo)).length = 0 := by rcases hTT with g | g | g; exact (e g).elim; rw [g]; rfl; rw [g]; rfl
        omega⟩ l.sq
      have hG : Sr.Gd [tyA algo] out (bfA out) (S0 [tyA algo]) [] steps := by
        refine ⟨(pl_iff X9 (by simp [S0])).2 ⟨l.ac, fun y hy => ?_⟩, fun i hi ht => by simpa using l.cm i hi ht⟩
        have : y = 0 := by simpa using hy
        subst this
        exact ⟨st, hrun⟩
      have : q.2.1 = true := by
        rcases hF with ⟨g, _⟩ | ⟨_, _, g⟩
        · exact g
        · exact (g steps hG).elim
      simp [this, f1]
    · have hc9 : search_Calls N [tyA algo] x.events = some ([], 2) := by
        unfold search_Calls
        rw [bd_of hcalls, cond_no (by simp), cond_of (decide_eq_true (by simp only; omega))]
      refine .seq (find_wp (by omega) hc9) fun q _ ⟨f1, f2, f3⟩ => .one ?_
      simp [f1]
  · have hc9 : search_Calls N [tyA algo] x.events = some ([], 2) := by
      unfold search_Calls history_Calls
      rw [bd_of htz, cond_no (by simp), cond_of (decide_eq_true (by omega)), bd_some, cond_of (by simp)]
    refine .seq (find_wp (by omega) hc9) fun q _ ⟨f1, f2, f3⟩ => .one ?_
    simp [f1]
end
end Sp

end Go.Proofs.Ytkmmagekepoapaa
