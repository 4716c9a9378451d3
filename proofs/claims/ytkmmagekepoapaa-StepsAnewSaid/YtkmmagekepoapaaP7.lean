/- What Play tells, plainly. -/
import Derived.Test.YtkmmagekepoapaaP6
set_option linter.unusedVariables false
set_option linter.unusedSimpArgs false
set_option linter.unusedSectionVars false
set_option maxRecDepth 100000
namespace Go.Proofs.Ytkmmagekepoapaa
open Go.RowKit
namespace Sp
open Ob
def X (algo : Int) (m : M) : Prop := (algo = 3 → ∃ cs, S m cs) ∧ (algo = 4 → ∃ qs h t, Q m qs h t)
structure Inv (algo : Int) (P0 : List (List Ask)) (k : Nat) (m : M) : Prop where
  b : B P0.length k m
  a : A P0 m
  x : X algo m
section
variable {N : Nat} {algo : Int} {P0 : List (List Ask)} {m : M} {w k : Nat}
theorem kd (hP : OkP [tyA algo] P0) (a : A P0 m) (hw : w < P0.length) (hne : (m.who w).program ≠ []) : Asked (tyA algo) (m.kind w) (argP (m.who w)) := by
  unfold M.kind argP
  cases hh : (m.who w).program with
  | nil => exact (hne hh).elim
  | cons x r => exact (askd hP hw (a.mem hw (by rw [hh]; exact .head _))).2
theorem ty_cases (hP : OkP [tyA algo] P0) : algo = 1 ∨ algo = 2 ∨ algo = 3 ∨ algo = 4 := by
  have := hP.ty.2.2 (tyA algo) (.head _)
  unfold tyA at this
  by_cases h1 : algo = 1
  · exact .inl h1
  by_cases h2 : algo = 2
  · exact .inr (.inl h2)
  by_cases h3 : algo = 3
  · exact .inr (.inr (.inl h3))
  by_cases h4 : algo = 4
  · exact .inr (.inr (.inr h4))
  rw [if_neg (by omega), if_neg h3, if_neg h4] at this
  omega
theorem kd5 (hP : OkP [tyA algo] P0) (a : A P0 m) (hw : w < P0.length) (hne : (m.who w).program ≠ []) (h : algo = 1 ∨ algo = 2) : m.kind w = 10 := by
  have := kd hP a hw hne
  unfold tyA at this
  rw [if_pos h] at this
  exact asked5 this
theorem kd3 (hP : OkP [tyA algo] P0) (a : A P0 m) (hw : w < P0.length) (hne : (m.who w).program ≠ []) (h : algo = 3) : (m.kind w = 5 ∧ Num (argP (m.who w))) ∨ m.kind w = 6 := by
  have := kd hP a hw hne
  unfold tyA at this
  rw [if_neg (by omega), if_pos h] at this
  exact asked3 this
theorem kd2 (hP : OkP [tyA algo] P0) (a : A P0 m) (hw : w < P0.length) (hne : (m.who w).program ≠ []) (h : algo = 4) : (m.kind w = 3 ∧ Num (argP (m.who w))) ∨ m.kind w = 4 := by
  have := kd hP a hw hne
  unfold tyA at this
  rw [if_neg (by omega), if_neg (by omega), if_pos h] at this
  exact asked2 this
theorem Inv.ne (H : Inv algo P0 k m) (hw : w < P0.length) (hp : (m.who w).pending = true) : (m.who w).program ≠ [] := ((H.b.pb hw).pend hp).1
theorem Inv.len (H : Inv algo P0 k m) (hw : w < P0.length) : w < m.people.length := by rw [H.b.pl]; exact hw
theorem Inv.D (H : Inv algo P0 k m) (hP : OkP [tyA algo] P0) (hw : w < P0.length) : D m w := by
  have hw' := H.len hw
  rcases ty_cases hP with h | h | h | h
  · intro hp hc hi
    have := kd5 hP H.a hw (H.ne hw hp) (.inl h)
    exact ⟨fun e => by omega, fun e => by omega⟩
  · intro hp hc hi
    have := kd5 hP H.a hw (H.ne hw hp) (.inr h)
    exact ⟨fun e => by omega, fun e => by omega⟩
  · obtain ⟨cs, hS⟩ := H.x.1 h
    refine hS.D hw' fun ha => ?_
    rcases kd3 hP H.a hw (H.ne hw ha.1) h with g | g
    · exact .inl g.1
    · exact .inr g
  · obtain ⟨qs, hh, t, hQ⟩ := H.x.2 h
    refine hQ.D hw' fun ha => ?_
    rcases kd2 hP H.a hw (H.ne hw ha.1) h with g | g
    · exact .inl g.1
    · exact .inr g
theorem Inv.trn (H : Inv algo P0 k m) (hP : OkP [tyA algo] P0) (hw : w < P0.length) : Inv algo P0 (k + 1) (trn algo m w) := by
  have hw' := H.len hw
  refine ⟨trn_B H.b (H.D hP hw) hw, trn_A H.a hw (fun a ha => askd_ne (askd hP hw ha).2) (H.ne hw), ?_⟩
  unfold Sp.trn
  split
  · split
    · exact H.x
    · exact ⟨fun h => (H.x.1 h).elim fun cs hS => ⟨cs, hS.beg hw' H.b⟩, fun h => by obtain ⟨qs, hh, t, hQ⟩ := H.x.2 h; exact ⟨qs, hh, t, hQ.beg hw' H.b⟩⟩
  · rename_i h1
    have hp : (m.who w).pending = true := by simpa using h1
    split
    · exact ⟨fun h => (H.x.1 h).elim fun cs hS => ⟨cs, hS.ans hw'⟩, fun h => by obtain ⟨qs, hh, t, hQ⟩ := H.x.2 h; exact ⟨qs, hh, t, hQ.ans hw'⟩⟩
    · rename_i h2
      have ha : m.act w := ⟨hp, by simpa using h2⟩
      refine ⟨fun h => ?_, fun h => ?_⟩
      · obtain ⟨cs, hS⟩ := H.x.1 h
        obtain ⟨cs', _, h3, _⟩ := stack_step (algo := algo) hS hw' ha (kd3 hP H.a hw (H.ne hw hp) h)
        exact ⟨cs', h3⟩
      · obtain ⟨qs, hh, t, hQ⟩ := H.x.2 h
        obtain ⟨qs', h', t', _, h3⟩ := queue_step (algo := algo) hQ hw' ha (kd2 hP H.a hw (H.ne hw hp) h)
        exact ⟨qs', h', t', h3⟩
theorem trn_act (ha : m.act w) : trn algo m w = stepS algo m w := by
  unfold trn
  rw [if_neg (by simp [ha.1]), if_neg (by simp [ha.2])]
def runM (algo : Int) (m : M) (turns : List Int) : M := turns.foldl (fun m t => Sp.trn algo m t.toNat) m
theorem runM_app (algo : Int) (m : M) (a b : List Int) : runM algo m (a ++ b) = runM algo (runM algo m a) b := List.foldl_append
theorem run_ok (hP : OkP [tyA algo] P0) : ∀ {turns : List Int} {k : Nat} {m : M}, Inv algo P0 k m → (∀ t ∈ turns, 0 ≤ t ∧ t < P0.length) → Inv algo P0 (k + turns.length) (runM algo m turns)
  | [], k, m, h, _ => h
  | t :: turns, k, m, h, ht => by
    have h2 := run_ok hP (turns := turns) (h.trn hP (w := t.toNat) (by have := ht t (.head _); omega)) fun x hx => ht x (.tail _ hx)
    have e : k + (t :: turns).length = k + 1 + turns.length := by simp; omega
    rw [e]; exact h2
def m0 (P0 : List (List Ask)) : M := ⟨0, [⟨0, -1⟩], -1, 0, 0, P0.map fun l => ⟨l, false, false, 0, 0, 0, -1, -1, -1, -1⟩, [], 0⟩
theorem m0_who (w : Nat) : (m0 P0).who w = (⟨P0.getD w [], false, false, 0, 0, 0, -1, -1, -1, -1⟩ : P) ∨ (m0 P0).who w = StepsProcess.z := by
  unfold M.who m0
  simp only [List.getD_eq_getElem?_getD, List.getElem?_map]
  cases P0[w]? with
  | none => exact .inr rfl
  | some l => exact .inl rfl
theorem m0_pend (w : Nat) : ((m0 P0).who w).pending = false := by
  rcases m0_who (P0 := P0) w with h | h <;> rw [h] <;> rfl
theorem m0_prog {w : Nat} (hw : w < P0.length) : ((m0 P0).who w).program = P0.getD w [] := by
  unfold M.who m0
  simp only [List.getD_eq_getElem?_getD, List.getElem?_map]
  rw [List.getElem?_eq_getElem hw]; rfl
theorem inv0 : Inv algo P0 0 (m0 P0) := by
  refine ⟨⟨by simp [m0], by simp [m0], by simp [m0], by simp [m0], fun x hx => ?_, fun p hp => ?_, by simp [m0], by simp [m0], by simp [m0]⟩, ⟨by simp [m0], fun w hw => ⟨0, by rw [m0_prog hw]; simp, Nat.zero_le _, by simp [m0, had]⟩⟩, fun _ => ⟨[], rfl, List.nodup_nil, by simp, fun w _ ha => ?_, fun w _ ha => ?_, fun w v _ _ _ ha => ?_, fun w v _ _ ha => ?_⟩, fun _ => ⟨[0], 0, 0, by simp, by simp, by simp, rfl, rfl, by simp, by simp [m0], fun i hi => by simp at hi, rfl, fun i h1 h2 => by simp at h2; omega, fun w _ ha => ?_, fun w _ ha => ?_, fun w v _ _ _ ha => ?_⟩⟩
  · have : x = ⟨0, -1⟩ := List.mem_singleton.1 hx
    subst this
    simp [m0]
  · obtain ⟨l, hl, rfl⟩ := List.mem_map.1 hp
    exact ⟨by simp [m0], by simp [m0], by simp [m0], by simp [m0], fun e => (by cases e), by simp⟩
  all_goals
    have := ha.1
    rw [m0_pend] at this
    cases this
theorem play_ok (hN : 5000 < N) (hc : threads_Check N [tyA algo] P0 = some 0) (hP : OkP [tyA algo] P0) {turns : List Int} (hT : turns.length ≤ 300 ∧ ∀ t ∈ turns, 0 ≤ t ∧ t < P0.length) : steps_Play N algo P0 turns = some ((runM algo (m0 P0) turns).events, (runM algo (m0 P0) turns).restarts, 0) := by
  have hty : tyA algo ≠ 0 := by have := hP.ty.2.2 (tyA algo) (.head _); omega
  have h8 := hP.few
  refine Wp.eq ?_
  unfold steps_Play
  refine .bdO (type_eq N algo) (.condF (decide_eq_false hty) (.bdO (type_eq N algo) (.bdO hc (.condF rfl (.seq (turns_wp hN P0.length turns) fun r _ hr => ?_)))))
  have h0 : r = 0 := by
    rcases hr with ⟨h, _⟩ | ⟨_, h, _⟩
    · exact h
    · exact (h hT).elim
  subst h0
  refine .condF rfl (.seq (P := fun s => s = P0.map fun l => (⟨l, false, false, 0, 0, 0, -1, -1, -1, -1⟩ : P)) (.iter P0.length (fun k st => st = ((P0.take k).map fun l => (⟨l, false, false, 0, 0, 0, -1, -1, -1, -1⟩ : P), (k : Int))) (by omega) rfl ?_ ?_) fun s _ hs => ?_)
  · rintro k st hk rfl
    simp only [steps_Play_L5]
    refine .condT (decide_eq_true (by omega)) (.ix hk (.ck (limB_of ⟨?_, ?_⟩) (.ck64 (by omega) (.one ?_))))
    · simp; exact Nat.le_trans (m := 100) (by omega) (by unfold maxLen; decide)
    · simp; omega
    · refine Prod.ext ?_ (by simp)
      show _ = (P0.take (k + 1)).map _
      rw [← List.take_append_getElem hk, List.map_append]
      rfl
  · rintro st rfl
    simp only [steps_Play_L5]
    refine .condF (decide_eq_false (by simp)) (.one ?_)
    simp
  subst hs
  refine .seq (P := fun s => s = (runM algo (m0 P0) turns).t) (.iter turns.length (fun k st => st = ((runM algo (m0 P0) (turns.take k)).n, (runM algo (m0 P0) (turns.take k)).nodes, (runM algo (m0 P0) (turns.take k)).top, (runM algo (m0 P0) (turns.take k)).head, (runM algo (m0 P0) (turns.take k)).tail, (runM algo (m0 P0) (turns.take k)).people, (runM algo (m0 P0) (turns.take k)).events, (runM algo (m0 P0) (turns.take k)).restarts, (k : Int))) (by omega) rfl ?_ ?_) fun s _ hs => ?_
  · rintro k st hk rfl
    simp only [steps_Play_L7]
    have h1 := run_ok hP (inv0 (algo := algo)) (turns := turns.take k) (fun t ht => hT.2 t (List.mem_of_mem_take ht))
    have hle : 0 + (turns.take k).length ≤ 1000 := by simp; omega
    have h2 := hT.2 turns[k] (List.getElem_mem hk)
    obtain ⟨w, hw⟩ : ∃ w : Nat, turns[k] = w := ⟨turns[k].toNat, by omega⟩
    have hw2 : w < P0.length := by omega
    have h3 := turn_eq (N := N) (algo := algo) h1.b (h1.D hP hw2) hw2 hle
    refine .condT (decide_eq_true (by omega)) (.ix hk ?_)
    rw [hw]
    refine .bdO h3 (.ck64 (by omega) (.one ?_))
    have e : runM algo (m0 P0) (turns.take (k + 1)) = Sp.trn algo (runM algo (m0 P0) (turns.take k)) w := by
      rw [← List.take_append_getElem hk, runM_app, hw]; rfl
    rw [e]
    rfl
  · rintro st rfl
    simp only [steps_Play_L7]
    refine .condF (decide_eq_false (by simp)) (.one ?_)
    rw [List.take_length]
    rfl
  subst hs
  exact .one rfl
theorem play_wp (hN : 5000 < N) (hl : ∀ l ∈ P0, l.length < N ∧ l.length ≤ 9223372036854775807) (turns : List Int) : Wp (steps_Play N algo P0 turns) fun r => (r.2.2 ≠ 0 ∧ r.1 = []) ∨ (OkP [tyA algo] P0 ∧ threads_Check N [tyA algo] P0 = some 0 ∧ (turns.length ≤ 300 ∧ ∀ t ∈ turns, 0 ≤ t ∧ t < P0.length) ∧ r = ((runM algo (m0 P0) turns).events, (runM algo (m0 P0) turns).restarts, 0)) := by
  obtain ⟨e, he, hok⟩ := check_wp hN (types := [tyA algo]) hl
  by_cases hgood : tyA algo ≠ 0 ∧ e = 0 ∧ turns.length ≤ 300 ∧ ∀ t ∈ turns, 0 ≤ t ∧ t < P0.length
  · obtain ⟨h1, rfl, hT⟩ := hgood
    exact ⟨_, play_ok hN he (hok rfl) hT, .inr ⟨hok rfl, he, hT, rfl⟩⟩
  · unfold steps_Play
    refine .bdO (type_eq N algo) (.cond (fun _ => .one (.inl ⟨by decide, rfl⟩)) fun h0 => .bdO (type_eq N algo) (.bdO he (.cond (fun h => .one (.inl ⟨by simpa using h, rfl⟩)) fun h1 => .seq (turns_wp hN P0.length turns) fun r _ hr => .cond (fun h => .one (.inl ⟨by simpa using h, rfl⟩)) fun h2 => ?_)))
    exfalso
    have h0 : tyA algo ≠ 0 := of_decide_eq_false h0
    have h1 : e = 0 := by simpa using h1
    have h2 : r = 0 := by simpa using h2
    rcases hr with ⟨_, h3⟩ | ⟨h3, _⟩
    · exact hgood ⟨h0, h1, h3⟩
    · exact h3 h2
end
end Sp

end Go.Proofs.Ytkmmagekepoapaa
