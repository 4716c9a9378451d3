/- Threads, plainly. -/
import Derived.Test.YteklmleiiiodfaaT1
import Derived.Test.YteklmleiiiodfaaL4
set_option linter.unusedVariables false
set_option linter.unusedSimpArgs false
set_option linter.unusedSectionVars false
set_option maxRecDepth 100000
namespace Go.Proofs.Yteklmleiiiodfaa
open Go.RowKit
namespace Th
open Ob
/-- A machine. -/
structure M where
  states : List (List Int)
  people : List ThreadsProcess
  events : List Event
  steps : List Step
  calls : Int
def M.t (m : M) : (List (List Int)) × (List ThreadsProcess) × (List Event) × (List Step) × Int := (m.states, m.people, m.events, m.steps, m.calls)
def M.who (m : M) (w : Nat) : ThreadsProcess := m.people.getD w ThreadsProcess.z
/-- What a turn does. -/
noncomputable def trn (types : List Int) (m : M) (who : Int) : M :=
  match (m.who who.toNat).program with
  | [] => m
  | a :: rest =>
    if (m.who who.toNat).pending = false then { m with people := m.people.set who.toNat ⟨a :: rest, true, m.calls, false, (m.who who.toNat).failed, (m.who who.toNat).res⟩, events := m.events ++ [⟨who, a.thing, a.kind, a.arg⟩], calls := m.calls + 1 }
    else if (m.who who.toNat).done = false then
      match nx (types.getD a.thing.toNat 0) (m.states.getD a.thing.toNat []) a.kind a.arg with
      | some (s, res) => { m with states := m.states.set a.thing.toNat s, people := m.people.set who.toNat ⟨a :: rest, (m.who who.toNat).pending, (m.who who.toNat).call, true, false, res⟩, steps := m.steps ++ [⟨(m.who who.toNat).call, res⟩] }
      | none => { m with people := m.people.set who.toNat ⟨a :: rest, (m.who who.toNat).pending, (m.who who.toNat).call, true, true, 0⟩ }
    else if (m.who who.toNat).failed = false then { m with people := m.people.set who.toNat ⟨rest, false, (m.who who.toNat).call, (m.who who.toNat).done, (m.who who.toNat).failed, (m.who who.toNat).res⟩, events := m.events ++ [⟨who, a.thing, 0, (m.who who.toNat).res⟩] }
    else m
/-- What holds of a machine behind so many turns. -/
structure Inv (types : List Int) (np k : Nat) (m : M) : Prop where
  sl : m.states.length = types.length
  pl : m.people.length = np
  ask : ∀ p ∈ m.people, ∀ a ∈ p.program, 0 ≤ a.thing ∧ a.thing < types.length
  pend : ∀ p ∈ m.people, p.pending = true → p.program ≠ []
  ev : m.events.length ≤ k
  st : m.steps.length ≤ k
  ca : 0 ≤ m.calls ∧ m.calls ≤ k
theorem mem_set {α : Type} {l : List α} {i : Nat} {a x : α} (h : x ∈ l.set i a) : x = a ∨ x ∈ l := by
  rcases List.mem_or_eq_of_mem_set h with h | h
  · exact .inr h
  · exact .inl h
theorem Inv.later {types : List Int} {np k : Nat} {m : M} (h : Inv types np k m) : Inv types np (k + 1) m := ⟨h.sl, h.pl, h.ask, h.pend, Nat.le_succ_of_le h.ev, Nat.le_succ_of_le h.st, h.ca.1, by have := h.ca.2; omega⟩
theorem turn_ok {N : Nat} (hN : 300 < N) {types : List Int} {np k : Nat} {m : M} (h : Inv types np k m) {who : Int} (h0 : 0 ≤ who) (h1 : who < np) (hk : k ≤ 1000) :
    threads_machine_turn N types m.states m.people m.events m.steps m.calls who = some (trn types m who).t ∧ Inv types np (k + 1) (trn types m who) ∧ (∃ e, (trn types m who).events = m.events ++ e ∧ e.length ≤ 1) ∧ ∃ s, (trn types m who).steps = m.steps ++ s ∧ s.length ≤ 1 := by
  obtain ⟨w, rfl⟩ : ∃ w : Nat, who = w := ⟨who.toNat, by omega⟩
  have hpl := h.pl
  have hw : w < m.people.length := by omega
  have hx : ix m.people (w : Int) = some (m.who w) := by rw [ix_of hw]; unfold M.who; rw [getD_of hw]
  have hm : m.who w ∈ m.people := by unfold M.who; rw [getD_of hw]; exact List.getElem_mem hw
  have hask := h.ask _ hm
  have hpend := h.pend _ hm
  have hev := h.ev
  have hst := h.st
  have hca := h.ca
  unfold threads_machine_turn trn
  rw [hx, Int.toNat_natCast]
  simp only [bd_some]
  generalize m.who w = p at hm hask hpend ⊢
  obtain ⟨prog, pending, call, done, failed, res⟩ := p
  simp only at hask hpend ⊢
  cases prog with
  | nil =>
    have : pending = false := by cases pending with
      | false => rfl
      | true => exact (hpend rfl rfl).elim
    subst this
    exact ⟨rfl, h.later, ⟨[], by simp⟩, [], by simp⟩
  | cons a rest =>
    obtain ⟨ha0, ha1⟩ := hask a (.head _)
    have hkeep : ∀ q : ThreadsProcess, q.program = a :: rest ∨ q.program = rest → (q.pending = true → q.program ≠ []) → ∀ ev st ca, ev.length ≤ k + 1 → st.length ≤ k + 1 → 0 ≤ ca ∧ ca ≤ ((k + 1 : Nat) : Int) → ∀ S : List (List Int), S.length = types.length → Inv types np (k + 1) ⟨S, m.people.set w q, ev, st, ca⟩ := by
      intro q hq hq2 ev st ca h2 h3 h4 S hS
      refine ⟨hS, by simpa using hpl, fun p hp => ?_, fun p hp => ?_, h2, h3, h4⟩
      · rcases mem_set hp with rfl | hp
        · intro b hb
          rcases hq with e | e
          · rw [e] at hb; exact hask b hb
          · rw [e] at hb; exact hask b (.tail _ hb)
        · exact h.ask p hp
      · rcases mem_set hp with rfl | hp
        · exact hq2
        · exact h.pend p hp
    cases pending with
    | false =>
      refine ⟨?_, hkeep _ (.inl rfl) (fun _ => by simp) _ _ _ (by simp; omega) (by omega) (by omega) _ h.sl, ⟨[_], rfl, by simp⟩, [], by simp⟩
      have e0 : decide ((((a :: rest : List Ask)).length : Int) = 0) = false := decide_eq_false (by simp; omega)
      simp only [e0, Bool.not_false, Bool.and_false, cond_false, cond_true]
      have e1 : ix (a :: rest) 0 = some a := rfl
      rw [e1, bd_some, ckL (by simp; omega) (by simp; omega), ck64 (by omega)]
      simp [M.t, List.set_set]
    | true =>
      cases done with
      | false =>
        have e1 : ix (a :: rest) 0 = some a := rfl
        have ht := h.sl
        have e2 : ix types a.thing = some (types.getD a.thing.toNat 0) := by rw [ix_int ha0 ha1, getD_of]
        have e3 : ix m.states a.thing = some (m.states.getD a.thing.toNat []) := by rw [ix_int ha0 (by omega), getD_of]
        rcases step_nx hN (types.getD a.thing.toNat 0) (m.states.getD a.thing.toNat []) a.kind a.arg with ⟨n, r, g1, g2⟩ | ⟨g1, e, he, g2⟩
        · simp only [g1]
          refine ⟨?_, hkeep _ (.inl rfl) (fun _ => by simp) _ _ _ (by omega) (by simp; omega) (by omega) _ (by simpa using h.sl), ⟨[], by simp⟩, [_], rfl, by simp⟩
          simp only [Bool.not_true, Bool.false_and, Bool.not_false, cond_false, cond_true, e1, bd_some, e2, e3, g2]
          rw [ckL (by simp; omega) (by simp; omega)]
          simp [M.t, List.set_set]
        · simp only [g1]
          refine ⟨?_, hkeep _ (.inl rfl) (fun _ => by simp) _ _ _ (by omega) (by omega) (by omega) _ h.sl, ⟨[], by simp⟩, [], by simp⟩
          simp only [Bool.not_true, Bool.false_and, Bool.not_false, cond_false, cond_true, e1, bd_some, e2, e3, g2, decide_eq_false he]
          simp [M.t, List.set_set]
      | true =>
        cases failed with
        | false =>
          refine ⟨?_, hkeep _ (.inr rfl) (fun h => by cases h) _ _ _ (by simp; omega) (by omega) (by omega) _ h.sl, ⟨[_], rfl, by simp⟩, [], by simp⟩
          have e1 : ix (a :: rest) 0 = some a := rfl
          simp only [Bool.not_true, Bool.false_and, Bool.not_false, cond_false, cond_true, e1, bd_some]
          rw [ckL (by simp; omega) (by simp; omega)]
          have e2 : slB (a :: rest).length 1 ((a :: rest).length : Int) = true := by simp [slB]; omega
          rw [ck_of e2]
          simp [M.t, List.set_set]
        | true =>
          exact ⟨rfl, h.later, ⟨[], by simp⟩, [], by simp⟩
/-- Many turns. -/
noncomputable def runM (types : List Int) (m : M) (turns : List Int) : M := turns.foldl (trn types) m
theorem runM_app (types : List Int) (m : M) (a b : List Int) : runM types m (a ++ b) = runM types (runM types m a) b := List.foldl_append
theorem run_ok {N : Nat} (hN : 300 < N) {types : List Int} {np : Nat} : ∀ {turns : List Int} {k : Nat} {m : M}, Inv types np k m → (∀ t ∈ turns, 0 ≤ t ∧ t < np) → k + turns.length ≤ 1000 →
    Inv types np (k + turns.length) (runM types m turns) ∧ (∃ e, (runM types m turns).events = m.events ++ e ∧ e.length ≤ turns.length) ∧ ∃ s, (runM types m turns).steps = m.steps ++ s ∧ s.length ≤ turns.length
  | [], k, m, h, _, _ => ⟨h, ⟨[], by simp [runM]⟩, [], by simp [runM]⟩
  | t :: turns, k, m, h, ht, hk => by
    have hk' : k + (turns.length + 1) ≤ 1000 := hk
    obtain ⟨_, h2, ⟨e1, h3, h3'⟩, s1, h4, h4'⟩ := turn_ok hN h (ht t (.head _)).1 (ht t (.head _)).2 (by omega)
    obtain ⟨h5, ⟨e2, h6, h6'⟩, s2, h7, h7'⟩ := run_ok hN h2 (fun x hx => ht x (.tail _ hx)) (by omega)
    have e : runM types m (t :: turns) = runM types (trn types m t) turns := rfl
    rw [e]
    refine ⟨by have e2 : k + (t :: turns).length = k + 1 + turns.length := by simp; omega
               rw [e2]; exact h5, ⟨e1 ++ e2, by rw [h6, h3, List.append_assoc], by simp; omega⟩, s1 ++ s2, by rw [h7, h4, List.append_assoc], by simp; omega⟩
/-- The machine at first. -/
def m0 (types : List Int) (people : List (List Ask)) : M := ⟨types.map st0, people.map fun l => ⟨l, false, 0, false, false, 0⟩, [], [], 0⟩
/-- What may be played. -/
structure OkP (types : List Int) (people : List (List Ask)) : Prop where
  ty : 1 ≤ types.length ∧ types.length ≤ 4 ∧ ∀ x ∈ types, 1 ≤ x ∧ x ≤ 5
  few : people.length ≤ 8
  ask : ∀ l ∈ people, ∀ a ∈ l, (0 ≤ a.thing ∧ a.thing < types.length) ∧ Asked (types.getD a.thing.toNat 0) a.kind a.arg
theorem asked_iff {t k n : Int} : Asked t k n ↔ (t ≠ 0 ∧ tyK k = t) ∧ (((k = 2 ∨ k = 4 ∨ k = 6 ∨ k = 10) → n = 0) ∧ (¬ (k = 2 ∨ k = 4 ∨ k = 6 ∨ k = 10) → Num n)) := by unfold Asked; exact ⟨fun h => ⟨⟨h.1, h.2.1⟩, h.2.2⟩, fun h => ⟨h.1.1, h.1.2, h.2⟩⟩
theorem check_wp {N : Nat} (hN : 5000 < N) {types : List Int} {people : List (List Ask)} (hl : ∀ l ∈ people, l.length < N ∧ l.length ≤ 9223372036854775807) : Wp (threads_Check N types people) fun e => e = 0 → OkP types people := by
  unfold threads_Check
  refine .seq (Hs.types_wp (by omega)) fun r _ hr => .cond (fun _ => .one (by simp)) fun hc => ?_
  simp only [Bool.or_eq_false_iff, Bool.not_eq_false', decide_eq_true_eq, decide_eq_false_iff_not] at hc
  obtain ⟨rfl, h8⟩ := hc
  have hT := hr rfl
  have h8 : people.length ≤ 8 := by omega
  refine .seq (P := fun _ => True) (.iter people.length (fun k st => st.2 = (k : Int)) (by omega) rfl ?_ ?_) fun n _ _ => .cond (fun _ => .one (by simp)) fun _ => ?_
  · rintro k ⟨n, v⟩ hk hv
    simp only at hv
    subst hv
    simp only [threads_Check_L17]
    exact .condT (decide_eq_true (by omega)) (.ix hk (.ck64 (by omega) (.one (by simp))))
  · rintro ⟨n, v⟩ hv
    simp only at hv
    subst hv
    simp only [threads_Check_L17]
    exact .condF (decide_eq_false (by omega)) (.one trivial)
  refine .elim (P := fun t => match t with | .inl _ => ∀ l ∈ people, ∀ a ∈ l, (0 ≤ a.thing ∧ a.thing < types.length) ∧ Asked (types.getD a.thing.toNat 0) a.kind a.arg | .inr r => r ≠ 0)
    (.iter people.length (fun k v => v = (k : Int) ∧ ∀ j, j < k → ∀ a ∈ people.getD j [], (0 ≤ a.thing ∧ a.thing < types.length) ∧ Asked (types.getD a.thing.toNat 0) a.kind a.arg) (by omega) ⟨rfl, fun j h => absurd h (Nat.not_lt_zero _)⟩ ?_ ?_) (fun _ _ h => .one fun _ => ⟨hT, h8, h⟩) (fun r _ h => .one fun e => (h e).elim)
  · rintro k v hk ⟨rfl, hI⟩
    simp only [threads_Check_L29]
    refine .condT (decide_eq_true (by omega)) ?_
    have hlk := hl people[k] (List.getElem_mem hk)
    refine .elim (P := fun t => match t with | .inl _ => ∀ a ∈ people[k], (0 ≤ a.thing ∧ a.thing < types.length) ∧ Asked (types.getD a.thing.toNat 0) a.kind a.arg | .inr r => r ≠ 0) (.ix hk ?_) (fun _ _ h => .ck64 (by omega) (.one ⟨by simp, fun j hj => ?_⟩)) (fun r _ h => .one h)
    · refine .iter people[k].length (fun i v => v = (i : Int) ∧ ∀ j, j < i → (0 ≤ (people[k].getD j Ask.z).thing ∧ (people[k].getD j Ask.z).thing < types.length) ∧ Asked (types.getD (people[k].getD j Ask.z).thing.toNat 0) (people[k].getD j Ask.z).kind (people[k].getD j Ask.z).arg) hlk.1 ⟨rfl, fun j h => absurd h (Nat.not_lt_zero _)⟩ ?_ ?_
      · rintro i v hi ⟨rfl, hJ⟩
        simp only [threads_Check_L31]
        refine .condT (decide_eq_true (by omega)) (.ixD Ask.z (by omega) (by omega) ?_)
        simp only [Int.toNat_natCast]
        obtain ⟨A, hA⟩ : ∃ A, people[k].getD i Ask.z = A := ⟨_, rfl⟩
        simp only [hA]
        by_cases h1 : 0 ≤ A.thing ∧ A.thing < types.length
        · have e1 : (decide (A.thing < 0) || decide ((types.length : Int) ≤ A.thing)) = false := by simp; omega
          rw [e1]
          refine .bdO (a := types.getD A.thing.toNat 0) ((cond_of rfl).trans (by rw [ix_int h1.1 h1.2, getD_of])) ?_
          refine .bdO (a := decide (types.getD A.thing.toNat 0 ≠ 0 ∧ tyK A.kind = types.getD A.thing.toNat 0)) ((cond_of rfl).trans (fits_ok ..)) ?_
          by_cases h2 : types.getD A.thing.toNat 0 ≠ 0 ∧ tyK A.kind = types.getD A.thing.toNat 0
          · rw [decide_eq_true h2]
            refine .bdO (by rw [cond_of (by rfl), argument_ok, argd]) ?_
            by_cases h3 : ((A.kind = 2 ∨ A.kind = 4 ∨ A.kind = 6 ∨ A.kind = 10) → A.arg = 0) ∧ (¬ (A.kind = 2 ∨ A.kind = 4 ∨ A.kind = 6 ∨ A.kind = 10) → Num A.arg)
            · rw [decide_eq_true h3]
              refine .condF rfl (.ck64 (by omega) (.one ⟨by simp, fun j hj => ?_⟩))
              rcases Nat.lt_or_ge j i with h4 | h4
              · exact hJ j h4
              · obtain rfl : j = i := by omega
                rw [hA]
                exact ⟨h1, asked_iff.2 ⟨h2, h3⟩⟩
            · rw [decide_eq_false h3]
              exact .condT rfl (.one (by simp))
          · rw [decide_eq_false h2]
            exact .bdO (a := false) rfl (.condT rfl (.one (by simp)))
        · have e1 : (decide (A.thing < 0) || decide ((types.length : Int) ≤ A.thing)) = true := by simp; omega
          rw [e1]
          exact .bdO (a := 0) rfl (.bdO (a := false) rfl (.bdO (a := false) rfl (.condT rfl (.one (by simp)))))
      · rintro v ⟨rfl, hJ⟩
        simp only [threads_Check_L31]
        refine .condF (decide_eq_false (by omega)) (.one fun a ha => ?_)
        obtain ⟨j, hj, rfl⟩ := List.getElem_of_mem ha
        have := hJ j hj
        rwa [getD_of hj] at this
    · rcases Nat.lt_or_ge j k with h4 | h4
      · exact hI j h4
      · obtain rfl : j = k := by omega
        rw [getD_of hk]; exact h
  · rintro v ⟨rfl, hI⟩
    simp only [threads_Check_L29]
    refine .condF (decide_eq_false (by omega)) (.one fun l hl2 => ?_)
    obtain ⟨j, hj, rfl⟩ := List.getElem_of_mem hl2
    have := hI j hj
    rwa [getD_of hj] at this
theorem turns_wp {N : Nat} (hN : 5000 < N) (np : Int) (turns : List Int) : Wp (threads_Turns N np 300 turns) fun e => (e = 0 ∧ turns.length ≤ 300 ∧ ∀ t ∈ turns, 0 ≤ t ∧ t < np) ∨ (e ≠ 0 ∧ ¬ (turns.length ≤ 300 ∧ ∀ t ∈ turns, 0 ≤ t ∧ t < np) ∧ (e = 2 ↔ ¬ turns.length ≤ 300)) := by
  unfold threads_Turns
  refine .cond (fun h => .one (.inr ⟨by simp, fun h2 => ?_, fun _ => ?_, fun _ => rfl⟩)) fun h => ?_
  · have := of_decide_eq_true h; omega
  · have := of_decide_eq_true h; omega
  have hl : turns.length ≤ 300 := by have := of_decide_eq_false h; omega
  refine .elim (P := fun t => match t with | .inl _ => ∀ t ∈ turns, 0 ≤ t ∧ t < np | .inr r => r = 1 ∧ ¬ ∀ t ∈ turns, 0 ≤ t ∧ t < np)
    (.iter turns.length (fun k v => v = (k : Int) ∧ ∀ j, j < k → 0 ≤ turns.getD j 0 ∧ turns.getD j 0 < np) (by omega) ⟨rfl, fun j h => absurd h (Nat.not_lt_zero _)⟩ ?_ ?_) (fun _ _ h => .one (.inl ⟨rfl, hl, h⟩)) (fun r _ h => .one (.inr ⟨by omega, fun h2 => h.2 h2.2, fun e => by omega, fun h2 => (h2 hl).elim⟩))
  · rintro k v hk ⟨rfl, hI⟩
    simp only [threads_Turns_L3]
    refine .condT (decide_eq_true (by omega)) (.ixD 0 (by omega) (by omega) ?_)
    simp only [Int.toNat_natCast]
    refine .cond (fun h => .one ⟨rfl, fun h2 => ?_⟩) fun h => .ck64 (by omega) (.one ⟨by simp, fun j hj => ?_⟩)
    · have := h2 (turns.getD k 0) (by rw [getD_of hk]; exact List.getElem_mem hk)
      simp only [Bool.or_eq_true, decide_eq_true_eq] at h
      omega
    · rcases Nat.lt_or_ge j k with h4 | h4
      · exact hI j h4
      · obtain rfl : j = k := by omega
        simp only [Bool.or_eq_false_iff, decide_eq_false_iff_not] at h
        omega
  · rintro v ⟨rfl, hI⟩
    simp only [threads_Turns_L3]
    refine .condF (decide_eq_false (by omega)) (.one fun t ht => ?_)
    obtain ⟨j, hj, rfl⟩ := List.getElem_of_mem ht
    have := hI j hj
    rwa [getD_of hj] at this
theorem inv0 {types : List Int} {people : List (List Ask)} (h : OkP types people) : Inv types people.length 0 (m0 types people) := by
  refine ⟨by simp [m0], by simp [m0], fun p hp a ha => ?_, fun p hp hp2 => ?_, Nat.le_refl _, Nat.le_refl _, Int.le_refl _, Int.le_refl _⟩
  · obtain ⟨l, hl, rfl⟩ := List.mem_map.1 hp
    exact (h.ask l hl a ha).1
  · obtain ⟨l, hl, rfl⟩ := List.mem_map.1 hp
    cases hp2
/-- What is played. -/
theorem play_wp {N : Nat} (hN : 5000 < N) {types : List Int} {people : List (List Ask)} (hl : ∀ l ∈ people, l.length < N ∧ l.length ≤ 9223372036854775807) (turns : List Int) :
    ∃ e, threads_Check N types people = some e ∧ Wp (threads_Play_1 N types people turns) fun r =>
      (e ≠ 0 ∧ r = ([], [], e)) ∨ (e = 0 ∧ OkP types people ∧ (turns.length ≤ 300 ∧ ∀ t ∈ turns, 0 ≤ t ∧ t < people.length) ∧ r = ((runM types (m0 types people) turns).events, (runM types (m0 types people) turns).steps, 0)) ∨
      (e = 0 ∧ OkP types people ∧ ¬ (turns.length ≤ 300 ∧ ∀ t ∈ turns, 0 ≤ t ∧ t < people.length) ∧ r.1 = [] ∧ r.2.1 = [] ∧ r.2.2 ≠ 0 ∧ (r.2.2 = 2 ↔ ¬ turns.length ≤ 300)) := by
  obtain ⟨e, he, hok⟩ := check_wp hN (types := types) hl
  refine ⟨e, he, ?_⟩
  unfold threads_Play_1
  refine .bdO he (.cond (fun h => .one (.inl ⟨by simpa using h, rfl⟩)) fun h => ?_)
  obtain rfl : e = 0 := by simpa using h
  have hP := hok rfl
  refine .seq (turns_wp hN people.length turns) fun r _ hr => .cond (fun h => .one (.inr (.inr ?_))) fun h => ?_
  · have h : r ≠ 0 := by simpa using h
    rcases hr with ⟨rfl, _⟩ | ⟨h1, h2, h3⟩
    · exact (h rfl).elim
    · exact ⟨rfl, hP, h2, rfl, rfl, h1, h3⟩
  obtain rfl : r = 0 := by simpa using h
  have hT : turns.length ≤ 300 ∧ ∀ t ∈ turns, 0 ≤ t ∧ t < people.length := by
    rcases hr with ⟨_, h⟩ | ⟨h, _⟩
    · exact h
    · exact (h rfl).elim
  have h8 := hP.few
  have h4 := hP.ty
  refine .seq (P := fun s => s = types.map st0) (.iter types.length (fun k st => st = ((types.take k).map st0, (k : Int))) (by omega) rfl ?_ ?_) fun s _ hs => ?_
  · rintro k st hk rfl
    simp only [threads_Play_1_L7]
    refine .condT (decide_eq_true (by omega)) (.ix hk (.bdO (start_ok ..) (.ck (limB_of ⟨?_, ?_⟩) (.ck64 (by omega) (.one ?_)))))
    · simp; exact Nat.le_trans (m := 100) (by omega) (by unfold maxLen; decide)
    · simp; omega
    · rw [if_pos (show Ty types[k] from h4.2.2 types[k] (List.getElem_mem hk))]
      refine Prod.ext ?_ (by simp)
      show _ = (types.take (k + 1)).map st0
      rw [← List.take_append_getElem hk, List.map_append]
      rfl
  · rintro st rfl
    simp only [threads_Play_1_L7]
    refine .condF (decide_eq_false (by simp)) (.one ?_)
    simp
  subst hs
  refine .seq (P := fun s => s = people.map fun l => (⟨l, false, 0, false, false, 0⟩ : ThreadsProcess)) (.iter people.length (fun k st => st = ((people.take k).map fun l => (⟨l, false, 0, false, false, 0⟩ : ThreadsProcess), (k : Int))) (by omega) rfl ?_ ?_) fun s _ hs => ?_
  · rintro k st hk rfl
    simp only [threads_Play_1_L9]
    refine .condT (decide_eq_true (by omega)) (.ix hk (.ck (limB_of ⟨?_, ?_⟩) (.ck64 (by omega) (.one ?_))))
    · simp; exact Nat.le_trans (m := 100) (by omega) (by unfold maxLen; decide)
    · simp; omega
    · refine Prod.ext ?_ (by simp)
      show _ = (people.take (k + 1)).map _
      rw [← List.take_append_getElem hk, List.map_append]
      rfl
  · rintro st rfl
    simp only [threads_Play_1_L9]
    refine .condF (decide_eq_false (by simp)) (.one ?_)
    simp
  subst hs
  refine .seq (P := fun s => s = (runM types (m0 types people) turns).t) (.iter turns.length (fun k st => st = ((runM types (m0 types people) (turns.take k)).states, (runM types (m0 types people) (turns.take k)).people, (runM types (m0 types people) (turns.take k)).events, (runM types (m0 types people) (turns.take k)).steps, (runM types (m0 types people) (turns.take k)).calls, (k : Int))) (by omega) rfl ?_ ?_) fun s _ hs => ?_
  · rintro k st hk rfl
    simp only [threads_Play_1_L11]
    have h1 := (run_ok (by omega : 300 < N) (inv0 hP) (turns := turns.take k) (fun t ht => hT.2 t (List.mem_of_mem_take ht)) (by simp; omega)).1
    have h2 := hT.2 turns[k] (List.getElem_mem hk)
    have h3 := turn_ok (by omega : 300 < N) h1 h2.1 h2.2 (by simp; omega)
    refine .condT (decide_eq_true (by omega)) (.ix hk (.bdO h3.1 (.ck64 (by omega) (.one ?_))))
    rw [← List.take_append_getElem hk, runM_app]
    rfl
  · rintro st rfl
    simp only [threads_Play_1_L11]
    refine .condF (decide_eq_false (by simp)) (.one ?_)
    rw [List.take_length]
    rfl
  subst hs
  exact .one (.inr (.inl ⟨rfl, hP, hT, rfl⟩))
end Th

end Go.Proofs.Yteklmleiiiodfaa
