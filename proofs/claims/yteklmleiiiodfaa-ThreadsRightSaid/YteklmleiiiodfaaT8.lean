/- ThreadsRight, plainly. -/
import Derived.Test.YteklmleiiiodfaaT7
import Derived.Test.YteklmleiiiodfaaL5
set_option linter.unusedVariables false
set_option linter.unusedSimpArgs false
set_option linter.unusedSectionVars false
set_option maxRecDepth 100000
namespace Go.Proofs.Yteklmleiiiodfaa
open Go.RowKit
namespace Th
theorem lives : alibkeep_threadsLives 18446744073709551616 = some true := by kernel_rfl
end Th

namespace Th
open Ob Hs Sr
theorem ac_mono {c c' : List Call} {q q' : Nat → Nat → Bool} (hl : c.length ≤ c'.length) (hq : ∀ i j, i < c.length → j < c.length → q i j = false → q' i j = false) : ∀ {t : List Step} {w : List Nat}, (∀ j ∈ w, j < c.length) → Ac c q w t → (∀ s ∈ t, (c'.getD s.call.toNat Call.z).to_ ≠ -1 → s.res = (c'.getD s.call.toNat Call.z).res) → Ac c' q' w t
  | [], _, _, _, _ => trivial
  | s :: t, w, hw, ⟨i, h1, h2, h3, h4, h5, h6⟩, hr => by
    refine ⟨i, h1, by omega, h3, fun j hj => hq i j h2 (hw j hj) (h4 j hj), fun ht => ?_, ac_mono hl hq (fun j hj => ?_) h6 fun s hs => hr s (.tail _ hs)⟩
    · have := hr s (.head _)
      rw [h1, Int.toNat_natCast] at this
      exact this ht
    · rcases List.mem_append.1 hj with hj | hj
      · exact hw j hj
      · rw [List.mem_singleton.1 hj]; exact h2
theorem ac_res {c : List Call} {q : Nat → Nat → Bool} : ∀ {t : List Step} {w : List Nat}, Ac c q w t → ∀ s ∈ t, (0 ≤ s.call ∧ s.call.toNat < c.length) ∧ ((c.getD s.call.toNat Call.z).to_ ≠ -1 → s.res = (c.getD s.call.toNat Call.z).res)
  | [], _, _, s, hs => by cases hs
  | a :: t, w, ⟨i, h1, h2, h3, h4, h5, h6⟩, s, hs => by
    rcases List.mem_cons.1 hs with rfl | hs
    · rw [h1, Int.toNat_natCast]; exact ⟨⟨by omega, h2⟩, h5⟩
    · exact ac_res h6 s hs
theorem objl_congr {c c' : List Call} {x : Nat} : ∀ {t : List Step}, (∀ s ∈ t, (c'.getD s.call.toNat Call.z).thing = (c.getD s.call.toNat Call.z).thing ∧ (c'.getD s.call.toNat Call.z).kind = (c.getD s.call.toNat Call.z).kind ∧ (c'.getD s.call.toNat Call.z).arg = (c.getD s.call.toNat Call.z).arg) → objl c' x t = objl c x t
  | [], _ => rfl
  | s :: t, h => by
    obtain ⟨h1, h2, h3⟩ := h s (.head _)
    unfold objl
    rw [h1, h2, h3, objl_congr fun s hs => h s (.tail _ hs)]
theorem mem_nums {i : Nat} {t : List Step} : i ∈ nums t ↔ ∃ s ∈ t, s.call.toNat = i := by unfold nums; exact List.mem_map
/-- What was done, in its order. -/
structure G (types : List Int) (m : M) (out : List Call) : Prop where
  sl : m.states.length = types.length
  ac : Ac out (bfA out) [] m.steps
  st : ∀ x, x < types.length → Ob.run (types.getD x 0) (st0 (types.getD x 0)) (objl out x m.steps) = some (m.states.getD x [])
  cm : ∀ i, i < out.length → (out.getD i Call.z).to_ ≠ -1 → i ∈ nums m.steps
  dn : ∀ w, w < m.people.length → (m.who w).pending = true → ∀ i : Nat, (m.who w).call = i → ((m.who w).done = true → (m.who w).failed = false → i ∈ nums m.steps ∧ ∀ s ∈ m.steps, s.call = (i : Int) → s.res = (m.who w).res) ∧ (¬ ((m.who w).done = true ∧ (m.who w).failed = false) → i ∉ nums m.steps)
theorem bfA_open {c : List Call} {i j : Nat} (h : (c.getD i Call.z).to_ = -1) : bfA c i j = false := by
  unfold bfA
  exact decide_eq_false fun e => e.2.2.1 h
/-- Who waits for which call. -/
theorem pend_of {N : Nat} {types : List Int} {P0 : List (List Ask)} {m : M} {out : List Call} {op : List Int} (hP : OkP types P0) (h : H N types P0 m out op) {v : Nat} (hv : v < P0.length) (hp : (m.who v).pending = true) : ∃ i : Nat, (m.who v).call = i ∧ i < out.length ∧ (out.getD i Call.z).who = v ∧ (out.getD i Call.z).to_ = -1 := by
  obtain ⟨a, r, _, i, h1, h2, h3, _⟩ := h.pe v hv hp
  have h8 := hP.few
  have := (h.rn.wf.pen v (by omega)).2.2 i h3
  exact ⟨i, h1, h2, this.1, this.2⟩
theorem g_step {N : Nat} {types : List Int} {P0 : List (List Ask)} {m m' : M} {out out' : List Call} {op op' : List Int} (hP : OkP types P0) (h : H N types P0 m out op) (g : G types m out) {w : Nat} (hw : w < P0.length) (n : Nxt types m w out op m' out' op') : G types m' out' := by
  have hpl := h.pl
  have hw' : w < m.people.length := by omega
  have W := h.rn.wf
  cases n with
  | same _ => exact g
  | call a r hp hn =>
    have hget : ∀ i, i < out.length → (out ++ [(⟨w, a.thing, a.kind, a.arg, 0, m.events.length, -1⟩ : Call)]).getD i Call.z = out.getD i Call.z := fun i hi => by rw [getD_app, if_pos hi]
    have hin := ac_res g.ac
    refine ⟨g.sl, ac_mono (by simp) (fun i j hi hj hq => ?_) (by simp) g.ac fun s hs ht => ?_, fun x hx => ?_, fun i hi ht => ?_, fun v hv hpv i hi => ?_⟩
    · unfold bfA at hq ⊢
      rw [hget i hi, hget j hj]
      have hq := of_decide_eq_false hq
      exact decide_eq_false fun e => hq ⟨hi, hj, e.2.2⟩
    · rw [hget _ (hin s hs).1.2] at ht ⊢
      exact (hin s hs).2 ht
    · rw [objl_congr (c := out) fun s hs => by rw [hget _ (hin s hs).1.2]; exact ⟨rfl, rfl, rfl⟩]
      exact g.st x hx
    · rcases Nat.lt_or_ge i out.length with h1 | h1
      · rw [hget i h1] at ht
        exact g.cm i h1 ht
      · have e2 : i = out.length := by simp at hi; omega
        subst e2
        rw [getD_app, if_neg (by omega), if_pos rfl] at ht
        exact (ht rfl).elim
    · have hwho : (M.who ⟨m.states, m.people.set w (callP (m.who w) m.calls), m.events ++ [⟨w, a.thing, a.kind, a.arg⟩], m.steps, m.calls + 1⟩ v) = if v = w then callP (m.who w) m.calls else m.who v := who_set hw'
      rw [hwho] at hpv hi ⊢
      by_cases e : v = w
      · subst e
        rw [if_pos rfl] at hi ⊢
        refine ⟨fun e => (by cases e), fun _ hm => ?_⟩
        obtain ⟨s, hs, hs2⟩ := mem_nums.1 hm
        have h1 := (hin s hs).1
        have h2 : m.calls = (i : Int) := hi
        have h3 := h.cl
        omega
      · rw [if_neg e] at hpv hi ⊢
        exact g.dn v (by simpa using hv) hpv i hi
  | did a r s res hp hn hd hx =>
    obtain ⟨a', r', q1, i, q2, q3, q4, q5, _⟩ := h.pe w hw hn
    rw [hp] at q1
    obtain ⟨rfl, rfl⟩ : a = a' ∧ r = r' := by simpa using q1
    have h8 := hP.few
    have hto := ((W.pen w (by omega)).2.2 i q4).2
    have hni : i ∉ nums m.steps := (g.dn w hw' hn i q2).2 fun e => by rw [hd] at e; cases e.1
    have hth := (W.one i q3).thing
    rw [q5.1] at hth
    refine ⟨by simpa using g.sl, Ac.app.2 ⟨g.ac, i, q2, q3, by simpa using hni, fun j _ => bfA_open hto, fun e => (e hto).elim, trivial⟩, fun x hx2 => ?_, fun j hj ht => ?_, fun v hv hpv j hj => ?_⟩
    · show Ob.run _ _ (objl out x (m.steps ++ [⟨(m.who w).call, res⟩])) = some ((m.states.set a.thing.toNat s).getD x [])
      rw [objl_app, run_app, g.st x hx2]
      have e1 : objl out x [⟨(m.who w).call, res⟩] = if a.thing.toNat = x then [⟨a.kind, a.arg, res⟩] else [] := by
        unfold objl
        simp only
        rw [q2, Int.toNat_natCast, q5.1, q5.2.1, q5.2.2]
        rfl
      rw [e1]
      have hsl := g.sl
      by_cases e : a.thing.toNat = x
      · subst e
        rw [if_pos rfl]
        simp only [Option.bind_some, Ob.run, hx, if_true]
        rw [Sr.getD_set (by omega), if_pos rfl]
      · rw [if_neg e, Sr.getD_set (by omega), if_neg (fun e2 => e e2.symm)]
        rfl
    · have := g.cm j hj ht
      unfold nums at this ⊢
      rw [List.map_append]
      exact List.mem_append_left _ this
    · have hwho : (M.who ⟨m.states.set a.thing.toNat s, m.people.set w (doP (m.who w) false res), m.events, m.steps ++ [⟨(m.who w).call, res⟩], m.calls⟩ v) = if v = w then doP (m.who w) false res else m.who v := who_set hw'
      rw [hwho] at hpv hj ⊢
      by_cases e : v = w
      · subst e
        rw [if_pos rfl] at hj ⊢
        have hij : j = i := by
          have : (m.who v).call = (j : Int) := hj
          omega
        subst hij
        refine ⟨fun _ _ => ⟨mem_nums.2 ⟨_, List.mem_append_right _ (.head _), by simp only; omega⟩, fun s hs hs2 => ?_⟩, fun e => (e ⟨rfl, rfl⟩).elim⟩
        rcases List.mem_append.1 hs with hs | hs
        · exact (hni (mem_nums.2 ⟨s, hs, by omega⟩)).elim
        · rw [List.mem_singleton.1 hs]; rfl
      · rw [if_neg e] at hpv hj ⊢
        have hv' : v < m.people.length := by simpa using hv
        obtain ⟨j', g1, g2, g3, g4⟩ := pend_of hP h (v := v) (by omega) hpv
        have hjj : j' = j := by omega
        subst hjj
        have hwi := ((W.pen w (by omega)).2.2 i q4).1
        have hne : j' ≠ i := by
          intro e2
          subst e2
          omega
        obtain ⟨d1, d2⟩ := g.dn v hv' hpv j' hj
        have hmem : j' ∈ nums (m.steps ++ [⟨(m.who w).call, res⟩]) ↔ j' ∈ nums m.steps := by
          unfold nums
          rw [List.map_append, List.mem_append]
          simp only [List.map_cons, List.map_nil, List.mem_singleton]
          constructor
          · rintro (e3 | e3)
            · exact e3
            · omega
          · exact .inl
        refine ⟨fun e1 e2 => ⟨hmem.2 (d1 e1 e2).1, fun s hs hs2 => ?_⟩, fun e1 e2 => d2 e1 (hmem.1 e2)⟩
        rcases List.mem_append.1 hs with hs | hs
        · exact (d1 e1 e2).2 s hs hs2
        · rw [List.mem_singleton.1 hs] at hs2
          simp only at hs2
          omega
  | fail a r hp hn hd hx =>
    refine ⟨g.sl, g.ac, g.st, g.cm, fun v hv hpv j hj => ?_⟩
    have hwho : (M.who ⟨m.states, m.people.set w (doP (m.who w) true 0), m.events, m.steps, m.calls⟩ v) = if v = w then doP (m.who w) true 0 else m.who v := who_set hw'
    rw [hwho] at hpv hj ⊢
    by_cases e : v = w
    · subst e
      rw [if_pos rfl] at hj ⊢
      exact ⟨fun _ e => (by cases e), fun _ => (g.dn v hw' hn j hj).2 fun e => by rw [hd] at e; cases e.1⟩
    · rw [if_neg e] at hpv hj ⊢
      exact g.dn v (by simpa using hv) hpv j hj
  | ans a r i hp hn hd hf hc hi =>
    obtain ⟨i', q2, q3, qw, qt⟩ := pend_of hP h hw hn
    have hii : i' = i := by omega
    subst hii
    obtain ⟨d1, d2⟩ := (g.dn w hw' hn i' q2).1 hd hf
    have hget : ∀ j, (out.set i' (endC (out.getD i' Call.z) (m.who w).res m.events.length)).getD j Call.z = if j = i' then endC (out.getD i' Call.z) (m.who w).res m.events.length else out.getD j Call.z := fun j => getD_set2 q3
    have hin := ac_res g.ac
    refine ⟨g.sl, ac_mono (by simp) (fun j k hj hk hq => ?_) (by simp) g.ac fun s hs ht => ?_, fun x hx => ?_, fun j hj ht => ?_, fun v hv hpv j hj => ?_⟩
    · unfold bfA at hq ⊢
      have hq := of_decide_eq_false hq
      refine decide_eq_false fun e => hq ?_
      obtain ⟨_, _, e3, e4⟩ := e
      rw [hget, hget] at e4
      rw [hget] at e3
      have hfr := (W.one k hk).fr
      by_cases ej : j = i'
      · rw [if_pos ej] at e4
        exfalso
        by_cases ek : k = i'
        · subst ek
          rw [if_pos rfl] at e4
          simp only [endC] at e4
          omega
        · rw [if_neg ek] at e4
          simp only [endC] at e4
          omega
      · rw [if_neg ej] at e3 e4
        refine ⟨hj, hk, e3, ?_⟩
        by_cases ek : k = i'
        · subst ek
          rw [if_pos rfl] at e4
          exact e4
        · rw [if_neg ek] at e4; exact e4
    · rw [hget] at ht ⊢
      split
      · rename_i e
        have := (hin s hs).1
        exact d2 s hs (by omega)
      · rename_i e
        rw [if_neg e] at ht
        exact (hin s hs).2 ht
    · rw [objl_congr (c := out) fun s hs => ?_]
      · exact g.st x hx
      · rw [hget]
        split
        · rename_i e; rw [e]; exact ⟨rfl, rfl, rfl⟩
        · exact ⟨rfl, rfl, rfl⟩
    · rw [hget] at ht
      split at ht
      · rename_i e; rw [e]; exact d1
      · exact g.cm j (by simpa using hj) ht
    · have hwho : (M.who ⟨m.states, m.people.set w (ansP (m.who w)), m.events ++ [⟨w, a.thing, 0, (m.who w).res⟩], m.steps, m.calls⟩ v) = if v = w then ansP (m.who w) else m.who v := who_set hw'
      rw [hwho] at hpv hj ⊢
      by_cases e : v = w
      · subst e
        rw [if_pos rfl] at hpv
        cases hpv
      · rw [if_neg e] at hpv hj ⊢
        exact g.dn v (by simpa using hv) hpv j hj
theorem st0_get (types : List Int) {x : Nat} (hx : x < types.length) : (types.map st0).getD x [] = st0 (types.getD x 0) := by
  simp [List.getD_eq_getElem?_getD, hx]
theorem g0 {types : List Int} {P0 : List (List Ask)} : G types (m0 types P0) [] := by
  refine ⟨by simp [m0], trivial, fun x hx => ?_, fun i hi => absurd hi (Nat.not_lt_zero _), fun w hw hp => ?_⟩
  · show some _ = some ((types.map st0).getD x [])
    rw [st0_get types hx]
  · have : ((m0 types P0).who w).pending = false := by
      unfold M.who m0
      simp only [List.getD_eq_getElem?_getD, List.getElem?_map]
      cases P0[w]? <;> rfl
    rw [this] at hp
    cases hp
theorem gh_run {N : Nat} {types : List Int} {P0 : List (List Ask)} (hP : OkP types P0) : ∀ {turns : List Int} {m : M} {out : List Call} {op : List Int}, (∀ t ∈ turns, 0 ≤ t ∧ t < P0.length) → H N types P0 m out op → G types m out → ∃ out' op', H N types P0 (runM types m turns) out' op' ∧ G types (runM types m turns) out'
  | [], m, out, op, _, h, g => ⟨out, op, h, g⟩
  | t :: turns, m, out, op, ht, h, g => by
    obtain ⟨w, rfl⟩ : ∃ w : Nat, t = w := ⟨t.toNat, by have := ht t (.head _); omega⟩
    have hw : w < P0.length := by have := ht (w : Int) (.head _); omega
    obtain ⟨out1, op1, n1, h1⟩ := turn_nxt hP h hw
    have e : runM types m ((w : Int) :: turns) = runM types (trn types m w) turns := rfl
    rw [e]
    exact gh_run (turns := turns) hP (fun x hx => ht x (.tail _ hx)) h1 (g_step hP h g hw n1)
theorem ev_len {N : Nat} {types : List Int} {P0 : List (List Ask)} {m : M} {out : List Call} {op : List Int} (h : H N types P0 m out op) : out.length ≤ tot P0 ∧ m.events.length ≤ 2 * out.length := by
  have h1 := h.sum
  have h2 := h.rn.wf.cnt
  have h3 := List.countP_le_length (p := fun c : Call => !decide (c.to_ = -1)) (l := out)
  omega
theorem rightLaw {N : Nat} (hN : 5000 < N) (hL : alibkeep_threadsLives N = some true) (types : List Int) (P0 : List (List Ask)) (turns : List Int) (hl : ∀ l ∈ P0, l.length < N ∧ l.length ≤ 9223372036854775807) (hb : ∀ q ∈ P0, q.length ≤ 10000000000000) : alibkeep_ThreadsRight N types P0 turns = some true := by
  obtain ⟨e, he, h1⟩ := play_wp hN (types := types) hl turns
  refine Wp.eq ?_
  unfold alibkeep_ThreadsRight
  refine .seq h1 fun r _ hr => .bdO hL (.cond (fun hc => .bdO hL (.one ?_)) fun hc => ?_)
  · simp only [Bool.not_true, Bool.false_or, Bool.not_eq_true', decide_eq_false_iff_not] at hc
    rcases hr with ⟨_, rfl⟩ | ⟨_, _, _, rfl⟩ | ⟨_, _, _, h, _⟩
    · rfl
    · exact (hc rfl).elim
    · rw [h]; rfl
  have hr0 : r.2.2 = 0 := by simpa using hc
  have hr : e = 0 ∧ OkP types P0 ∧ (turns.length ≤ 300 ∧ ∀ t ∈ turns, 0 ≤ t ∧ t < P0.length) ∧ r = ((runM types (m0 types P0) turns).events, (runM types (m0 types P0) turns).steps, 0) := by
    rcases hr with ⟨h, rfl⟩ | h | ⟨_, _, _, _, _, h, _⟩
    · exact (h hr0).elim
    · exact h
    · exact (h hr0).elim
  obtain ⟨rfl, hP, hT, rfl⟩ := hr
  have ht := check_tot hN he hb
  obtain ⟨out, op, h, g⟩ := gh_run hP hT.2 (h0 (N := N)) g0
  obtain ⟨l1, l2⟩ := ev_len h
  obtain ⟨_, hty, _⟩ := Hs.types_wp (types := types) (by omega : 300 < N)
  have htz : history_Types N types = some 0 := by
    have := he
    unfold threads_Check at this
    obtain ⟨r, hr, this⟩ := bd_inv this
    rcases cond_inv this with ⟨_, h⟩ | ⟨hc, _⟩
    · cases h
    simp only [Bool.or_eq_false_iff, Bool.not_eq_false', decide_eq_true_eq] at hc
    rw [hr, hc.1]
  have hcalls := calls_of (by omega : 300 < N) htz (by omega) h.rn
  generalize hX : runM types (m0 types P0) turns = X at *
  obtain ⟨⟨c, ec⟩, hc9, hcs⟩ := calls9_wp (N := N) (by omega) types X.events
  have hsteps : X.steps.length < N := by
    have := (Ac.nod List.nodup_nil (by simp) g.ac)
    have h5 := Rl.pig_lt this.1 this.2
    simp [nums] at h5
    omega
  refine .seq (right_wp (by omega) hc9 hsteps) fun q _ ⟨f1, f2, f3⟩ => .bdO hcalls (.one ?_)
  rcases hcs with ⟨z, Hx, hh⟩ | ⟨z, _⟩
  · simp only at z Hx hh
    subst z
    rw [hcalls] at hh
    have hco : out = c := by
      have := Option.some.inj hh
      exact congrArg Prod.fst this
    subst hco
    obtain ⟨rel, X9⟩ := cx9 Hx (by omega)
    have : q.1 = true := by
      refine (f3 rfl Hx).2 ⟨(pl_iff X9 (by simp [S0])).2 ⟨g.ac, fun x hx => ⟨X.states.getD x [], ?_⟩⟩, fun i hi ht => by simpa using g.cm i hi ht⟩
      show Ob.run (types.getD x 0) ((types.map st0).getD x []) (objl out x X.steps) = _
      rw [st0_get types hx]
      exact g.st x hx
    simp [this]
  · have : q.2 ≠ 0 := by rw [f1]; exact z
    simp [this]
end Th

end Go.Proofs.Yteklmleiiiodfaa
