/- Orders in which it was done. -/
import Derived.Test.YtkmmagekepoapaaP10
set_option linter.unusedVariables false
set_option linter.unusedSimpArgs false
set_option linter.unusedSectionVars false
set_option maxRecDepth 100000
namespace Go.Proofs.Ytkmmagekepoapaa
open Go.RowKit
namespace Sp
open Ob Hs Sr
/-- What is done, one behind the other, where there is room for all. -/
def ust (T : Int) (s : List Int) (kind arg : Int) : List Int × Int :=
  if T = 5 then ([s.getD 0 0 + 1], s.getD 0 0)
  else if T = 2 then (if kind = 3 then (s ++ [arg], 0) else if s = [] then (s, -1) else (s.drop 1, s.getD 0 0))
  else (if kind = 5 then (s ++ [arg], 0) else if s = [] then (s, -1) else (s.take (s.length - 1), s.getD (s.length - 1) 0))
def sq (T : Int) : List Int → List Do → Option (List Int)
  | s, [] => some s
  | s, d :: l => if (ust T s d.kind d.arg).2 = d.res then sq T (ust T s d.kind d.arg).1 l else none
theorem sq_app (T : Int) : ∀ (l m : List Do) (s : List Int), sq T s (l ++ m) = (sq T s l).bind fun t => sq T t m
  | [], m, s => rfl
  | d :: l, m, s => by
    simp only [List.cons_append, sq]
    split
    · exact sq_app T l m _
    · rfl
/-- Those that are done already, be they answered or not. -/
def lined (p : P) : Prop := p.complete = true ∨ (kindP p = 3 ∧ p.item = 3)
def resv (p : P) : Int := if p.complete = true then p.res else 0
structure L (T : Int) (np : Nat) (m : M) (out : List Call) (op : List Int) (steps : List Step) (st : List Int) : Prop where
  ac : Ac out (bfA out) [] steps
  sq : sq T (st0 T) (objl out 0 steps) = some st
  cm : ∀ i, i < out.length → (out.getD i Call.z).to_ ≠ -1 → i ∈ nums steps
  dn : ∀ w, w < np → (m.who w).pending = true → ∀ i : Nat, op.getD w 0 = i + 1 → (lined (m.who w) → i ∈ nums steps ∧ ∀ s ∈ steps, s.call = (i : Int) → s.res = resv (m.who w)) ∧ (¬ lined (m.who w) → i ∉ nums steps)
theorem ac_mono {c c' : List Call} {q q' : Nat → Nat → Bool} (hl : c.length ≤ c'.length) (hq : ∀ i j, i < c.length → j < c.length → q i j = false → q' i j = false) : ∀ {t : List Step} {w : List Nat}, (∀ j ∈ w, j < c.length) → Ac c q w t → (∀ s ∈ t, (c'.getD s.call.toNat Call.z).to_ ≠ -1 → s.res = (c'.getD s.call.toNat Call.z).res) → Ac c' q' w t
  | [], _, _, _, _ => trivial
  | s :: t, w, hw, ⟨i, h1, h2, h3, h4, h5, h6⟩, hr => by
    refine ⟨i, h1, by omega, h3, fun j hj => hq i j h2 (hw j hj) (h4 j hj), fun ht => ?_, ac_mono hl hq (fun j hj => ?_) h6 fun s hs => hr s (.tail _ hs)⟩
    · have := hr s (.head _)
      rw [h1, Int.toNat_natCast] at this
      exact this ht
    · rcases List.mem_append.1 hj with hj | hj
      · exact hw j hj
      · rw [List.mem_singleton.1 hj]; exact h2
theorem ac_res {c : List Call} {q : Nat → Nat → Bool} : ∀ {t : List Step} {w : List Nat}, Ac c q w t → ∀ s ∈ t, (0 ≤ s.call ∧ s.call.toNat < c.length) ∧ ((c.getD s.call.toNat Call.z).to_ ≠ -1 → s.res = (c.getD s.call.toNat Call.z).res)
  | [], _, _, s, hs => by cases hs
  | a :: t, w, ⟨i, h1, h2, h3, h4, h5, h6⟩, s, hs => by
    rcases List.mem_cons.1 hs with rfl | hs
    · rw [h1, Int.toNat_natCast]; exact ⟨⟨by omega, h2⟩, h5⟩
    · exact ac_res h6 s hs
/-- One more ahead of the rest. -/
theorem ac_more {c : List Call} {q : Nat → Nat → Bool} {i : Nat} : ∀ {t : List Step} {w w' : List Nat}, (∀ j ∈ w', j ∈ w ∨ j = i) → Ac c q w t → i ∉ nums t → (∀ s ∈ t, q s.call.toNat i = false) → Ac c q w' t
  | [], _, _, _, _, _, _ => trivial
  | s :: t, w, w', hw, ⟨k, h1, h2, h3, h4, h5, h6⟩, hi, hq => by
    have hk : s.call.toNat = k := by omega
    have hik : i ≠ k := fun e => hi (List.mem_map.2 ⟨s, .head _, by omega⟩)
    refine ⟨k, h1, h2, fun hm => ?_, fun j hj => ?_, h5, ac_more (fun j hj => ?_) h6 (fun hm => hi (List.mem_cons_of_mem _ hm)) fun s hs => hq s (.tail _ hs)⟩
    · rcases hw k hm with g | g
      · exact h3 g
      · exact hik g.symm
    · rcases hw j hj with g | g
      · exact h4 j g
      · subst g
        have := hq s (.head _)
        rwa [hk] at this
    · rcases List.mem_append.1 hj with g | g
      · rcases hw j g with g | g
        · exact .inl (List.mem_append_left _ g)
        · exact .inr g
      · exact .inl (List.mem_append_right _ g)
theorem objl_congr {c c' : List Call} {x : Nat} : ∀ {t : List Step}, (∀ s ∈ t, (c'.getD s.call.toNat Call.z).thing = (c.getD s.call.toNat Call.z).thing ∧ (c'.getD s.call.toNat Call.z).kind = (c.getD s.call.toNat Call.z).kind ∧ (c'.getD s.call.toNat Call.z).arg = (c.getD s.call.toNat Call.z).arg) → objl c' x t = objl c x t
  | [], _ => rfl
  | s :: t, h => by
    obtain ⟨h1, h2, h3⟩ := h s (.head _)
    unfold objl
    rw [h1, h2, h3, objl_congr fun s hs => h s (.tail _ hs)]
theorem mem_nums {i : Nat} {t : List Step} : i ∈ nums t ↔ ∃ s ∈ t, s.call.toNat = i := by unfold nums; exact List.mem_map
theorem bfA_open {c : List Call} {i j : Nat} (h : (c.getD i Call.z).to_ = -1) : bfA c i j = false := by
  unfold bfA
  exact decide_eq_false fun e => e.2.2.1 h
section
variable {N : Nat} {algo T : Int} {P0 : List (List Ask)} {m m' : M} {w k : Nat} {out out' : List Call} {op op' : List Int} {steps : List Step} {st st' : List Int}
/-- Who waits for which call. -/
theorem pend_of (hP : OkP [T] P0) (h : H N T P0 m out op) {v : Nat} (hv : v < P0.length) (hp : (m.who v).pending = true) : ∃ i : Nat, op.getD v 0 = i + 1 ∧ i < out.length ∧ (out.getD i Call.z).who = v ∧ (out.getD i Call.z).to_ = -1 ∧ (out.getD i Call.z).thing = 0 ∧ (out.getD i Call.z).kind = m.kind v ∧ (out.getD i Call.z).arg = argP (m.who v) := by
  obtain ⟨i, h1, h2, h3, _⟩ := h.pe v hv hp
  have h8 := hP.few
  have := (h.rn.wf.pen v (by omega)).2.2 i h2
  exact ⟨i, h2, h1, this.1, this.2, h3⟩
theorem op_inj (hP : OkP [T] P0) (h : H N T P0 m out op) {v u : Nat} (hv : v < P0.length) (hu : u < P0.length) {i : Nat} (h1 : op.getD v 0 = i + 1) (h2 : op.getD u 0 = i + 1) : v = u := by
  have h8 := hP.few
  have a := ((h.rn.wf.pen v (by omega)).2.2 i h1).1
  have b := ((h.rn.wf.pen u (by omega)).2.2 i h2).1
  omega
/-- What is turned is none of the done. -/
theorem L.quiet (l : L T P0.length m out op steps st) (hw : w < m.people.length) {q : P} (hp : m'.people = m.people.set w q) (hq : q.pending = (m.who w).pending) (hl : lined q ↔ lined (m.who w)) (hr : lined q → resv q = resv (m.who w)) : L T P0.length m' out op steps st := by
  have hwho := who_of (m := m) (m' := m') hw hp
  refine ⟨l.ac, l.sq, l.cm, fun v hv hpv i hi => ?_⟩
  rw [hwho] at hpv ⊢
  by_cases e : v = w
  · subst e
    rw [if_pos rfl] at hpv ⊢
    rw [hq] at hpv
    obtain ⟨d1, d2⟩ := l.dn v hv hpv i hi
    refine ⟨fun g => ?_, fun g => d2 fun e => g (hl.2 e)⟩
    rw [hr g]
    exact d1 (hl.1 g)
  · rw [if_neg e] at hpv ⊢
    exact l.dn v hv hpv i hi
/-- One more is done: somewhere in the row. -/
theorem L.ins (hP : OkP [T] P0) (h : H N T P0 m out op) (l : L T P0.length m out op steps st) (hw : w < m.people.length) (hw0 : w < P0.length) {q : P} (hp : m'.people = m.people.set w q) (hpend : (m.who w).pending = true) (hnl : ¬ lined (m.who w)) (hlq : lined q) {pre post : List Step} (hs : steps = pre ++ post) {i : Nat} (ho : op.getD w 0 = i + 1)
    (hpost : ∀ s ∈ post, bfA out s.call.toNat i = false) (hsq : Sp.sq T (st0 T) (objl out 0 (pre ++ (⟨(i : Int), resv q⟩ :: post))) = some st') : L T P0.length m' out op (pre ++ (⟨(i : Int), resv q⟩ :: post)) st' := by
  have hwho := who_of (m := m) (m' := m') hw hp
  have h8 := hP.few
  obtain ⟨i', o1, o2, o3, o4, _⟩ := pend_of hP h hw0 hpend
  obtain rfl : i' = i := by omega
  have hni : i' ∉ nums steps := (l.dn w hw0 hpend i' ho).2 hnl
  rw [hs] at hni
  have hmem : ∀ j, j ∈ nums (pre ++ (⟨(i' : Int), resv q⟩ :: post)) ↔ j ∈ nums steps ∨ j = i' := fun j => by
    rw [hs]
    unfold nums
    simp only [List.map_append, List.map_cons, List.mem_append, List.mem_cons, Int.toNat_natCast]
    constructor
    · rintro (a | a | a)
      · exact .inl (.inl a)
      · exact .inr a
      · exact .inl (.inr a)
    · rintro ((a | a) | a)
      · exact .inl a
      · exact .inr (.inr a)
      · exact .inr (.inl a)
  have hni1 : i' ∉ nums pre := fun e => hni (by unfold nums at e ⊢; rw [List.map_append]; exact List.mem_append_left _ e)
  have hni2 : i' ∉ nums post := fun e => hni (by unfold nums at e ⊢; rw [List.map_append]; exact List.mem_append_right _ e)
  have hac := l.ac
  rw [hs] at hac
  obtain ⟨ac1, ac2⟩ := Ac.app.1 hac
  refine ⟨Ac.app.2 ⟨ac1, i', rfl, o2, by simpa using hni1, fun j _ => bfA_open o4, fun e => (e o4).elim, ac_more (fun j hj => ?_) ac2 hni2 hpost⟩, hsq, fun j hj ht => (hmem j).2 (.inl (l.cm j hj ht)), fun v hv hpv j hj => ?_⟩
  · rcases List.mem_append.1 hj with g | g
    · exact .inl g
    · exact .inr (List.mem_singleton.1 g)
  rw [hwho] at hpv ⊢
  by_cases e : v = w
  · subst e
    rw [if_pos rfl]
    obtain rfl : j = i' := by omega
    refine ⟨fun _ => ⟨(hmem j).2 (.inr rfl), fun s hs1 hs2 => ?_⟩, fun g => (g hlq).elim⟩
    rcases List.mem_append.1 hs1 with g | g
    · exact (hni1 (mem_nums.2 ⟨s, g, by omega⟩)).elim
    · rcases List.mem_cons.1 g with g | g
      · rw [g]
      · exact (hni2 (mem_nums.2 ⟨s, g, by omega⟩)).elim
  · rw [if_neg e] at hpv ⊢
    obtain ⟨d1, d2⟩ := l.dn v hv hpv j hj
    have hne : j ≠ i' := fun e2 => e (op_inj hP h hv hw0 hj (by rw [e2]; exact ho))
    refine ⟨fun g => ⟨(hmem j).2 (.inl (d1 g).1), fun s hs1 hs2 => ?_⟩, fun g hm => ?_⟩
    · refine (d1 g).2 s ?_ hs2
      rw [hs]
      rcases List.mem_append.1 hs1 with a | a
      · exact List.mem_append_left _ a
      · rcases List.mem_cons.1 a with a | a
        · rw [a] at hs2
          simp only at hs2
          omega
        · exact List.mem_append_right _ a
    · rcases (hmem j).1 hm with a | a
      · exact d2 g a
      · exact hne a
/-- A call begins. -/
theorem L.call (hP : OkP [T] P0) (h : H N T P0 m out op) (l : L T P0.length m out op steps st) (hw : w < m.people.length) (hw0 : w < P0.length) (c : Call) (hc : c.to_ = -1) (hm : m'.people = m.people.set w (beg (m.who w) m.nodes.length)) : L T P0.length m' (out ++ [c]) (setA 8 0 op w ((out.length : Int) + 1)) steps st := by
  have h8 := hP.few
  have hget : ∀ i, i < out.length → (out ++ [c]).getD i Call.z = out.getD i Call.z := fun i hi => by rw [getD_app, if_pos hi]
  have hin := ac_res l.ac
  have hwho := who_of (m := m) (m' := m') hw hm
  have hgo : ∀ v, v < 8 → (setA 8 0 op (w : Int) ((out.length : Int) + 1)).getD v 0 = if v = w then (out.length : Int) + 1 else op.getD v 0 := fun v hv => by rw [setA_get hv, Int.toNat_natCast]
  refine ⟨ac_mono (by simp) (fun i j hi hj hq => ?_) (by simp) l.ac fun s hs ht => ?_, ?_, fun i hi ht => ?_, fun v hv hpv i hi => ?_⟩
  · unfold bfA at hq ⊢
    rw [hget i hi, hget j hj]
    have hq := of_decide_eq_false hq
    exact decide_eq_false fun e => hq ⟨hi, hj, e.2.2⟩
  · rw [hget _ (hin s hs).1.2] at ht ⊢
    exact (hin s hs).2 ht
  · rw [objl_congr (c := out) fun s hs => by rw [hget _ (hin s hs).1.2]; exact ⟨rfl, rfl, rfl⟩]
    exact l.sq
  · rcases Nat.lt_or_ge i out.length with h1 | h1
    · rw [hget i h1] at ht
      exact l.cm i h1 ht
    · have e2 : i = out.length := by simp at hi; omega
      subst e2
      rw [getD_app, if_neg (by omega), if_pos rfl] at ht
      exact (ht hc).elim
  · rw [hwho] at hpv ⊢
    rw [hgo v (by omega)] at hi
    by_cases e : v = w
    · subst e
      rw [if_pos rfl] at hi ⊢
      refine ⟨fun e => ?_, fun _ hm2 => ?_⟩
      · rcases e with e | e
        · cases e
        · cases e.2
      · obtain ⟨s, hs, hs2⟩ := mem_nums.1 hm2
        have h1 := (hin s hs).1
        omega
    · rw [if_neg e] at hi hpv ⊢
      exact l.dn v hv hpv i hi
/-- A call is answered. -/
theorem L.answer (hP : OkP [T] P0) (h : H N T P0 m out op) (l : L T P0.length m out op steps st) (hw : w < m.people.length) (hw0 : w < P0.length) {i : Nat} (hn : (m.who w).pending = true) (hc : (m.who w).complete = true) (hi : i < out.length) (ho : op.getD w 0 = i + 1) (hm : m'.people = m.people.set w (ans (m.who w))) : L T P0.length m' (out.set i (endC (out.getD i Call.z) (m.who w).res m.events.length)) (setA 8 0 op w 0) steps st := by
  have h8 := hP.few
  have W := h.rn.wf
  obtain ⟨i', o1, o2, o3, o4, _⟩ := pend_of hP h hw0 hn
  obtain rfl : i' = i := by omega
  obtain ⟨d1, d2⟩ := (l.dn w hw0 hn i' ho).1 (.inl hc)
  have hres : resv (m.who w) = (m.who w).res := by unfold resv; rw [if_pos hc]
  have hget : ∀ j, (out.set i' (endC (out.getD i' Call.z) (m.who w).res m.events.length)).getD j Call.z = if j = i' then endC (out.getD i' Call.z) (m.who w).res m.events.length else out.getD j Call.z := fun j => getD_set2 hi
  have hin := ac_res l.ac
  have hwho := who_of (m := m) (m' := m') hw hm
  have hgo : ∀ v, v < 8 → (setA 8 0 op (w : Int) 0).getD v 0 = if v = w then 0 else op.getD v 0 := fun v hv => by rw [setA_get hv, Int.toNat_natCast]
  refine ⟨ac_mono (by simp) (fun j k hj hk hq => ?_) (by simp) l.ac fun s hs ht => ?_, ?_, fun j hj ht => ?_, fun v hv hpv j hj => ?_⟩
  · unfold bfA at hq ⊢
    have hq := of_decide_eq_false hq
    refine decide_eq_false fun e => hq ?_
    obtain ⟨_, _, e3, e4⟩ := e
    rw [hget, hget] at e4
    rw [hget] at e3
    have hfr := (W.one k hk).fr
    by_cases ej : j = i'
    · rw [if_pos ej] at e4
      exfalso
      by_cases ek : k = i'
      · subst ek
        rw [if_pos rfl] at e4
        simp only [endC] at e4
        omega
      · rw [if_neg ek] at e4
        simp only [endC] at e4
        omega
    · rw [if_neg ej] at e3 e4
      refine ⟨hj, hk, e3, ?_⟩
      by_cases ek : k = i'
      · subst ek
        rw [if_pos rfl] at e4
        exact e4
      · rw [if_neg ek] at e4; exact e4
  · rw [hget] at ht ⊢
    split
    · rename_i e
      have := (hin s hs).1
      have := d2 s hs (by omega)
      rw [hres] at this
      exact this
    · rename_i e
      rw [if_neg e] at ht
      exact (hin s hs).2 ht
  · rw [objl_congr (c := out) fun s hs => ?_]
    · exact l.sq
    · rw [hget]
      split
      · rename_i e; rw [e]; exact ⟨rfl, rfl, rfl⟩
      · exact ⟨rfl, rfl, rfl⟩
  · rw [hget] at ht
    split at ht
    · rename_i e; rw [e]; exact d1
    · exact l.cm j (by simpa using hj) ht
  · rw [hwho] at hpv ⊢
    rw [hgo v (by omega)] at hj
    by_cases e : v = w
    · subst e
      rw [if_pos rfl] at hpv
      cases hpv
    · rw [if_neg e] at hpv hj ⊢
      exact l.dn v hv hpv j hj
theorem bfA_ans (h : H N T P0 m out op) {i j : Nat} {r : Int} (hi : i < out.length) {a : Nat} (hj : j < out.length) (hq : bfA out a j = false) : bfA (out.set i (endC (out.getD i Call.z) r m.events.length)) a j = false := by
  have W := h.rn.wf
  have hget : ∀ j, (out.set i (endC (out.getD i Call.z) r m.events.length)).getD j Call.z = if j = i then endC (out.getD i Call.z) r m.events.length else out.getD j Call.z := fun j => getD_set2 hi
  unfold bfA at hq ⊢
  have hq := of_decide_eq_false hq
  refine decide_eq_false fun e => hq ?_
  obtain ⟨e1, _, e3, e4⟩ := e
  rw [hget, hget] at e4
  rw [hget] at e3
  have hfr := (W.one j hj).fr
  by_cases ea : a = i
  · rw [if_pos ea] at e4
    exfalso
    by_cases ej : j = i
    · subst ej
      rw [if_pos rfl] at e4
      simp only [endC] at e4
      omega
    · rw [if_neg ej] at e4
      simp only [endC] at e4
      omega
  · rw [if_neg ea] at e3 e4
    refine ⟨by simpa using e1, hj, e3, ?_⟩
    by_cases ej : j = i
    · subst ej
      rw [if_pos rfl] at e4
      exact e4
    · rw [if_neg ej] at e4; exact e4
theorem l0 : L T P0.length (m0 P0) [] [] [] (st0 T) := ⟨trivial, rfl, fun i hi => absurd hi (Nat.not_lt_zero _), fun w _ hp => by rw [m0_pend] at hp; cases hp⟩
end
end Sp

end Go.Proofs.Ytkmmagekepoapaa
