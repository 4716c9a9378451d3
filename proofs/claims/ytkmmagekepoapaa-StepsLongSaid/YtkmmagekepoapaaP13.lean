/- TREIBER; MICHAEL, SCOTT: the order in which it was done. -/
import Derived.Test.YtkmmagekepoapaaP12
set_option linter.unusedVariables false
set_option linter.unusedSimpArgs false
set_option linter.unusedSectionVars false
set_option maxRecDepth 100000
namespace Go.Proofs.Ytkmmagekepoapaa
open Go.RowKit
namespace Sp
open Ob Hs Sr
def stV (m : M) (cs : List Nat) : List Int := (cs.map fun c => (m.nd ((c : Nat) : Int)).value).reverse
def quV (m : M) (qs : List Nat) (h : Nat) : List Int := (qs.drop (h + 1)).map fun c => (m.nd ((c : Nat) : Int)).value
/-- Who saw it empty: there is a place in the row where it was. -/
def MK (np : Nat) (m : M) (out : List Call) (op : List Int) (steps : List Step) : Prop := ∀ w, w < np → m.act w → m.kind w = 4 → (m.who w).item = 2 → (m.who w).y = -1 → ∀ i : Nat, op.getD w 0 = i + 1 → ∃ pre post, steps = pre ++ post ∧ sq 2 [] (objl out 0 pre) = some [] ∧ ∀ s ∈ post, bfA out s.call.toNat i = false
theorem objl_ins {out : List Call} {i : Nat} (h : (out.getD i Call.z).thing = 0) (pre post : List Step) (r : Int) : objl out 0 (pre ++ (⟨(i : Int), r⟩ :: post)) = objl out 0 pre ++ (⟨(out.getD i Call.z).kind, (out.getD i Call.z).arg, r⟩ :: objl out 0 post) := by
  rw [objl_app]
  congr 1
  simp only [objl, Int.toNat_natCast]
  rw [if_pos (by rw [h]; rfl)]
theorem sq_ins {T : Int} {s t t' st' : List Int} {a b : List Do} {d : Do} (h1 : sq T s a = some t) (h2 : ust T t d.kind d.arg = (t', d.res)) (h3 : sq T t' b = some st') : sq T s (a ++ d :: b) = some st' := by
  rw [sq_app, h1]
  show sq T t (d :: b) = _
  simp only [sq, h2, if_true]
  exact h3
section
variable {N : Nat} {algo T : Int} {P0 : List (List Ask)} {m m' : M} {w k : Nat} {out out' : List Call} {op op' : List Int} {steps : List Step} {st st' : List Int}
/-- The same, told of what is asked. -/
theorem L.add (hP : OkP [T] P0) (h : H N T P0 m out op) (l : L T P0.length m out op steps st) (hw : w < m.people.length) (hw0 : w < P0.length) {q : P} (hp : m'.people = m.people.set w q) (hpend : (m.who w).pending = true) (hnl : ¬ lined (m.who w)) (hlq : lined q) (hu : ust T st (m.kind w) (argP (m.who w)) = (st', resv q)) : ∃ steps', L T P0.length m' out op steps' st' ∧ ∃ i : Nat, steps' = steps ++ [⟨(i : Int), resv q⟩] ∧ op.getD w 0 = i + 1 := by
  obtain ⟨i, o1, o2, o3, o4, o5, o6, o7⟩ := pend_of hP h hw0 hpend
  refine ⟨steps ++ [⟨(i : Int), resv q⟩], l.ins hP h hw hw0 hp hpend hnl hlq (pre := steps) (post := []) (by simp) o1 (by simp) ?_, i, rfl, o1⟩
  rw [objl_ins o5]
  exact sq_ins l.sq (by rw [o6, o7]; exact hu) rfl
theorem MK.put (K : MK P0.length m out op steps) (hw : w < m.people.length) {q : P} (hp : m'.people = m.people.set w q) (hq : ActP q → kindP q = 4 → q.item = 2 → q.y = -1 → ∀ i : Nat, op.getD w 0 = i + 1 → ∃ pre post, steps = pre ++ post ∧ sq 2 [] (objl out 0 pre) = some [] ∧ ∀ s ∈ post, bfA out s.call.toNat i = false) : MK P0.length m' out op steps := by
  have hwho := who_of (m := m) (m' := m') hw hp
  intro v hv ha hk hi hy
  rw [M.act, hwho] at ha
  rw [kind_who m' v, hwho] at hk
  rw [hwho] at hi hy
  by_cases e : v = w
  · subst e
    rw [if_pos rfl] at ha hk hi hy
    exact hq ha hk hi hy
  · rw [if_neg e] at ha hk hi hy
    exact K v hv ha hk hi hy
theorem MK.ins (K : MK P0.length m out op steps) {pre0 post0 : List Step} (hs : steps = pre0 ++ post0) {i0 : Nat} {r : Int} (hth : (out.getD i0 Call.z).thing = 0) (hto : (out.getD i0 Call.z).to_ = -1) (hx : post0 = [] ∨ (sq 2 [] (objl out 0 pre0) = some [] ∧ ust 2 [] (out.getD i0 Call.z).kind (out.getD i0 Call.z).arg = ([], r))) : MK P0.length m out op (pre0 ++ (⟨(i0 : Int), r⟩ :: post0)) := by
  intro v hv ha hk hi hy i ho
  obtain ⟨pre, post, e1, e2, e3⟩ := K v hv ha hk hi hy i ho
  rw [hs] at e1
  rcases List.append_eq_append_iff.1 e1 with ⟨a, g1, g2⟩ | ⟨a, g1, g2⟩
  · -- pre = pre0 ++ a, post0 = a ++ post
    rcases hx with hx | ⟨hx1, hx2⟩
    · have ha0 : a = [] ∧ post = [] := by
        rw [hx] at g2
        have := g2.symm
        simpa using this
      refine ⟨pre0, ⟨(i0 : Int), r⟩ :: post0, rfl, by rw [g1, ha0.1, List.append_nil] at e2; exact e2, fun s hs2 => ?_⟩
      rw [hx] at hs2
      rw [List.mem_singleton.1 hs2]
      exact bfA_open (by rw [Int.toNat_natCast]; exact hto)
    · refine ⟨pre0 ++ (⟨(i0 : Int), r⟩ :: a), post, by rw [g2]; simp, ?_, e3⟩
      rw [objl_ins hth]
      have e4 : sq 2 [] (objl out 0 a) = some [] := by
        have := e2
        rw [g1, objl_app, sq_app, hx1] at this
        exact this
      exact sq_ins hx1 hx2 e4
  · -- pre0 = pre ++ a, post = a ++ post0
    refine ⟨pre, a ++ (⟨(i0 : Int), r⟩ :: post0), by rw [g1]; simp, e2, fun s hs2 => ?_⟩
    rcases List.mem_append.1 hs2 with b | b
    · exact e3 s (by rw [g2]; exact List.mem_append_left _ b)
    · rcases List.mem_cons.1 b with b | b
      · rw [b]
        exact bfA_open (by rw [Int.toNat_natCast]; exact hto)
      · exact e3 s (by rw [g2]; exact List.mem_append_right _ b)
theorem MK.call (hP : OkP [T] P0) (h : H N T P0 m out op) (l : L T P0.length m out op steps st) (K : MK P0.length m out op steps) (hw : w < m.people.length) (c : Call) (hm : m'.people = m.people.set w (beg (m.who w) m.nodes.length)) : MK P0.length m' (out ++ [c]) (setA 8 0 op w ((out.length : Int) + 1)) steps := by
  have h8 := hP.few
  have hin := ac_res l.ac
  have hget : ∀ i, i < out.length → (out ++ [c]).getD i Call.z = out.getD i Call.z := fun i hi => by rw [getD_app, if_pos hi]
  have hwho := who_of (m := m) (m' := m') hw hm
  intro v hv ha hk hi hy i ho
  rw [M.act, hwho] at ha
  rw [kind_who m' v, hwho] at hk
  rw [hwho] at hi hy
  rw [setA_get (show v < 8 by omega), Int.toNat_natCast] at ho
  by_cases e : v = w
  · subst e
    rw [if_pos rfl] at hi
    exact absurd hi (by show ¬ (1 : Int) = 2; decide)
  · rw [if_neg e] at ha hk hi hy ho
    obtain ⟨i', o1, o2, _⟩ := pend_of hP h hv ha.1
    obtain rfl : i' = i := by omega
    obtain ⟨pre, post, e1, e2, e3⟩ := K v hv ha hk hi hy i' ho
    refine ⟨pre, post, e1, ?_, fun s hs => ?_⟩
    · rw [objl_congr (c := out) fun s hs => by rw [hget _ (hin s (by rw [e1]; exact List.mem_append_left _ hs)).1.2]; exact ⟨rfl, rfl, rfl⟩]
      exact e2
    · have hsl := (hin s (by rw [e1]; exact List.mem_append_right _ hs)).1.2
      have := e3 s hs
      unfold bfA at this ⊢
      rw [hget _ hsl, hget _ o2]
      have := of_decide_eq_false this
      exact decide_eq_false fun e => this ⟨hsl, o2, e.2.2⟩
theorem MK.answer (hP : OkP [T] P0) (h : H N T P0 m out op) (l : L T P0.length m out op steps st) (K : MK P0.length m out op steps) (hw : w < m.people.length) {i0 : Nat} {r : Int} (hi0 : i0 < out.length) (hm : m'.people = m.people.set w (ans (m.who w))) : MK P0.length m' (out.set i0 (endC (out.getD i0 Call.z) r m.events.length)) (setA 8 0 op w 0) steps := by
  have h8 := hP.few
  have hwho := who_of (m := m) (m' := m') hw hm
  have hget : ∀ j, (out.set i0 (endC (out.getD i0 Call.z) r m.events.length)).getD j Call.z = if j = i0 then endC (out.getD i0 Call.z) r m.events.length else out.getD j Call.z := fun j => getD_set2 hi0
  intro v hv ha hk hi hy i ho
  rw [M.act, hwho] at ha
  rw [kind_who m' v, hwho] at hk
  rw [hwho] at hi hy
  rw [setA_get (show v < 8 by omega), Int.toNat_natCast] at ho
  by_cases e : v = w
  · subst e
    rw [if_pos rfl] at ha
    cases ha.1
  · rw [if_neg e] at ha hk hi hy ho
    obtain ⟨i', o1, o2, _⟩ := pend_of hP h hv ha.1
    obtain rfl : i' = i := by omega
    obtain ⟨pre, post, e1, e2, e3⟩ := K v hv ha hk hi hy i' ho
    refine ⟨pre, post, e1, ?_, fun s hs => bfA_ans h hi0 o2 (e3 s hs)⟩
    rw [objl_congr (c := out) fun s hs => ?_]
    · exact e2
    · rw [hget]
      split
      · rename_i e; rw [e]; exact ⟨rfl, rfl, rfl⟩
      · exact ⟨rfl, rfl, rfl⟩
theorem not_lined (ha : m.act w) (h : m.kind w = 3 → (m.who w).item ≠ 3) : ¬ lined (m.who w) := by
  rintro (e | e)
  · rw [ha.2] at e; cases e
  · exact h e.1 e.2
/-! The ticket. -/
theorem tick_trn (hP : OkP [5] P0) (I : Inv 1 P0 k m) (h : H N 5 P0 m out op) (hw : w < P0.length) (mv : Mv 1 m w out op out' op') (l : L 5 P0.length m out op steps [m.n]) : ∃ steps', L 5 P0.length (trn 1 m w) out' op' steps' [(trn 1 m w).n] := by
  have hw' := I.len hw
  have hP' : OkP [tyA 1] P0 := hP
  cases mv with
  | same e => rw [e]; exact ⟨steps, l⟩
  | call hn hne e => rw [e]; exact ⟨steps, l.call hP h hw' hw _ rfl rfl⟩
  | ans i hn hc hi ho e => rw [e]; exact ⟨steps, l.answer hP h hw' hw hn hc hi ho rfl⟩
  | step ha e =>
    rw [e]
    have hkd := kd5 hP' I.a hw (I.ne hw ha.1) (.inl rfl)
    have hnl := not_lined ha fun e => by omega
    cases ticket_step ha hkd with
    | quiet q hp hq hn =>
      rw [hn]
      have hql : ¬ lined q := by
        rintro (e | e)
        · rw [hq.2.2] at e; cases e
        · have : kindP q = m.kind w := by unfold kindP M.kind; rw [hq.1]
          omega
      exact ⟨steps, l.quiet hw' hp (by rw [hq.2.1, ha.1]) ⟨fun g => (hql g).elim, fun g => (hnl g).elim⟩ fun g => (hql g).elim⟩
    | take hp hn =>
      rw [hn]
      obtain ⟨steps', g, _⟩ := l.add (st' := [m.n + 1]) hP h hw' hw hp ha.1 hnl (.inl rfl) (by rw [hkd]; rfl)
      exact ⟨steps', g⟩
/-! The stack. -/
theorem stV_congr {cs : List Nat} (h : ∀ c ∈ cs, (m'.nd ((c : Nat) : Int)).value = (m.nd ((c : Nat) : Int)).value) : stV m' cs = stV m cs := by
  unfold stV
  congr 1
  exact List.map_congr_left h
theorem begS_val {c : Nat} (hc : c < m.nodes.length) : ((begS m w).nd ((c : Nat) : Int)).value = (m.nd ((c : Nat) : Int)).value := by
  unfold M.nd begS
  simp only [List.getD_eq_getElem?_getD, Int.toNat_natCast]
  rw [List.getElem?_append_left hc]
theorem stack_trn (hP : OkP [3] P0) (I : Inv 3 P0 k m) (h : H N 3 P0 m out op) (hw : w < P0.length) (mv : Mv 3 m w out op out' op') (l : ∃ cs steps, S m cs ∧ L 3 P0.length m out op steps (stV m cs)) : ∃ cs steps, S (trn 3 m w) cs ∧ L 3 P0.length (trn 3 m w) out' op' steps (stV (trn 3 m w) cs) := by
  have hw' := I.len hw
  have hP' : OkP [tyA 3] P0 := hP
  obtain ⟨cs, steps, hS, l⟩ := l
  cases mv with
  | same e => rw [e]; exact ⟨cs, steps, hS, l⟩
  | call hn hne e =>
    rw [e]
    refine ⟨cs, steps, hS.beg hw' I.b, ?_⟩
    rw [stV_congr fun c hc => begS_val (hS.ch.lt c hc)]
    exact l.call hP h hw' hw _ rfl rfl
  | ans i hn hc hi ho e =>
    rw [e]
    exact ⟨cs, steps, hS.ans hw', l.answer hP h hw' hw hn hc hi ho rfl⟩
  | step ha e =>
    rw [e]
    have hkd := kd3 hP' I.a hw (I.ne hw ha.1) rfl
    have hnl := not_lined ha fun e => by omega
    obtain ⟨cs', n3, hS', hv⟩ := stack_step (algo := 3) hS hw' ha hkd
    have hval : ∀ cs : List Nat, stV (stepS 3 m w) cs = stV m cs := fun cs => stV_congr fun c _ => hv _ (Int.natCast_nonneg c)
    refine ⟨cs', ?_⟩
    rw [hval]
    cases n3 with
    | quiet q hp hq =>
      have hql : ¬ lined q := by
        rintro (e | e)
        · rw [hq.2.2] at e; cases e
        · have : kindP q = m.kind w := by unfold kindP M.kind; rw [hq.1]
          omega
      exact ⟨steps, hS', l.quiet hw' hp (by rw [hq.2.1, ha.1]) ⟨fun g => (hql g).elim, fun g => (hnl g).elim⟩ fun g => (hql g).elim⟩
    | push hk5 hval2 hp =>
      have ho := (hS.pu w hw' ha hk5).1
      obtain ⟨steps', g, _⟩ := l.add (st' := stV m ((m.who w).own.toNat :: cs)) hP h hw' hw hp ha.1 hnl (.inl rfl) (by
        rw [hk5]
        unfold ust
        rw [if_neg (by decide), if_neg (by decide), if_pos rfl]
        refine Prod.ext ?_ rfl
        show _ = stV m _
        unfold stV
        rw [List.map_cons, List.reverse_cons, show (((m.who w).own.toNat : Nat) : Int) = (m.who w).own by omega, ← hval2, hv _ ho])
      exact ⟨steps', hS', g⟩
    | pop c cs' hcs hk6 hp =>
      subst hcs
      obtain ⟨steps', g, _⟩ := l.add (st' := stV m cs') hP h hw' hw hp ha.1 hnl (.inl rfl) (by
        rw [hk6]
        unfold ust
        have e1 : stV m (c :: cs') = stV m cs' ++ [(m.nd ((c : Nat) : Int)).value] := by unfold stV; rw [List.map_cons, List.reverse_cons]
        rw [e1, if_neg (by decide), if_neg (by decide), if_neg (by decide), if_neg (by simp)]
        have e2 : (stV m cs' ++ [(m.nd ((c : Nat) : Int)).value]).length - 1 = (stV m cs').length := by simp
        rw [e2, List.take_left]
        refine Prod.ext rfl ?_
        show (stV m cs' ++ [(m.nd ((c : Nat) : Int)).value]).getD (stV m cs').length 0 = _
        rw [List.getD_eq_getElem?_getD]
        simp [resv, fin])
      exact ⟨steps', hS', g⟩
    | empty hcs hk6 hp =>
      subst hcs
      obtain ⟨steps', g, _⟩ := l.add (st' := stV m []) hP h hw' hw hp ha.1 hnl (.inl rfl) (by rw [hk6]; rfl)
      exact ⟨steps', hS', g⟩
/-! The queue. -/
theorem quV_congr {qs : List Nat} {h : Nat} (hv : ∀ c ∈ qs, (m'.nd ((c : Nat) : Int)).value = (m.nd ((c : Nat) : Int)).value) : quV m' qs h = quV m qs h := by
  unfold quV
  exact List.map_congr_left fun c hc => hv c (List.mem_of_mem_drop hc)
theorem link_val {z nx k : Int} (hk : 0 ≤ k) (hz : 0 ≤ z) (hzl : z.toNat < m.nodes.length) : ((m.link z nx).nd k).value = (m.nd k).value := by
  rw [nd_link hk hz hzl]
  split
  · rename_i e; rw [e]
  · rfl
theorem queue_val {qs : List Nat} {hh t : Nat} (hQ : Q m qs hh t) (hw : w < m.people.length) (ha : m.act w) (hk : m.kind w = 3 ∨ m.kind w = 4) {z : Int} (hz : 0 ≤ z) : ((stepS algo m w).nd z).value = (m.nd z).value := by
  unfold stepS
  rw [if_neg (by omega), if_neg (by omega), if_neg (by omega)]
  by_cases h3 : m.kind w = 3
  · rw [if_pos h3]
    unfold enqS
    split
    · rfl
    · split
      · split <;> rfl
      · split
        · rfl
        · split
          · rfl
          · split
            · rcases (hQ.en w hw ha h3).1 with g | ⟨_, i, _, i2, i3, _⟩ | ⟨_, i, _, i2, i3, _⟩
              · rename_i e _ _ _ _; exact (e g).elim
              · exact link_val (m := m.setp w (at3 (m.who w))) hz (by rw [i3]; exact at_nn _ _) (by rw [i3]; exact hQ.lt _ (at_mem i2))
              · exact link_val (m := m.setp w (at3 (m.who w))) hz (by rw [i3]; exact at_nn _ _) (by rw [i3]; exact hQ.lt _ (at_mem (by omega)))
            · rfl
  · rw [if_neg h3]
    unfold deqS
    split
    · rfl
    · split
      · rfl
      · split
        · rfl
        · split
          · split <;> rfl
          · rfl
theorem queue_trn (hP : OkP [2] P0) (I : Inv 4 P0 k m) (h : H N 2 P0 m out op) (hw : w < P0.length) (mv : Mv 4 m w out op out' op') (l : ∃ qs hh t steps, Q m qs hh t ∧ L 2 P0.length m out op steps (quV m qs hh) ∧ MK P0.length m out op steps) : ∃ qs hh t steps, Q (trn 4 m w) qs hh t ∧ L 2 P0.length (trn 4 m w) out' op' steps (quV (trn 4 m w) qs hh) ∧ MK P0.length (trn 4 m w) out' op' steps := by
  have hw' := I.len hw
  have hP' : OkP [tyA 4] P0 := hP
  obtain ⟨qs, hh, t, steps, hQ, l, K⟩ := l
  cases mv with
  | same e => rw [e]; exact ⟨qs, hh, t, steps, hQ, l, K⟩
  | call hn hne e =>
    rw [e]
    refine ⟨qs, hh, t, steps, hQ.beg hw' I.b, ?_, K.call hP h l hw' _ rfl⟩
    rw [quV_congr fun c hc => begS_val (hQ.lt c hc)]
    exact l.call hP h hw' hw _ rfl rfl
  | ans i hn hc hi ho e =>
    rw [e]
    exact ⟨qs, hh, t, steps, hQ.ans hw', l.answer hP h hw' hw hn hc hi ho rfl, K.answer hP h l hw' hi rfl⟩
  | step ha e =>
    rw [e]
    have hkd := kd2 hP' I.a hw (I.ne hw ha.1) rfl
    have hk34 : m.kind w = 3 ∨ m.kind w = 4 := by rcases hkd with g | g; exact .inl g.1; exact .inr g
    obtain ⟨qs', h', t', n4, hQ'⟩ := queue_step (algo := 4) hQ hw' ha hkd
    have hval : ∀ (qs : List Nat) (h : Nat), quV (stepS 4 m w) qs h = quV m qs h := fun qs h => quV_congr fun c _ => queue_val hQ hw' ha hk34 (Int.natCast_nonneg c)
    obtain ⟨i, o1, o2, o3, o4, o5, o6, o7⟩ := pend_of hP h hw ha.1
    have hln := hQ.ln
    have hht := hQ.ht
    refine ⟨qs', h', t', ?_⟩
    rw [hval]
    cases n4 with
    | quiet t' q hp hq h3 h4 =>
      have hkq : kindP q = m.kind w := by unfold kindP M.kind; rw [hq.1]
      have hql : ¬ lined q := by
        rintro (e | e)
        · rw [hq.2.2] at e; cases e
        · exact (h3 (by omega)).2 e.2
      have hnl := not_lined ha fun e => (h3 e).1
      refine ⟨steps, hQ', l.quiet hw' hp (by rw [hq.2.1, ha.1]) ⟨fun g => (hql g).elim, fun g => (hnl g).elim⟩ fun g => (hql g).elim, K.put hw' hp fun _ hk4 hi2 hy j hj => ?_⟩
      rcases h4 (by omega) with g | ⟨_, _, g⟩
      · omega
      · refine ⟨steps, [], by simp, ?_, by simp⟩
        have e1 : quV m qs hh = [] := by unfold quV; rw [List.drop_eq_nil_of_le (by have := g hy; omega)]; rfl
        have := l.sq
        rw [e1] at this
        exact this
    | link hk3 hi hp =>
      have hnl := not_lined ha fun _ => by omega
      have hlq : lined (at3 (m.who w)) := .inr ⟨hk3, rfl⟩
      obtain ⟨_, hfr⟩ := hQ.en w hw' ha hk3
      obtain ⟨f1, f2, f3, f4, f5⟩ := hfr (by omega)
      have hr0 : resv (at3 (m.who w)) = 0 := by unfold resv; rw [if_neg]; rw [show (at3 (m.who w)).complete = (m.who w).complete from rfl, ha.2]; simp
      obtain ⟨steps', g, i', g2, g3⟩ := l.add (st' := quV m (qs ++ [(m.who w).own.toNat]) hh) hP h hw' hw hp ha.1 hnl hlq (by
        rw [hk3, hr0]
        unfold ust
        rw [if_neg (by decide), if_pos rfl, if_pos rfl]
        refine Prod.ext ?_ rfl
        show _ = quV m _ hh
        unfold quV
        rw [List.drop_append_of_le_length (by omega), List.map_append, List.map_cons, List.map_nil, show (((m.who w).own.toNat : Nat) : Int) = (m.who w).own by omega, f5])
      obtain rfl : i' = i := by omega
      refine ⟨steps', hQ', g, ?_⟩
      rw [g2]
      have := MK.ins (r := resv (at3 (m.who w))) (K.put (m' := stepS 4 m w) hw' hp fun _ hk4 => by
        have : kindP (at3 (m.who w)) = m.kind w := rfl
        omega) (pre0 := steps) (post0 := []) (by simp) (i0 := i') o5 o4 (.inl rfl)
      exact this
    | done t' hk3 hi hp =>
      have hlp : lined (m.who w) := .inr ⟨hk3, hi⟩
      have hlq : lined (fin (m.who w) 0) := .inl rfl
      have hr0 : resv (m.who w) = 0 := by unfold resv; rw [if_neg (by simp [ha.2])]
      exact ⟨steps, hQ', l.quiet hw' hp rfl ⟨fun _ => hlp, fun _ => hlq⟩ fun _ => by rw [hr0]; rfl, K.put hw' hp fun e => by cases e.2⟩
    | take hk4 hi hl hp =>
      have hnl := not_lined ha fun _ => by omega
      have hlq : lined (fin (m.who w) (m.nd (at_ qs (hh + 1))).value) := .inl rfl
      obtain ⟨steps', g, i', g2, g3⟩ := l.add (st' := quV m qs (hh + 1)) hP h hw' hw hp ha.1 hnl hlq (by
        rw [hk4]
        have e1 : quV m qs hh = (m.nd (at_ qs (hh + 1))).value :: quV m qs (hh + 1) := by
          unfold quV at_
          rw [List.drop_eq_getElem_cons hl, List.map_cons, getD_of hl]
        unfold ust
        rw [e1, if_neg (by decide), if_pos rfl, if_neg (by decide), if_neg (by simp)]
        rfl)
      obtain rfl : i' = i := by omega
      refine ⟨steps', hQ', g, ?_⟩
      rw [g2]
      exact MK.ins (K.put (m' := stepS 4 m w) hw' hp fun e => by cases e.2) (pre0 := steps) (post0 := []) (by simp) (i0 := i') o5 o4 (.inl rfl)
    | empty hk4 hi hx hy hp =>
      have hnl := not_lined ha fun _ => by omega
      have hlq : lined (fin (m.who w) (-1)) := .inl rfl
      obtain ⟨pre, post, e1, e2, e3⟩ := K w hw ha hk4 hi hy i o1
      have hu : ust 2 [] (out.getD i Call.z).kind (out.getD i Call.z).arg = ([], resv (fin (m.who w) (-1))) := by
        rw [o6, hk4]; rfl
      have hsq : sq 2 (st0 2) (objl out 0 (pre ++ (⟨(i : Int), resv (fin (m.who w) (-1))⟩ :: post))) = some (quV m qs hh) := by
        rw [objl_ins o5]
        refine sq_ins (t := []) (t' := []) e2 hu ?_
        have := l.sq
        rw [e1, objl_app, sq_app] at this
        rw [show sq 2 (st0 2) (objl out 0 pre) = some [] from e2] at this
        exact this
      refine ⟨pre ++ (⟨(i : Int), resv (fin (m.who w) (-1))⟩ :: post), hQ', l.ins hP h hw' hw hp ha.1 hnl hlq e1 o1 e3 hsq, ?_⟩
      exact MK.ins (K.put (m' := stepS 4 m w) hw' hp fun e => by cases e.2) e1 o5 o4 (.inr ⟨e2, hu⟩)
end
end Sp

namespace Sp
open Ob Hs Sr
section
variable {N : Nat} {algo T : Int} {P0 : List (List Ask)} {m m' : M} {w k : Nat} {out out' : List Call} {op op' : List Int} {steps : List Step} {st st' : List Int}
def LinX (algo : Int) (np : Nat) (m : M) (out : List Call) (op : List Int) : Prop :=
  (algo = 1 → ∃ steps, L 5 np m out op steps [m.n]) ∧ (algo = 3 → ∃ cs steps, S m cs ∧ L 3 np m out op steps (stV m cs)) ∧ (algo = 4 → ∃ qs hh t steps, Q m qs hh t ∧ L 2 np m out op steps (quV m qs hh) ∧ MK np m out op steps)
theorem lin_trn (hP : OkP [tyA algo] P0) (I : Inv algo P0 k m) (h : H N (tyA algo) P0 m out op) (hw : w < P0.length) (mv : Mv algo m w out op out' op') (l : LinX algo P0.length m out op) : LinX algo P0.length (trn algo m w) out' op' := by
  refine ⟨fun e => ?_, fun e => ?_, fun e => ?_⟩
  · subst e
    obtain ⟨steps, l⟩ := l.1 rfl
    exact tick_trn (N := N) hP I h hw mv l
  · subst e
    exact stack_trn (N := N) hP I h hw mv (l.2.1 rfl)
  · subst e
    exact queue_trn (N := N) hP I h hw mv (l.2.2 rfl)
theorem lin0 : LinX algo P0.length (m0 P0) [] [] := by
  refine ⟨fun e => ⟨[], l0⟩, fun e => ?_, fun e => ?_⟩
  · obtain ⟨cs, hS⟩ := (inv0 (algo := algo) (P0 := P0)).x.1 e
    have hc : cs = [] := by
      cases cs with
      | nil => rfl
      | cons c cs =>
        have := hS.ch.1
        simp [m0] at this
    subst hc
    exact ⟨[], [], hS, l0⟩
  · have : Q (m0 P0) [0] 0 0 := by
      refine ⟨by simp, by simp, by simp, rfl, rfl, by simp, by simp [m0], fun i hi => by simp at hi, rfl, fun i h1 h2 => by simp at h2; omega, fun w _ ha => ?_, fun w _ ha => ?_, fun w v _ _ _ ha => ?_⟩
      all_goals
        have := ha.1
        rw [m0_pend] at this
        cases this
    exact ⟨[0], 0, 0, [], this, l0, fun w _ ha => by have := ha.1; rw [m0_pend] at this; cases this⟩
theorem lrun (hP : OkP [tyA algo] P0) : ∀ {turns : List Int} {k : Nat} {m : M} {out : List Call} {op : List Int}, Inv algo P0 k m → H N (tyA algo) P0 m out op → LinX algo P0.length m out op → (∀ t ∈ turns, 0 ≤ t ∧ t < P0.length) → k + turns.length ≤ 1000 → ∃ out' op', H N (tyA algo) P0 (runM algo m turns) out' op' ∧ LinX algo P0.length (runM algo m turns) out' op'
  | [], _, m, out, op, _, h, l, _, _ => ⟨out, op, h, l⟩
  | t :: turns, k, m, out, op, I, h, l, ht, hk => by
    have hw : t.toNat < P0.length := by have := ht t (.head _); omega
    have hk' : k + (turns.length + 1) ≤ 1000 := hk
    obtain ⟨out', op', mv, h'⟩ := turn_mv hP I (by omega) h hw
    exact lrun hP (turns := turns) (I.trn hP hw) h' (lin_trn hP I h hw mv l) (fun x hx => ht x (.tail _ hx)) (by omega)
/-- There is an order in which it was done. -/
theorem lin_ex (hP : OkP [tyA algo] P0) (h2 : algo ≠ 2) (l : LinX algo P0.length m out op) : ∃ steps st, L (tyA algo) P0.length m out op steps st := by
  rcases ty_cases hP with e | e | e | e
  · subst e
    obtain ⟨steps, l⟩ := l.1 rfl
    exact ⟨steps, _, l⟩
  · exact (h2 e).elim
  · subst e
    obtain ⟨cs, steps, _, l⟩ := l.2.1 rfl
    exact ⟨steps, _, l⟩
  · subst e
    obtain ⟨qs, hh, t, steps, _, l, _⟩ := l.2.2 rfl
    exact ⟨steps, _, l⟩
end
end Sp

namespace Sp
open Ob Hs
section
variable {N : Nat} {P0 : List (List Ask)}
theorem types_ok {T : Int} (h : threads_Check N [T] P0 = some 0) : history_Types N [T] = some 0 := by
  unfold threads_Check at h
  obtain ⟨r, hr, h⟩ := bd_inv h
  rcases cond_inv h with ⟨_, h⟩ | ⟨hc, _⟩
  · cases h
  simp only [Bool.or_eq_false_iff, Bool.not_eq_false', decide_eq_true_eq] at hc
  rw [hr, hc.1]
theorem lives : alibkeep_stepsLives 18446744073709551616 = some true := by kernel_rfl
end
end Sp

end Go.Proofs.Ytkmmagekepoapaa
