/- The machine of steps, plainly. -/
import Derived.Test.YtkmmagekepoapaaA2
import Derived.Test.YtkmmagekepoapaaPl
set_option linter.unusedVariables false
set_option linter.unusedSimpArgs false
set_option linter.unusedSectionVars false
set_option maxRecDepth 100000
namespace Go.Proofs.Ytkmmagekepoapaa
open Go.RowKit
namespace Sp
/-- A machine. -/
structure M where
  n : Int
  nodes : List StepsNode
  top : Int
  head : Int
  tail : Int
  people : List StepsProcess
  events : List Event
  restarts : Int
abbrev P := StepsProcess
def M.t (m : M) : Int × (List StepsNode) × Int × Int × Int × (List StepsProcess) × (List Event) × Int := (m.n, m.nodes, m.top, m.head, m.tail, m.people, m.events, m.restarts)
def M.who (m : M) (w : Nat) : P := m.people.getD w StepsProcess.z
def M.nd (m : M) (k : Int) : StepsNode := m.nodes.getD k.toNat StepsNode.z
def M.kind (m : M) (w : Nat) : Int := ((m.who w).program.getD 0 Ask.z).kind
def fin (p : P) (r : Int) : P := ⟨p.program, p.pending, true, r, p.item, p.n, p.x, p.y, p.z_, p.own⟩
def at1 (p : P) : P := ⟨p.program, p.pending, p.complete, p.res, 1, p.n, p.x, p.y, p.z_, p.own⟩
def at3 (p : P) : P := ⟨p.program, p.pending, p.complete, p.res, 3, p.n, p.x, p.y, p.z_, p.own⟩
def at2 (p : P) (n x y z : Int) : P := ⟨p.program, p.pending, p.complete, p.res, 2, n, x, y, z, p.own⟩
def beg (p : P) (k : Nat) : P := ⟨p.program, true, false, 0, 1, 0, -1, -1, -1, (k : Int)⟩
def ans (p : P) : P := ⟨p.program.drop 1, false, p.complete, p.res, p.item, p.n, p.x, p.y, p.z_, p.own⟩
def M.setp (m : M) (w : Nat) (q : P) : M := ⟨m.n, m.nodes, m.top, m.head, m.tail, m.people.set w q, m.events, m.restarts⟩
def M.again (m : M) (w : Nat) : M := ⟨m.n, m.nodes, m.top, m.head, m.tail, m.people.set w (at1 (m.who w)), m.events, m.restarts + 1⟩
def M.setN (m : M) (n : Int) : M := ⟨n, m.nodes, m.top, m.head, m.tail, m.people, m.events, m.restarts⟩
def M.setTop (m : M) (t : Int) : M := ⟨m.n, m.nodes, t, m.head, m.tail, m.people, m.events, m.restarts⟩
def M.setHead (m : M) (t : Int) : M := ⟨m.n, m.nodes, m.top, t, m.tail, m.people, m.events, m.restarts⟩
def M.setTail (m : M) (t : Int) : M := ⟨m.n, m.nodes, m.top, m.head, t, m.people, m.events, m.restarts⟩
def M.link (m : M) (k : Int) (nx : Int) : M := ⟨m.n, m.nodes.set k.toNat ⟨(m.nd k).value, nx⟩, m.top, m.head, m.tail, m.people, m.events, m.restarts⟩
def counterS (algo : Int) (m : M) (w : Nat) : M :=
  if (m.who w).item = 1 then m.setp w (at2 (m.who w) m.n (m.who w).x (m.who w).y (m.who w).z_)
  else if algo = 2 ∨ m.n = (m.who w).n then (m.setp w (fin (m.who w) (m.who w).n)).setN ((m.who w).n + 1)
  else m.again w
def pushS (m : M) (w : Nat) : M :=
  if (m.who w).item = 1 then (m.setp w (at2 (m.who w) (m.who w).n m.top (m.who w).y (m.who w).z_)).link (m.who w).own m.top
  else if m.top = (m.who w).x then (m.setp w (fin (m.who w) 0)).setTop (m.who w).own
  else m.again w
def popS (m : M) (w : Nat) : M :=
  if (m.who w).item = 1 ∧ m.top < 0 then m.setp w (fin (m.who w) (-1))
  else if (m.who w).item = 1 then m.setp w (at2 (m.who w) (m.who w).n m.top (m.nd m.top).next (m.who w).z_)
  else if m.top = (m.who w).x then (m.setp w (fin (m.who w) (m.nd (m.who w).x).value)).setTop (m.who w).y
  else m.again w
def enqS (m : M) (w : Nat) : M :=
  if (m.who w).item = 1 then m.setp w (at2 (m.who w) (m.who w).n m.tail (m.nd m.tail).next (m.who w).z_)
  else if (m.who w).item = 3 then
    if m.tail = (m.who w).x then (m.setp w (fin (m.who w) 0)).setTail (m.who w).own else m.setp w (fin (m.who w) 0)
  else if m.tail ≠ (m.who w).x then m.again w
  else if ¬ (m.who w).y < 0 then (m.again w).setTail (m.who w).y
  else if (m.nd (m.who w).x).next < 0 then (m.setp w (at3 (m.who w))).link (m.who w).x (m.who w).own
  else m.again w
def deqS (m : M) (w : Nat) : M :=
  if (m.who w).item = 1 then m.setp w (at2 (m.who w) (m.who w).n m.head (m.nd m.head).next m.tail)
  else if m.head ≠ (m.who w).x then m.again w
  else if (m.who w).x = (m.who w).z_ ∧ (m.who w).y < 0 then m.setp w (fin (m.who w) (-1))
  else if (m.who w).x = (m.who w).z_ then
    if m.tail = (m.who w).z_ then (m.again w).setTail (m.who w).y else m.again w
  else (m.setp w (fin (m.who w) (m.nd (m.who w).y).value)).setHead (m.who w).y
def stepS (algo : Int) (m : M) (w : Nat) : M :=
  if m.kind w = 10 then counterS algo m w else if m.kind w = 5 then pushS m w else if m.kind w = 6 then popS m w else if m.kind w = 3 then enqS m w else deqS m w
def begS (m : M) (w : Nat) : M := ⟨m.n, m.nodes ++ [⟨((m.who w).program.getD 0 Ask.z).arg, -1⟩], m.top, m.head, m.tail, m.people.set w (beg (m.who w) m.nodes.length), m.events ++ [⟨w, 0, m.kind w, ((m.who w).program.getD 0 Ask.z).arg⟩], m.restarts⟩
def ansS (m : M) (w : Nat) : M := ⟨m.n, m.nodes, m.top, m.head, m.tail, m.people.set w (ans (m.who w)), m.events ++ [⟨w, 0, 0, (m.who w).res⟩], m.restarts⟩
def trn (algo : Int) (m : M) (w : Nat) : M :=
  if (m.who w).pending = false then (if (m.who w).program = [] then m else begS m w)
  else if (m.who w).complete = true then ansS m w else stepS algo m w
/-! What holds of a machine behind so many turns. -/
structure PB (l k : Nat) (p : P) : Prop where
  x : -1 ≤ p.x ∧ p.x < l
  y : -1 ≤ p.y ∧ p.y < l
  z : -1 ≤ p.z_ ∧ p.z_ < l
  own : -1 ≤ p.own ∧ p.own < l
  pend : p.pending = true → p.program ≠ [] ∧ 0 ≤ p.own
  n : 0 ≤ p.n ∧ p.n ≤ k
structure B (np k : Nat) (m : M) : Prop where
  pl : m.people.length = np
  top : -1 ≤ m.top ∧ m.top < m.nodes.length
  hd : 0 ≤ m.head ∧ m.head < m.nodes.length
  tl : 0 ≤ m.tail ∧ m.tail < m.nodes.length
  nx : ∀ x ∈ m.nodes, -1 ≤ x.next ∧ x.next < m.nodes.length
  pp : ∀ p ∈ m.people, PB m.nodes.length k p
  ev : m.events.length ≤ k
  rs : 0 ≤ m.restarts ∧ m.restarts ≤ k
  nn : 0 ≤ m.n ∧ m.n ≤ k
/-- What is looked at behind a pointer is there. -/
def D (m : M) (w : Nat) : Prop := (m.who w).pending = true → (m.who w).complete = false → (m.who w).item ≠ 1 → ((m.kind w = 6 ∨ m.kind w = 3) → 0 ≤ (m.who w).x) ∧ (m.kind w ≠ 10 → m.kind w ≠ 5 → m.kind w ≠ 6 → m.kind w ≠ 3 → (m.who w).x ≠ (m.who w).z_ → 0 ≤ (m.who w).y)
theorem PB.mono {l l' k k' : Nat} {p : P} (h : PB l k p) (hl : l ≤ l') (hk : k ≤ k') : PB l' k' p :=
  ⟨⟨h.x.1, by have := h.x.2; omega⟩, ⟨h.y.1, by have := h.y.2; omega⟩, ⟨h.z.1, by have := h.z.2; omega⟩, ⟨h.own.1, by have := h.own.2; omega⟩, h.pend, h.n.1, by have := h.n.2; omega⟩
theorem mem_set' {α : Type} {l : List α} {i : Nat} {a x : α} (h : x ∈ l.set i a) : x = a ∨ x ∈ l := by
  rcases List.mem_or_eq_of_mem_set h with h | h
  · exact .inr h
  · exact .inl h
theorem B.step {np k : Nat} {m : M} (h : B np k m) {w : Nat} {q : P} {n' top' head' tail' rs' : Int} {nodes' : List StepsNode} {ev' : List Event} (hl : m.nodes.length ≤ nodes'.length)
    (ht : -1 ≤ top' ∧ top' < nodes'.length) (hh : 0 ≤ head' ∧ head' < nodes'.length) (htl : 0 ≤ tail' ∧ tail' < nodes'.length) (hn : ∀ x ∈ nodes', -1 ≤ x.next ∧ x.next < nodes'.length) (hq : PB nodes'.length (k + 1) q) (he : ev'.length ≤ k + 1) (hr : 0 ≤ rs' ∧ rs' ≤ ((k + 1 : Nat) : Int)) (hnn : 0 ≤ n' ∧ n' ≤ ((k + 1 : Nat) : Int)) : B np (k + 1) ⟨n', nodes', top', head', tail', m.people.set w q, ev', rs'⟩ :=
  ⟨by simpa using h.pl, ht, hh, htl, hn, fun p hp => by
    rcases mem_set' hp with rfl | hp
    · exact hq
    · exact (h.pp p hp).mono hl (Nat.le_succ k), he, hr, hnn⟩
theorem B.later {np k : Nat} {m : M} (h : B np k m) : B np (k + 1) m := ⟨h.pl, h.top, h.hd, h.tl, h.nx, fun p hp => (h.pp p hp).mono (Nat.le_refl _) (Nat.le_succ k), Nat.le_succ_of_le h.ev, ⟨h.rs.1, by have := h.rs.2; omega⟩, h.nn.1, by have := h.nn.2; omega⟩
section
variable {N : Nat} {algo : Int} {np k w : Nat} {m : M}
theorem who_ix (hw : w < m.people.length) : ix m.people (w : Int) = some (m.who w) := by rw [ix_of hw]; unfold M.who; rw [getD_of hw]
theorem nd_ix {z : Int} (h0 : 0 ≤ z) (h : z < m.nodes.length) : ix m.nodes z = some (m.nd z) := by rw [ix_int h0 h]; unfold M.nd; rw [getD_of]
theorem B.pb (h : B np k m) (hw : w < np) : PB m.nodes.length k (m.who w) := by
  have hpl := h.pl
  refine h.pp _ ?_
  unfold M.who; rw [getD_of (by omega)]; exact List.getElem_mem _
theorem B.ndn (h : B np k m) {z : Int} (h0 : 0 ≤ z) (hz : z < m.nodes.length) : -1 ≤ (m.nd z).next ∧ (m.nd z).next < m.nodes.length := by
  refine h.nx _ ?_
  unfold M.nd; rw [getD_of (by omega)]; exact List.getElem_mem _
theorem fin_eq (hw : w < m.people.length) (r : Int) : steps_process_finish N m.people (w : Int) r m.nodes = some (m.people.set w (fin (m.who w) r)) := by
  unfold steps_process_finish
  rw [who_ix hw, bd_some, Int.toNat_natCast, List.set_set]
  rfl
theorem again_eq (hw : w < m.people.length) (hr : 0 ≤ m.restarts ∧ m.restarts ≤ 100000) (n t h l : Int) (e : List Event) : steps_machine_restart N algo n t h l m.people e m.restarts (w : Int) m.nodes = some (m.people.set w (at1 (m.who w))) := by
  unfold steps_machine_restart
  rw [who_ix hw, bd_some, Int.toNat_natCast, ck64 (by omega)]
  rfl
theorem counter_eq (h : B np k m) (hw : w < np) (hk : k ≤ 1000) : steps_machine_counter N algo m.n m.top m.head m.tail m.people m.events m.restarts (w : Int) m.nodes = some ((counterS algo m w).n, (counterS algo m w).people, (counterS algo m w).restarts) := by
  have hpl := h.pl
  have hw' : w < m.people.length := by omega
  have hp := h.pb hw
  have hn := hp.n
  have hr := h.rs
  unfold steps_machine_counter counterS
  rw [who_ix hw', bd_some]
  by_cases h1 : (m.who w).item = 1
  · rw [if_pos h1, cond_of (decide_eq_true h1), Int.toNat_natCast, List.set_set]
    rfl
  · rw [if_neg h1, cond_no (decide_eq_false h1)]
    by_cases h2 : algo = 2 ∨ m.n = (m.who w).n
    · rw [if_pos h2, cond_of (by simpa using h2), ck64 (by omega), fin_eq hw', bd_some]
      rfl
    · rw [if_neg h2, cond_no (by simpa using h2), again_eq hw' (by omega), bd_some]
      rfl
theorem push_eq (h : B np k m) (hw : w < np) (hk : k ≤ 1000) (hp : (m.who w).pending = true) : steps_machine_push N algo m.n m.top m.head m.tail m.people m.events m.restarts (w : Int) m.nodes = some ((pushS m w).nodes, (pushS m w).top, (pushS m w).people, (pushS m w).restarts) := by
  have hpl := h.pl
  have hw' : w < m.people.length := by omega
  have hb := h.pb hw
  have hr := h.rs
  have ho := (hb.pend hp).2
  have ho2 := hb.own.2
  unfold steps_machine_push pushS
  rw [who_ix hw', bd_some]
  by_cases h1 : (m.who w).item = 1
  · rw [if_pos h1, cond_of (decide_eq_true h1), Int.toNat_natCast, List.set_set, nd_ix ho ho2]
    rfl
  · rw [if_neg h1, cond_no (decide_eq_false h1), ck_of (vp_iff.2 h.top), ck_of (vp_iff.2 hb.x)]
    by_cases h2 : m.top = (m.who w).x
    · rw [if_pos h2, cond_of (decide_eq_true h2), fin_eq hw', bd_some]
      rfl
    · rw [if_neg h2, cond_no (decide_eq_false h2), again_eq hw' (by omega), bd_some]
      rfl
theorem pop_eq (h : B np k m) (hw : w < np) (hk : k ≤ 1000) (hx : (m.who w).item ≠ 1 → 0 ≤ (m.who w).x) : steps_machine_pop N algo m.n m.top m.head m.tail m.people m.events m.restarts (w : Int) m.nodes = some ((popS m w).top, (popS m w).people, (popS m w).restarts) := by
  have hpl := h.pl
  have hw' : w < m.people.length := by omega
  have hb := h.pb hw
  have hr := h.rs
  have ht := h.top
  unfold steps_machine_pop popS
  rw [who_ix hw', bd_some]
  by_cases h0 : (m.who w).item = 1 ∧ m.top < 0
  · rw [if_pos h0, cond_of (by simpa using h0), fin_eq hw', bd_some]
    rfl
  · rw [if_neg h0, cond_no (by simpa using h0)]
    by_cases h1 : (m.who w).item = 1
    · have h2 : 0 ≤ m.top := by
        apply Classical.byContradiction; intro h3
        exact h0 ⟨h1, by omega⟩
      rw [if_pos h1, cond_of (decide_eq_true h1), Int.toNat_natCast, nd_ix h2 ht.2, bd_some, List.set_set, List.set_set]
      rfl
    · rw [if_neg h1, cond_no (decide_eq_false h1), ck_of (vp_iff.2 h.top), ck_of (vp_iff.2 hb.x)]
      by_cases h2 : m.top = (m.who w).x
      · rw [if_pos h2, cond_of (decide_eq_true h2), nd_ix (hx h1) hb.x.2, bd_some, fin_eq hw', bd_some]
        rfl
      · rw [if_neg h2, cond_no (decide_eq_false h2), again_eq hw' (by omega), bd_some]
        rfl
theorem enq_eq (h : B np k m) (hw : w < np) (hk : k ≤ 1000) (hx : (m.who w).item ≠ 1 → 0 ≤ (m.who w).x) : steps_machine_enq N algo m.n m.top m.head m.tail m.people m.events m.restarts (w : Int) m.nodes = some ((enqS m w).nodes, (enqS m w).tail, (enqS m w).people, (enqS m w).restarts) := by
  have hpl := h.pl
  have hw' : w < m.people.length := by omega
  have hb := h.pb hw
  have hr := h.rs
  have ht := h.tl
  have vt : vp m.nodes.length m.tail = true := vp_iff.2 ⟨by omega, ht.2⟩
  unfold steps_machine_enq enqS
  rw [who_ix hw', bd_some]
  by_cases h1 : (m.who w).item = 1
  · rw [if_pos h1, cond_of (decide_eq_true h1), Int.toNat_natCast, nd_ix ht.1 ht.2, bd_some, List.set_set, List.set_set]
    rfl
  · rw [if_neg h1, cond_no (decide_eq_false h1)]
    by_cases h3 : (m.who w).item = 3
    · rw [if_pos h3, cond_of (decide_eq_true h3), ck_of vt, ck_of (vp_iff.2 hb.x)]
      by_cases h2 : m.tail = (m.who w).x
      · rw [if_pos h2, cond_of (decide_eq_true h2), fin_eq hw', bd_some]
        rfl
      · rw [if_neg h2, cond_no (decide_eq_false h2), fin_eq hw', bd_some]
        rfl
    · rw [if_neg h3, cond_no (decide_eq_false h3), ck_of vt, ck_of (vp_iff.2 hb.x)]
      by_cases h2 : m.tail = (m.who w).x
      · rw [if_neg (fun e => e h2), cond_no (by simpa using h2)]
        by_cases h4 : (m.who w).y < 0
        · rw [if_neg (fun e => e h4), cond_no (by simpa using h4), nd_ix (hx h1) hb.x.2, bd_some]
          by_cases h5 : (m.nd (m.who w).x).next < 0
          · rw [if_pos h5, cond_of (decide_eq_true h5), bd_some, Int.toNat_natCast]
            rfl
          · rw [if_neg h5, cond_no (decide_eq_false h5), again_eq hw' (by omega), bd_some]
            rfl
        · rw [if_pos h4, cond_of (by simpa using h4), again_eq hw' (by omega), bd_some]
          rfl
      · rw [if_pos h2, cond_of (by simpa using h2), again_eq hw' (by omega), bd_some]
        rfl
theorem deq_eq (h : B np k m) (hw : w < np) (hk : k ≤ 1000) (hy : (m.who w).item ≠ 1 → (m.who w).x ≠ (m.who w).z_ → 0 ≤ (m.who w).y) : steps_machine_deq N algo m.n m.top m.head m.tail m.people m.events m.restarts (w : Int) m.nodes = some ((deqS m w).head, (deqS m w).tail, (deqS m w).people, (deqS m w).restarts) := by
  have hpl := h.pl
  have hw' : w < m.people.length := by omega
  have hb := h.pb hw
  have hr := h.rs
  have hh := h.hd
  have ht := h.tl
  have vt : vp m.nodes.length m.tail = true := vp_iff.2 ⟨by omega, ht.2⟩
  have vh : vp m.nodes.length m.head = true := vp_iff.2 ⟨by omega, hh.2⟩
  have vx := vp_iff.2 hb.x
  have vz := vp_iff.2 hb.z
  unfold steps_machine_deq deqS
  rw [who_ix hw', bd_some]
  by_cases h1 : (m.who w).item = 1
  · rw [if_pos h1, cond_of (decide_eq_true h1), Int.toNat_natCast, nd_ix hh.1 hh.2, bd_some, List.set_set, List.set_set, List.set_set]
    rfl
  · rw [if_neg h1, cond_no (decide_eq_false h1), ck_of vh, ck_of vx]
    by_cases h2 : m.head = (m.who w).x
    · rw [if_neg (fun e => e h2), cond_no (by simpa using h2), ck_of vx, ck_of vz]
      by_cases h3 : (m.who w).x = (m.who w).z_ ∧ (m.who w).y < 0
      · rw [if_pos h3, cond_of (by simpa using h3), fin_eq hw', bd_some]
        rfl
      · rw [if_neg h3, cond_no (by simpa using h3), ck_of vx, ck_of vz]
        by_cases h4 : (m.who w).x = (m.who w).z_
        · rw [if_pos h4, cond_of (decide_eq_true h4), ck_of vt, ck_of vz]
          by_cases h5 : m.tail = (m.who w).z_
          · rw [if_pos h5, cond_of (decide_eq_true h5), again_eq hw' (by omega), bd_some]
            rfl
          · rw [if_neg h5, cond_no (decide_eq_false h5), again_eq hw' (by omega), bd_some]
            rfl
        · rw [if_neg h4, cond_no (decide_eq_false h4), nd_ix (hy h1 h4) hb.y.2, bd_some, fin_eq hw', bd_some]
          rfl
    · rw [if_pos h2, cond_of (by simpa using h2), again_eq hw' (by omega), bd_some]
      rfl
theorem counterS_same : (counterS algo m w).nodes = m.nodes ∧ (counterS algo m w).top = m.top ∧ (counterS algo m w).head = m.head ∧ (counterS algo m w).tail = m.tail ∧ (counterS algo m w).events = m.events := by
  unfold counterS; split
  · exact ⟨rfl, rfl, rfl, rfl, rfl⟩
  · split <;> exact ⟨rfl, rfl, rfl, rfl, rfl⟩
theorem pushS_same : (pushS m w).n = m.n ∧ (pushS m w).head = m.head ∧ (pushS m w).tail = m.tail ∧ (pushS m w).events = m.events := by
  unfold pushS; split
  · exact ⟨rfl, rfl, rfl, rfl⟩
  · split <;> exact ⟨rfl, rfl, rfl, rfl⟩
theorem popS_same : (popS m w).n = m.n ∧ (popS m w).nodes = m.nodes ∧ (popS m w).head = m.head ∧ (popS m w).tail = m.tail ∧ (popS m w).events = m.events := by
  unfold popS; repeat' split
  all_goals exact ⟨rfl, rfl, rfl, rfl, rfl⟩
theorem enqS_same : (enqS m w).n = m.n ∧ (enqS m w).top = m.top ∧ (enqS m w).head = m.head ∧ (enqS m w).events = m.events := by
  unfold enqS; repeat' split
  all_goals exact ⟨rfl, rfl, rfl, rfl⟩
theorem deqS_same : (deqS m w).n = m.n ∧ (deqS m w).nodes = m.nodes ∧ (deqS m w).top = m.top ∧ (deqS m w).events = m.events := by
  unfold deqS; repeat' split
  all_goals exact ⟨rfl, rfl, rfl, rfl⟩
theorem step_eq (h : B np k m) (hD : D m w) (hw : w < np) (hk : k ≤ 1000) (hp : (m.who w).pending = true) (hc : (m.who w).complete = false) : steps_machine_step N algo m.n m.top m.head m.tail m.people m.events m.restarts (w : Int) m.nodes = some ((stepS algo m w).n, (stepS algo m w).nodes, (stepS algo m w).top, (stepS algo m w).head, (stepS algo m w).tail, (stepS algo m w).people, (stepS algo m w).restarts) ∧ (stepS algo m w).events = m.events := by
  have hpl := h.pl
  have hw' : w < m.people.length := by omega
  have hb := h.pb hw
  obtain ⟨a, r, e⟩ : ∃ a r, (m.who w).program = a :: r := by
    cases hh : (m.who w).program with
    | nil => exact ((hb.pend hp).1 hh).elim
    | cons a r => exact ⟨a, r, rfl⟩
  have hkd : m.kind w = a.kind := by unfold M.kind; rw [e]; rfl
  have hD := hD hp hc
  unfold steps_machine_step stepS
  rw [who_ix hw', bd_some, e, show ix (a :: r) 0 = some a from rfl, bd_some, hkd]
  rw [hkd] at hD
  by_cases k1 : a.kind = 10
  · rw [if_pos k1, cond_of (decide_eq_true k1), counter_eq h hw hk, bd_some]
    obtain ⟨e1, e2, e3, e4, e5⟩ := counterS_same (algo := algo) (m := m) (w := w)
    rw [e1, e2, e3, e4]
    exact ⟨rfl, e5⟩
  rw [if_neg k1, cond_no (decide_eq_false k1)]
  by_cases k2 : a.kind = 5
  · rw [if_pos k2, cond_of (decide_eq_true k2), push_eq h hw hk hp, bd_some]
    obtain ⟨e1, e2, e3, e4⟩ := pushS_same (m := m) (w := w)
    rw [e1, e2, e3]
    exact ⟨rfl, e4⟩
  rw [if_neg k2, cond_no (decide_eq_false k2)]
  by_cases k3 : a.kind = 6
  · rw [if_pos k3, cond_of (decide_eq_true k3), pop_eq h hw hk fun h1 => (hD h1).1 (.inl k3), bd_some]
    obtain ⟨e1, e2, e3, e4, e5⟩ := popS_same (m := m) (w := w)
    rw [e1, e2, e3, e4]
    exact ⟨rfl, e5⟩
  rw [if_neg k3, cond_no (decide_eq_false k3)]
  by_cases k4 : a.kind = 3
  · rw [if_pos k4, cond_of (decide_eq_true k4), enq_eq h hw hk fun h1 => (hD h1).1 (.inr k4), bd_some]
    obtain ⟨e1, e2, e3, e4⟩ := enqS_same (m := m) (w := w)
    rw [e1, e2, e3]
    exact ⟨rfl, e4⟩
  rw [if_neg k4, cond_no (decide_eq_false k4), deq_eq h hw hk fun h1 => (hD h1).2 k1 k2 k3 k4, bd_some]
  obtain ⟨e1, e2, e3, e4⟩ := deqS_same (m := m) (w := w)
  rw [e1, e2, e3]
  exact ⟨rfl, e4⟩
theorem turn_eq (h : B np k m) (hD : D m w) (hw : w < np) (hk : k ≤ 1000) : steps_machine_turn N algo m.n m.top m.head m.tail m.people m.events m.restarts (w : Int) m.nodes = some (trn algo m w).t := by
  have hpl := h.pl
  have hw' : w < m.people.length := by omega
  have hb := h.pb hw
  have hev := h.ev
  unfold steps_machine_turn trn
  rw [who_ix hw', bd_some]
  cases hp : (m.who w).pending with
  | false =>
    rw [if_pos rfl]
    cases hprog : (m.who w).program with
    | nil =>
      rw [if_pos rfl]
      exact cond_of (by simp)
    | cons a r =>
      rw [if_neg (by simp), cond_no (by simp; omega), cond_of (show (!false) = true from rfl), show ix (a :: r) 0 = some a from rfl, bd_some, ckL (by simp; omega) (by simp; omega)]
      have hh := h.hd
      have ht := h.tl
      rw [ck_of (List.all_eq_true.2 fun x hx => by unfold vpStepsNode; exact vp_iff.2 (h.nx x hx)), ck_of (vp_iff.2 h.top), ck_of (vp_iff.2 ⟨by omega, hh.2⟩), ck_of (vp_iff.2 ⟨by omega, ht.2⟩),
        ck_of (List.all_eq_true.2 fun p hp => by have := h.pp p hp; unfold vpStepsProcess; simp only [Bool.and_eq_true]; exact ⟨vp_iff.2 this.x, vp_iff.2 this.y, vp_iff.2 this.z, vp_iff.2 this.own⟩)]
      unfold begS M.t M.kind beg
      rw [hprog, Int.toNat_natCast]
      rfl
  | true =>
    rw [if_neg (by simp), cond_no (show (!true && decide (((m.who w).program.length : Int) = 0)) = false from rfl), cond_no (show (!true) = false from rfl)]
    cases hc : (m.who w).complete with
    | true =>
      rw [if_pos rfl, cond_of rfl, ckL (by simp; omega) (by simp; omega)]
      have hne := (hb.pend hp).1
      have hl : 0 < (m.who w).program.length := by
        cases hh : (m.who w).program with
        | nil => exact (hne hh).elim
        | cons a r => simp
      rw [ck_of (by simp [slB]; omega)]
      unfold ansS M.t ans
      rw [Int.toNat_natCast, List.set_set, hc]
      rfl
    | false =>
      rw [if_neg (by simp), cond_no rfl]
      obtain ⟨e1, e2⟩ := step_eq (N := N) (algo := algo) h hD hw hk hp hc
      rw [e1, bd_some]
      unfold M.t
      rw [e2]
end
end Sp

end Go.Proofs.Ytkmmagekepoapaa
