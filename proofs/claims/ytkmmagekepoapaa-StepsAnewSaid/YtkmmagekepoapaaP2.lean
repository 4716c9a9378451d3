/- What stays of the machine; what is asked and answered. -/
import Derived.Test.YtkmmagekepoapaaP1
set_option linter.unusedVariables false
set_option linter.unusedSimpArgs false
set_option linter.unusedSectionVars false
set_option maxRecDepth 100000
namespace Go.Proofs.Ytkmmagekepoapaa
open Go.RowKit
namespace Sp
section
variable {N : Nat} {algo : Int} {np k w : Nat} {m : M}
theorem B.setp (h : B np k m) {q : P} (hq : PB m.nodes.length (k + 1) q) : B np (k + 1) (m.setp w q) :=
  h.step (Nat.le_refl _) h.top h.hd h.tl h.nx hq (Nat.le_succ_of_le h.ev) ⟨h.rs.1, by have := h.rs.2; omega⟩ ⟨h.nn.1, by have := h.nn.2; omega⟩
theorem B.again (h : B np k m) (hw : w < np) : B np (k + 1) (m.again w) :=
  h.step (Nat.le_refl _) h.top h.hd h.tl h.nx (by have := (h.pb hw).mono (Nat.le_refl _) (Nat.le_succ k); exact ⟨this.x, this.y, this.z, this.own, this.pend, this.n⟩) (Nat.le_succ_of_le h.ev) ⟨by have := h.rs.1; omega, by have := h.rs.2; omega⟩ ⟨h.nn.1, by have := h.nn.2; omega⟩
theorem B.setN (h : B np k m) {n : Int} (hn : 0 ≤ n ∧ n ≤ k) : B np k (m.setN n) := ⟨h.pl, h.top, h.hd, h.tl, h.nx, h.pp, h.ev, h.rs, hn⟩
theorem B.setTop (h : B np k m) {t : Int} (hn : -1 ≤ t ∧ t < m.nodes.length) : B np k (m.setTop t) := ⟨h.pl, hn, h.hd, h.tl, h.nx, h.pp, h.ev, h.rs, h.nn⟩
theorem B.setHead (h : B np k m) {t : Int} (hn : 0 ≤ t ∧ t < m.nodes.length) : B np k (m.setHead t) := ⟨h.pl, h.top, hn, h.tl, h.nx, h.pp, h.ev, h.rs, h.nn⟩
theorem B.setTail (h : B np k m) {t : Int} (hn : 0 ≤ t ∧ t < m.nodes.length) : B np k (m.setTail t) := ⟨h.pl, h.top, h.hd, hn, h.nx, h.pp, h.ev, h.rs, h.nn⟩
theorem B.link (h : B np k m) {z nx : Int} (hn : -1 ≤ nx ∧ nx < m.nodes.length) : B np k (m.link z nx) := by
  have e : (m.link z nx).nodes.length = m.nodes.length := by simp [M.link]
  exact ⟨h.pl, by rw [e]; exact h.top, by rw [e]; exact h.hd, by rw [e]; exact h.tl, fun x hx => by
    rw [e]
    rcases mem_set' hx with rfl | hx
    · exact hn
    · exact h.nx x hx, fun p hp => by rw [e]; exact h.pp p hp, h.ev, h.rs, h.nn⟩
theorem PB.fin {l k : Nat} {p : P} (h : PB l k p) (r : Int) : PB l k (Sp.fin p r) := ⟨h.x, h.y, h.z, h.own, h.pend, h.n⟩
theorem PB.at1 {l k : Nat} {p : P} (h : PB l k p) : PB l k (Sp.at1 p) := ⟨h.x, h.y, h.z, h.own, h.pend, h.n⟩
theorem PB.at3 {l k : Nat} {p : P} (h : PB l k p) : PB l k (Sp.at3 p) := ⟨h.x, h.y, h.z, h.own, h.pend, h.n⟩
theorem PB.at2 {l k : Nat} {p : P} (h : PB l k p) {n x y z : Int} (hn : 0 ≤ n ∧ n ≤ k) (hx : -1 ≤ x ∧ x < l) (hy : -1 ≤ y ∧ y < l) (hz : -1 ≤ z ∧ z < l) : PB l k (Sp.at2 p n x y z) := ⟨hx, hy, hz, h.own, h.pend, hn⟩
theorem step_B (h : B np k m) (hD : D m w) (hw : w < np) (hp : (m.who w).pending = true) (hc : (m.who w).complete = false) : B np (k + 1) (stepS algo m w) := by
  have hb := h.pb hw
  have hb' : PB m.nodes.length (k + 1) (m.who w) := hb.mono (Nat.le_refl _) (Nat.le_succ k)
  have ht := h.top
  have hh := h.hd
  have htl := h.tl
  have hn1 := hb.n
  have ho := (hb.pend hp).2
  have hD := hD hp hc
  have ha := h.again hw
  unfold stepS
  split
  · unfold counterS
    split
    · exact h.setp (hb'.at2 ⟨h.nn.1, by have := h.nn.2; omega⟩ hb.x hb.y hb.z)
    · split
      · exact (h.setp (hb'.fin _)).setN ⟨by omega, by omega⟩
      · exact ha
  rename_i k1
  split
  · unfold pushS
    split
    · exact (h.setp (hb'.at2 hb'.n ht hb.y hb.z)).link ht
    · split
      · exact (h.setp (hb'.fin _)).setTop hb.own
      · exact ha
  rename_i k2
  split
  · rename_i k3
    unfold popS
    split
    · exact h.setp (hb'.fin _)
    · rename_i h0
      split
      · rename_i h1
        have h2 : 0 ≤ m.top := by
          apply Classical.byContradiction; intro h3
          exact h0 ⟨h1, by omega⟩
        exact h.setp (hb'.at2 hb'.n ht (h.ndn h2 ht.2) hb.z)
      · split
        · exact (h.setp (hb'.fin _)).setTop hb.y
        · exact ha
  rename_i k3
  split
  · rename_i k4
    unfold enqS
    split
    · exact h.setp (hb'.at2 hb'.n ⟨by omega, htl.2⟩ (h.ndn htl.1 htl.2) hb.z)
    · split
      · split
        · exact (h.setp (hb'.fin _)).setTail ⟨ho, hb.own.2⟩
        · exact h.setp (hb'.fin _)
      · split
        · exact ha
        · split
          · exact ha.setTail ⟨by omega, hb.y.2⟩
          · split
            · exact (h.setp hb'.at3).link hb.own
            · exact ha
  rename_i k4
  unfold deqS
  split
  · exact h.setp (hb'.at2 hb'.n ⟨by omega, hh.2⟩ (h.ndn hh.1 hh.2) ⟨by omega, htl.2⟩)
  · rename_i h1
    split
    · exact ha
    · split
      · exact h.setp (hb'.fin _)
      · rename_i h2
        split
        · rename_i h3
          split
          · refine ha.setTail ⟨?_, hb.y.2⟩
            apply Classical.byContradiction; intro h4
            exact h2 ⟨h3, by omega⟩
          · exact ha
        · rename_i h3
          exact (h.setp (hb'.fin _)).setHead ⟨(hD h1).2 k1 k2 k3 k4 h3, hb.y.2⟩
theorem beg_B (h : B np k m) (hne : (m.who w).program ≠ []) : B np (k + 1) (begS m w) := by
  have hev := h.ev
  have ht := h.top
  have hh := h.hd
  have htl := h.tl
  have hn := h.nn
  have hr := h.rs
  refine h.step (by simp) (by simp; omega) (by simp; omega) (by simp; omega) (fun x hx => ?_) ⟨by simp [beg]; omega, by simp [beg]; omega, by simp [beg]; omega, by simp [beg]; omega, fun _ => ⟨hne, by simp [beg]⟩, by simp [beg]; omega⟩ (by simp; omega) (by omega) (by omega)
  rw [List.length_append]
  rcases List.mem_append.1 hx with hx | hx
  · have := h.nx x hx
    simp; omega
  · rw [List.mem_singleton.1 hx]
    simp; omega
theorem ans_B (h : B np k m) (hw : w < np) : B np (k + 1) (ansS m w) := by
  have hb' : PB m.nodes.length (k + 1) (m.who w) := (h.pb hw).mono (Nat.le_refl _) (Nat.le_succ k)
  have hev := h.ev
  have hn := h.nn
  have hr := h.rs
  exact h.step (Nat.le_refl _) h.top h.hd h.tl h.nx ⟨hb'.x, hb'.y, hb'.z, hb'.own, fun e => (by cases e), hb'.n⟩ (by simp; omega) (by omega) (by omega)
theorem trn_B (h : B np k m) (hD : D m w) (hw : w < np) : B np (k + 1) (trn algo m w) := by
  unfold trn
  split
  · split
    · exact h.later
    · rename_i h1; exact beg_B h h1
  · rename_i h1
    have hp : (m.who w).pending = true := by simpa using h1
    split
    · exact ans_B h hw
    · rename_i h2
      exact step_B h hD hw hp (by simpa using h2)
/-! People. -/
theorem who_set {q : P} {v : Nat} (hw : w < m.people.length) : (m.people.set w q).getD v StepsProcess.z = if v = w then q else m.who v := by
  unfold M.who
  simp only [List.getD_eq_getElem?_getD]
  by_cases e : v = w
  · subst e; rw [if_pos rfl]; simp [hw]
  · rw [if_neg e, List.getElem?_set_ne (fun e2 => e e2.symm)]
/-- A step turns none but its own. -/
theorem stepS_other (hw : w < m.people.length) {v : Nat} (e : v ≠ w) : (stepS algo m w).who v = m.who v := by
  have key : ∀ q, (m.people.set w q).getD v StepsProcess.z = m.who v := fun q => by rw [who_set hw, if_neg e]
  unfold stepS counterS pushS popS enqS deqS
  repeat' split
  all_goals exact key _
/-- What a step leaves of its own. -/
theorem stepS_own (hw : w < m.people.length) : ((stepS algo m w).who w).program = (m.who w).program ∧ ((stepS algo m w).who w).pending = (m.who w).pending ∧ ((stepS algo m w).who w).own = (m.who w).own := by
  have key : ∀ q : P, q.program = (m.who w).program → q.pending = (m.who w).pending → q.own = (m.who w).own → ((m.people.set w q).getD w StepsProcess.z).program = (m.who w).program ∧ ((m.people.set w q).getD w StepsProcess.z).pending = (m.who w).pending ∧ ((m.people.set w q).getD w StepsProcess.z).own = (m.who w).own := fun q h1 h2 h3 => by rw [who_set hw, if_pos rfl]; exact ⟨h1, h2, h3⟩
  unfold stepS counterS pushS popS enqS deqS
  repeat' split
  all_goals exact key _ rfl rfl rfl
theorem stepS_events : (stepS algo m w).events = m.events := by
  unfold stepS counterS pushS popS enqS deqS
  repeat' split
  all_goals rfl
theorem stepS_len : (stepS algo m w).people.length = m.people.length := by
  unfold stepS counterS pushS popS enqS deqS
  repeat' split
  all_goals exact List.length_set
/-! Answers told. -/
def had (l : List Event) (w : Nat) : Nat := l.countP fun e => decide (e.who = (w : Int)) && decide (e.kind = 0)
theorem had_app (a b : List Event) (w : Nat) : had (a ++ b) w = had a w + had b w := List.countP_append
/-- What is left to ask, and what was answered. -/
structure A (P0 : List (List Ask)) (m : M) : Prop where
  pl : m.people.length = P0.length
  pr : ∀ w, w < P0.length → ∃ d, (m.who w).program = (P0.getD w []).drop d ∧ d ≤ (P0.getD w []).length ∧ had m.events w = d
theorem A.mem {P0 : List (List Ask)} (h : A P0 m) (hw : w < P0.length) {a : Ask} (ha : a ∈ (m.who w).program) : a ∈ P0.getD w [] := by
  obtain ⟨d, h1, _⟩ := h.pr w hw
  rw [h1] at ha
  exact List.mem_of_mem_drop ha
theorem trn_A {P0 : List (List Ask)} (h : A P0 m) (hw : w < P0.length) (hk : ∀ a ∈ P0.getD w [], a.kind ≠ 0) (hne : (m.who w).pending = true → (m.who w).program ≠ []) : A P0 (trn algo m w) := by
  have hpl := h.pl
  have hw' : w < m.people.length := by omega
  unfold trn
  split
  · split
    · exact h
    · rename_i h1
      have hkn : m.kind w ≠ 0 := by
        unfold M.kind
        cases hh : (m.who w).program with
        | nil => exact (h1 hh).elim
        | cons a r => exact hk a (h.mem hw (by rw [hh]; exact .head _))
      refine ⟨by simpa [begS] using hpl, fun v hv => ?_⟩
      obtain ⟨d, g1, g2, g3⟩ := h.pr v hv
      refine ⟨d, ?_, g2, ?_⟩
      · show ((m.people.set w _).getD v StepsProcess.z).program = _
        rw [who_set hw']
        split
        · rename_i e; subst e; exact g1
        · exact g1
      · show had (m.events ++ _) v = _
        rw [had_app, g3]
        simp [had, hkn]
  · rename_i h1
    have hp : (m.who w).pending = true := by simpa using h1
    split
    · refine ⟨by simpa [ansS] using hpl, fun v hv => ?_⟩
      obtain ⟨d, g1, g2, g3⟩ := h.pr v hv
      by_cases e : v = w
      · subst e
        have hl : d < (P0.getD v []).length := by
          have := hne hp
          rw [g1] at this
          apply Classical.byContradiction
          intro h5
          exact this (List.drop_eq_nil_of_le (by omega))
        refine ⟨d + 1, ?_, hl, ?_⟩
        · show ((m.people.set v _).getD v StepsProcess.z).program = _
          rw [who_set hw', if_pos rfl]
          show (m.who v).program.drop 1 = _
          rw [g1, List.drop_drop]
        · show had (m.events ++ _) v = _
          rw [had_app, g3]
          simp [had]
      · refine ⟨d, ?_, g2, ?_⟩
        · show ((m.people.set w _).getD v StepsProcess.z).program = _
          rw [who_set hw', if_neg e]; exact g1
        · show had (m.events ++ _) v = _
          rw [had_app, g3]
          have : ¬ (w : Int) = (v : Int) := by omega
          simp [had, this]
    · refine ⟨by rw [stepS_len]; exact hpl, fun v hv => ?_⟩
      obtain ⟨d, g1, g2, g3⟩ := h.pr v hv
      refine ⟨d, ?_, g2, by rw [stepS_events]; exact g3⟩
      by_cases e : v = w
      · subst e; rw [(stepS_own hw').1]; exact g1
      · rw [stepS_other hw' e]; exact g1
end
end Sp

end Go.Proofs.Ytkmmagekepoapaa
