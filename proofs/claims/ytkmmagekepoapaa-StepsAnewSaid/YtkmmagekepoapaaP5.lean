/- The queue: what a step does to it. -/
import Derived.Test.YtkmmagekepoapaaP4
set_option linter.unusedVariables false
set_option linter.unusedSimpArgs false
set_option linter.unusedSectionVars false
set_option maxRecDepth 100000
namespace Go.Proofs.Ytkmmagekepoapaa
open Go.RowKit
namespace Sp
open Ob
section
variable {algo : Int} {m m' : M} {qs : List Nat} {h t w : Nat}
inductive N4 (m m' : M) (w : Nat) (qs : List Nat) (h t : Nat) : List Nat → Nat → Nat → Prop
  | quiet (t' : Nat) (q : P) (hp : m'.people = m.people.set w q) (hq : q.program = (m.who w).program ∧ q.pending = true ∧ q.complete = false) (h3 : m.kind w = 3 → (m.who w).item ≠ 3 ∧ q.item ≠ 3) (h4 : m.kind w = 4 → q.item = 1 ∨ (q.item = 2 ∧ q.x = at_ qs h ∧ (q.y = -1 → h + 1 = qs.length))) : N4 m m' w qs h t qs h t'
  | link (hk : m.kind w = 3) (hi : (m.who w).item = 2) (hp : m'.people = m.people.set w (at3 (m.who w))) : N4 m m' w qs h t (qs ++ [(m.who w).own.toNat]) h t
  | done (t' : Nat) (hk : m.kind w = 3) (hi : (m.who w).item = 3) (hp : m'.people = m.people.set w (fin (m.who w) 0)) : N4 m m' w qs h t qs h t'
  | take (hk : m.kind w = 4) (hi : (m.who w).item = 2) (hl : h + 1 < qs.length) (hp : m'.people = m.people.set w (fin (m.who w) (m.nd (at_ qs (h + 1))).value)) : N4 m m' w qs h t qs (h + 1) t
  | empty (hk : m.kind w = 4) (hi : (m.who w).item = 2) (hx : (m.who w).x = at_ qs h) (hy : (m.who w).y = -1) (hp : m'.people = m.people.set w (fin (m.who w) (-1))) : N4 m m' w qs h t qs h t
theorem at_nn (qs : List Nat) (i : Nat) : 0 ≤ at_ qs i := Int.natCast_nonneg _
theorem Q.next (H : Q m qs h t) {i : Nat} (hi : i < qs.length) : (i + 1 < qs.length ∧ (m.nd (at_ qs i)).next = at_ qs (i + 1)) ∨ (i + 1 = qs.length ∧ (m.nd (at_ qs i)).next = -1) := by
  rcases Nat.lt_or_ge (i + 1) qs.length with g | g
  · exact .inl ⟨g, H.ch i g⟩
  · refine .inr ⟨by omega, ?_⟩
    have := H.la
    rwa [show qs.length - 1 = i by omega] at this
/-- Where it does not wait any more. -/
theorem Q.putF (H : Q m qs h t) (hw : w < m.people.length) (r : Int) : Q (m.setp w (fin (m.who w) r)) qs h t :=
  H.put hw rfl rfl rfl rfl (fun e => (by cases e.2)) (fun e => (by cases e.2))
/-- Where it stays in the midst. -/
theorem Q.putA (H : Q m qs h t) (hw : w < m.people.length) (ha : m.act w) (h3 : m.kind w = 3 → (m.who w).item ≠ 3) {q : P} (e1 : q.program = (m.who w).program) (e2 : q.own = (m.who w).own) (hen : m.kind w = 3 → EnqOk qs t q) (hde : m.kind w = 4 → DeqOk qs h t q) : Q (m.setp w q) qs h t := by
  have ek : kindP q = m.kind w := by unfold kindP M.kind; rw [e1]
  refine H.put hw rfl rfl rfl rfl (fun _ hk => ?_) (fun _ hk => hde (ek ▸ hk))
  rw [ek] at hk
  refine ⟨hen hk, fun _ => ?_⟩
  have hf := (H.en w hw ha hk).2 (h3 hk)
  refine ⟨?_, fun v hv hne hav hkv hiv => ?_⟩
  · unfold Free argP at hf ⊢
    rw [e1, e2]; exact hf
  · rw [e2]; exact H.dj w v hw hv (fun e => hne e.symm) ha hav hk hkv (h3 hk) hiv
theorem Q.putR (H : Q m qs h t) (hw : w < m.people.length) (ha : m.act w) (h3 : m.kind w = 3 → (m.who w).item ≠ 3) : Q (m.again w) qs h t := by
  have := H.putA hw ha h3 (q := at1 (m.who w)) rfl rfl (fun _ => .inl rfl) (fun _ => .inl rfl)
  exact ⟨this.ln, this.ht, this.lag, this.hd, this.tl, this.nd, this.lt, this.ch, this.la, this.va, this.en, this.de, this.dj⟩
theorem queue_step (H : Q m qs h t) (hw : w < m.people.length) (ha : m.act w) (hk : (m.kind w = 3 ∧ Num (argP (m.who w))) ∨ m.kind w = 4) : ∃ qs' h' t', N4 m (stepS algo m w) w qs h t qs' h' t' ∧ Q (stepS algo m w) qs' h' t' := by
  have hln := H.ln
  have hht := H.ht
  have hh : h < qs.length := by omega
  unfold stepS
  rw [if_neg (by omega), if_neg (by omega), if_neg (by omega)]
  rcases hk with ⟨hk, hnum⟩ | hk
  · rw [if_pos hk]
    have h4 : ∀ q : P, m.kind w = 4 → q.item = 1 ∨ (q.item = 2 ∧ q.x = at_ qs h ∧ (q.y = -1 → h + 1 = qs.length)) := fun q e => by omega
    have hq4 : ∀ q : P, m.kind w = 4 → DeqOk qs h t q := fun q e => by omega
    obtain ⟨hok, _⟩ := H.en w hw ha hk
    have again : (m.who w).item ≠ 3 → ∃ qs' h' t', N4 m (m.again w) w qs h t qs' h' t' ∧ Q (m.again w) qs' h' t' := fun h3 =>
      ⟨qs, h, t, .quiet t (at1 (m.who w)) rfl ⟨rfl, ha.1, ha.2⟩ (fun _ => ⟨h3, by show (1 : Int) ≠ 3; decide⟩) (h4 _), H.putR hw ha fun _ => h3⟩
    unfold enqS
    rcases hok with h1 | ⟨h1, i, i1, i2, i3, i4⟩ | ⟨h1, i, i1, i2, i3, i4⟩
    · rw [if_pos h1]
      have hne : m.kind w = 3 → (m.who w).item ≠ 3 := fun _ => by omega
      refine ⟨qs, h, t, .quiet t _ rfl ⟨rfl, ha.1, ha.2⟩ (fun _ => ⟨by omega, by show (2 : Int) ≠ 3; decide⟩) (h4 _), H.putA hw ha hne rfl rfl (fun _ => ?_) (hq4 _)⟩
      refine .inr (.inl ⟨rfl, t, Nat.le_refl _, hln, H.tl, ?_⟩)
      show (m.nd m.tail).next = -1 ∨ _
      rw [H.tl]
      rcases H.next hln with ⟨g1, g2⟩ | ⟨g1, g2⟩
      · exact .inr ⟨g1, g2⟩
      · exact .inl g2
    · rw [if_neg (by omega), if_neg (by omega)]
      by_cases e1 : m.tail = (m.who w).x
      · rw [if_neg (fun e => e e1)]
        have hit : t = i := at_inj H.nd hln i2 (by rw [← H.tl, e1]; exact i3)
        subst hit
        by_cases e2 : (m.who w).y < 0
        · rw [if_neg (fun e => e e2)]
          by_cases e3 : (m.nd (m.who w).x).next < 0
          · rw [if_pos e3]
            have hlast : t + 1 = qs.length := by
              rw [i3] at e3
              rcases H.next hln with ⟨g1, g2⟩ | ⟨g1, g2⟩
              · have := at_nn qs (t + 1); omega
              · exact g1
            exact ⟨_, h, t, .link hk h1 rfl, H.link' hw ha hk h1 i3 hlast hnum⟩
          · rw [if_neg e3]
            exact again (by omega)
        · rw [if_pos e2]
          obtain ⟨g1, g2⟩ : t + 1 < qs.length ∧ (m.who w).y = at_ qs (t + 1) := by
            rcases i4 with g | g
            · omega
            · exact g
          have hr := (H.putR hw ha fun _ => (by omega : (m.who w).item ≠ 3)).tail' g1
          refine ⟨qs, h, t + 1, .quiet (t + 1) (at1 (m.who w)) rfl ⟨rfl, ha.1, ha.2⟩ (fun _ => ⟨by omega, by show (1 : Int) ≠ 3; decide⟩) (h4 _), ?_⟩
          rw [g2]; exact hr
      · rw [if_pos e1]
        exact again (by omega)
    · rw [if_neg (by omega), if_pos h1]
      by_cases e1 : m.tail = (m.who w).x
      · rw [if_pos e1]
        have hit : t = i := at_inj H.nd hln (by omega) (by rw [← H.tl, e1]; exact i3)
        subst hit
        refine ⟨qs, h, t + 1, .done (t + 1) hk h1 rfl, ?_⟩
        rw [i4]
        exact (H.putF hw 0).tail' i2
      · rw [if_neg e1]
        exact ⟨qs, h, t, .done t hk h1 rfl, H.putF hw 0⟩
  · rw [if_neg (by omega)]
    have h3 : ∀ q : P, m.kind w = 3 → (m.who w).item ≠ 3 ∧ q.item ≠ 3 := fun q e => by omega
    have hq3 : ∀ q : P, m.kind w = 3 → EnqOk qs t q := fun q e => by omega
    have hne : m.kind w = 3 → (m.who w).item ≠ 3 := fun e => by omega
    have hok := H.de w hw ha hk
    have again : ∃ qs' h' t', N4 m (m.again w) w qs h t qs' h' t' ∧ Q (m.again w) qs' h' t' :=
      ⟨qs, h, t, .quiet t (at1 (m.who w)) rfl ⟨rfl, ha.1, ha.2⟩ (h3 _) (fun _ => .inl rfl), H.putR hw ha hne⟩
    unfold deqS
    rcases hok with h1 | ⟨h1, i, j, i1, i2, i3, i4, i5, i6, i7⟩
    · rw [if_pos h1]
      refine ⟨qs, h, t, .quiet t _ rfl ⟨rfl, ha.1, ha.2⟩ (h3 _) (fun _ => .inr ⟨rfl, H.hd, fun e => ?_⟩), H.putA hw ha hne rfl rfl (hq3 _) fun _ => ?_⟩
      · have e : (m.nd m.head).next = -1 := e
        rw [H.hd] at e
        rcases H.next hh with ⟨g1, g2⟩ | ⟨g1, g2⟩
        · have := at_nn qs (h + 1); omega
        · exact g1
      · refine .inr ⟨rfl, h, t, Nat.le_refl _, hht, Nat.le_refl _, hln, H.hd, H.tl, ?_⟩
        show ((m.nd m.head).next = -1 ∧ _) ∨ (_ ∧ (m.nd m.head).next = _)
        rw [H.hd]
        rcases H.next hh with ⟨g1, g2⟩ | ⟨g1, g2⟩
        · exact .inr ⟨g1, g2⟩
        · exact .inl ⟨g2, by omega⟩
    · rw [if_neg (by omega)]
      by_cases e1 : m.head = (m.who w).x
      · rw [if_neg (fun e => e e1)]
        have hih : h = i := at_inj H.nd hh (by omega) (by rw [← H.hd, e1]; exact i5)
        subst hih
        by_cases e2 : (m.who w).x = (m.who w).z_ ∧ (m.who w).y < 0
        · rw [if_pos e2]
          have hy : (m.who w).y = -1 := by
            rcases i7 with g | ⟨_, g⟩
            · exact g.1
            · have := at_nn qs (h + 1); omega
          exact ⟨qs, h, t, .empty hk h1 i5 hy rfl, H.putF hw (-1)⟩
        · rw [if_neg e2]
          by_cases e3 : (m.who w).x = (m.who w).z_
          · rw [if_pos e3]
            have hj : h = j := at_inj H.nd hh i4 (by rw [← i5, e3]; exact i6)
            subst hj
            obtain ⟨g1, g2⟩ : h + 1 < qs.length ∧ (m.who w).y = at_ qs (h + 1) := by
              rcases i7 with g | g
              · exact (e2 ⟨e3, by omega⟩).elim
              · exact g
            by_cases e4 : m.tail = (m.who w).z_
            · rw [if_pos e4]
              have ht : t = h := at_inj H.nd hln hh (by rw [← H.tl, e4]; exact i6)
              subst ht
              refine ⟨qs, t, t + 1, .quiet (t + 1) (at1 (m.who w)) rfl ⟨rfl, ha.1, ha.2⟩ (h3 _) (fun _ => .inl rfl), ?_⟩
              rw [g2]
              exact (H.putR hw ha hne).tail' g1
            · rw [if_neg e4]
              exact again
          · rw [if_neg e3]
            obtain ⟨g1, g2⟩ : h + 1 < qs.length ∧ (m.who w).y = at_ qs (h + 1) := by
              rcases i7 with g | g
              · exact (e3 (by rw [i5, i6, g.2])).elim
              · exact g
            have hlt : h + 1 ≤ j := by
              rcases Nat.lt_or_ge h j with g | g
              · exact g
              · exact (e3 (by rw [i5, i6, show h = j by omega])).elim
            rw [g2]
            exact ⟨qs, h + 1, t, .take hk h1 g1 rfl, (H.putF hw _).head' (by omega)⟩
      · rw [if_pos e1]
        exact again
theorem Q.D (H : Q m qs h t) (hw : w < m.people.length) (hk : m.act w → m.kind w = 3 ∨ m.kind w = 4) : D m w := by
  intro hp hc hi
  refine ⟨fun h6 => ?_, fun _ _ _ h3 hxz => ?_⟩
  · rcases h6 with h6 | h6
    · have := hk ⟨hp, hc⟩; omega
    · rcases (H.en w hw ⟨hp, hc⟩ h6).1 with g | ⟨_, i, _, _, g, _⟩ | ⟨_, i, _, _, g, _⟩
      · exact (hi g).elim
      · rw [g]; exact at_nn _ _
      · rw [g]; exact at_nn _ _
  · have h4 : m.kind w = 4 := by have := hk ⟨hp, hc⟩; omega
    rcases H.de w hw ⟨hp, hc⟩ h4 with g | ⟨_, i, j, _, _, _, _, g1, g2, g3⟩
    · exact (hi g).elim
    · rcases g3 with g3 | g3
      · exact (hxz (by rw [g1, g2, g3.2])).elim
      · rw [g3.2]; exact at_nn _ _
theorem Q.beg (H : Q m qs h t) (hw : w < m.people.length) {np k : Nat} (hB : B np k m) : Q (begS m w) qs h t := by
  have hpl := hB.pl
  have hp : (begS m w).people = m.people.set w (Sp.beg (m.who w) m.nodes.length) := rfl
  have hwho := who_of (m := m) (m' := begS m w) hw hp
  have hl : (begS m w).people.length = m.people.length := by rw [hp, List.length_set]
  have hnd : ∀ k : Int, k.toNat < m.nodes.length → (begS m w).nd k = m.nd k := fun k hk => by
    unfold M.nd begS
    simp only [List.getD_eq_getElem?_getD]
    rw [List.getElem?_append_left hk]
  have hnew : (begS m w).nd (m.nodes.length : Int) = ⟨((m.who w).program.getD 0 Ask.z).arg, -1⟩ := by
    unfold M.nd begS
    simp only
    rw [List.getD_eq_getElem?_getD]
    simp
  have hat : ∀ i, i < qs.length → (at_ qs i).toNat < m.nodes.length := fun i hi => H.lt _ (at_mem hi)
  have hln := H.ln
  have hnl : (begS m w).nodes.length = m.nodes.length + 1 := by simp [begS]
  have hfree : ∀ p, Free m qs p → Free (begS m w) qs p := fun p hf => by
    obtain ⟨a1, a2, a3, a4, a5⟩ := hf
    exact ⟨a1, by omega, a3, by rw [hnd _ a2]; exact a4, by rw [hnd _ a2]; exact a5⟩
  have hown : ∀ v, v < m.people.length → (m.who v).own < m.nodes.length := fun v hv => (hB.pb (by omega : v < np)).own.2
  refine ⟨H.ln, H.ht, H.lag, H.hd, H.tl, H.nd, fun i hi => by have := H.lt i hi; omega, fun i hi => by rw [hnd _ (hat i (by omega))]; exact H.ch i hi, by rw [hnd _ (hat _ (by omega))]; exact H.la, fun i h1 h2 => by rw [hnd _ (hat i h2)]; exact H.va i h1 h2, fun v hv ha hk => ?_, fun v hv ha hk => ?_, fun u v hu hv huv ha1 ha2 hk1 hk2 hi1 hi2 => ?_⟩
  · rw [hl] at hv
    rw [M.act, hwho] at ha
    rw [kind_who, hwho] at hk
    rw [hwho]
    by_cases e : v = w
    · subst e
      rw [if_pos rfl] at ha hk ⊢
      refine ⟨.inl rfl, fun _ => ⟨Int.natCast_nonneg _, ?_, ?_, ?_, ?_⟩⟩
      · show ((m.nodes.length : Int)).toNat < _; omega
      · intro hm
        have := H.lt _ hm
        have e2 : (Sp.beg (m.who v) m.nodes.length).own = (m.nodes.length : Int) := rfl
        rw [e2] at this
        omega
      · show ((begS m v).nd (m.nodes.length : Int)).next = -1
        rw [hnew]
      · show ((begS m v).nd (m.nodes.length : Int)).value = _
        rw [hnew]; rfl
    · rw [if_neg e] at ha hk ⊢
      have := H.en v hv ha hk
      exact ⟨this.1, fun hi => hfree _ (this.2 hi)⟩
  · rw [hl] at hv
    rw [M.act, hwho] at ha
    rw [kind_who, hwho] at hk
    rw [hwho]
    by_cases e : v = w
    · subst e
      rw [if_pos rfl]
      exact .inl rfl
    · rw [if_neg e] at ha hk ⊢
      exact H.de v hv ha hk
  · rw [hl] at hu hv
    rw [M.act, hwho] at ha1 ha2
    rw [kind_who, hwho] at hk1 hk2
    rw [hwho] at hi1 hi2
    rw [hwho, hwho]
    by_cases e : u = w
    · subst e
      rw [if_pos rfl, if_neg (fun e => huv e.symm)]
      have := hown v hv
      show (m.nodes.length : Int) ≠ _
      omega
    · rw [if_neg e] at ha1 hk1 hi1 ⊢
      by_cases e2 : v = w
      · subst e2
        rw [if_pos rfl]
        have := hown u hu
        show _ ≠ (m.nodes.length : Int)
        omega
      · rw [if_neg e2] at ha2 hk2 hi2 ⊢
        exact H.dj u v hu hv huv ha1 ha2 hk1 hk2 hi1 hi2
theorem Q.ans (H : Q m qs h t) (hw : w < m.people.length) : Q (ansS m w) qs h t :=
  H.put hw rfl rfl rfl rfl (fun e => (by cases e.1)) (fun e => (by cases e.1))
end
end Sp

end Go.Proofs.Ytkmmagekepoapaa
