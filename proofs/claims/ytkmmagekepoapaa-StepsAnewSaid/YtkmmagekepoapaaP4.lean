/- The queue: how its nodes lie. -/
import Derived.Test.YtkmmagekepoapaaP3
set_option linter.unusedVariables false
set_option linter.unusedSimpArgs false
set_option linter.unusedSectionVars false
set_option maxRecDepth 100000
namespace Go.Proofs.Ytkmmagekepoapaa
open Go.RowKit
namespace Sp
open Ob
def ActP (q : P) : Prop := q.pending = true ∧ q.complete = false
def kindP (q : P) : Int := (q.program.getD 0 Ask.z).kind
def argP (q : P) : Int := (q.program.getD 0 Ask.z).arg
abbrev M.act (m : M) (w : Nat) : Prop := ActP (m.who w)
abbrev at_ (qs : List Nat) (i : Nat) : Int := ((qs.getD i 0 : Nat) : Int)
def EnqOk (qs : List Nat) (t : Nat) (p : P) : Prop :=
  p.item = 1 ∨ (p.item = 2 ∧ ∃ i, i ≤ t ∧ i < qs.length ∧ p.x = at_ qs i ∧ (p.y = -1 ∨ (i + 1 < qs.length ∧ p.y = at_ qs (i + 1)))) ∨ (p.item = 3 ∧ ∃ i, i ≤ t ∧ i + 1 < qs.length ∧ p.x = at_ qs i ∧ p.own = at_ qs (i + 1))
def DeqOk (qs : List Nat) (h t : Nat) (p : P) : Prop :=
  p.item = 1 ∨ (p.item = 2 ∧ ∃ i j, i ≤ h ∧ i ≤ j ∧ j ≤ t ∧ j < qs.length ∧ p.x = at_ qs i ∧ p.z_ = at_ qs j ∧ ((p.y = -1 ∧ i = j) ∨ (i + 1 < qs.length ∧ p.y = at_ qs (i + 1))))
/-- A node that is not linked yet. -/
def Free (m : M) (qs : List Nat) (p : P) : Prop := 0 ≤ p.own ∧ p.own.toNat < m.nodes.length ∧ p.own.toNat ∉ qs ∧ (m.nd p.own).next = -1 ∧ (m.nd p.own).value = argP p
structure Q (m : M) (qs : List Nat) (h t : Nat) : Prop where
  ln : t < qs.length
  ht : h ≤ t
  lag : qs.length ≤ t + 2
  hd : m.head = at_ qs h
  tl : m.tail = at_ qs t
  nd : qs.Nodup
  lt : ∀ i ∈ qs, i < m.nodes.length
  ch : ∀ i, i + 1 < qs.length → (m.nd (at_ qs i)).next = at_ qs (i + 1)
  la : (m.nd (at_ qs (qs.length - 1))).next = -1
  va : ∀ i, 1 ≤ i → i < qs.length → Num (m.nd (at_ qs i)).value
  en : ∀ w, w < m.people.length → m.act w → m.kind w = 3 → EnqOk qs t (m.who w) ∧ ((m.who w).item ≠ 3 → Free m qs (m.who w))
  de : ∀ w, w < m.people.length → m.act w → m.kind w = 4 → DeqOk qs h t (m.who w)
  dj : ∀ w v, w < m.people.length → v < m.people.length → w ≠ v → m.act w → m.act v → m.kind w = 3 → m.kind v = 3 → (m.who w).item ≠ 3 → (m.who v).item ≠ 3 → (m.who w).own ≠ (m.who v).own
theorem at_app {qs : List Nat} {x i : Nat} (h : i < qs.length) : at_ (qs ++ [x]) i = at_ qs i := by
  unfold at_
  rw [List.getD_eq_getElem?_getD, List.getD_eq_getElem?_getD, List.getElem?_append_left h]
theorem at_last {qs : List Nat} {x : Nat} : at_ (qs ++ [x]) qs.length = (x : Int) := by
  unfold at_
  rw [List.getD_eq_getElem?_getD]
  simp
theorem at_mem {qs : List Nat} {i : Nat} (h : i < qs.length) : (at_ qs i).toNat ∈ qs := by
  unfold at_
  rw [Int.toNat_natCast, getD_of h]; exact List.getElem_mem h
theorem at_inj {qs : List Nat} (hn : qs.Nodup) {i j : Nat} (hi : i < qs.length) (hj : j < qs.length) (h : at_ qs i = at_ qs j) : i = j := by
  unfold at_ at h
  rw [getD_of hi, getD_of hj] at h
  exact (List.getElem_inj hn).1 (by omega)
theorem EnqOk.mono {qs : List Nat} {t t' : Nat} {p : P} (h : EnqOk qs t p) (ht : t ≤ t') : EnqOk qs t' p := by
  rcases h with h | ⟨h, i, h1, h2⟩ | ⟨h, i, h1, h2⟩
  · exact .inl h
  · exact .inr (.inl ⟨h, i, by omega, h2⟩)
  · exact .inr (.inr ⟨h, i, by omega, h2⟩)
theorem DeqOk.mono {qs : List Nat} {h h' t t' : Nat} {p : P} (H : DeqOk qs h t p) (hh : h ≤ h') (ht : t ≤ t') : DeqOk qs h' t' p := by
  rcases H with H | ⟨H, i, j, h1, h2, h3, h4⟩
  · exact .inl H
  · exact .inr ⟨H, i, j, by omega, h2, by omega, h4⟩
theorem EnqOk.more {qs : List Nat} {t x : Nat} {p : P} (h : EnqOk qs t p) : EnqOk (qs ++ [x]) t p := by
  rcases h with h | ⟨h, i, h1, h2, h3, h4⟩ | ⟨h, i, h1, h2, h3, h4⟩
  · exact .inl h
  · refine .inr (.inl ⟨h, i, h1, by simp; omega, by rw [at_app h2]; exact h3, ?_⟩)
    rcases h4 with h4 | ⟨h4, h5⟩
    · exact .inl h4
    · exact .inr ⟨by simp; omega, by rw [at_app h4]; exact h5⟩
  · exact .inr (.inr ⟨h, i, h1, by simp; omega, by rw [at_app (by omega)]; exact h3, by rw [at_app h2]; exact h4⟩)
theorem DeqOk.more {qs : List Nat} {h t x : Nat} {p : P} (H : DeqOk qs h t p) : DeqOk (qs ++ [x]) h t p := by
  rcases H with H | ⟨H, i, j, h1, h2, h3, h4, h5, h6, h7⟩
  · exact .inl H
  · refine .inr ⟨H, i, j, h1, h2, h3, by simp; omega, by rw [at_app (by omega)]; exact h5, by rw [at_app h4]; exact h6, ?_⟩
    rcases h7 with h7 | ⟨h7, h8⟩
    · exact .inl h7
    · exact .inr ⟨by simp; omega, by rw [at_app h7]; exact h8⟩
section
variable {algo : Int} {m m' : M} {qs : List Nat} {h t w : Nat}
theorem who_of {q : P} (hw : w < m.people.length) (hp : m'.people = m.people.set w q) (v : Nat) : m'.who v = if v = w then q else m.who v := by
  show m'.people.getD v _ = _
  rw [hp]; exact who_set hw
theorem kind_who (m : M) (w : Nat) : m.kind w = kindP (m.who w) := rfl
/-- One turns, the rest stays. -/
theorem Q.put (H : Q m qs h t) (hw : w < m.people.length) {q : P} (hn : m'.nodes = m.nodes) (hh : m'.head = m.head) (htl : m'.tail = m.tail) (hp : m'.people = m.people.set w q)
    (hen : ActP q → kindP q = 3 → EnqOk qs t q ∧ (q.item ≠ 3 → Free m qs q ∧ ∀ v, v < m.people.length → v ≠ w → m.act v → m.kind v = 3 → (m.who v).item ≠ 3 → q.own ≠ (m.who v).own)) (hde : ActP q → kindP q = 4 → DeqOk qs h t q) : Q m' qs h t := by
  have hnd : ∀ k, m'.nd k = m.nd k := fun k => by unfold M.nd; rw [hn]
  have hwho := who_of (m := m) (m' := m') hw hp
  have hl : m'.people.length = m.people.length := by rw [hp, List.length_set]
  have hfree : ∀ p, Free m qs p → Free m' qs p := fun p hf => by unfold Free at hf ⊢; rw [hn, hnd]; exact hf
  refine ⟨H.ln, H.ht, H.lag, by rw [hh]; exact H.hd, by rw [htl]; exact H.tl, H.nd, by rw [hn]; exact H.lt, fun i hi => by rw [hnd]; exact H.ch i hi, by rw [hnd]; exact H.la, fun i h1 h2 => by rw [hnd]; exact H.va i h1 h2, fun v hv ha hk => ?_, fun v hv ha hk => ?_, fun u v hu hv huv ha1 ha2 hk1 hk2 hi1 hi2 => ?_⟩
  · rw [hl] at hv
    rw [M.act, hwho] at ha
    rw [kind_who, hwho] at hk
    rw [hwho]
    by_cases e : v = w
    · subst e
      rw [if_pos rfl] at ha hk ⊢
      have := hen ha hk
      exact ⟨this.1, fun hi => hfree _ (this.2 hi).1⟩
    · rw [if_neg e] at ha hk ⊢
      have := H.en v hv ha hk
      exact ⟨this.1, fun hi => hfree _ (this.2 hi)⟩
  · rw [hl] at hv
    rw [M.act, hwho] at ha
    rw [kind_who, hwho] at hk
    rw [hwho]
    by_cases e : v = w
    · subst e
      rw [if_pos rfl] at ha hk ⊢
      exact hde ha hk
    · rw [if_neg e] at ha hk ⊢
      exact H.de v hv ha hk
  · rw [hl] at hu hv
    rw [M.act, hwho] at ha1 ha2
    rw [kind_who, hwho] at hk1 hk2
    rw [hwho] at hi1 hi2
    rw [hwho, hwho]
    by_cases e : u = w
    · subst e
      rw [if_pos rfl] at ha1 hk1 hi1 ⊢
      rw [if_neg (fun e => huv e.symm)] at ha2 hk2 hi2 ⊢
      exact ((hen ha1 hk1).2 hi1).2 v hv (fun e => huv e.symm) ha2 hk2 hi2
    · rw [if_neg e] at ha1 hk1 hi1 ⊢
      by_cases e2 : v = w
      · subst e2
        rw [if_pos rfl] at ha2 hk2 hi2 ⊢
        exact fun e3 => ((hen ha2 hk2).2 hi2).2 u hu e ha1 hk1 hi1 e3.symm
      · rw [if_neg e2] at ha2 hk2 hi2 ⊢
        exact H.dj u v hu hv huv ha1 ha2 hk1 hk2 hi1 hi2
theorem Q.head' (H : Q m qs h t) (h1 : h + 1 ≤ t) : Q (m.setHead (at_ qs (h + 1))) qs (h + 1) t :=
  ⟨H.ln, h1, H.lag, rfl, H.tl, H.nd, H.lt, H.ch, H.la, H.va, H.en, fun v hv ha hk => (H.de v hv ha hk).mono (Nat.le_succ h) (Nat.le_refl _), H.dj⟩
theorem Q.tail' (H : Q m qs h t) (h1 : t + 1 < qs.length) : Q (m.setTail (at_ qs (t + 1))) qs h (t + 1) :=
  ⟨h1, Nat.le_succ_of_le H.ht, by have := H.lag; omega, H.hd, rfl, H.nd, H.lt, H.ch, H.la, H.va, fun v hv ha hk => ⟨(H.en v hv ha hk).1.mono (Nat.le_succ t), (H.en v hv ha hk).2⟩, fun v hv ha hk => (H.de v hv ha hk).mono (Nat.le_refl _) (Nat.le_succ t), H.dj⟩
theorem nd_link {z nx : Int} {k : Int} (hk : 0 ≤ k) (hz : 0 ≤ z) (hzl : z.toNat < m.nodes.length) : ((m.link z nx).nd k) = if k = z then ⟨(m.nd z).value, nx⟩ else m.nd k := by
  unfold M.nd M.link
  simp only [List.getD_eq_getElem?_getD]
  by_cases e : k = z
  · subst e; rw [if_pos rfl]; simp [hzl, M.nd]
  · rw [if_neg e, List.getElem?_set_ne (by omega)]
/-- One is linked. -/
theorem Q.link' (H : Q m qs h t) (hw : w < m.people.length) (ha : m.act w) (hk : m.kind w = 3) (hi : (m.who w).item = 2) (hx : (m.who w).x = at_ qs t) (hl : t + 1 = qs.length) (hnum : Num (argP (m.who w))) :
    Q ((m.setp w (at3 (m.who w))).link (m.who w).x (m.who w).own) (qs ++ [(m.who w).own.toNat]) h t := by
  obtain ⟨_, hfr⟩ := H.en w hw ha hk
  obtain ⟨f1, f2, f3, f4, f5⟩ := hfr (by omega)
  have hxm : (m.who w).x.toNat ∈ qs := by rw [hx]; exact at_mem H.ln
  have hxl := H.lt _ hxm
  have hx0 : 0 ≤ (m.who w).x := by rw [hx]; exact Int.natCast_nonneg _
  generalize hm' : (m.setp w (at3 (m.who w))).link (m.who w).x (m.who w).own = m'
  have hnd : ∀ k, 0 ≤ k → m'.nd k = if k = (m.who w).x then ⟨(m.nd (m.who w).x).value, (m.who w).own⟩ else m.nd k := fun k hk => by rw [← hm']; exact nd_link (m := m.setp w (at3 (m.who w))) hk hx0 hxl
  have hp : m'.people = m.people.set w (at3 (m.who w)) := by rw [← hm']; rfl
  have hnl : m'.nodes.length = m.nodes.length := by rw [← hm']; simp [M.link, M.setp]
  have hwho := who_of (m := m) (m' := m') hw hp
  have hpl : m'.people.length = m.people.length := by rw [hp, List.length_set]
  have hxv : ∀ k, 0 ≤ k → (m'.nd k).value = (m.nd k).value := fun k hk => by
    rw [hnd k hk]; split
    · rename_i e; rw [e]
    · rfl
  have h0 : ∀ i, (0 : Int) ≤ at_ qs i := fun i => Int.natCast_nonneg _
  have hno : ∀ i, i < qs.length → (m.who w).own ≠ at_ qs i := fun i hi e => f3 (by rw [e]; exact at_mem hi)
  refine ⟨by simp; omega, H.ht, by simp; omega, ?_, ?_, ?_, ?_, ?_, ?_, ?_, ?_, ?_, ?_⟩
  · rw [at_app (by have := H.ht; have := H.ln; omega), ← H.hd, ← hm']; rfl
  · rw [at_app H.ln, ← H.tl, ← hm']; rfl
  · rw [List.nodup_append]
    refine ⟨H.nd, by simp, fun a ha b hb e => ?_⟩
    rw [List.mem_singleton.1 hb] at e
    exact f3 (e ▸ ha)
  · intro i hi
    rw [hnl]
    rcases List.mem_append.1 hi with hi | hi
    · exact H.lt i hi
    · rw [List.mem_singleton.1 hi]; exact f2
  · intro i hi
    simp only [List.length_append, List.length_singleton] at hi
    rw [at_app (by omega), hnd _ (h0 i)]
    by_cases e : i = t
    · subst e
      rw [if_pos hx.symm, hl, at_last]
      show (m.who w).own = _
      omega
    · rw [if_neg (fun e2 => e (at_inj H.nd (by omega) H.ln (e2.trans hx))), at_app (by omega)]
      exact H.ch i (by omega)
  · have : (qs ++ [(m.who w).own.toNat]).length - 1 = qs.length := by simp
    rw [this, at_last, show (((m.who w).own.toNat : Nat) : Int) = (m.who w).own by omega, hnd _ f1, if_neg (fun e => hno t H.ln (e.trans hx))]
    exact f4
  · intro i h1 h2
    simp only [List.length_append, List.length_singleton] at h2
    rcases Nat.lt_or_ge i qs.length with g | g
    · rw [at_app g, hxv _ (h0 i)]; exact H.va i h1 g
    · obtain rfl : i = qs.length := by omega
      rw [at_last, show (((m.who w).own.toNat : Nat) : Int) = (m.who w).own by omega, hxv _ f1, f5]
      exact hnum
  · intro v hv ha2 hk2
    rw [hpl] at hv
    rw [M.act, hwho] at ha2
    rw [kind_who, hwho] at hk2
    rw [hwho]
    by_cases e : v = w
    · subst e
      rw [if_pos rfl]
      refine ⟨.inr (.inr ⟨rfl, t, Nat.le_refl _, by simp; omega, by rw [at_app H.ln]; exact hx, ?_⟩), fun hi => (hi rfl).elim⟩
      rw [hl, at_last]
      show (m.who v).own = _
      omega
    · rw [if_neg e] at ha2 hk2 ⊢
      obtain ⟨g1, g2⟩ := H.en v hv ha2 hk2
      refine ⟨g1.more, fun hi2 => ?_⟩
      obtain ⟨a1, a2, a3, a4, a5⟩ := g2 hi2
      have hne := H.dj v w hv hw e ha2 ha hk2 hk hi2 (by omega)
      refine ⟨a1, by rw [hnl]; exact a2, ?_, ?_, by rw [hxv _ a1]; exact a5⟩
      · intro hm
        rcases List.mem_append.1 hm with hm | hm
        · exact a3 hm
        · have := List.mem_singleton.1 hm
          omega
      · rw [hnd _ a1, if_neg]
        · exact a4
        · intro e3
          exact a3 (by rw [e3, hx]; exact at_mem H.ln)
  · intro v hv ha2 hk2
    rw [hpl] at hv
    rw [M.act, hwho] at ha2
    rw [kind_who, hwho] at hk2
    rw [hwho]
    by_cases e : v = w
    · subst e
      rw [if_pos rfl] at hk2
      have : kindP (at3 (m.who v)) = m.kind v := rfl
      rw [this, hk] at hk2; omega
    · rw [if_neg e] at ha2 hk2 ⊢
      exact (H.de v hv ha2 hk2).more
  · intro u v hu hv huv ha1 ha2 hk1 hk2 hi1 hi2
    rw [hpl] at hu hv
    rw [M.act, hwho] at ha1 ha2
    rw [kind_who, hwho] at hk1 hk2
    rw [hwho] at hi1 hi2
    rw [hwho, hwho]
    by_cases e : u = w
    · subst e
      rw [if_pos rfl] at hi1
      exact (hi1 rfl).elim
    · rw [if_neg e] at ha1 hk1 hi1 ⊢
      by_cases e2 : v = w
      · subst e2
        rw [if_pos rfl] at hi2
        exact (hi2 rfl).elim
      · rw [if_neg e2] at ha2 hk2 hi2 ⊢
        exact H.dj u v hu hv huv ha1 ha2 hk1 hk2 hi1 hi2
end
end Sp

end Go.Proofs.Ytkmmagekepoapaa
