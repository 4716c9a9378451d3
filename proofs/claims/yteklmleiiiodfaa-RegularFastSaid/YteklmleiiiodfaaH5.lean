/- Sites, plainly: what holds behind each act. -/
import Derived.Test.YteklmleiiiodfaaH4
set_option linter.unusedVariables false
set_option linter.unusedSimpArgs false
set_option linter.unusedSectionVars false
set_option maxRecDepth 100000
namespace Go.Proofs.Yteklmleiiiodfaa
open Go.RowKit
namespace Si
open Hs
theorem sum_set {α : Type} {f : α → Nat} : ∀ {l : List α} {i : Nat} {a d : α}, i < l.length → ((l.set i a).map f).sum + f (l.getD i d) = (l.map f).sum + f a
  | [], _, _, _, h => absurd h (Nat.not_lt_zero _)
  | x :: l, 0, a, d, _ => by simp only [List.set_cons_zero, List.map_cons, List.sum_cons, List.getD_cons_zero]; omega
  | x :: l, i + 1, a, d, h => by
    have := sum_set (f := f) (l := l) (i := i) (a := a) (d := d) (by simpa using h)
    simp only [List.set_cons_succ, List.map_cons, List.sum_cons, List.getD_cons_succ]
    omega
/-- How much one will ask, and how many letters that can be. -/
def rem (p : SitesProcess) : Nat := p.program.length - (if p.pending then 1 else 0)
def cost (n : Nat) (p : SitesProcess) : Nat := 2 * (n * rem p) + (if p.pending && !p.store then n else 0)
def rems (m : M) : Nat := (m.people.map rem).sum
def pot (n : Nat) (m : M) : Nat := m.letters.length + (m.people.map (cost n)).sum
theorem res1 (N : Nat) : history_result N 1 0 = some true := by unfold history_result; simp [bd]
theorem res2 (N : Nat) {v : Int} (h0 : 0 ≤ v) (h1 : v ≤ 1000) : history_result N 2 v = some true := by unfold history_result; simp [bd, h0, h1]
section
variable {N : Nat} {fast : Bool} {np n : Nat} {m : M} {g : Gh}
theorem good_val (z : Z N fast np n m g) {t : SitesTag} {v : Int} (h : Good g t v) : 0 ≤ v ∧ v ≤ 1000 := by
  rcases h with ⟨_, rfl⟩ | ⟨i, h1, _, h3, _, h5⟩
  · exact ⟨by decide, by decide⟩
  · have := (Sr.rn_arg z.run i h1).1
    have h3 : (g.c.getD i Call.z).kind = 1 := h3
    rw [h3] at this
    have := Sr.arg_pos this
    have h5 : (g.c.getD i Call.z).arg = v := h5
    omega
theorem Un.weak {e : Nat} (u : Un np m g np) : Un np m g e := fun w hw _ => u w hw (by omega)
/-- Behind a question, or behind a store. -/
theorem next_z (z : Z N fast np n m g) (u : Un np m g np) {w : Nat} (hw : w < np) (hp : (m.who w).pending = true) (hm : (n : Int) < 2 * (m.who w).replies) :
    ∃ g', Z N fast np n (next fast m w) g' ∧ Un np (next fast m w) g' np ∧ rems (next fast m w) + g'.c.length = rems m + g.c.length ∧ pot n (next fast m w) ≤ pot n m ∧ (∀ v, v ≠ w → (next fast m w).who v = m.who v) ∧ ((next fast m w).who w).replies ≤ (m.who w).replies ∧ (((next fast m w).who w).pending = true → ((next fast m w).who w).replies = 0) ∧ (next fast m w).sites = m.sites := by
  obtain ⟨i, P⟩ := z.pend w hw hp
  obtain ⟨a, rest, hpr, hk, harg⟩ := P.cal.2.2
  have hask := z.ask w hw a (by rw [hpr]; exact .head _)
  have hpl := z.pl
  have hwl : w < m.people.length := by omega
  have hwp : m.people.getD w SitesProcess.z = m.who w := rfl
  have n1 := z.n1
  have most : Most n fun s => (m.let_ (g.B w + s)).received := by
    have := P.rep
    unfold Most; omega
  have rr : ∀ res, rems (respond m w res) = rems m ∧ pot n (respond m w res) ≤ pot n m := by
    intro res
    have e1 : rem (doneP (m.who w)) = rem (m.who w) := by unfold rem doneP; rw [hpr, hp]; simp
    have e2 : cost n (doneP (m.who w)) ≤ cost n (m.who w) := by
      unfold cost; rw [e1]
      have : (doneP (m.who w)).pending = false := rfl
      rw [this]; simp
    have s1 := sum_set (f := rem) (l := m.people) (i := w) (a := doneP (m.who w)) (d := SitesProcess.z) hwl
    have s2 := sum_set (f := cost n) (l := m.people) (i := w) (a := doneP (m.who w)) (d := SitesProcess.z) hwl
    rw [hwp] at s1 s2
    refine ⟨?_, ?_⟩
    · show ((m.people.set w (doneP (m.who w))).map rem).sum = (m.people.map rem).sum
      omega
    · show m.letters.length + ((m.people.set w (doneP (m.who w))).map (cost n)).sum ≤ m.letters.length + (m.people.map (cost n)).sum
      omega
  have rw1 : ∀ res, (∀ v, v ≠ w → (respond m w res).who v = m.who v) ∧ ((respond m w res).who w) = doneP (m.who w) := fun res => by
    have e : ∀ v, (respond m w res).who v = if v = w then doneP (m.who w) else m.who v := fun v => who_set hwl
    exact ⟨fun v hv => by rw [e, if_neg hv], by rw [e, if_pos rfl]⟩
  have mk1 : ∀ {g1 : Gh} {res : Int}, g1.c = g.c → (∃ g', Z N fast np n (respond m w res) g' ∧ Un np (respond m w res) g' np ∧ g'.c.length = g1.c.length) →
      ∃ g', Z N fast np n (respond m w res) g' ∧ Un np (respond m w res) g' np ∧ rems (respond m w res) + g'.c.length = rems m + g.c.length ∧ pot n (respond m w res) ≤ pot n m ∧ (∀ v, v ≠ w → (respond m w res).who v = m.who v) ∧ ((respond m w res).who w).replies ≤ (m.who w).replies ∧ (((respond m w res).who w).pending = true → ((respond m w res).who w).replies = 0) ∧ (respond m w res).sites = m.sites := by
    rintro g1 res e ⟨g', z', u', hc⟩
    obtain ⟨r1, r2⟩ := rr res
    obtain ⟨w1, w2⟩ := rw1 res
    exact ⟨g', z', u', by rw [hc, e, r1], r2, w1, by rw [w2]; exact Int.le_refl _, fun h => (by rw [w2] at h; cases h), rfl⟩
  have st : ∀ t v, rems (start m w true t v) = rems m ∧ ((m.who w).store = false → pot n (start m w true t v) ≤ pot n m) := by
    intro t v
    have e1 : rem (startP (m.who w) true t v) = rem (m.who w) := rfl
    have s1 := sum_set (f := rem) (l := m.people) (i := w) (a := startP (m.who w) true t v) (d := SitesProcess.z) hwl
    have s2 := sum_set (f := cost n) (l := m.people) (i := w) (a := startP (m.who w) true t v) (d := SitesProcess.z) hwl
    rw [hwp] at s1 s2
    refine ⟨?_, fun hs => ?_⟩
    · show ((m.people.set w (startP (m.who w) true t v)).map rem).sum = (m.people.map rem).sum
      omega
    · have e2 : cost n (startP (m.who w) true t v) + n = cost n (m.who w) := by
        unfold cost; rw [e1, hp, hs]
        have : (startP (m.who w) true t v).store = true := rfl
        rw [this]; simp
      show (m.letters ++ batch m.sites.length w ((m.who w).round + 1) true t v).length + ((m.people.set w (startP (m.who w) true t v)).map (cost n)).sum ≤ m.letters.length + (m.people.map (cost n)).sum
      rw [List.length_append, batch_len, z.sl]
      omega
  have sw1 : ∀ t v, (∀ x, x ≠ w → (start m w true t v).who x = m.who x) ∧ ((start m w true t v).who w).replies = 0 := fun t v => by
    have e : ∀ x, (start m w true t v).who x = if x = w then startP (m.who w) true t v else m.who x := fun x => who_set hwl
    exact ⟨fun x hv => by rw [e, if_neg hv], by rw [e, if_pos rfl]; rfl⟩
  have mk2 : ∀ {g1 : Gh} {t : SitesTag} {v : Int}, g1.c = g.c → (m.who w).store = false → (∃ g', Z N fast np n (start m w true t v) g' ∧ Un np (start m w true t v) g' np ∧ g'.c = g1.c) →
      ∃ g', Z N fast np n (start m w true t v) g' ∧ Un np (start m w true t v) g' np ∧ rems (start m w true t v) + g'.c.length = rems m + g.c.length ∧ pot n (start m w true t v) ≤ pot n m ∧ (∀ x, x ≠ w → (start m w true t v).who x = m.who x) ∧ ((start m w true t v).who w).replies ≤ (m.who w).replies ∧ (((start m w true t v).who w).pending = true → ((start m w true t v).who w).replies = 0) ∧ (start m w true t v).sites = m.sites := by
    rintro g1 t v e hs ⟨g', z', u', hc⟩
    obtain ⟨r1, r2⟩ := st t v
    obtain ⟨w1, w2⟩ := sw1 t v
    exact ⟨g', z', u', by rw [hc, e, r1], r2 hs, w1, by rw [w2]; omega, fun _ => w2, rfl⟩
  unfold Si.next
  rw [hpr]
  simp only
  have hkk : a.kind = 1 ∨ a.kind = 2 := by rcases hask with h | h <;> omega
  have stw : (m.who w).store = true → Most n fun s => decide (¬ tlt (stg (m.site s)) (g.tag i)) := fun hs => by
    have Q := P.sto hs
    refine most.mono fun s hs2 hr => decide_eq_true ?_
    have hr : (m.let_ (g.B w + s)).received = true := hr
    obtain ⟨b1, b2, b3, b4⟩ := P.bat.2 s hs2
    have hb := P.bat.1
    have := z.ls (g.B w + s) (by omega) (by rw [b4]; exact hs) (z.rd _ (by omega) hr)
    rw [b3, Int.toNat_natCast, Q.lets s hs2] at this
    rw [Q.tag.2]; exact this
  by_cases hs : (m.who w).store = true
  · have Q := P.sto hs
    by_cases ha : a.kind = 1
    · rw [if_pos ⟨hs, ha⟩]
      exact mk1 rfl (z_resp z hw P u.weak Q.tag.1 (res := 0) (by rw [hk, ha]; exact res1 N) (fun _ => stw hs) (fun _ => rfl) (fun h => (h (hk.trans ha)).elim))
    · rw [if_neg (fun e => ha e.2), if_pos (.inl hs)]
      have hv := good_val z Q.good
      refine mk1 rfl (z_resp z hw P u.weak Q.tag.1 (res := (m.who w).value) (by rw [hk, hkk.resolve_left ha]; exact res2 N hv.1 hv.2) (fun _ => stw hs) (fun h => (ha (hk.symm.trans h)).elim) (fun _ => ?_))
      rw [Q.tag.2]; exact Q.good
  · have hs : (m.who w).store = false := by simpa using hs
    obtain ⟨g1, z1, u1, P1, t1, c1, b1, hh⟩ := z_tag z u hw P hs hm
    have hcal : g1.call i = g.call i := by unfold Gh.call; rw [c1]
    rw [if_neg (by rw [hs]; rintro ⟨e, _⟩; cases e)]
    by_cases ha : a.kind = 1
    · rw [if_neg (by rw [hs]; rintro (e | ⟨e, _⟩); cases e; exact e ha), if_pos ha]
      rcases hh with ⟨_, h2, h3⟩ | ⟨h2, _⟩
      · rw [harg] at h3
        exact mk2 c1 hs (z_start z1 hw P1 u1 hs t1 h2 h3)
      · exact (h2 (hk.trans ha)).elim
    · rcases hh with ⟨h2, _⟩ | ⟨_, h2, h3⟩
      · exact (ha (hk.symm.trans h2)).elim
      · cases hf : fast with
        | true =>
          subst hf
          rw [if_pos (.inr ⟨ha, rfl⟩)]
          have hv := good_val z1 h3
          refine mk1 c1 (z_resp z1 hw P1 u1 t1 (res := (m.who w).value) (by rw [hcal, hk, hkk.resolve_left ha]; exact res2 N hv.1 hv.2) (fun h => ?_) (fun h => ?_) (fun _ => by rw [h2]; exact h3))
          · rcases h with h | h
            · cases h
            · rw [hcal, hk] at h; exact (ha h).elim
          · rw [hcal, hk] at h; exact (ha h).elim
        | false =>
          subst hf
          rw [if_neg (by rw [hs]; rintro (e | ⟨_, e⟩) <;> cases e), if_neg ha]
          exact mk2 c1 hs (z_start z1 hw P1 u1 hs t1 h2 h3)
/-- Between acts: nobody has more than half. -/
def Calm (np n : Nat) (m : M) : Prop := ∀ w, w < np → (m.who w).pending = true → 2 * (m.who w).replies ≤ n
/-- All that holds between acts. -/
structure ZZ (N : Nat) (fast : Bool) (np n : Nat) (m : M) (g : Gh) : Prop where
  z : Z N fast np n m g
  u : Un np m g np
  calm : Calm np n m
theorem same_sums {m m' : M} (h : ∀ w, (m'.who w).program = (m.who w).program ∧ (m'.who w).pending = (m.who w).pending ∧ (m'.who w).store = (m.who w).store) (hl : m'.people.length = m.people.length) : rems m' = rems m ∧ (m'.people.map (cost n)).sum = (m.people.map (cost n)).sum := by
  have key : ∀ f : SitesProcess → Nat, (∀ w, f (m'.who w) = f (m.who w)) → m'.people.map f = m.people.map f := by
    intro f hf
    apply List.ext_getElem (by simpa using hl)
    intro i h1 h2
    rw [List.length_map] at h1 h2
    have := hf i
    unfold M.who at this
    rw [getD_of h1, getD_of h2] at this
    rw [List.getElem_map, List.getElem_map]; exact this
  refine ⟨?_, ?_⟩
  · unfold rems
    rw [key rem fun w => by unfold rem; rw [(h w).1, (h w).2.1]]
  · rw [key (cost n) fun w => by unfold cost rem; rw [(h w).1, (h w).2.1, (h w).2.2]]
theorem Same.zz {m m' : M} (S : Same n m m') (z : Z N fast np n m' g) (A : ZZ N fast np n m g) (hp : m'.people = m.people) : ZZ N fast np n m' g ∧ rems m' = rems m ∧ pot n m' = pot n m := by
  refine ⟨⟨z, S.un A.u, fun w hw h => ?_⟩, ?_, ?_⟩
  · unfold M.who at *
    rw [hp] at h ⊢
    exact A.calm w hw h
  · unfold rems; rw [hp]
  · unfold pot; rw [hp, S.ll]
theorem act_zz (A : ZZ N fast np n m g) {a : Act} (ha : OkA np n a) :
    ∃ g', ZZ N fast np n (act fast m a) g' ∧ rems (act fast m a) + g'.c.length = rems m + g.c.length ∧ pot n (act fast m a) ≤ pot n m := by
  have z := A.z
  have hpl := z.pl
  have hsl := z.sl
  unfold act
  by_cases c1 : a.kind = 1
  · rw [if_pos c1]
    have hb := ha.2.1 c1
    obtain ⟨w, hw⟩ : ∃ w : Nat, a.a = w := ⟨a.a.toNat, by omega⟩
    rw [hw, Int.toNat_natCast]
    have hwn : w < np := by omega
    have hwl : w < m.people.length := by omega
    unfold call
    cases hpr : (m.who w).program with
    | nil => exact ⟨g, A, rfl, Nat.le_refl _⟩
    | cons b rest =>
      simp only
      split
      · exact ⟨g, A, rfl, Nat.le_refl _⟩
      rename_i hp
      have hp : (m.who w).pending = false := by simpa using hp
      have hP : (start ⟨m.sites, m.people.set w (pendP (m.who w)), m.letters, m.events ++ [⟨w, 0, b.kind, b.arg⟩]⟩ w false ⟨0, 0⟩ 0) = ⟨m.sites, m.people.set w (startP (pendP (m.who w)) false ⟨0, 0⟩ 0), m.letters ++ batch n w ((m.who w).round + 1) false ⟨0, 0⟩ 0, m.events ++ [⟨w, 0, b.kind, b.arg⟩]⟩ := by
        have e : M.who ⟨m.sites, m.people.set w (pendP (m.who w)), m.letters, m.events ++ [⟨w, 0, b.kind, b.arg⟩]⟩ w = pendP (m.who w) := by unfold M.who; simp [hwl]
        unfold start
        rw [e]
        simp [List.set_set, pendP, hsl]
      obtain ⟨g', z', u', hc⟩ := z_inv z A.u hwn hp hpr hP
      have e1 : rem (startP (pendP (m.who w)) false ⟨0, 0⟩ 0) + 1 = rem (m.who w) := by
        have : (startP (pendP (m.who w)) false ⟨0, 0⟩ 0).program = (m.who w).program := rfl
        have h2 : (startP (pendP (m.who w)) false ⟨0, 0⟩ 0).pending = true := rfl
        unfold rem; rw [this, h2, hpr, hp]; simp
      have e2 : cost n (startP (pendP (m.who w)) false ⟨0, 0⟩ 0) + n = cost n (m.who w) := by
        have h2 : (startP (pendP (m.who w)) false ⟨0, 0⟩ 0).pending = true := rfl
        have h3 : (startP (pendP (m.who w)) false ⟨0, 0⟩ 0).store = false := rfl
        unfold cost
        rw [h2, h3, hp, ← e1, Nat.mul_add]
        simp
        omega
      have s1 := sum_set (f := rem) (l := m.people) (i := w) (a := startP (pendP (m.who w)) false ⟨0, 0⟩ 0) (d := SitesProcess.z) hwl
      have s2 := sum_set (f := cost n) (l := m.people) (i := w) (a := startP (pendP (m.who w)) false ⟨0, 0⟩ 0) (d := SitesProcess.z) hwl
      have hwp : m.people.getD w SitesProcess.z = m.who w := rfl
      rw [hwp] at s1 s2
      rw [hP] at z' u' ⊢
      refine ⟨g', ⟨z', u', fun v hv h => ?_⟩, ?_, ?_⟩
      · have e : M.who ⟨m.sites, m.people.set w (startP (pendP (m.who w)) false ⟨0, 0⟩ 0), m.letters ++ batch n w ((m.who w).round + 1) false ⟨0, 0⟩ 0, m.events ++ [⟨w, 0, b.kind, b.arg⟩]⟩ v = if v = w then startP (pendP (m.who w)) false ⟨0, 0⟩ 0 else m.who v := who_set hwl
        rw [e] at h ⊢
        split
        · show 2 * (0 : Int) ≤ n; omega
        · rename_i e; rw [if_neg e] at h; exact A.calm v hv h
      · show ((m.people.set w (startP (pendP (m.who w)) false ⟨0, 0⟩ 0)).map rem).sum + _ = (m.people.map rem).sum + _
        omega
      · show (m.letters ++ batch n w ((m.who w).round + 1) false ⟨0, 0⟩ 0).length + ((m.people.set w (startP (pendP (m.who w)) false ⟨0, 0⟩ 0)).map (cost n)).sum ≤ m.letters.length + (m.people.map (cost n)).sum
        rw [List.length_append, batch_len]
        omega
  rw [if_neg c1]
  by_cases c2 : a.kind = 2
  · rw [if_pos c2]
    unfold hand
    split
    rotate_left
    · exact ⟨g, A, rfl, Nat.le_refl _⟩
    rename_i hi
    have hj : a.a.toNat < m.letters.length := by omega
    have hlt := z.lt _ hj
    split
    · exact ⟨g, A, rfl, Nat.le_refl _⟩
    rename_i hd
    have hdl : (m.let_ a.a.toNat).delivered = false := by
      cases h : (m.let_ a.a.toNat).delivered with
      | false => rfl
      | true => exact (hd (.inl h)).elim
    split
    · rename_i hs
      obtain ⟨z', S⟩ := z_query z hj hdl hs
      obtain ⟨A', r1, r2⟩ := S.zz z' A rfl
      exact ⟨g, A', by rw [← r1]; rfl, by rw [← r2]; exact Nat.le_refl _⟩
    rename_i hs
    have hs : (m.let_ a.a.toNat).store = true := by simpa using hs
    have hqn : (m.let_ a.a.toNat).site.toNat < m.sites.length := by omega
    split
    · rename_i ht
      obtain ⟨z', S⟩ := z_store z hj hdl hs (S0 := m.sites.set (m.let_ a.a.toNat).site.toNat ⟨(m.let_ a.a.toNat).tag.stamp, (m.let_ a.a.toNat).tag.who, (m.let_ a.a.toNat).value, (m.site (m.let_ a.a.toNat).site.toNat).down⟩) (by simp) (fun s hs2 => by
        rw [site_set hqn]
        by_cases e : s = (m.let_ a.a.toNat).site.toNat
        · rw [if_pos e]
          exact .inr ⟨e, rfl, rfl, by rw [e]; exact ht⟩
        · rw [if_neg e]
          exact .inl ⟨rfl, fun h => (e h).elim⟩)
      obtain ⟨A', r1, r2⟩ := S.zz z' A rfl
      exact ⟨g, A', by rw [← r1], by rw [← r2]; exact Nat.le_refl _⟩
    · rename_i ht
      obtain ⟨z', S⟩ := z_store z hj hdl hs (S0 := m.sites) rfl (fun s hs2 => .inl ⟨rfl, fun e => by rw [e]; exact ht⟩)
      obtain ⟨A', r1, r2⟩ := S.zz z' A rfl
      exact ⟨g, A', by rw [← r1], by rw [← r2]; exact Nat.le_refl _⟩
  rw [if_neg c2]
  by_cases c3 : a.kind = 3
  · rw [if_pos c3, back_eq]
    split
    rotate_left
    · exact ⟨g, A, rfl, Nat.le_refl _⟩
    rename_i hi
    have hj : a.a.toNat < m.letters.length := by omega
    have hlt := z.lt _ hj
    generalize a.a.toNat = j at hj hlt ⊢
    split
    · exact ⟨g, A, rfl, Nat.le_refl _⟩
    rename_i hd
    have hd1 : (m.let_ j).delivered = true := by
      cases h : (m.let_ j).delivered with
      | false => exact (hd (.inl h)).elim
      | true => rfl
    have hd2 : (m.let_ j).received = false := by
      cases h : (m.let_ j).received with
      | false => rfl
      | true => exact (hd (.inr h)).elim
    split
    · rename_i hst
      obtain ⟨z', S⟩ := z_stale z hj hd1 hst
      obtain ⟨A', r1, r2⟩ := S.zz z' A rfl
      exact ⟨g, A', by rw [← r1], by rw [← r2]; exact Nat.le_refl _⟩
    rename_i hst
    have hp : (m.who (m.let_ j).who.toNat).pending = true := by
      cases h : (m.who (m.let_ j).who.toNat).pending with
      | false => exact (hst (.inl h)).elim
      | true => rfl
    have hro : (m.let_ j).round = (m.who (m.let_ j).who.toNat).round := Classical.byContradiction fun h => hst (.inr h)
    obtain ⟨z', S⟩ := z_got z hj hd1 hd2 hp hro
    obtain ⟨w0, hw0⟩ : ∃ w0, (m.let_ j).who.toNat = w0 := ⟨_, rfl⟩
    have hw0n : w0 < np := by omega
    rw [hw0] at hp hro ⊢
    have ew : ∀ v, (gotM m j).who v = if v = w0 then countP (m.who w0) (m.let_ j) else m.who v := fun v => by
      have : (gotM m j).people = m.people.set w0 (countP (m.who w0) (m.let_ j)) := by unfold gotM; rw [hw0]
      show (gotM m j).people.getD v SitesProcess.z = _
      rw [this]; exact who_set (by omega)
    obtain ⟨k1, k2, k3, k4, k5⟩ := countP_eq (m.who w0) (m.let_ j)
    obtain ⟨r1, r2⟩ := same_sums (n := n) (m := m) (m' := gotM m j) (fun w => ⟨(S.pf w).1, (S.pf w).2.1, (S.pf w).2.2.2⟩) S.pl
    have r3 : pot n (gotM m j) = pot n m := by unfold pot; rw [r2, S.ll]
    have u' : Un np (gotM m j) g np := S.un A.u
    have hrep : ((gotM m j).who w0).replies = (m.who w0).replies + 1 := by rw [ew, if_pos rfl, k4]
    split
    · rename_i hmj
      obtain ⟨g2, z2, u2, q1, q2, q3, q4, q5, q6⟩ := next_z z' u' hw0n (by rw [ew, if_pos rfl, k2]; exact hp) (by rw [hrep, ← hsl]; exact hmj)
      refine ⟨g2, ⟨z2, u2, fun v hv h => ?_⟩, by rw [q1, r1], by rw [← r3]; exact q2⟩
      by_cases e : v = w0
      · subst e
        rw [q5 h]; omega
      · rw [q3 v e, ew, if_neg e] at h ⊢
        exact A.calm v hv h
    · rename_i hmj
      refine ⟨g, ⟨z', u', fun v hv h => ?_⟩, by rw [r1], by rw [r3]; exact Nat.le_refl _⟩
      by_cases e : v = w0
      · subst e
        rw [hrep]; omega
      · rw [ew, if_neg e] at h ⊢
        exact A.calm v hv h
  · rw [if_neg c3]
    have hb := ha.four c1 c2 c3
    obtain ⟨z', S⟩ := z_down z (q := a.a.toNat) (by omega)
    obtain ⟨A', r1, r2⟩ := S.zz z' A rfl
    exact ⟨g, A', by rw [← r1], by rw [r2]; exact Nat.le_refl _⟩
theorem run_zz : ∀ {acts : List Act} {m : M} {g : Gh}, ZZ N fast np n m g → (∀ a ∈ acts, OkA np n a) → ∃ g', ZZ N fast np n (run fast m acts) g' ∧ rems (run fast m acts) + g'.c.length = rems m + g.c.length ∧ pot n (run fast m acts) ≤ pot n m
  | [], m, g, A, _ => ⟨g, A, rfl, Nat.le_refl _⟩
  | a :: acts, m, g, A, h => by
    obtain ⟨g1, A1, r1, r2⟩ := act_zz A (h a (.head _))
    obtain ⟨g2, A2, r3, r4⟩ := run_zz (acts := acts) A1 fun x hx => h x (.tail _ hx)
    exact ⟨g2, A2, by rw [← r1]; exact r3, Nat.le_trans r4 r2⟩
end
theorem asksum (n : Nat) (people : List (List Ask)) : rems (m0 n people) = (people.map List.length).sum ∧ pot n (m0 n people) = 2 * (n * (people.map List.length).sum) := by
  refine ⟨?_, ?_⟩
  · unfold rems m0
    rw [List.map_map]
    rfl
  · unfold pot m0
    rw [List.map_map]
    show 0 + (people.map fun l => 2 * (n * (l.length - 0)) + 0).sum = _
    induction people with
    | nil => simp
    | cons l people ih =>
      simp only [List.map_cons, List.sum_cons, Nat.mul_add, Nat.sub_zero] at ih ⊢
      omega
theorem zz0 (N : Nat) (fast : Bool) {n : Nat} {people : List (List Ask)} (h8 : people.length ≤ 8) (n1 : 1 ≤ n) (hask : ∀ l ∈ people, ∀ a ∈ l, OkK a) : ZZ N fast people.length n (m0 n people) ⟨[], [], fun _ => false, fun _ => ⟨0, 0⟩, fun _ => 0⟩ := by
  have hw : ∀ w, w < people.length → ((m0 n people).who w).program ∈ people ∧ ((m0 n people).who w).pending = false := by
    intro w hw
    have e : (m0 n people).who w = ⟨people[w], false, 0, false, 0, ⟨0, 0⟩, 0⟩ := by
      show ((people.map _).getD w SitesProcess.z) = _
      rw [getD_of (by simpa using hw), List.getElem_map]
    rw [e]
    exact ⟨List.getElem_mem hw, rfl⟩
  have hs : ∀ s, (m0 n people).site s = Site.z := by
    intro s
    show (List.replicate n Site.z).getD s Site.z = _
    rw [List.getD_eq_getElem?_getD, List.getElem?_replicate]
    split <;> rfl
  have z0 : Z N fast people.length n (m0 n people) ⟨[], [], fun _ => false, fun _ => ⟨0, 0⟩, fun _ => 0⟩ := by
    refine ⟨n1, h8, by simp [m0], by simp [m0], .zero, fun w _ _ => rfl, fun w h hp => ?_, fun w h a ha => hask _ (hw w h).1 a ha, fun j hj => absurd hj (Nat.not_lt_zero _), fun s _ => by rw [hs]; exact .inl ⟨rfl, rfl⟩, fun j hj => absurd hj (Nat.not_lt_zero _), fun j hj => absurd hj (Nat.not_lt_zero _), fun j hj => absurd hj (Nat.not_lt_zero _), fun j hj => absurd hj (Nat.not_lt_zero _), fun j hj => absurd hj (Nat.not_lt_zero _), fun j hj => absurd hj (Nat.not_lt_zero _), fun j hj => absurd hj (Nat.not_lt_zero _), fun a b ha => absurd ha (Nat.not_lt_zero _), fun a b ha => absurd ha (Nat.not_lt_zero _)⟩
    rw [(hw w h).2] at hp; cases hp
  refine ⟨z0, fun w h _ hp => ?_, fun w h hp => ?_⟩
  · rw [(hw w h).2] at hp; cases hp
  · rw [(hw w h).2] at hp; cases hp
theorem asks_of {people : List (List Ask)} (h : Th.OkP [1] people) : ∀ l ∈ people, ∀ a ∈ l, OkK a := by
  intro l hl a ha
  obtain ⟨h1, h2⟩ := h.ask l hl a ha
  simp only [List.length_singleton] at h1
  have e : a.thing.toNat = 0 := by omega
  rw [e] at h2
  have h2 : Ob.Asked 1 a.kind a.arg := h2
  obtain ⟨q1, q2, q3, q4⟩ := h2
  unfold Ob.tyK at q2
  have hk : a.kind = 1 ∨ a.kind = 2 := by
    by_cases h1 : a.kind = 1 ∨ a.kind = 2
    · exact h1
    · rw [if_neg h1] at q2
      exfalso
      revert q2
      split
      · decide
      · split
        · decide
        · split
          · decide
          · split <;> decide
  rcases hk with hk | hk
  · have := q4 (by omega)
    unfold Ob.Num at this
    exact .inl ⟨hk, this.1, this.2⟩
  · exact .inr ⟨hk, q3 (.inl hk)⟩
end Si

end Go.Proofs.Yteklmleiiiodfaa
