/- Sites, plainly: tags and letters. -/
import Derived.Test.YteklmleiiiodfaaH1
set_option linter.unusedVariables false
set_option linter.unusedSimpArgs false
set_option linter.unusedSectionVars false
set_option maxRecDepth 100000
namespace Go.Proofs.Yteklmleiiiodfaa
open Go.RowKit
namespace Si
open Hs
/-- What is beside the machine: the calls, who is at work on which, which calls have a tag, which one, and where one's letters begin. -/
structure Gh where
  c : List Call
  op : List Int
  tg : Nat → Bool
  tag : Nat → SitesTag
  B : Nat → Nat
def Gh.call (g : Gh) (i : Nat) : Call := g.c.getD i Call.z
def stg (s : Site) : SitesTag := ⟨s.stamp, s.who⟩
/-- A tag and its value. -/
def Good (g : Gh) (t : SitesTag) (v : Int) : Prop := (t = ⟨0, 0⟩ ∧ v = 0) ∨ ∃ i, i < g.c.length ∧ g.tg i = true ∧ (g.call i).kind = 1 ∧ g.tag i = t ∧ (g.call i).arg = v
def Strong (fast : Bool) (c : Call) : Prop := fast = false ∨ c.kind = 1
/-- More than half. -/
def Most (n : Nat) (p : Nat → Bool) : Prop := n < 2 * (List.range n).countP p
theorem Most.mono {n : Nat} {p q : Nat → Bool} (h : ∀ s, s < n → p s = true → q s = true) (hp : Most n p) : Most n q := by
  have : (List.range n).countP p ≤ (List.range n).countP q := List.countP_mono_left fun x hx => h x (List.mem_range.1 hx)
  unfold Most at *; omega
theorem Most.meet {n : Nat} {p q : Nat → Bool} (hp : Most n p) (hq : Most n q) : ∃ s, s < n ∧ p s = true ∧ q s = true := by
  apply Classical.byContradiction
  intro h
  have h2 : (List.range n).countP q ≤ (List.range n).countP (fun a => decide ¬ p a = true) := List.countP_mono_left fun x hx hq => decide_eq_true fun hp => h ⟨x, List.mem_range.1 hx, hp, hq⟩
  have h3 := List.length_eq_countP_add_countP p (l := List.range n)
  rw [List.length_range] at h3
  unfold Most at *
  omega
/-- One who asks what there is. -/
structure Qry (fast : Bool) (n : Nat) (m : M) (g : Gh) (w i : Nat) : Prop where
  best : ∀ s, s < n → (m.let_ (g.B w + s)).received = true → ¬ tlt (m.who w).best (m.let_ (g.B w + s)).tag
  good : 1 ≤ (m.who w).replies → Good g (m.who w).best (m.who w).value
  low : ∀ a, a < g.c.length → (g.call a).to_ ≠ -1 → Strong fast (g.call a) → (g.call a).to_ < (g.call i).from_ → Most n fun s => decide (¬ tlt (stg (m.site s)) (g.tag a)) && (!(m.let_ (g.B w + s)).delivered || decide (¬ tlt (m.let_ (g.B w + s)).tag (g.tag a)))
/-- One who stores. -/
structure Sto (n : Nat) (m : M) (g : Gh) (w i : Nat) : Prop where
  tag : g.tg i = true ∧ g.tag i = (m.who w).best
  good : Good g (m.who w).best (m.who w).value
  lets : ∀ s, s < n → (m.let_ (g.B w + s)).tag = (m.who w).best
/-- One who waits for an answer. -/
structure Pd (fast : Bool) (n : Nat) (m : M) (g : Gh) (w i : Nat) : Prop where
  ilt : i < g.c.length
  opn : g.op.getD w 0 = (i : Int) + 1
  cal : (g.call i).who = w ∧ (g.call i).to_ = -1 ∧ ∃ a rest, (m.who w).program = a :: rest ∧ (g.call i).kind = a.kind ∧ (g.call i).arg = a.arg
  bat : g.B w + n ≤ m.letters.length ∧ ∀ s, s < n → (m.let_ (g.B w + s)).who = (w : Int) ∧ (m.let_ (g.B w + s)).round = (m.who w).round ∧ (m.let_ (g.B w + s)).site = (s : Int) ∧ (m.let_ (g.B w + s)).store = (m.who w).store
  own : ∀ j, j < m.letters.length → (m.let_ j).who = (w : Int) → (m.let_ j).round = (m.who w).round → g.B w ≤ j ∧ j < g.B w + n
  rep : (m.who w).replies = ((List.range n).countP fun s => (m.let_ (g.B w + s)).received : Nat)
  zero : (m.who w).store = false → (m.who w).replies = 0 → (m.who w).best = ⟨-1, -1⟩
  qry : (m.who w).store = false → Qry fast n m g w i
  sto : (m.who w).store = true → Sto n m g w i
/-- What may be asked. -/
def OkK (a : Ask) : Prop := (a.kind = 1 ∧ 1 ≤ a.arg ∧ a.arg ≤ 1000) ∨ (a.kind = 2 ∧ a.arg = 0)
structure Z (N : Nat) (fast : Bool) (np n : Nat) (m : M) (g : Gh) : Prop where
  n1 : 1 ≤ n
  np8 : np ≤ 8
  sl : m.sites.length = n
  pl : m.people.length = np
  run : Rn N [1] m.events m.events.length g.c g.op
  idle : ∀ w, w < np → (m.who w).pending = false → g.op.getD w 0 = 0
  pend : ∀ w, w < np → (m.who w).pending = true → ∃ i, Pd fast n m g w i
  ask : ∀ w, w < np → ∀ a ∈ (m.who w).program, OkK a
  wn : ∀ i, i < g.c.length → (g.call i).who < np
  sg : ∀ s, s < n → Good g (stg (m.site s)) (m.site s).value
  lt : ∀ j, j < m.letters.length → (0 ≤ (m.let_ j).who ∧ (m.let_ j).who < np) ∧ (0 ≤ (m.let_ j).site ∧ (m.let_ j).site < n)
  lg : ∀ j, j < m.letters.length → (m.let_ j).delivered = true ∨ (m.let_ j).store = true → Good g (m.let_ j).tag (m.let_ j).value
  ls : ∀ j, j < m.letters.length → (m.let_ j).store = true → (m.let_ j).delivered = true → ¬ tlt (stg (m.site (m.let_ j).site.toNat)) (m.let_ j).tag
  rd : ∀ j, j < m.letters.length → (m.let_ j).received = true → (m.let_ j).delivered = true
  old : ∀ j, j < m.letters.length → (m.let_ j).round ≤ (m.who (m.let_ j).who.toNat).round ∧ ((m.who (m.let_ j).who.toNat).pending = false → (m.let_ j).round < (m.who (m.let_ j).who.toNat).round)
  tw : ∀ i, i < g.c.length → g.tg i = true → (g.call i).kind = 1 → (g.tag i).who = (g.call i).who ∧ 1 ≤ (g.tag i).stamp
  dn : ∀ i, i < g.c.length → (g.call i).to_ ≠ -1 → g.tg i = true ∧ (Strong fast (g.call i) → Most n fun s => decide (¬ tlt (stg (m.site s)) (g.tag i))) ∧ ((g.call i).kind = 1 → (g.call i).res = 0) ∧
    ((g.call i).kind ≠ 1 → (g.tag i = ⟨0, 0⟩ ∧ (g.call i).res = 0) ∨ ∃ k, k < g.c.length ∧ g.tg k = true ∧ (g.call k).kind = 1 ∧ g.tag k = g.tag i ∧ (g.call k).arg = (g.call i).res ∧ (g.call k).from_ < (g.call i).to_)
  ord : ∀ a b, a < g.c.length → b < g.c.length → (g.call a).to_ ≠ -1 → (g.call a).to_ < (g.call b).from_ → Strong fast (g.call a) → g.tg b = true → ¬ tlt (g.tag b) (g.tag a) ∧ ((g.call b).kind = 1 → tlt (g.tag a) (g.tag b))
  uni : ∀ a b, a < g.c.length → b < g.c.length → g.tg a = true → g.tg b = true → (g.call a).kind = 1 → (g.call b).kind = 1 → g.tag a = g.tag b → a = b
/-- Who asks what there is has no tag yet. -/
def Un (np : Nat) (m : M) (g : Gh) (e : Nat) : Prop := ∀ w, w < np → w ≠ e → (m.who w).pending = true → (m.who w).store = false → ∀ i : Nat, g.op.getD w 0 = i + 1 → g.tg i = false
theorem who_set {m : M} {w v : Nat} {p : SitesProcess} (hw : w < m.people.length) : (m.people.set w p).getD v SitesProcess.z = if v = w then p else m.who v := getD_set hw
theorem let_set {m : M} {j k : Nat} {x : SitesLetter} (hj : j < m.letters.length) : (m.letters.set j x).getD k SitesLetter.z = if k = j then x else m.let_ k := getD_set hj
theorem site_set {m : M} {q s : Nat} {x : Site} (hq : q < m.sites.length) : (m.sites.set q x).getD s Site.z = if s = q then x else m.site s := getD_set hq
theorem getDn_app' {α : Type} {l m : List α} {d : α} {i : Nat} (h : i < l.length) : (l ++ m).getD i d = l.getD i d := by
  simp only [List.getD_eq_getElem?_getD, List.getElem?_append_left h]
theorem getDn_app2 {α : Type} {l m : List α} {d : α} {i : Nat} : (l ++ m).getD (l.length + i) d = m.getD i d := by
  simp only [List.getD_eq_getElem?_getD, List.getElem?_append_right (Nat.le_add_right ..), Nat.add_sub_cancel_left]
theorem batch_get {n : Nat} {w r : Int} {store : Bool} {t : SitesTag} {v : Int} {s : Nat} (h : s < n) : (batch n w r store t v).getD s SitesLetter.z = ⟨w, r, (s : Int), store, t, v, false, false⟩ := by
  unfold batch
  rw [getD_of (by simpa using h), List.getElem_map, List.getElem_range]
theorem batch_len (n : Nat) (w r : Int) (store : Bool) (t : SitesTag) (v : Int) : (batch n w r store t v).length = n := by simp [batch]
theorem rn_more {N : Nat} {types : List Int} {l : List Event} {v : Event} {out out' : List Call} {op op' : List Int} (R : Rn N types l l.length out op) (S : StpX N types out op (l.length : Int) v out' op') : Rn N types (l ++ [v]) (l ++ [v]).length out' op' := by
  have key : ∀ {k : Nat} {out : List Call} {op : List Int}, Rn N types l k out op → Rn N types (l ++ [v]) k out op := by
    intro k out op R
    induction R with
    | zero => exact .zero
    | @succ k out out' op op' R hk S ih =>
      refine .succ ih (by rw [List.length_append]; omega) ?_
      rw [getD_app, if_pos hk]; exact S
  rw [List.length_append, List.length_singleton]
  refine .succ (key R) (by rw [List.length_append, List.length_singleton]; omega) ?_
  rw [getD_app, if_neg (Nat.lt_irrefl _), if_pos rfl]; exact S
section
variable {N : Nat} {fast : Bool} {np n : Nat} {m : M} {g : Gh}
theorem Z.fr (z : Z N fast np n m g) {i : Nat} (hi : i < g.c.length) : 0 ≤ (g.call i).from_ ∧ (g.call i).from_ < m.events.length ∧ (0 ≤ (g.call i).who ∧ (g.call i).who < 8) := by
  have O := z.run.wf.one i hi
  exact ⟨O.fr.1, O.fr.2, O.who⟩
theorem Z.pd (z : Z N fast np n m g) {w i : Nat} (hw : w < np) (h : (m.who w).pending = true) (hi : g.op.getD w 0 = (i : Int) + 1) : Pd fast n m g w i := by
  obtain ⟨k, P⟩ := z.pend w hw h
  have := P.opn
  obtain rfl : i = k := by omega
  exact P
/-- Only who waits has a call that is not answered. -/
theorem Z.wait (z : Z N fast np n m g) {w i : Nat} (hw : w < np) (hi : g.op.getD w 0 = (i : Int) + 1) : (m.who w).pending = true := by
  cases h : (m.who w).pending with
  | true => rfl
  | false => have := z.idle w hw h; omega
/-! Letters change, but for whom, of which round and where they are. -/
structure Same (n : Nat) (m m' : M) : Prop where
  ll : m'.letters.length = m.letters.length
  ev : m'.events = m.events
  sl : m'.sites.length = m.sites.length
  pl : m'.people.length = m.people.length
  lf : ∀ j, (m'.let_ j).who = (m.let_ j).who ∧ (m'.let_ j).round = (m.let_ j).round ∧ (m'.let_ j).site = (m.let_ j).site ∧ (m'.let_ j).store = (m.let_ j).store
  pf : ∀ w, (m'.who w).program = (m.who w).program ∧ (m'.who w).pending = (m.who w).pending ∧ (m'.who w).round = (m.who w).round ∧ (m'.who w).store = (m.who w).store
theorem Same.un {m m' : M} (S : Same n m m') {e : Nat} (h : Un np m g e) : Un np m' g e := by
  intro w hw he hp hs i hi
  rw [(S.pf w).2.1] at hp
  rw [(S.pf w).2.2.2] at hs
  exact h w hw he hp hs i hi
/-- What is left to show behind such a change. -/
theorem Same.z {m m' : M} (S : Same n m m') (z : Z N fast np n m g)
    (sg : ∀ s, s < n → Good g (stg (m'.site s)) (m'.site s).value)
    (up : ∀ s, s < n → ∀ t, ¬ tlt (stg (m.site s)) t → ¬ tlt (stg (m'.site s)) t)
    (lg : ∀ j, j < m.letters.length → (m'.let_ j).delivered = true ∨ (m'.let_ j).store = true → Good g (m'.let_ j).tag (m'.let_ j).value)
    (ls : ∀ j, j < m.letters.length → (m'.let_ j).store = true → (m'.let_ j).delivered = true → ¬ tlt (stg (m'.site (m'.let_ j).site.toNat)) (m'.let_ j).tag)
    (rd : ∀ j, j < m.letters.length → (m'.let_ j).received = true → (m'.let_ j).delivered = true)
    (rep : ∀ w i, w < np → Pd fast n m g w i → (m'.who w).replies = ((List.range n).countP fun s => (m'.let_ (g.B w + s)).received : Nat))
    (zer : ∀ w i, w < np → Pd fast n m g w i → (m'.who w).store = false → (m'.who w).replies = 0 → (m'.who w).best = ⟨-1, -1⟩)
    (qry : ∀ w i, w < np → (m'.who w).store = false → Pd fast n m g w i → Qry fast n m' g w i)
    (sto : ∀ w i, w < np → (m'.who w).store = true → Pd fast n m g w i → Sto n m' g w i) : Z N fast np n m' g := by
  refine ⟨z.n1, z.np8, S.sl.trans z.sl, S.pl.trans z.pl, by rw [S.ev]; exact z.run, fun w hw h => z.idle w hw (by rw [← (S.pf w).2.1]; exact h), fun w hw h => ?_, fun w hw => by rw [(S.pf w).1]; exact z.ask w hw, z.wn, sg, fun j hj => ?_, fun j hj => lg j (by rw [← S.ll]; exact hj), fun j hj => ls j (by rw [← S.ll]; exact hj), fun j hj => rd j (by rw [← S.ll]; exact hj), fun j hj => ?_, z.tw, fun i hi ha => ?_, z.ord, z.uni⟩
  · obtain ⟨i, P⟩ := z.pend w hw (by rw [← (S.pf w).2.1]; exact h)
    obtain ⟨p1, p2, p3, p4⟩ := S.pf w
    refine ⟨i, P.ilt, P.opn, by rw [p1]; exact P.cal, ?_, fun j hj => ?_, rep w i hw P, zer w i hw P, fun hs => qry w i hw hs P, fun hs => sto w i hw hs P⟩
    · rw [S.ll, p3, p4]
      refine ⟨P.bat.1, fun s hs => ?_⟩
      obtain ⟨l1, l2, l3, l4⟩ := S.lf (g.B w + s)
      rw [l1, l2, l3, l4]
      exact P.bat.2 s hs
    · obtain ⟨l1, l2, _⟩ := S.lf j
      rw [S.ll] at hj
      rw [l1, l2, p3]
      exact P.own j hj
  · obtain ⟨l1, l2, l3, _⟩ := S.lf j
    rw [S.ll] at hj
    rw [l1, l3]
    exact z.lt j hj
  · obtain ⟨l1, l2, l3, _⟩ := S.lf j
    rw [S.ll] at hj
    rw [l1, l2, (S.pf _).2.1, (S.pf _).2.2.1]
    exact z.old j hj
  · obtain ⟨d1, d2, d3⟩ := z.dn i hi ha
    refine ⟨d1, fun hs => (d2 hs).mono fun s hs h => ?_, d3⟩
    exact decide_eq_true (up s hs _ (of_decide_eq_true h))
theorem low_up {m m' : M} {w i : Nat} (up : ∀ s, s < n → ∀ t, ¬ tlt (stg (m.site s)) t → ¬ tlt (stg (m'.site s)) t) (Q : Qry fast n m g w i)
    (hl : ∀ s, s < n → ((m'.let_ (g.B w + s)).delivered = (m.let_ (g.B w + s)).delivered ∧ (m'.let_ (g.B w + s)).tag = (m.let_ (g.B w + s)).tag) ∨ ((m'.let_ (g.B w + s)).tag = stg (m.site s))) :
    ∀ a, a < g.c.length → (g.call a).to_ ≠ -1 → Strong fast (g.call a) → (g.call a).to_ < (g.call i).from_ → Most n fun s => decide (¬ tlt (stg (m'.site s)) (g.tag a)) && (!(m'.let_ (g.B w + s)).delivered || decide (¬ tlt (m'.let_ (g.B w + s)).tag (g.tag a))) := by
  intro a h1 h2 h3 h4
  refine (Q.low a h1 h2 h3 h4).mono fun s hs h => ?_
  simp only [Bool.and_eq_true, Bool.or_eq_true, Bool.not_eq_true', decide_eq_true_eq] at h ⊢
  refine ⟨up s hs _ h.1, ?_⟩
  rcases hl s hs with ⟨e1, e2⟩ | e
  · rw [e1, e2]; exact h.2
  · rw [e]; exact .inr h.1
/-- One site more is down. -/
theorem z_down (z : Z N fast np n m g) {q : Nat} (hq : q < n) : Z N fast np n (down m q) g ∧ Same n m (down m q) := by
  have hsl := z.sl
  have hs : ∀ s, stg ((down m q).site s) = stg (m.site s) ∧ ((down m q).site s).value = (m.site s).value := by
    intro s
    have e : (down m q).site s = if s = q then ⟨(m.site q).stamp, (m.site q).who, (m.site q).value, true⟩ else m.site s := site_set (by omega)
    rw [e]
    split
    · rename_i h; subst h; exact ⟨rfl, rfl⟩
    · exact ⟨rfl, rfl⟩
  have S : Same n m (down m q) := ⟨rfl, rfl, by simp [down], rfl, fun j => ⟨rfl, rfl, rfl, rfl⟩, fun w => ⟨rfl, rfl, rfl, rfl⟩⟩
  have up : ∀ s, s < n → ∀ t, ¬ tlt (stg (m.site s)) t → ¬ tlt (stg ((down m q).site s)) t := fun s _ t h => by rw [(hs s).1]; exact h
  refine ⟨S.z z (fun s h => by rw [(hs s).1, (hs s).2]; exact z.sg s h) up z.lg (fun j hj h1 h2 => by rw [(hs _).1]; exact z.ls j hj h1 h2) z.rd (fun w i _ P => P.rep) (fun w i _ P => P.zero) (fun w i _ h P => ?_) (fun w i _ h P => ⟨(P.sto h).tag, (P.sto h).good, (P.sto h).lets⟩), S⟩
  have Q := P.qry h
  exact ⟨Q.best, Q.good, low_up (m := m) up Q fun s _ => .inl ⟨rfl, rfl⟩⟩
theorem same_let {j : Nat} (hj : j < m.letters.length) {x : SitesLetter} (h1 : x.who = (m.let_ j).who) (h2 : x.round = (m.let_ j).round) (h3 : x.site = (m.let_ j).site) (h4 : x.store = (m.let_ j).store) {S : List Site} (hS : S.length = m.sites.length) : Same n m ⟨S, m.people, m.letters.set j x, m.events⟩ := by
  refine ⟨by simp, rfl, hS, rfl, fun k => ?_, fun w => ⟨rfl, rfl, rfl, rfl⟩⟩
  have e : M.let_ ⟨S, m.people, m.letters.set j x, m.events⟩ k = if k = j then x else m.let_ k := let_set hj
  rw [e]
  split
  · rename_i h; subst h; exact ⟨h1, h2, h3, h4⟩
  · exact ⟨rfl, rfl, rfl, rfl⟩
/-- A question is handed. -/
theorem z_query (z : Z N fast np n m g) {j : Nat} (hj : j < m.letters.length) (hd : (m.let_ j).delivered = false) (hs : (m.let_ j).store = false) : Z N fast np n ⟨m.sites, m.people, m.letters.set j (answered (m.let_ j) (stg (m.site (m.let_ j).site.toNat)) (m.site (m.let_ j).site.toNat).value), m.events⟩ g ∧ Same n m ⟨m.sites, m.people, m.letters.set j (answered (m.let_ j) (stg (m.site (m.let_ j).site.toNat)) (m.site (m.let_ j).site.toNat).value), m.events⟩ := by
  obtain ⟨x, hx⟩ : ∃ x, x = answered (m.let_ j) (stg (m.site (m.let_ j).site.toNat)) (m.site (m.let_ j).site.toNat).value := ⟨_, rfl⟩
  rw [← hx]
  have S : Same n m ⟨m.sites, m.people, m.letters.set j x, m.events⟩ := same_let hj (by rw [hx]; rfl) (by rw [hx]; rfl) (by rw [hx]; rfl) (by rw [hx]; rfl) rfl
  have el : ∀ k, M.let_ ⟨m.sites, m.people, m.letters.set j x, m.events⟩ k = if k = j then x else m.let_ k := fun k => let_set hj
  have hlt := z.lt j hj
  have hrx : x.received = (m.let_ j).received := by rw [hx]; rfl
  have hrj : (m.let_ j).received = false := by
    cases h : (m.let_ j).received with
    | false => rfl
    | true => rw [z.rd j hj h] at hd; cases hd
  have hrec : ∀ k, (M.let_ ⟨m.sites, m.people, m.letters.set j x, m.events⟩ k).received = (m.let_ k).received := fun k => by
    rw [el]; split
    · rename_i h; subst h; exact hrx
    · rfl
  refine ⟨S.z z z.sg (fun s _ t h => h) (fun k hk h => ?_) (fun k hk h1 h2 => ?_) (fun k hk h => ?_) (fun w i _ P => ?_) (fun w i _ P => P.zero) (fun w i hw h P => ?_) (fun w i hw h P => ?_), S⟩
  · rw [el] at h ⊢
    split
    · rw [hx]
      exact z.sg _ (by omega)
    · rename_i h2; rw [if_neg h2] at h; exact z.lg k hk h
  · rw [el] at h1 h2 ⊢
    by_cases e : k = j
    · rw [if_pos e, hx] at h1
      have h1 : (m.let_ j).store = true := h1
      rw [hs] at h1; cases h1
    · rw [if_neg e] at h1 h2 ⊢
      exact z.ls k hk h1 h2
  · rw [hrec] at h
    rw [el]
    split
    · rw [hx]; rfl
    · exact z.rd k hk h
  · simp only [hrec]; exact P.rep
  · have Q := P.qry h
    refine ⟨fun s hs2 hr => ?_, Q.good, low_up (m := m) (fun s _ t h => h) Q fun s hs2 => ?_⟩
    · rw [hrec] at hr
      rw [el]
      split
      · rename_i e; rw [e, hrj] at hr; cases hr
      · exact Q.best s hs2 hr
    · rw [el]
      split
      · rename_i e
        right
        rw [hx]
        have := (P.bat.2 s hs2).2.2.1
        rw [e] at this
        show stg (m.site (m.let_ j).site.toNat) = _
        rw [this, Int.toNat_natCast]
      · exact .inl ⟨rfl, rfl⟩
  · have Q := P.sto h
    refine ⟨Q.tag, Q.good, fun s hs2 => ?_⟩
    rw [el]
    split
    · rename_i e
      have := (P.bat.2 s hs2).2.2.2
      have h : (m.who w).store = true := h
      rw [e, hs, h] at this; cases this
    · exact Q.lets s hs2
/-- What is to be stored is handed. -/
theorem z_store (z : Z N fast np n m g) {j : Nat} (hj : j < m.letters.length) (hd : (m.let_ j).delivered = false) (hs : (m.let_ j).store = true) {S0 : List Site} (hS0 : S0.length = m.sites.length)
    (hS : ∀ s, s < n → (S0.getD s Site.z = m.site s ∧ (s = (m.let_ j).site.toNat → ¬ tlt (stg (m.site s)) (m.let_ j).tag)) ∨ (s = (m.let_ j).site.toNat ∧ stg (S0.getD s Site.z) = (m.let_ j).tag ∧ (S0.getD s Site.z).value = (m.let_ j).value ∧ tlt (stg (m.site s)) (m.let_ j).tag)) :
    Z N fast np n ⟨S0, m.people, m.letters.set j (answered (m.let_ j) (m.let_ j).tag (m.let_ j).value), m.events⟩ g ∧ Same n m ⟨S0, m.people, m.letters.set j (answered (m.let_ j) (m.let_ j).tag (m.let_ j).value), m.events⟩ := by
  obtain ⟨x, hx⟩ : ∃ x, x = answered (m.let_ j) (m.let_ j).tag (m.let_ j).value := ⟨_, rfl⟩
  rw [← hx]
  have S : Same n m ⟨S0, m.people, m.letters.set j x, m.events⟩ := same_let hj (by rw [hx]; rfl) (by rw [hx]; rfl) (by rw [hx]; rfl) (by rw [hx]; rfl) hS0
  have el : ∀ k, M.let_ ⟨S0, m.people, m.letters.set j x, m.events⟩ k = if k = j then x else m.let_ k := fun k => let_set hj
  have hlt := z.lt j hj
  have hrec : ∀ k, (M.let_ ⟨S0, m.people, m.letters.set j x, m.events⟩ k).received = (m.let_ k).received := fun k => by
    rw [el]; split
    · rename_i h; subst h; rw [hx]; rfl
    · rfl
  have htag : ∀ k, (M.let_ ⟨S0, m.people, m.letters.set j x, m.events⟩ k).tag = (m.let_ k).tag ∧ (M.let_ ⟨S0, m.people, m.letters.set j x, m.events⟩ k).value = (m.let_ k).value := fun k => by
    rw [el]; split
    · rename_i h; subst h; rw [hx]; exact ⟨rfl, rfl⟩
    · exact ⟨rfl, rfl⟩
  have up : ∀ s, s < n → ∀ t, ¬ tlt (stg (m.site s)) t → ¬ tlt (stg (M.site ⟨S0, m.people, m.letters.set j x, m.events⟩ s)) t := by
    intro s hs2 t h
    show ¬ tlt (stg (S0.getD s Site.z)) t
    rcases hS s hs2 with ⟨e, _⟩ | ⟨_, e, _, h2⟩
    · rw [e]; exact h
    · rw [e]; unfold tlt at *; omega
  refine ⟨S.z z (fun s hs2 => ?_) up (fun k hk h => ?_) (fun k hk h1 h2 => ?_) (fun k hk h => ?_) (fun w i _ P => ?_) (fun w i _ P => P.zero) (fun w i hw h P => ?_) (fun w i hw h P => ?_), S⟩
  · show Good g (stg (S0.getD s Site.z)) (S0.getD s Site.z).value
    rcases hS s hs2 with ⟨e, _⟩ | ⟨_, e1, e2, _⟩
    · rw [e]; exact z.sg s hs2
    · rw [e1, e2]; exact z.lg j hj (.inr hs)
  · rw [(htag k).1, (htag k).2]
    by_cases e : k = j
    · subst e; exact z.lg k hk (.inr hs)
    · rw [el, if_neg e] at h; exact z.lg k hk h
  · have hl2 := z.lt k hk
    rw [(htag k).1, (S.lf k).2.2.1]
    by_cases e : k = j
    · subst e
      show ¬ tlt (stg (S0.getD (m.let_ k).site.toNat Site.z)) _
      rcases hS (m.let_ k).site.toNat (by omega) with ⟨e1, e2⟩ | ⟨_, e1, _⟩
      · rw [e1]; exact e2 rfl
      · rw [e1]; unfold tlt; omega
    · rw [el, if_neg e] at h1 h2
      exact up _ (by omega) _ (z.ls k hk h1 h2)
  · rw [hrec] at h
    rw [el]
    split
    · rw [hx]; rfl
    · exact z.rd k hk h
  · simp only [hrec]; exact P.rep
  · have Q := P.qry h
    have h : (m.who w).store = false := h
    have hne : ∀ s, s < n → g.B w + s ≠ j := fun s hs2 e => by
      have := (P.bat.2 s hs2).2.2.2
      rw [e, hs, h] at this; cases this
    refine ⟨fun s hs2 hr => ?_, Q.good, low_up (m := m) up Q fun s hs2 => ?_⟩
    · rw [hrec] at hr
      rw [(htag _).1]; exact Q.best s hs2 hr
    · rw [el, if_neg (hne s hs2)]; exact .inl ⟨rfl, rfl⟩
  · have Q := P.sto h
    exact ⟨Q.tag, Q.good, fun s hs2 => by rw [(htag _).1]; exact Q.lets s hs2⟩
/-- What came back too late. -/
theorem z_stale (z : Z N fast np n m g) {j : Nat} (hj : j < m.letters.length) (hd : (m.let_ j).delivered = true) (hst : (m.who (m.let_ j).who.toNat).pending = false ∨ (m.let_ j).round ≠ (m.who (m.let_ j).who.toNat).round) : Z N fast np n ⟨m.sites, m.people, m.letters.set j (got (m.let_ j)), m.events⟩ g ∧ Same n m ⟨m.sites, m.people, m.letters.set j (got (m.let_ j)), m.events⟩ := by
  have S : Same n m ⟨m.sites, m.people, m.letters.set j (got (m.let_ j)), m.events⟩ := same_let (x := got (m.let_ j)) hj rfl rfl rfl rfl rfl
  have el : ∀ k, M.let_ ⟨m.sites, m.people, m.letters.set j (got (m.let_ j)), m.events⟩ k = if k = j then got (m.let_ j) else m.let_ k := fun k => let_set hj
  have hf : ∀ k, (M.let_ ⟨m.sites, m.people, m.letters.set j (got (m.let_ j)), m.events⟩ k).delivered = (m.let_ k).delivered ∧ (M.let_ ⟨m.sites, m.people, m.letters.set j (got (m.let_ j)), m.events⟩ k).tag = (m.let_ k).tag ∧ (M.let_ ⟨m.sites, m.people, m.letters.set j (got (m.let_ j)), m.events⟩ k).value = (m.let_ k).value := fun k => by
    rw [el]; split
    · rename_i h; subst h; exact ⟨rfl, rfl, rfl⟩
    · exact ⟨rfl, rfl, rfl⟩
  have hne : ∀ w i, w < np → Pd fast n m g w i → (m.who w).pending = true → ∀ s, s < n → g.B w + s ≠ j := fun w i hw P hp s hs2 e => by
    obtain ⟨b1, b2, _⟩ := P.bat.2 s hs2
    rw [e] at b1 b2
    rw [b1, Int.toNat_natCast] at hst
    rcases hst with h | h
    · rw [hp] at h; cases h
    · exact h b2
  have hpen : ∀ w i, w < np → Pd fast n m g w i → (m.who w).pending = true := fun w i hw P => z.wait hw P.opn
  have hlet : ∀ w i, w < np → Pd fast n m g w i → ∀ s, s < n → M.let_ ⟨m.sites, m.people, m.letters.set j (got (m.let_ j)), m.events⟩ (g.B w + s) = m.let_ (g.B w + s) := fun w i hw P s hs2 => by
    rw [el, if_neg (hne w i hw P (hpen w i hw P) s hs2)]
  refine ⟨S.z z z.sg (fun s _ t h => h) (fun k hk h => ?_) (fun k hk h1 h2 => ?_) (fun k hk h => ?_) (fun w i hw P => ?_) (fun w i _ P => P.zero) (fun w i hw h P => ?_) (fun w i hw h P => ?_), S⟩
  · rw [(hf k).2.1, (hf k).2.2]
    rw [(hf k).1, (S.lf k).2.2.2] at h
    exact z.lg k hk h
  · rw [(S.lf k).2.2.1, (hf k).2.1]
    rw [(S.lf k).2.2.2] at h1
    rw [(hf k).1] at h2
    exact z.ls k hk h1 h2
  · rw [(hf k).1]
    rw [el] at h
    by_cases e : k = j
    · rw [e]; exact hd
    · rw [if_neg e] at h; exact z.rd k hk h
  · refine Eq.trans (P.rep) ?_
    congr 1
    refine List.countP_congr fun s hs2 => ?_
    rw [hlet w i hw P s (List.mem_range.1 hs2)]
  · have Q := P.qry h
    refine ⟨fun s hs2 hr => ?_, Q.good, low_up (m := m) (fun s _ t h => h) Q fun s hs2 => .inl ⟨(hf _).1, (hf _).2.1⟩⟩
    rw [hlet w i hw P s hs2] at hr ⊢
    exact Q.best s hs2 hr
  · have Q := P.sto h
    exact ⟨Q.tag, Q.good, fun s hs2 => by rw [(hf _).2.1]; exact Q.lets s hs2⟩
theorem countP_one {n s0 : Nat} {p q : Nat → Bool} (h0 : s0 < n) (hp : p s0 = false) (hq : q s0 = true) (h : ∀ s, s < n → s ≠ s0 → q s = p s) : (List.range n).countP q = (List.range n).countP p + 1 := by
  induction n with
  | zero => omega
  | succ n ih =>
    rw [List.range_succ, List.countP_append, List.countP_append, List.countP_singleton, List.countP_singleton]
    by_cases e : s0 = n
    · subst e
      rw [hp, hq]
      have : (List.range s0).countP q = (List.range s0).countP p := List.countP_congr fun s hs => by
        have := List.mem_range.1 hs
        rw [h s (by omega) (by omega)]
      rw [this]; simp
    · rw [ih (by omega) (fun s hs => h s (by omega)), h n (by omega) (fun z => e z.symm)]
      omega
/-- What came back and counts. -/
theorem z_got (z : Z N fast np n m g) {j : Nat} (hj : j < m.letters.length) (hd : (m.let_ j).delivered = true) (hr : (m.let_ j).received = false) (hp : (m.who (m.let_ j).who.toNat).pending = true) (hro : (m.let_ j).round = (m.who (m.let_ j).who.toNat).round) : Z N fast np n (gotM m j) g ∧ Same n m (gotM m j) := by
  have hlt := z.lt j hj
  have hpl := z.pl
  obtain ⟨w0, hw0⟩ : ∃ w : Nat, (m.let_ j).who = w := ⟨(m.let_ j).who.toNat, by omega⟩
  have hw0n : w0 < np := by omega
  have htn : (m.let_ j).who.toNat = w0 := by omega
  rw [htn] at hp hro
  have el : ∀ k, (gotM m j).let_ k = if k = j then got (m.let_ j) else m.let_ k := fun k => let_set hj
  have ew : ∀ v, (gotM m j).who v = if v = w0 then countP (m.who w0) (m.let_ j) else m.who v := fun v => by
    have : (gotM m j).people = m.people.set w0 (countP (m.who w0) (m.let_ j)) := by unfold gotM; rw [htn]
    show (gotM m j).people.getD v SitesProcess.z = _
    rw [this]; exact who_set (by omega)
  obtain ⟨c1, c2, c3, c4, c5⟩ := countP_eq (m.who w0) (m.let_ j)
  have c6 : (countP (m.who w0) (m.let_ j)).store = (m.who w0).store := by unfold countP; split <;> rfl
  have S : Same n m (gotM m j) := by
    refine ⟨by simp [gotM], rfl, rfl, by simp [gotM], fun k => ?_, fun w => ?_⟩
    · rw [el]; split
      · rename_i h; subst h; exact ⟨rfl, rfl, rfl, rfl⟩
      · exact ⟨rfl, rfl, rfl, rfl⟩
    · rw [ew]; split
      · rename_i h; subst h; exact ⟨c1, c2, c3, c6⟩
      · exact ⟨rfl, rfl, rfl, rfl⟩
  have hf : ∀ k, ((gotM m j).let_ k).delivered = (m.let_ k).delivered ∧ ((gotM m j).let_ k).tag = (m.let_ k).tag ∧ ((gotM m j).let_ k).value = (m.let_ k).value := fun k => by
    rw [el]; split
    · rename_i h; subst h; exact ⟨rfl, rfl, rfl⟩
    · exact ⟨rfl, rfl, rfl⟩
  obtain ⟨i0, P0⟩ := z.pend w0 hw0n hp
  have hown := P0.own j hj hw0 hro
  have hne : ∀ w i, w < np → w ≠ w0 → Pd fast n m g w i → ∀ s, s < n → g.B w + s ≠ j := fun w i hw hne P s hs2 e => by
    obtain ⟨b1, b2, _⟩ := P.bat.2 s hs2
    rw [e, hw0] at b1
    exact hne (by omega)
  refine ⟨S.z z z.sg (fun s _ t h => h) (fun k hk h => ?_) (fun k hk h1 h2 => ?_) (fun k hk h => ?_) (fun w i hw P => ?_) (fun w i hw P h0 h1 => ?_) (fun w i hw h P => ?_) (fun w i hw h P => ?_), S⟩
  · rw [(hf k).2.1, (hf k).2.2]
    rw [(hf k).1, (S.lf k).2.2.2] at h
    exact z.lg k hk h
  · rw [(S.lf k).2.2.1, (hf k).2.1]
    rw [(S.lf k).2.2.2] at h1
    rw [(hf k).1] at h2
    exact z.ls k hk h1 h2
  · rw [(hf k).1]
    rw [el] at h
    by_cases e : k = j
    · rw [e]; exact hd
    · rw [if_neg e] at h; exact z.rd k hk h
  · rw [ew]
    by_cases e : w = w0
    · subst e
      have ho := P.own j hj hw0 hro
      have hcn := countP_one (n := n) (s0 := j - g.B w) (p := fun s => (m.let_ (g.B w + s)).received) (q := fun s => ((gotM m j).let_ (g.B w + s)).received) (by omega) (by
        show (m.let_ (g.B w + (j - g.B w))).received = false
        rw [show g.B w + (j - g.B w) = j by omega]; exact hr) (by
        show ((gotM m j).let_ (g.B w + (j - g.B w))).received = true
        rw [show g.B w + (j - g.B w) = j by omega, el, if_pos rfl]; rfl) (fun s hs2 hs3 => by
        show ((gotM m j).let_ (g.B w + s)).received = (m.let_ (g.B w + s)).received
        rw [el, if_neg (by omega)])
      rw [if_pos rfl, c4, show (m.who w).replies = _ from P.rep, hcn]
      rfl
    · rw [if_neg e, show (m.who w).replies = _ from P.rep]
      congr 1
      refine List.countP_congr fun s hs2 => ?_
      rw [el, if_neg (hne w i hw e P s (List.mem_range.1 hs2))]
  · rw [(S.pf w).2.2.2] at h0
    rw [ew] at h1 ⊢
    by_cases e : w = w0
    · rw [if_pos e, c4] at h1
      have := P0.rep
      omega
    · rw [if_neg e] at h1 ⊢
      exact P.zero h0 h1
  · rw [(S.pf w).2.2.2] at h
    have Q := P.qry h
    have L := low_up (m := m) (m' := gotM m j) (fun s _ t h => h) Q fun s hs2 => .inl ⟨(hf _).1, (hf _).2.1⟩
    by_cases e : w = w0
    · subst e
      have hst : (m.let_ j).store = false := by
        have := P.own j hj hw0 hro
        have h2 := (P.bat.2 (j - g.B w) (by omega)).2.2.2
        rw [show g.B w + (j - g.B w) = j by omega, h] at h2
        exact h2
      have hcp : (countP (m.who w) (m.let_ j)).best = (if tlt (m.who w).best (m.let_ j).tag then (m.let_ j).tag else (m.who w).best) ∧ (countP (m.who w) (m.let_ j)).value = (if tlt (m.who w).best (m.let_ j).tag then (m.let_ j).value else (m.who w).value) := by
        unfold countP
        by_cases ht : tlt (m.who w).best (m.let_ j).tag
        · rw [if_pos ⟨hst, ht⟩, if_pos ht, if_pos ht]; exact ⟨rfl, rfl⟩
        · rw [if_neg (fun e => ht e.2), if_neg ht, if_neg ht]; exact ⟨rfl, rfl⟩
      refine ⟨fun s hs2 hr2 => ?_, fun hr1 => ?_, L⟩
      · rw [(hf _).2.1, ew, if_pos rfl, hcp.1]
        rw [el] at hr2
        by_cases e2 : g.B w + s = j
        · rw [e2]
          split
          · unfold tlt; omega
          · assumption
        · rw [if_neg e2] at hr2
          have hb := Q.best s hs2 hr2
          split
          · rename_i ht; unfold tlt at *; omega
          · exact hb
      · rw [ew, if_pos rfl, hcp.1, hcp.2]
        by_cases ht : tlt (m.who w).best (m.let_ j).tag
        · rw [if_pos ht, if_pos ht]; exact z.lg j hj (.inl hd)
        · rw [if_neg ht, if_neg ht]
          refine Q.good ?_
          apply Classical.byContradiction
          intro h0
          have := P.rep
          have hz : (m.who w).replies = 0 := by omega
          have hb := z.lg j hj (.inl hd)
          exact absurd (P.zero h hz) fun hb0 => ht (by
            rw [hb0]
            rcases hb with ⟨e1, _⟩ | ⟨i, hi, h1, h2, h3, _⟩
            · rw [e1]; unfold tlt; simp
            · have := (z.tw i hi h1 h2).2
              rw [← h3]; unfold tlt; left; simp only; omega)
    · refine ⟨fun s hs2 hr2 => ?_, ?_, L⟩
      · rw [(hf _).2.1, ew, if_neg e]
        rw [el, if_neg (hne w i hw e P s hs2)] at hr2
        exact Q.best s hs2 hr2
      · rw [ew, if_neg e]; exact Q.good
  · rw [(S.pf w).2.2.2] at h
    have Q := P.sto h
    have eb : ((gotM m j).who w).best = (m.who w).best ∧ ((gotM m j).who w).value = (m.who w).value := by
      rw [ew]
      split
      · rename_i e
        subst e
        have hst : (m.let_ j).store = true := by
          have := P.own j hj hw0 hro
          have h2 := (P.bat.2 (j - g.B w) (by omega)).2.2.2
          rw [show g.B w + (j - g.B w) = j by omega, h] at h2
          exact h2
        unfold countP
        rw [if_neg (fun e => by rw [hst] at e; cases e.1)]
        exact ⟨rfl, rfl⟩
      · exact ⟨rfl, rfl⟩
    refine ⟨by rw [eb.1]; exact Q.tag, by rw [eb.1, eb.2]; exact Q.good, fun s hs2 => by rw [(hf _).2.1, eb.1]; exact Q.lets s hs2⟩
end
end Si

end Go.Proofs.Yteklmleiiiodfaa
