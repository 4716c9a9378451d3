/- Sites, plainly: acts. -/
import Derived.Test.YteklmleiiiodfaaE2
import Derived.Test.YteklmleiiiodfaaPl
set_option linter.unusedVariables false
set_option linter.unusedSimpArgs false
set_option linter.unusedSectionVars false
set_option maxRecDepth 100000
namespace Go.Proofs.Yteklmleiiiodfaa
open Go.RowKit
namespace Si
structure M where
  sites : List Site
  people : List SitesProcess
  letters : List SitesLetter
  events : List Event
def M.who (m : M) (w : Nat) : SitesProcess := m.people.getD w SitesProcess.z
def M.let_ (m : M) (i : Nat) : SitesLetter := m.letters.getD i SitesLetter.z
def M.site (m : M) (i : Nat) : Site := m.sites.getD i Site.z
/-- Is the first tag less? -/
def tlt (a b : SitesTag) : Prop := a.stamp < b.stamp ∨ (a.stamp = b.stamp ∧ a.who < b.who)
instance (a b : SitesTag) : Decidable (tlt a b) := by unfold tlt; infer_instance
def startP (p : SitesProcess) (store : Bool) (t : SitesTag) (v : Int) : SitesProcess := ⟨p.program, p.pending, p.round + 1, store, 0, if store then t else ⟨-1, -1⟩, if store then v else 0⟩
def batch (n : Nat) (who round : Int) (store : Bool) (t : SitesTag) (v : Int) : List SitesLetter := (List.range n).map fun (s : Nat) => ⟨who, round, (s : Int), store, t, v, false, false⟩
def start (m : M) (w : Nat) (store : Bool) (t : SitesTag) (v : Int) : M := ⟨m.sites, m.people.set w (startP (m.who w) store t v), m.letters ++ batch m.sites.length w ((m.who w).round + 1) store t v, m.events⟩
def pendP (p : SitesProcess) : SitesProcess := ⟨p.program, true, p.round, p.store, p.replies, p.best, p.value⟩
def call (m : M) (w : Nat) : M := match (m.who w).program with
  | [] => m
  | a :: _ => if (m.who w).pending = true then m else start ⟨m.sites, m.people.set w (pendP (m.who w)), m.letters, m.events ++ [⟨w, 0, a.kind, a.arg⟩]⟩ w false ⟨0, 0⟩ 0
def answered (l : SitesLetter) (t : SitesTag) (v : Int) : SitesLetter := ⟨l.who, l.round, l.site, l.store, t, v, true, l.received⟩
def hand (m : M) (i : Int) : M :=
  if 0 ≤ i ∧ i < m.letters.length then
    if (m.let_ i.toNat).delivered = true ∨ (m.site (m.let_ i.toNat).site.toNat).down = true then m
    else if (m.let_ i.toNat).store = false then { m with letters := m.letters.set i.toNat (answered (m.let_ i.toNat) ⟨(m.site (m.let_ i.toNat).site.toNat).stamp, (m.site (m.let_ i.toNat).site.toNat).who⟩ (m.site (m.let_ i.toNat).site.toNat).value) }
    else if tlt ⟨(m.site (m.let_ i.toNat).site.toNat).stamp, (m.site (m.let_ i.toNat).site.toNat).who⟩ (m.let_ i.toNat).tag then { m with sites := m.sites.set (m.let_ i.toNat).site.toNat ⟨(m.let_ i.toNat).tag.stamp, (m.let_ i.toNat).tag.who, (m.let_ i.toNat).value, (m.site (m.let_ i.toNat).site.toNat).down⟩, letters := m.letters.set i.toNat (answered (m.let_ i.toNat) (m.let_ i.toNat).tag (m.let_ i.toNat).value) }
    else { m with letters := m.letters.set i.toNat (answered (m.let_ i.toNat) (m.let_ i.toNat).tag (m.let_ i.toNat).value) }
  else m
def doneP (p : SitesProcess) : SitesProcess := ⟨p.program.drop 1, false, p.round + 1, p.store, p.replies, p.best, p.value⟩
def respond (m : M) (w : Nat) (res : Int) : M := { m with people := m.people.set w (doneP (m.who w)), events := m.events ++ [⟨w, 0, 0, res⟩] }
def next (fast : Bool) (m : M) (w : Nat) : M := match (m.who w).program with
  | [] => m
  | a :: _ =>
    if (m.who w).store = true ∧ a.kind = 1 then respond m w 0
    else if (m.who w).store = true ∨ (a.kind ≠ 1 ∧ fast = true) then respond m w (m.who w).value
    else if a.kind = 1 then start m w true ⟨(m.who w).best.stamp + 1, w⟩ a.arg
    else start m w true (m.who w).best (m.who w).value
def got (l : SitesLetter) : SitesLetter := ⟨l.who, l.round, l.site, l.store, l.tag, l.value, l.delivered, true⟩
def countP (p : SitesProcess) (l : SitesLetter) : SitesProcess :=
  if l.store = false ∧ tlt p.best l.tag then ⟨p.program, p.pending, p.round, p.store, p.replies + 1, l.tag, l.value⟩ else ⟨p.program, p.pending, p.round, p.store, p.replies + 1, p.best, p.value⟩
def back (fast : Bool) (m : M) (i : Int) : M :=
  if 0 ≤ i ∧ i < m.letters.length then
    if (m.let_ i.toNat).delivered = false ∨ (m.let_ i.toNat).received = true then m
    else if (m.who (m.let_ i.toNat).who.toNat).pending = false ∨ (m.let_ i.toNat).round ≠ (m.who (m.let_ i.toNat).who.toNat).round then { m with letters := m.letters.set i.toNat (got (m.let_ i.toNat)) }
    else if (m.sites.length : Int) < 2 * ((m.who (m.let_ i.toNat).who.toNat).replies + 1) then next fast ⟨m.sites, m.people.set (m.let_ i.toNat).who.toNat (countP (m.who (m.let_ i.toNat).who.toNat) (m.let_ i.toNat)), m.letters.set i.toNat (got (m.let_ i.toNat)), m.events⟩ (m.let_ i.toNat).who.toNat
    else ⟨m.sites, m.people.set (m.let_ i.toNat).who.toNat (countP (m.who (m.let_ i.toNat).who.toNat) (m.let_ i.toNat)), m.letters.set i.toNat (got (m.let_ i.toNat)), m.events⟩
  else m
def down (m : M) (i : Nat) : M := { m with sites := m.sites.set i ⟨(m.site i).stamp, (m.site i).who, (m.site i).value, true⟩ }
def act (fast : Bool) (m : M) (a : Act) : M := if a.kind = 1 then call m a.a.toNat else if a.kind = 2 then hand m a.a else if a.kind = 3 then back fast m a.a else down m a.a.toNat

/-- What holds behind so many acts. -/
structure Inv (np n k : Nat) (m : M) : Prop where
  sl : m.sites.length = n
  pl : m.people.length = np
  pend : ∀ p ∈ m.people, p.pending = true → p.program ≠ []
  rnd : ∀ p ∈ m.people, (0 ≤ p.round ∧ p.round ≤ k) ∧ (0 ≤ p.replies ∧ p.replies ≤ k) ∧ (-1 ≤ p.best.stamp ∧ p.best.stamp ≤ k)
  lt : ∀ l ∈ m.letters, (0 ≤ l.who ∧ l.who < np) ∧ (0 ≤ l.site ∧ l.site < n) ∧ (-1 ≤ l.tag.stamp ∧ l.tag.stamp ≤ k)
  st : ∀ s ∈ m.sites, -1 ≤ s.stamp ∧ s.stamp ≤ k
  ll : m.letters.length ≤ 5 * k
  ev : m.events.length ≤ k
theorem mem_set {α : Type} {l : List α} {i : Nat} {a x : α} (h : x ∈ l.set i a) : x = a ∨ x ∈ l := by
  rcases List.mem_or_eq_of_mem_set h with h | h
  · exact .inr h
  · exact .inl h
theorem mem_getD {α : Type} {l : List α} {i : Nat} {d : α} (h : i < l.length) : l.getD i d ∈ l := by rw [getD_of h]; exact List.getElem_mem h
theorem Inv.later {np n k : Nat} {m : M} (h : Inv np n k m) : Inv np n (k + 1) m :=
  ⟨h.sl, h.pl, h.pend, fun p hp => by have := h.rnd p hp; omega, fun l hl => by have := h.lt l hl; omega, fun s hs => by have := h.st s hs; omega, by have := h.ll; omega, by have := h.ev; omega⟩
theorem ixg {α : Type} {l : List α} {i : Nat} (d : α) (h : i < l.length) : ix l (i : Int) = some (l.getD i d) := by rw [ix_of h, getD_of h]
theorem ixs {α : Type} {l : List α} {i : Nat} {a : α} (h : i < l.length) : ix (l.set i a) (i : Int) = some a := by rw [ix_nat, List.getElem?_set_self h]
theorem compare_ok {N : Nat} (hN : 300 < N) (a b : SitesTag) : ∃ r, sites_compare N a b = some r ∧ (0 < r ↔ tlt b a) := by
  have hc : ∀ x y : Int, cmp_Compare_int N x y = some (if x < y then -1 else if y < x then 1 else 0) := by
    intro x y
    unfold cmp_Compare_int cmp_isNaN_int
    by_cases h1 : x < y
    · simp [bd, h1]
    · by_cases h2 : y < x
      · simp [bd, h1, h2]
      · simp [bd, h1, h2]
  have ho : ∀ x y : Int, cmp_Or_int N [x, y] = some (if x ≠ 0 then x else y) := by
    intro x y
    obtain ⟨K, rfl⟩ : ∃ K, N = K + 3 := ⟨N - 3, by omega⟩
    unfold cmp_Or_int
    by_cases h1 : x = 0
    · subst h1
      by_cases h2 : y = 0
      · subst h2
        simp [iter, cmp_Or_int_L3, ix, bd, ck, ok64]
      · simp [iter, cmp_Or_int_L3, ix, bd, ck, ok64, h2]
    · simp [iter, cmp_Or_int_L3, ix, bd, h1]
  unfold sites_compare
  rw [hc, hc]
  simp only [bd_some]
  rw [ho]
  refine ⟨_, rfl, ?_⟩
  unfold tlt
  by_cases h1 : a.stamp < b.stamp
  · simp [h1]; try omega
  · by_cases h2 : b.stamp < a.stamp
    · simp [h1, h2]
    · simp only [h1, h2, if_false]
      by_cases h3 : a.who < b.who
      · simp [h3]; try omega
      · by_cases h4 : b.who < a.who
        · simp [h3, h4]; try omega
        · simp [h3, h4]; try omega
theorem start_ok {N : Nat} (hN : 300 < N) (fast : Bool) {m : M} {w : Nat} (hw : w < m.people.length) (hs : m.sites.length ≤ 5) (hl : m.letters.length ≤ 100000) (hr : 0 ≤ (m.who w).round ∧ (m.who w).round ≤ 100000) (ev : List Event) (store : Bool) (t : SitesTag) (v : Int) :
    sites_net_start N fast m.sites m.people m.letters ev w store t v = some ((start m w store t v).people, (start m w store t v).letters) := by
  unfold sites_net_start
  rw [ixg SitesProcess.z hw, bd_some]
  change ck (ok64 ((m.who w).round + 1)) _ = _
  rw [ck64 (by omega)]
  have hc : ∀ (b : Bool) (x y : List SitesProcess), (bif b then some x else some y) = some (bif b then x else y) := fun b x y => by cases b <;> rfl
  have hb : ∀ P : List SitesProcess, P = m.people.set w (startP (m.who w) store t v) → (iter (sites_net_start_L1 N m.sites P (w : Int) store t v) N (m.letters, 0)) = some (P, m.letters ++ batch m.sites.length w ((m.who w).round + 1) store t v) := by
    rintro P rfl
    refine Wp.eq (.iter m.sites.length (fun k st => st = (m.letters ++ batch k w ((m.who w).round + 1) store t v, (k : Int))) (by omega) (by simp [batch]) ?_ ?_)
    · rintro k st hk rfl
      simp only [sites_net_start_L1]
      refine .condT (decide_eq_true (by omega)) (.bdO (ixs (by simpa using hw)) (.ck (limB_of ⟨?_, ?_⟩) (.ck64 (by omega) (.one ?_))))
      · simp [batch]; exact Nat.le_trans (m := 200000) (by omega) (by unfold maxLen; decide)
      · simp [batch]; omega
      · refine Prod.ext ?_ (by simp)
        show _ = m.letters ++ batch (k + 1) w ((m.who w).round + 1) store t v
        unfold batch
        rw [List.range_succ, List.map_append, ← List.append_assoc]
        rfl
    · rintro st rfl
      simp only [sites_net_start_L1]
      exact .condF (decide_eq_false (by omega)) (.one rfl)
  cases store with
  | true =>
    simp only [cond_true, bd_some]
    rw [hb _ (by simp [List.set_set, startP, M.who])]
    simp [bd, start, List.set_set, startP, M.who]
  | false =>
    simp only [cond_false, bd_some]
    rw [hb _ (by simp [List.set_set, startP, M.who])]
    simp [bd, start, List.set_set, startP, M.who]
theorem batch_mem {n : Nat} {w r : Int} {store : Bool} {t : SitesTag} {v : Int} {l : SitesLetter} (h : l ∈ batch n w r store t v) : l.who = w ∧ l.round = r ∧ (0 ≤ l.site ∧ l.site < n) ∧ l.store = store ∧ l.tag = t ∧ l.value = v ∧ l.delivered = false ∧ l.received = false := by
  obtain ⟨s, hs, rfl⟩ := List.mem_map.1 h
  have := List.mem_range.1 hs
  exact ⟨rfl, rfl, ⟨by simp, by simp only; omega⟩, rfl, rfl, rfl, rfl, rfl⟩
theorem start_inv {np n k : Nat} {m : M} (h : Inv np n k m) (hn : n ≤ 5) {w : Nat} (hw : w < np) {store : Bool} {t : SitesTag} {v : Int} (ht : -1 ≤ t.stamp ∧ t.stamp ≤ k + 1) : Inv np n (k + 1) (start m w store t v) := by
  have hpl := h.pl
  have hm := mem_getD (d := SitesProcess.z) (show w < m.people.length by omega)
  have hr := h.rnd _ hm
  have hp := h.pend _ hm
  have hl := h.later
  have hll := h.ll
  refine ⟨h.sl, by simpa [start] using hpl, fun p hp' => ?_, fun p hp' => ?_, fun l hl' => ?_, hl.st, ?_, hl.ev⟩
  · rcases mem_set hp' with rfl | hp'
    · exact hp
    · exact h.pend p hp'
  · rcases mem_set hp' with rfl | hp'
    · unfold startP M.who
      refine ⟨by simp only; omega, by simp only; omega, ?_⟩
      cases store
      · simp only [Bool.false_eq_true, if_false]; omega
      · simp only [if_true]; omega
    · exact hl.rnd p hp'
  · rcases List.mem_append.1 hl' with hl' | hl'
    · exact hl.lt l hl'
    · obtain ⟨e1, _, e2, _, e3, _⟩ := batch_mem hl'
      have := h.sl
      rw [e1, e3]
      omega
  · have := h.sl
    show (m.letters ++ batch _ _ _ _ _ _).length ≤ _
    rw [List.length_append]
    simp only [batch, List.length_map, List.length_range]
    omega
theorem call_ok {N : Nat} (hN : 300 < N) (fast : Bool) {np n k : Nat} {m : M} (h : Inv np n k m) (hn : n ≤ 5) (hk : k ≤ 2600) {w : Nat} (hw : w < np) :
    sites_net_call N fast m.sites m.people m.letters m.events w = some ((call m w).people, (call m w).letters, (call m w).events) ∧ Inv np n (k + 1) (call m w) ∧ (call m w).sites = m.sites ∧ ∃ e, (call m w).events = m.events ++ e ∧ e.length ≤ 1 ∧ ∀ x ∈ e, x.kind ∈ (m.who w).program.map (·.kind) := by
  have hpl := h.pl
  have hw' : w < m.people.length := by omega
  have hm := mem_getD (d := SitesProcess.z) hw'
  have hr := h.rnd _ hm
  have hp := h.pend _ hm
  have hev := h.ev
  have hll := h.ll
  have hsl := h.sl
  unfold sites_net_call call
  rw [ixg SitesProcess.z hw', bd_some]
  have hwp : m.people.getD w SitesProcess.z = m.who w := rfl
  rw [hwp] at hr hp ⊢
  cases hprog : (m.who w).program with
  | nil =>
    simp only [List.length_nil, Bool.or_true, Int.natCast_zero, decide_true, cond_true]
    exact ⟨trivial, h.later, trivial, [], by simp⟩
  | cons a rest =>
    have e0 : decide (((a :: rest : List Ask).length : Int) = 0) = false := decide_eq_false (by simp; omega)
    rw [e0, Bool.or_false]
    cases hpe : (m.who w).pending with
    | true =>
      simp only [cond_true, if_true]
      exact ⟨trivial, h.later, trivial, [], by simp⟩
    | false =>
      simp only [cond_false, Bool.false_eq_true, if_false]
      have e1 : ix (a :: rest) 0 = some a := rfl
      have key : ∀ m1 : M, m1 = ⟨m.sites, m.people.set w (pendP (m.who w)), m.letters, m.events ++ [⟨w, 0, a.kind, a.arg⟩]⟩ → Inv np n k ⟨m1.sites, m1.people, m1.letters, m.events⟩ ∧ (m1.who w) = pendP (m.who w) := by
        rintro m1 rfl
        refine ⟨⟨h.sl, by simpa using hpl, fun p hp' => ?_, fun p hp' => ?_, h.lt, h.st, h.ll, h.ev⟩, ?_⟩
        · rcases mem_set hp' with rfl | hp'
          · intro _; simp [pendP, hprog]
          · exact h.pend p hp'
        · rcases mem_set hp' with rfl | hp'
          · exact hr
          · exact h.rnd p hp'
        · unfold M.who; simp [hw']
      obtain ⟨hi1, hw1⟩ := key _ rfl
      rw [Int.toNat_natCast]
      have hs := start_ok hN fast (m := ⟨m.sites, m.people.set w (pendP (m.who w)), m.letters, m.events ++ [⟨w, 0, a.kind, a.arg⟩]⟩) (w := w) (by simpa using hw') (by simp only; omega) (by simp only; omega) (by rw [hw1]; unfold pendP; simp only; omega) (m.events ++ [⟨w, 0, a.kind, a.arg⟩]) false ⟨0, 0⟩ 0
      refine ⟨?_, ?_, rfl, ⟨_, rfl, by simp, by simp⟩⟩
      · rw [e1, bd_some, ckL (by simp; omega) (by simp; omega)]
        have e2 : (SitesProcess.mk (a :: rest) true (m.who w).round (m.who w).store (m.who w).replies (m.who w).best (m.who w).value) = pendP (m.who w) := by unfold pendP; rw [hprog]
        dsimp only at hs
        rw [e2, hs]
        rfl
      · have hi2 := start_inv hi1 hn hw (store := false) (t := ⟨0, 0⟩) (v := 0) (by simp only; omega)
        exact ⟨hi2.sl, hi2.pl, hi2.pend, hi2.rnd, hi2.lt, hi2.st, hi2.ll, by show (m.events ++ [_]).length ≤ _; simp; omega⟩
theorem hand_ok {N : Nat} (hN : 300 < N) (fast : Bool) {np n k : Nat} {m : M} (h : Inv np n k m) (i : Int) :
    sites_net_hand N fast m.sites m.people m.letters m.events i = some ((hand m i).sites, (hand m i).letters) ∧ Inv np n (k + 1) (hand m i) ∧ (hand m i).people = m.people ∧ (hand m i).events = m.events := by
  unfold sites_net_hand hand
  by_cases hi : 0 ≤ i ∧ i < m.letters.length
  rotate_left
  · rw [if_neg hi]
    have e : (decide (i < 0) || decide ((m.letters.length : Int) ≤ i)) = true := by simp; omega
    rw [e]
    exact ⟨rfl, h.later, rfl, rfl⟩
  rw [if_pos hi]
  have e : (decide (i < 0) || decide ((m.letters.length : Int) ≤ i)) = false := by simp; omega
  rw [e, cond_false]
  obtain ⟨j, rfl⟩ : ∃ j : Nat, i = j := ⟨i.toNat, by omega⟩
  have hj : j < m.letters.length := by omega
  simp only [Int.toNat_natCast]
  rw [ixg SitesLetter.z hj, bd_some]
  have hm := mem_getD (d := SitesLetter.z) hj
  have hl := h.lt _ hm
  have hlj : m.letters.getD j SitesLetter.z = m.let_ j := rfl
  rw [hlj] at hl hm ⊢
  generalize m.let_ j = l at hl hm ⊢
  have hsl := h.sl
  obtain ⟨q, hq⟩ : ∃ q : Nat, l.site = q := ⟨l.site.toNat, by omega⟩
  have hqn : q < m.sites.length := by omega
  rw [hq, ixg Site.z hqn, bd_some, Int.toNat_natCast]
  have hms := mem_getD (d := Site.z) hqn
  have hst := h.st _ hms
  have hsq : m.sites.getD q Site.z = m.site q := rfl
  rw [hsq] at hst hms ⊢
  generalize m.site q = s at hst hms ⊢
  by_cases hd : l.delivered = true ∨ s.down = true
  · rw [if_pos hd]
    have : (l.delivered || s.down) = true := by simpa using hd
    rw [this]
    exact ⟨rfl, h.later, rfl, rfl⟩
  rw [if_neg hd]
  have e2 : (l.delivered || s.down) = false := by simpa using hd
  rw [e2, cond_false]
  have hL := h.later
  have keep : ∀ (t : SitesTag) (v : Int), (-1 ≤ t.stamp ∧ t.stamp ≤ (k : Int)) → ∀ S : List Site, S.length = n → (∀ s ∈ S, -1 ≤ s.stamp ∧ s.stamp ≤ k) → Inv np n (k + 1) ⟨S, m.people, m.letters.set j (answered l t v), m.events⟩ := by
    intro t v ht S hS hS2
    refine ⟨hS, h.pl, h.pend, hL.rnd, fun x hx => ?_, fun s hs => by have := hS2 s hs; omega, by simpa using hL.ll, hL.ev⟩
    rcases mem_set hx with rfl | hx
    · unfold answered; simp only; omega
    · exact hL.lt x hx
  cases hsto : l.store with
  | false =>
    rw [if_pos rfl]
    refine ⟨?_, keep _ _ hst _ h.sl h.st, rfl, rfl⟩
    simp [answered, hq, hsto]
  | true =>
    rw [if_neg (by simp)]
    simp only [Bool.not_true, cond_false]
    obtain ⟨r, hr, hr2⟩ := compare_ok hN l.tag ⟨s.stamp, s.who⟩
    rw [hr, bd_some]
    by_cases ht : tlt ⟨s.stamp, s.who⟩ l.tag
    · rw [if_pos ht, decide_eq_true (hr2.2 ht), cond_true]
      refine ⟨?_, keep _ _ (by omega) _ (by simpa using h.sl) (fun x hx => ?_), rfl, rfl⟩
      · simp [answered, hq, hsto]
      · rcases mem_set hx with rfl | hx
        · simp only; omega
        · exact h.st x hx
    · rw [if_neg ht, decide_eq_false (fun h => ht (hr2.1 h)), cond_false]
      refine ⟨?_, keep _ _ (by omega) _ h.sl h.st, rfl, rfl⟩
      simp [answered, hq, hsto]
theorem next_ok {N : Nat} (hN : 300 < N) (fast : Bool) {np n k : Nat} {m : M} (h : Inv np n k ⟨m.sites, m.people, m.letters, m.events⟩) (hn : n ≤ 5) (hk : k ≤ 2600) {w : Nat} (hw : w < np) (hp : (m.who w).program ≠ []) :
    sites_net_next N fast m.sites m.people m.letters m.events w = some ((next fast m w).people, (next fast m w).letters, (next fast m w).events) ∧ Inv np n (k + 1) (next fast m w) ∧ (next fast m w).sites = m.sites ∧ ∃ e, (next fast m w).events = m.events ++ e ∧ e.length ≤ 1 := by
  have hpl := h.pl
  have hw' : w < m.people.length := by simpa using (by simp only at hpl; omega)
  have hm := mem_getD (d := SitesProcess.z) hw'
  have hr := h.rnd _ hm
  have hev : m.events.length ≤ k := h.ev
  have hll : m.letters.length ≤ 5 * k := h.ll
  have hsl : m.sites.length = n := h.sl
  have hwp : m.people.getD w SitesProcess.z = m.who w := rfl
  rw [hwp] at hr
  have hL := h.later
  have resp : ∀ res, (sites_net_respond N fast m.sites m.people m.letters m.events w res = some (respond m w res).people) ∧ Inv np n (k + 1) (respond m w res) := by
    intro res
    unfold sites_net_respond
    rw [ixg SitesProcess.z hw', bd_some, hwp, ckL (by simp; omega) (by simp; omega), ck64 (by omega)]
    have e2 : slB (m.who w).program.length 1 ((m.who w).program.length : Int) = true := by
      cases hq : (m.who w).program with
      | nil => exact (hp hq).elim
      | cons a r => simp [slB]; omega
    rw [ck_of e2]
    refine ⟨by simp [respond, doneP, List.set_set], hL.sl, by simpa [respond] using hpl, fun p hp' => ?_, fun p hp' => ?_, hL.lt, hL.st, hL.ll, by show (m.events ++ [_]).length ≤ _; simp; omega⟩
    · rcases mem_set hp' with rfl | hp'
      · intro e; cases e
      · exact h.pend p hp'
    · rcases mem_set hp' with rfl | hp'
      · unfold doneP; simp only; omega
      · exact hL.rnd p hp'
  have strt : ∀ (t : SitesTag) (v : Int), (-1 ≤ t.stamp ∧ t.stamp ≤ (k : Int) + 1) → sites_net_start N fast m.sites m.people m.letters m.events w true t v = some ((start m w true t v).people, (start m w true t v).letters) ∧ Inv np n (k + 1) (start m w true t v) := by
    intro t v ht
    exact ⟨start_ok hN fast hw' (by omega) (by omega) (by omega) _ _ _ _, start_inv h hn hw ht⟩
  unfold sites_net_next Si.next
  rw [ixg SitesProcess.z hw', bd_some, hwp]
  cases hq : (m.who w).program with
  | nil => exact (hp hq).elim
  | cons a rest =>
    have e1 : ix (a :: rest) 0 = some a := rfl
    simp only
    rw [e1, bd_some]
    by_cases hs : (m.who w).store = true
    · by_cases ha : a.kind = 1
      · rw [if_pos ⟨hs, ha⟩, hs, decide_eq_true ha]
        obtain ⟨h1, h2⟩ := resp 0
        rw [h1]
        exact ⟨rfl, h2, rfl, _, rfl, by simp⟩
      · rw [if_neg (fun e => ha e.2), if_pos (.inl hs), hs, decide_eq_false ha]
        obtain ⟨h1, h2⟩ := resp (m.who w).value
        rw [h1]
        exact ⟨rfl, h2, rfl, _, rfl, by simp⟩
    · have hs' : (m.who w).store = false := by simpa using hs
      rw [if_neg (fun e => hs e.1), hs']
      by_cases ha : a.kind = 1
      · rw [if_neg (by rintro (e | e); exact absurd e (by simp); exact e.1 ha), if_pos ha, decide_eq_true ha]
        obtain ⟨h1, h2⟩ := strt ⟨(m.who w).best.stamp + 1, w⟩ a.arg (by simp only; omega)
        simp only [Bool.false_and, cond_false, Bool.not_true, Bool.or_self, cond_true]
        rw [ck64 (by omega), h1]
        exact ⟨rfl, h2, rfl, [], by simp [start]⟩
      · cases fast with
        | true =>
          rw [if_pos (.inr ⟨ha, rfl⟩), decide_eq_false ha]
          obtain ⟨h1, h2⟩ := resp (m.who w).value
          simp only [Bool.false_and, cond_false, Bool.not_false, Bool.and_self, Bool.or_true, cond_true]
          rw [h1]
          exact ⟨rfl, h2, rfl, _, rfl, by simp⟩
        | false =>
          rw [if_neg (by rintro (e | e); exact absurd e (by simp); exact absurd e.2 (by simp)), if_neg ha, decide_eq_false ha]
          obtain ⟨h1, h2⟩ := strt (m.who w).best (m.who w).value (by omega)
          simp only [Bool.false_and, cond_false, Bool.not_false, Bool.and_false, Bool.or_self]
          rw [h1]
          exact ⟨rfl, h2, rfl, [], by simp [start]⟩
theorem countP_eq (p : SitesProcess) (l : SitesLetter) : (countP p l).program = p.program ∧ (countP p l).pending = p.pending ∧ (countP p l).round = p.round ∧ (countP p l).replies = p.replies + 1 ∧ ((countP p l).best = p.best ∨ (countP p l).best = l.tag) := by
  unfold countP
  split
  · exact ⟨rfl, rfl, rfl, rfl, .inr rfl⟩
  · exact ⟨rfl, rfl, rfl, rfl, .inl rfl⟩
/-- One that came back. -/
def gotM (m : M) (j : Nat) : M := ⟨m.sites, m.people.set (m.let_ j).who.toNat (countP (m.who (m.let_ j).who.toNat) (m.let_ j)), m.letters.set j (got (m.let_ j)), m.events⟩
theorem got_inv {np n k : Nat} {m : M} (h : Inv np n k m) {j : Nat} (hj : j < m.letters.length) : Inv np n (k + 1) { m with letters := m.letters.set j (got (m.let_ j)) } ∧ Inv np n (k + 1) (gotM m j) ∧ (gotM m j).who (m.let_ j).who.toNat = countP (m.who (m.let_ j).who.toNat) (m.let_ j) := by
  have hm := mem_getD (d := SitesLetter.z) hj
  have hl := h.lt _ hm
  have hlj : m.letters.getD j SitesLetter.z = m.let_ j := rfl
  rw [hlj] at hl hm
  unfold gotM
  generalize m.let_ j = l at hl hm ⊢
  have hpl := h.pl
  obtain ⟨w, hw⟩ : ∃ w : Nat, l.who = w := ⟨l.who.toNat, by omega⟩
  have hwn : w < m.people.length := by omega
  have hmp := mem_getD (d := SitesProcess.z) hwn
  have hr := h.rnd _ hmp
  have hpe := h.pend _ hmp
  have hwp : m.people.getD w SitesProcess.z = m.who w := rfl
  rw [hw, Int.toNat_natCast]
  rw [hwp] at hr hpe
  have hL := h.later
  have hlet : ∀ x ∈ m.letters.set j (got l), (0 ≤ x.who ∧ x.who < np) ∧ (0 ≤ x.site ∧ x.site < n) ∧ (-1 ≤ x.tag.stamp ∧ x.tag.stamp ≤ ((k + 1 : Nat) : Int)) := by
    intro x hx
    rcases mem_set hx with rfl | hx
    · unfold got; simp only; omega
    · have := h.lt x hx; omega
  obtain ⟨c1, c2, c3, c4, c5⟩ := countP_eq (m.who w) l
  refine ⟨⟨hL.sl, hL.pl, hL.pend, hL.rnd, hlet, hL.st, by simpa using hL.ll, hL.ev⟩, ⟨hL.sl, by simpa using hL.pl, fun p hp' => ?_, fun p hp' => ?_, hlet, hL.st, by simpa using hL.ll, hL.ev⟩, by unfold M.who; simp [hwn]⟩
  · rcases mem_set hp' with rfl | hp'
    · rw [c1, c2]; exact hpe
    · exact h.pend p hp'
  · rcases mem_set hp' with rfl | hp'
    · rw [c3, c4]
      rcases c5 with e | e <;> rw [e] <;> omega
    · exact hL.rnd p hp'
theorem back_eq (fast : Bool) (m : M) (i : Int) : back fast m i = if 0 ≤ i ∧ i < m.letters.length then
    if (m.let_ i.toNat).delivered = false ∨ (m.let_ i.toNat).received = true then m
    else if (m.who (m.let_ i.toNat).who.toNat).pending = false ∨ (m.let_ i.toNat).round ≠ (m.who (m.let_ i.toNat).who.toNat).round then { m with letters := m.letters.set i.toNat (got (m.let_ i.toNat)) }
    else if (m.sites.length : Int) < 2 * ((m.who (m.let_ i.toNat).who.toNat).replies + 1) then Si.next fast (gotM m i.toNat) (m.let_ i.toNat).who.toNat
    else gotM m i.toNat
  else m := rfl
theorem back_ok {N : Nat} (hN : 300 < N) (fast : Bool) {np n k : Nat} {m : M} (h : Inv np n k m) (hn : n ≤ 5) (hk : k ≤ 2500) (i : Int) :
    sites_net_back N fast m.sites m.people m.letters m.events i = some ((back fast m i).people, (back fast m i).letters, (back fast m i).events) ∧ Inv np n (k + 2) (back fast m i) ∧ (back fast m i).sites = m.sites ∧ ∃ e, (back fast m i).events = m.events ++ e ∧ e.length ≤ 1 := by
  rw [back_eq]
  unfold sites_net_back
  by_cases hi : 0 ≤ i ∧ i < m.letters.length
  rotate_left
  · rw [if_neg hi]
    have e : (decide (i < 0) || decide ((m.letters.length : Int) ≤ i)) = true := by simp; omega
    rw [e]
    exact ⟨rfl, h.later.later, rfl, [], by simp⟩
  rw [if_pos hi]
  have e : (decide (i < 0) || decide ((m.letters.length : Int) ≤ i)) = false := by simp; omega
  rw [e, cond_false]
  obtain ⟨j, rfl⟩ : ∃ j : Nat, i = j := ⟨i.toNat, by omega⟩
  have hj : j < m.letters.length := by omega
  simp only [Int.toNat_natCast]
  rw [ixg SitesLetter.z hj, bd_some]
  obtain ⟨g1, g2, g3⟩ := got_inv h hj
  have hm := mem_getD (d := SitesLetter.z) hj
  have hl := h.lt _ hm
  have hlj : m.letters.getD j SitesLetter.z = m.let_ j := rfl
  rw [hlj] at hl hm ⊢
  by_cases hd : (m.let_ j).delivered = false ∨ (m.let_ j).received = true
  · rw [if_pos hd]
    have : (!(m.let_ j).delivered || (m.let_ j).received) = true := by simpa using hd
    rw [this]
    exact ⟨rfl, h.later.later, rfl, [], by simp⟩
  rw [if_neg hd]
  have e2 : (!(m.let_ j).delivered || (m.let_ j).received) = false := by simpa using hd
  rw [e2, cond_false]
  have hpl := h.pl
  obtain ⟨w, hw⟩ : ∃ w : Nat, (m.let_ j).who = w := ⟨(m.let_ j).who.toNat, by omega⟩
  have hwn : w < m.people.length := by omega
  have hmp := mem_getD (d := SitesProcess.z) hwn
  have hr := h.rnd _ hmp
  have hwp : m.people.getD w SitesProcess.z = m.who w := rfl
  rw [hwp] at hr
  have e0 : ix m.people (m.let_ j).who = some (m.who w) := by rw [hw, ixg SitesProcess.z hwn, hwp]
  rw [e0, bd_some]
  have e3 : (SitesLetter.mk (m.let_ j).who (m.let_ j).round (m.let_ j).site (m.let_ j).store (m.let_ j).tag (m.let_ j).value (m.let_ j).delivered true) = got (m.let_ j) := rfl
  rw [e3]
  have hwt : (m.let_ j).who.toNat = w := by omega
  rw [hwt] at g3 ⊢
  by_cases hc : (m.who w).pending = false ∨ (m.let_ j).round ≠ (m.who w).round
  · rw [if_pos hc]
    have : (!(m.who w).pending || !decide ((m.let_ j).round = (m.who w).round)) = true := by simpa using hc
    rw [this]
    exact ⟨rfl, g1.later, rfl, [], by simp⟩
  rw [if_neg hc]
  have e4 : (!(m.who w).pending || !decide ((m.let_ j).round = (m.who w).round)) = false := by simpa using hc
  rw [e4, cond_false, ck64 (by omega)]
  have hpend : (m.who w).pending = true := by
    cases hq : (m.who w).pending with
    | true => rfl
    | false => exact (hc (.inl hq)).elim
  obtain ⟨c1, c2, c3, c4, c5⟩ := countP_eq (m.who w) (m.let_ j)
  have hgp : (gotM m j).people = m.people.set w (countP (m.who w) (m.let_ j)) := by unfold gotM; rw [hwt]
  have hgl : (gotM m j).letters = m.letters.set j (got (m.let_ j)) := rfl
  have hsl := h.sl
  have hmaj : ∀ b, b = decide ((m.sites.length : Int) < 2 * ((m.who w).replies + 1)) → ∀ r : M, r = (if (m.sites.length : Int) < 2 * ((m.who w).replies + 1) then Si.next fast (gotM m j) w else gotM m j) →
      (Inv np n (k + 2) r ∧ r.sites = m.sites ∧ ∃ e, r.events = m.events ++ e ∧ e.length ≤ 1) ∧ ((bif b then bd (ix ((m.letters.set j (got (m.let_ j)))) (j : Int)) fun (x24 : SitesLetter) => bd (sites_net_next N fast m.sites (gotM m j).people (m.letters.set j (got (m.let_ j))) m.events x24.who) fun r25 => some (r25.1, r25.2.1, r25.2.2) else some ((gotM m j).people, m.letters.set j (got (m.let_ j)), m.events)) = some (r.people, r.letters, r.events)) := by
    rintro b rfl r rfl
    by_cases hmj : (m.sites.length : Int) < 2 * ((m.who w).replies + 1)
    rotate_left
    · rw [if_neg hmj, decide_eq_false hmj]
      exact ⟨⟨g2.later, rfl, [], by simp [gotM]⟩, rfl⟩
    rw [if_pos hmj, decide_eq_true hmj, cond_true, ixs hj, bd_some]
    have e5 : (got (m.let_ j)).who = w := hw
    obtain ⟨n1, n2, n3, n4⟩ := next_ok hN fast (m := gotM m j) (w := w) g2 hn (by omega) (by omega) (by rw [g3, c1]; exact h.pend _ hmp hpend)
    rw [e5]
    have n1' : sites_net_next N fast m.sites (gotM m j).people (m.letters.set j (got (m.let_ j))) m.events w = _ := n1
    rw [n1']
    exact ⟨⟨n2, n3, n4⟩, rfl⟩
  obtain ⟨h1, h2⟩ := hmaj _ rfl _ rfl
  refine ⟨?_, h1⟩
  refine Eq.trans ?_ h2
  obtain ⟨r0, hr0⟩ : ∃ r0, (some ((if (m.sites.length : Int) < 2 * ((m.who w).replies + 1) then Si.next fast (gotM m j) w else gotM m j).people, (if (m.sites.length : Int) < 2 * ((m.who w).replies + 1) then Si.next fast (gotM m j) w else gotM m j).letters, (if (m.sites.length : Int) < 2 * ((m.who w).replies + 1) then Si.next fast (gotM m j) w else gotM m j).events) : Option _) = some r0 := ⟨_, rfl⟩
  rw [hr0] at h2
  rw [h2]
  refine Wp.eq (.seq (P := fun P => P = (gotM m j).people) ?_ fun P _ hP => ?_)
  · obtain ⟨r, hr1, hr2⟩ := compare_ok hN (m.let_ j).tag (m.who w).best
    rw [hgp]
    unfold countP
    cases hs : (m.let_ j).store with
    | true =>
      refine .bdO (a := 0) rfl (.condF rfl (.one ?_))
      rw [if_neg (fun e => by cases e.1)]
    | false =>
      refine .bdO (a := r) hr1 ?_
      by_cases ht : tlt (m.who w).best (m.let_ j).tag
      · rw [if_pos ⟨rfl, ht⟩]
        refine .condT (by simpa using hr2.2 ht) (.one ?_)
        rw [List.set_set, List.set_set]
      · rw [if_neg (fun e => ht e.2)]
        refine .condF ?_ (.one rfl)
        have : ¬ 0 < r := fun e => ht (hr2.1 e)
        simpa using this
  · subst hP
    have e6 : ix (gotM m j).people (m.let_ j).who = some (countP (m.who w) (m.let_ j)) := by rw [hgp, hw, ixs hwn]
    refine .bdO e6 ?_
    rw [c4]
    exact .ck64 (by omega) ⟨_, h2, rfl⟩
theorem down_ok {np n k : Nat} {m : M} (h : Inv np n k m) {i : Nat} (hi : i < n) : ix m.sites (i : Int) = some (m.site i) ∧ Inv np n (k + 1) (down m i) := by
  have hsl := h.sl
  have hL := h.later
  have hs := h.st _ (mem_getD (d := Site.z) (show i < m.sites.length by omega))
  refine ⟨ixg Site.z (by omega), by simpa [down] using hL.sl, hL.pl, hL.pend, hL.rnd, hL.lt, fun s hs' => ?_, hL.ll, hL.ev⟩
  rcases mem_set hs' with rfl | hs'
  · have hsq : m.sites.getD i Site.z = m.site i := rfl
    rw [hsq] at hs
    simp only; omega
  · exact hL.st s hs'
/-- What one round of the acts' loop answers. -/
theorem act_ok {N : Nat} (hN : 300 < N) (fast : Bool) {np n k : Nat} {m : M} (h : Inv np n k m) (hn : n ≤ 5) (hk : k ≤ 2500) {a : Act} (h1 : a.kind = 1 → 0 ≤ a.a ∧ a.a < np) (h4 : a.kind ≠ 1 → a.kind ≠ 2 → a.kind ≠ 3 → 0 ≤ a.a ∧ a.a < n) :
    Inv np n (k + 2) (act fast m a) ∧ (∃ e, (act fast m a).events = m.events ++ e ∧ e.length ≤ 1) ∧
    ∀ (acts : List Act) (v : Nat), v < acts.length → acts.length ≤ 100000 → acts.getD v Act.z = a → sites_Play_1_L7 N acts fast (m.sites, m.people, m.letters, m.events, (v : Int)) = some (.inl ((act fast m a).sites, (act fast m a).people, (act fast m a).letters, (act fast m a).events, ((v + 1 : Nat) : Int))) := by
  have head : ∀ (acts : List Act) (v : Nat), v < acts.length → acts.getD v Act.z = a → ix acts (v : Int) = some a := fun acts v hv he => by rw [ixg Act.z hv, he]
  unfold act
  by_cases c1 : a.kind = 1
  · rw [if_pos c1]
    have hb := h1 c1
    obtain ⟨w, hw⟩ : ∃ w : Nat, a.a = w := ⟨a.a.toNat, by omega⟩
    obtain ⟨g1, g2, g3, e, g4, g5, _⟩ := call_ok hN fast h hn (by omega) (w := w) (by omega)
    rw [hw, Int.toNat_natCast]
    refine ⟨g2.later, ⟨e, g4, g5⟩, fun acts v hv hl he => ?_⟩
    simp only [sites_Play_1_L7]
    refine Wp.eq (.condT (decide_eq_true (by omega)) (.bdO (head acts v hv he) (.condT (decide_eq_true c1) (.bdO (by rw [hw]; exact g1) (.ck64 (by omega) (.one ?_))))))
    rw [g3]; rfl
  rw [if_neg c1]
  by_cases c2 : a.kind = 2
  · rw [if_pos c2]
    obtain ⟨g1, g2, g3, g4⟩ := hand_ok hN fast h a.a
    refine ⟨g2.later, ⟨[], by rw [g4]; simp, by simp⟩, fun acts v hv hl he => ?_⟩
    simp only [sites_Play_1_L7]
    refine Wp.eq (.condT (decide_eq_true (by omega)) (.bdO (head acts v hv he) (.condF (decide_eq_false c1) (.condT (decide_eq_true c2) (.bdO g1 (.ck64 (by omega) (.one ?_)))))))
    rw [g3, g4]; rfl
  rw [if_neg c2]
  by_cases c3 : a.kind = 3
  · rw [if_pos c3]
    obtain ⟨g1, g2, g3, g4⟩ := back_ok hN fast h hn hk a.a
    refine ⟨g2, g4, fun acts v hv hl he => ?_⟩
    simp only [sites_Play_1_L7]
    refine Wp.eq (.condT (decide_eq_true (by omega)) (.bdO (head acts v hv he) (.condF (decide_eq_false c1) (.condF (decide_eq_false c2) (.condT (decide_eq_true c3) (.bdO g1 (.ck64 (by omega) (.one ?_))))))))
    rw [g3]; rfl
  rw [if_neg c3]
  have hb := h4 c1 c2 c3
  obtain ⟨w, hw⟩ : ∃ w : Nat, a.a = w := ⟨a.a.toNat, by omega⟩
  obtain ⟨g1, g2⟩ := down_ok h (i := w) (by omega)
  rw [hw, Int.toNat_natCast]
  refine ⟨g2.later, ⟨[], by simp [down], by simp⟩, fun acts v hv hl he => ?_⟩
  simp only [sites_Play_1_L7]
  refine Wp.eq (.condT (decide_eq_true (by omega)) (.bdO (head acts v hv he) (.condF (decide_eq_false c1) (.condF (decide_eq_false c2) (.condF (decide_eq_false c3) (.bdO (by rw [hw]; exact g1) (.ck64 (by omega) (.one ?_))))))))
  rw [hw]; rfl
def run (fast : Bool) (m : M) (acts : List Act) : M := acts.foldl (act fast) m
theorem run_app (fast : Bool) (m : M) (a b : List Act) : run fast m (a ++ b) = run fast (run fast m a) b := List.foldl_append
/-- Acts that may be. -/
def OkA (np n : Nat) (a : Act) : Prop := (1 ≤ a.kind ∧ a.kind ≤ 4) ∧ (a.kind = 1 → 0 ≤ a.a ∧ a.a < np) ∧ (a.kind = 4 → 0 ≤ a.a ∧ a.a < n)
theorem OkA.four {np n : Nat} {a : Act} (h : OkA np n a) (h1 : a.kind ≠ 1) (h2 : a.kind ≠ 2) (h3 : a.kind ≠ 3) : 0 ≤ a.a ∧ a.a < n := h.2.2 (by have := h.1; omega)
theorem run_ok {np n : Nat} (fast : Bool) (hn : n ≤ 5) : ∀ {acts : List Act} {k : Nat} {m : M}, Inv np n k m → (∀ a ∈ acts, OkA np n a) → k + 2 * acts.length ≤ 2500 →
    Inv np n (k + 2 * acts.length) (run fast m acts) ∧ ∃ e, (run fast m acts).events = m.events ++ e ∧ e.length ≤ acts.length
  | [], k, m, h, _, _ => ⟨h, [], by simp [run]⟩
  | a :: acts, k, m, h, ha, hk => by
    have hk' : k + 2 * (acts.length + 1) ≤ 2500 := hk
    obtain ⟨g1, ⟨e1, g2, g2'⟩, _⟩ := act_ok (N := 301) (by decide) fast h hn (by omega) (a := a) (ha a (.head _)).2.1 (ha a (.head _)).four
    obtain ⟨g3, e2, g4, g4'⟩ := run_ok fast hn (acts := acts) g1 (fun x hx => ha x (.tail _ hx)) (by omega)
    have e : run fast m (a :: acts) = run fast (act fast m a) acts := rfl
    rw [e]
    refine ⟨by have e2 : k + 2 * (a :: acts).length = k + 2 + 2 * acts.length := by simp; omega
               rw [e2]; exact g3, e1 ++ e2, by rw [g4, g2, List.append_assoc], by simp; omega⟩
def m0 (n : Nat) (people : List (List Ask)) : M := ⟨List.replicate n Site.z, people.map fun l => ⟨l, false, 0, false, 0, ⟨0, 0⟩, 0⟩, [], []⟩
theorem inv0 (n : Nat) (people : List (List Ask)) : Inv people.length n 0 (m0 n people) := by
  refine ⟨by simp [m0], by simp [m0], fun p hp h => ?_, fun p hp => ?_, fun l hl => (by cases hl), fun s hs => ?_, Nat.le_refl _, Nat.le_refl _⟩
  · obtain ⟨l, _, rfl⟩ := List.mem_map.1 hp
    cases h
  · obtain ⟨l, _, rfl⟩ := List.mem_map.1 hp
    simp
  · obtain ⟨_, rfl⟩ := List.mem_replicate.1 hs
    simp [Site.z]
/-- What may be played. -/
structure OkS (n : Int) (people : List (List Ask)) (acts : List Act) : Prop where
  cnt : 1 ≤ n ∧ n ≤ 5
  few : people.length ≤ 8
  len : acts.length ≤ 1000
  act : ∀ a ∈ acts, OkA people.length n.toNat a
end Si

end Go.Proofs.Yteklmleiiiodfaa
