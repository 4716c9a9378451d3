/- SitesStop, plainly. -/
import Derived.Test.YteklmleiiiodfaaS10
set_option linter.unusedVariables false
set_option linter.unusedSimpArgs false
set_option linter.unusedSectionVars false
set_option maxRecDepth 100000
namespace Go.Proofs.Yteklmleiiiodfaa
open Go.RowKit
namespace Rl
theorem pig {l m : List Nat} (h : l.Nodup) (hs : ∀ x ∈ l, x ∈ m) : l.length ≤ m.length := by
  induction l generalizing m with
  | nil => exact Nat.zero_le _
  | cons a l ih =>
    have ha := hs a (List.mem_cons_self ..)
    obtain ⟨h1, h2⟩ := List.nodup_cons.1 h
    have := ih (m := m.erase a) h2 fun x hx => (List.mem_erase_of_ne (fun e : x = a => h1 (e ▸ hx))).2 (hs x (List.mem_cons_of_mem _ hx))
    rw [List.length_erase_of_mem ha] at this
    have : 0 < m.length := List.length_pos_of_mem ha
    simp only [List.length_cons]; omega
theorem pig_lt {l : List Nat} {n : Nat} (h : l.Nodup) (hs : ∀ x ∈ l, x < n) : l.length ≤ n := by
  have := pig (m := List.range n) h fun x hx => List.mem_range.2 (hs x hx)
  simpa using this
end Rl

namespace Si
/-- Of some sites that are down from the beginning on. -/
structure J (h : Nat) (m : M) : Prop where
  dn : ∀ s, s < h → (m.site s).down = true
  lt : ∀ l ∈ m.letters, (l.delivered = true → (h : Int) ≤ l.site) ∧ (l.received = true → l.delivered = true)
  nod : (m.letters.map fun l => (l.who, l.site)).Nodup
  cnt : ∀ w, w < m.people.length → (m.who w).replies ≤ (m.letters.countP fun l => decide (l.who = (w : Int)) && l.received)
  non : ∀ w, w < m.people.length → (m.who w).pending = false → ∀ l ∈ m.letters, l.who ≠ (w : Int)
  ask : ∀ p ∈ m.people, ∀ a ∈ p.program, a.kind ≠ 0
  ev : ∀ e ∈ m.events, e.kind ≠ 0
theorem who_set {m : M} {w v : Nat} {p : SitesProcess} (hw : w < m.people.length) : (m.people.set w p).getD v SitesProcess.z = if v = w then p else m.who v := getD_set hw
/-- So many letters of one came back, at most. -/
theorem few_back {h n np k : Nat} {m : M} (I : Inv np n k m) (j : J h m) (w : Int) : h + (m.letters.countP fun l => decide (l.who = w) && l.received) ≤ n ∨ n < h := by
  by_cases hn : n < h
  · exact .inr hn
  left
  rw [List.countP_eq_length_filter]
  have hp := Rl.pig_lt (n := n - h) (l := (m.letters.filter fun l => decide (l.who = w) && l.received).map fun l => l.site.toNat - h) ?_ ?_
  · rw [List.length_map] at hp; omega
  · have h1 : ((m.letters.filter fun l => decide (l.who = w) && l.received).map fun l => (l.who, l.site)).Nodup := by
      refine List.Nodup.sublist (List.Sublist.map _ List.filter_sublist) j.nod
    rw [List.Nodup, List.pairwise_map] at h1 ⊢
    refine (List.Pairwise.imp_of_mem ?_) h1
    intro x y hx hy hxy e
    have hx1 := (List.mem_filter.1 hx).2
    have hy1 := (List.mem_filter.1 hy).2
    simp only [Bool.and_eq_true, decide_eq_true_eq] at hx1 hy1
    have hx0 := (List.mem_filter.1 hx).1
    have hy0 := (List.mem_filter.1 hy).1
    have a1 := (j.lt x hx0).1 ((j.lt x hx0).2 hx1.2)
    have a2 := (j.lt y hy0).1 ((j.lt y hy0).2 hy1.2)
    refine hxy (Prod.ext (hx1.1.trans hy1.1.symm) ?_)
    show x.site = y.site
    omega
  · intro x hx
    obtain ⟨l, hl, rfl⟩ := List.mem_map.1 hx
    have hl1 := (List.mem_filter.1 hl).2
    have hl0 := (List.mem_filter.1 hl).1
    simp only [Bool.and_eq_true, decide_eq_true_eq] at hl1
    have a1 := (j.lt l hl0).1 ((j.lt l hl0).2 hl1.2)
    have a2 := (I.lt l hl0).2.1
    omega
theorem map_set_same {α β : Type} (f : α → β) {l : List α} {i : Nat} {a : α} (h : ∀ h : i < l.length, f a = f l[i]) : (l.set i a).map f = l.map f := by
  apply List.ext_getElem?
  intro q
  simp only [List.getElem?_map, List.getElem?_set]
  split
  · rename_i e
    subst e
    split
    · rename_i h2
      simp [h h2, List.getElem?_eq_getElem h2]
    · rename_i h2
      simp [List.getElem?_eq_none (Nat.le_of_not_lt h2)]
  · rfl
theorem countP_set_le {α : Type} (p : α → Bool) : ∀ {l : List α} {i : Nat} {a : α} (h : i < l.length), (p l[i] = true → p a = true) → l.countP p ≤ (l.set i a).countP p
  | [], _, _, h, _ => absurd h (Nat.not_lt_zero _)
  | x :: l, 0, a, _, hp => by
    simp only [List.set_cons_zero, List.countP_cons]
    have : p x = true → p a = true := hp
    by_cases h1 : p x = true
    · simp [h1, this h1]
    · simp [h1]
  | x :: l, i + 1, a, h, hp => by
    simp only [List.set_cons_succ, List.countP_cons]
    have := countP_set_le p (l := l) (i := i) (a := a) (by simpa using h) hp
    omega
theorem countP_set_one {α : Type} (p : α → Bool) : ∀ {l : List α} {i : Nat} {a : α} (h : i < l.length), p l[i] = false → p a = true → (l.set i a).countP p = l.countP p + 1
  | [], _, _, h, _, _ => absurd h (Nat.not_lt_zero _)
  | x :: l, 0, a, _, hp, ha => by
    have hp : p x = false := hp
    simp [List.countP_cons, hp, ha]
  | x :: l, i + 1, a, h, hp, ha => by
    simp only [List.set_cons_succ, List.countP_cons]
    have := countP_set_one p (l := l) (i := i) (a := a) (by simpa using h) hp ha
    omega
theorem call_j {h n np k : Nat} {m : M} (I : Inv np n k m) (j : J h m) {w : Nat} (hw : w < np) : J h (call m w) := by
  have hpl := I.pl
  have hsl := I.sl
  have hw' : w < m.people.length := by omega
  unfold call
  cases hprog : (m.who w).program with
  | nil => exact j
  | cons a rest =>
    simp only
    split
    · exact j
    rename_i hp
    have hp : (m.who w).pending = false := by simpa using hp
    have hno := j.non w hw' hp
    have hbm : ∀ l ∈ batch m.sites.length (w : Int) ((m.who w).round + 1) false ⟨0, 0⟩ 0, l.who = w ∧ l.delivered = false ∧ l.received = false := fun l hl => by
      have := batch_mem hl; exact ⟨this.1, this.2.2.2.2.2.2.1, this.2.2.2.2.2.2.2⟩
    have hP : (start ⟨m.sites, m.people.set w (pendP (m.who w)), m.letters, m.events ++ [⟨w, 0, a.kind, a.arg⟩]⟩ w false ⟨0, 0⟩ 0) = ⟨m.sites, m.people.set w (startP (pendP (m.who w)) false ⟨0, 0⟩ 0), m.letters ++ batch m.sites.length w ((m.who w).round + 1) false ⟨0, 0⟩ 0, m.events ++ [⟨w, 0, a.kind, a.arg⟩]⟩ := by
      have e : M.who ⟨m.sites, m.people.set w (pendP (m.who w)), m.letters, m.events ++ [⟨w, 0, a.kind, a.arg⟩]⟩ w = pendP (m.who w) := by unfold M.who; simp [hw']
      unfold start
      rw [e]
      simp [List.set_set, pendP]
    rw [hP]
    have hmw : m.who w ∈ m.people := mem_getD (d := SitesProcess.z) hw'
    refine ⟨j.dn, fun l hl => ?_, ?_, fun v hv => ?_, fun v hv hvp l hl => ?_, fun p hp' => ?_, fun e he => ?_⟩
    · rcases List.mem_append.1 hl with hl | hl
      · exact j.lt l hl
      · obtain ⟨_, e1, e2⟩ := hbm l hl
        rw [e1, e2]; simp
    · simp only [List.map_append]
      rw [List.nodup_append]
      refine ⟨j.nod, ?_, fun x hx y hy e => ?_⟩
      · unfold batch
        rw [List.map_map, List.Nodup, List.pairwise_map]
        exact List.Pairwise.imp (fun {x y} hxy e => by have := (Prod.mk.injEq .. ▸ e : _ ∧ _).2; simp only [Function.comp] at this; exact hxy (by omega)) List.nodup_range
      · subst e
        obtain ⟨l, hl, rfl⟩ := List.mem_map.1 hx
        obtain ⟨l', hl', e'⟩ := List.mem_map.1 hy
        have := (hbm l' hl').1
        have e1 : l'.who = l.who := congrArg Prod.fst e'
        exact hno l hl (by rw [← e1]; exact this)
    · have hv' : v < m.people.length := by simpa using hv
      show (List.getD (m.people.set w _) v SitesProcess.z).replies ≤ _
      rw [who_set hw']
      simp only [List.countP_append]
      split
      · unfold startP; simp only; omega
      · have := j.cnt v hv'; omega
    · have hv' : v < m.people.length := by simpa using hv
      have hvp : (List.getD (m.people.set w (startP (pendP (m.who w)) false ⟨0, 0⟩ 0)) v SitesProcess.z).pending = false := hvp
      rw [who_set hw'] at hvp
      split at hvp
      · cases hvp
      · rename_i hvw
        rcases List.mem_append.1 hl with hl | hl
        · exact j.non v hv' hvp l hl
        · rw [(hbm l hl).1]; omega
    · rcases mem_set hp' with rfl | hp'
      · exact j.ask (m.who w) hmw
      · exact j.ask p hp'
    · rcases List.mem_append.1 he with he | he
      · exact j.ev e he
      · rw [List.mem_singleton.1 he]
        exact j.ask _ hmw a (by rw [hprog]; exact .head _)
theorem hand_j {h n np k : Nat} {m : M} (I : Inv np n k m) (j : J h m) (i : Int) : J h (hand m i) := by
  have hsl := I.sl
  unfold hand
  split
  rotate_left
  · exact j
  rename_i hi
  obtain ⟨q, rfl⟩ : ∃ q : Nat, i = q := ⟨i.toNat, by omega⟩
  have hq : q < m.letters.length := by omega
  simp only [Int.toNat_natCast]
  have hlq : m.letters[q] = m.let_ q := by unfold M.let_; rw [getD_of hq]
  have hl := I.lt _ (mem_getD (d := SitesLetter.z) hq)
  have hlj : m.letters.getD q SitesLetter.z = m.let_ q := rfl
  rw [hlj] at hl
  have hlm : m.let_ q ∈ m.letters := mem_getD (d := SitesLetter.z) hq
  split
  · exact j
  rename_i hd
  have hdn : (m.site (m.let_ q).site.toNat).down = false := by
    cases hx : (m.site (m.let_ q).site.toNat).down with
    | false => rfl
    | true => exact (hd (.inr hx)).elim
  have hge : (h : Int) ≤ (m.let_ q).site := by
    by_cases hx : (m.let_ q).site.toNat < h
    · rw [j.dn _ hx] at hdn; cases hdn
    · omega
  have key : ∀ (t : SitesTag) (v : Int) (S : List Site), (∀ s, s < h → (S.getD s Site.z).down = true) → J h ⟨S, m.people, m.letters.set q (answered (m.let_ q) t v), m.events⟩ := by
    intro t v S hS
    refine ⟨hS, fun l hl' => ?_, ?_, fun w hw => ?_, fun w hw hp l hl' => ?_, j.ask, j.ev⟩
    · rcases mem_set hl' with rfl | hl'
      · exact ⟨fun _ => hge, fun _ => rfl⟩
      · exact j.lt l hl'
    · show ((m.letters.set q _).map _).Nodup
      rw [map_set_same _ (fun _ => by rw [hlq]; rfl)]
      exact j.nod
    · have h1 := j.cnt w hw
      have h2 := countP_set_le (fun l : SitesLetter => decide (l.who = (w : Int)) && l.received) (l := m.letters) (i := q) (a := answered (m.let_ q) t v) hq (by rw [hlq]; exact fun e => e)
      exact Int.le_trans h1 (Int.ofNat_le.2 h2)
    · rcases mem_set hl' with rfl | hl'
      · exact j.non w hw hp (m.let_ q) hlm
      · exact j.non w hw hp l hl'
  split
  · exact key _ _ _ j.dn
  split
  · refine key _ _ _ fun s hs => ?_
    rw [getD_set (by omega)]
    split
    · rename_i e
      omega
    · exact j.dn s hs
  · exact key _ _ _ j.dn
theorem back_j {h n np k : Nat} {m : M} (fast : Bool) (I : Inv np n k m) (j : J h m) (hh : h ≤ n ∧ n ≤ 2 * h) (i : Int) : J h (back fast m i) := by
  have hsl := I.sl
  have hpl := I.pl
  rw [back_eq]
  split
  rotate_left
  · exact j
  rename_i hi
  obtain ⟨q, rfl⟩ : ∃ q : Nat, i = q := ⟨i.toNat, by omega⟩
  have hq : q < m.letters.length := by omega
  simp only [Int.toNat_natCast]
  have hlq : m.letters[q] = m.let_ q := by unfold M.let_; rw [getD_of hq]
  have hl := I.lt _ (mem_getD (d := SitesLetter.z) hq)
  have hlj : m.letters.getD q SitesLetter.z = m.let_ q := rfl
  rw [hlj] at hl
  have hlm : m.let_ q ∈ m.letters := mem_getD (d := SitesLetter.z) hq
  obtain ⟨w, hw⟩ : ∃ w : Nat, (m.let_ q).who = w := ⟨(m.let_ q).who.toNat, by omega⟩
  have hw' : w < m.people.length := by omega
  have hwt : (m.let_ q).who.toNat = w := by omega
  split
  · exact j
  rename_i hd
  have hdel : (m.let_ q).delivered = true := by
    cases hx : (m.let_ q).delivered with
    | true => rfl
    | false => exact (hd (.inl hx)).elim
  have hrec : (m.let_ q).received = false := by
    cases hx : (m.let_ q).received with
    | false => rfl
    | true => exact (hd (.inr hx)).elim
  have base : J h { m with letters := m.letters.set q (got (m.let_ q)) } := by
    refine ⟨j.dn, fun l hl' => ?_, ?_, fun v hv => ?_, fun v hv hp l hl' => ?_, j.ask, j.ev⟩
    · rcases mem_set hl' with rfl | hl'
      · exact ⟨fun _ => (j.lt _ hlm).1 hdel, fun _ => hdel⟩
      · exact j.lt l hl'
    · show ((m.letters.set q _).map _).Nodup
      rw [map_set_same _ (fun _ => by rw [hlq]; rfl)]
      exact j.nod
    · have h1 := j.cnt v hv
      have h2 := countP_set_le (fun l : SitesLetter => decide (l.who = (v : Int)) && l.received) (l := m.letters) (i := q) (a := got (m.let_ q)) hq (by rw [hlq]; intro e; simp only [hrec, Bool.and_false] at e; cases e)
      exact Int.le_trans h1 (Int.ofNat_le.2 h2)
    · rcases mem_set hl' with rfl | hl'
      · exact j.non v hv hp (m.let_ q) hlm
      · exact j.non v hv hp l hl'
  split
  · exact base
  rename_i hc
  rw [hwt] at hc ⊢
  have hone := countP_set_one (fun l : SitesLetter => decide (l.who = (w : Int)) && l.received) (l := m.letters) (i := q) (a := got (m.let_ q)) hq (by rw [hlq]; simp [hrec]) (by simp [got, hw])
  have hcw := j.cnt w hw'
  have hI2 := (got_inv I hq).1
  have hfew := few_back hI2 base (w : Int)
  simp only at hfew
  rw [hone] at hfew
  rw [if_neg (by omega)]
  obtain ⟨c1, c2, c3, c4, c5⟩ := countP_eq (m.who w) (m.let_ q)
  have hg : gotM m q = ⟨m.sites, m.people.set w (countP (m.who w) (m.let_ q)), m.letters.set q (got (m.let_ q)), m.events⟩ := by unfold gotM; rw [hwt]
  rw [hg]
  refine ⟨j.dn, base.lt, base.nod, fun v hv => ?_, fun v hv hp => ?_, fun p hp' => ?_, j.ev⟩
  · have hv' : v < m.people.length := by simpa using hv
    show (List.getD (m.people.set w _) v SitesProcess.z).replies ≤ _
    rw [who_set hw']
    split
    · rename_i e
      subst e
      rw [c4]
      show _ ≤ ((List.countP _ (m.letters.set q (got (m.let_ q))) : Nat) : Int)
      rw [hone]
      omega
    · exact base.cnt v hv'
  · have hv' : v < m.people.length := by simpa using hv
    have hp : (List.getD (m.people.set w (countP (m.who w) (m.let_ q))) v SitesProcess.z).pending = false := hp
    rw [who_set hw'] at hp
    split at hp
    · rw [c2] at hp
      exact (hc (.inl hp)).elim
    · exact base.non v hv' hp
  · rcases mem_set hp' with rfl | hp'
    · rw [c1]; exact j.ask _ (mem_getD (d := SitesProcess.z) hw')
    · exact j.ask p hp'
theorem down_j {h n np k : Nat} {m : M} (I : Inv np n k m) (j : J h m) {i : Nat} (hi : i < n) : J h (down m i) := by
  have hsl := I.sl
  refine ⟨fun s hs => ?_, j.lt, j.nod, j.cnt, j.non, j.ask, j.ev⟩
  show (List.getD (m.sites.set i _) s Site.z).down = true
  rw [getD_set (by omega)]
  split
  · rfl
  · exact j.dn s hs
theorem run_j {h n np : Nat} (fast : Bool) (hn : n ≤ 5) (hh : h ≤ n ∧ n ≤ 2 * h) : ∀ {acts : List Act} {k : Nat} {m : M}, Inv np n k m → J h m → (∀ a ∈ acts, OkA np n a) → k + 2 * acts.length ≤ 2500 → J h (run fast m acts)
  | [], _, _, _, j, _, _ => j
  | a :: acts, k, m, I, j, ha, hk => by
    have hk' : k + 2 * (acts.length + 1) ≤ 2500 := hk
    have oa := ha a (.head _)
    have g1 := (act_ok (N := 301) (by decide) fast I hn (by omega) (a := a) oa.2.1 oa.four).1
    refine run_j fast hn hh (acts := acts) g1 ?_ (fun x hx => ha x (.tail _ hx)) (by omega)
    unfold act
    by_cases c1 : a.kind = 1
    · rw [if_pos c1]
      have hb := oa.2.1 c1
      exact call_j I j (by omega)
    rw [if_neg c1]
    by_cases c2 : a.kind = 2
    · rw [if_pos c2]; exact hand_j I j _
    rw [if_neg c2]
    by_cases c3 : a.kind = 3
    · rw [if_pos c3]; exact back_j fast I j hh _
    rw [if_neg c3]
    have hb := oa.four c1 c2 c3
    exact down_j I j (by omega)
def downs (h : Nat) : List Act := (List.range h).map fun (k : Nat) => ⟨4, (k : Int)⟩
theorem downs_run (fast : Bool) (n : Nat) (people : List (List Ask)) : ∀ h, h ≤ n → (run fast (m0 n people) (downs h)).people = (m0 n people).people ∧ (run fast (m0 n people) (downs h)).letters = [] ∧ (run fast (m0 n people) (downs h)).events = [] ∧ (run fast (m0 n people) (downs h)).sites.length = n ∧ ∀ s, s < h → ((run fast (m0 n people) (downs h)).site s).down = true
  | 0, _ => ⟨rfl, rfl, rfl, by simp [downs, run, m0], fun s hs => absurd hs (Nat.not_lt_zero _)⟩
  | h + 1, hn => by
    obtain ⟨g1, g2, g3, g4, g5⟩ := downs_run fast n people h (by omega)
    have e : downs (h + 1) = downs h ++ [⟨4, (h : Int)⟩] := by unfold downs; rw [List.range_succ, List.map_append]; rfl
    rw [e, run_app]
    generalize run fast (m0 n people) (downs h) = X at *
    have e2 : run fast X [⟨4, (h : Int)⟩] = down X h := rfl
    rw [e2]
    refine ⟨g1, g2, g3, by simpa [down] using g4, fun s hs => ?_⟩
    show (List.getD (X.sites.set h _) s Site.z).down = true
    rw [getD_set (by omega)]
    split
    · rfl
    · exact g5 s (by omega)
theorem contains_ok {N : Nat} {l : List Event} (hN : l.length < N) (hl : l.length ≤ 1000000) (h : ∀ e ∈ l, e.kind ≠ 0) : slices_ContainsFunc_api_Event_api_Event N l = some false := by
  unfold slices_ContainsFunc_api_Event_api_Event slices_IndexFunc_api_Event_api_Event
  refine Wp.eq (.seq (P := fun i => i = -1) (.elim (P := fun t => match t with | .inl _ => True | .inr _ => False) (.iter l.length (fun k v => v = (k : Int)) (by omega) rfl ?_ ?_) (fun _ _ _ => .one rfl) (fun _ _ h => h.elim)) fun i _ hi => .one (by subst hi; rfl))
  · rintro k v hk rfl
    simp only [slices_IndexFunc_api_Event_api_Event_L3]
    refine .condT (decide_eq_true (by omega)) (.ix hk (.bdO (a := ()) rfl (.condF ?_ (.ck64 (by omega) (.one (by simp))))))
    have := h l[k] (List.getElem_mem hk)
    simpa using this
  · rintro v rfl
    simp only [slices_IndexFunc_api_Event_api_Event_L3]
    exact .condF (decide_eq_false (by omega)) (.one trivial)
theorem quo2 {x : Int} (h0 : 0 ≤ x) (h : x ≤ 6) : quoI .i64 x 2 = x / 2 := by
  unfold quoI
  rw [Int.tdiv_eq_ediv_of_nonneg h0]
  exact wrap64_in _ (by omega)
theorem stopLaw {N : Nat} (hN : 5000 < N) (hL : alibkeep_sitesLives N = some true) (n : Int) (fast : Bool) (people : List (List Ask)) (acts : List Act) (hl : ∀ l ∈ people, l.length < N ∧ l.length ≤ 9223372036854775807) (ha : acts.length * 16 ≤ 140737488351232) (hN2 : 100000000000000 < N) : alibkeep_SitesStop N n fast people acts = some true := by
  refine Wp.eq ?_
  unfold alibkeep_SitesStop
  obtain ⟨z, hz⟩ : ∃ z, IntKind.i64.wrap (n + 1) = z := ⟨_, rfl⟩
  obtain ⟨h, hh⟩ : ∃ h : Nat, quoI .i64 (max 0 (min z 6)) 2 = h ∧ h ≤ 3 := by
    rw [quo2 (by omega) (by omega)]
    exact ⟨(max 0 (min z 6) / 2).toNat, by omega, by omega⟩
  obtain ⟨hh, h3⟩ := hh
  refine .seq (P := fun s => s = downs h) ?_ fun s _ hs => ?_
  · refine .iter h (fun k st => st = (downs k, (k : Int))) (by omega) rfl ?_ ?_
    · rintro k st hk rfl
      simp only [alibkeep_SitesStop_L3]
      rw [hz, hh]
      refine .condT (decide_eq_true (by omega)) (.ck (limB_of ⟨?_, ?_⟩) (.ck64 (by omega) (.one ?_)))
      · simp [downs]; exact Nat.le_trans (m := 100) (by omega) (by unfold maxLen; decide)
      · simp [downs]; omega
      · refine Prod.ext ?_ (by simp)
        show _ = downs (k + 1)
        unfold downs
        rw [List.range_succ, List.map_append]
        rfl
    · rintro st rfl
      simp only [alibkeep_SitesStop_L3]
      rw [hz, hh]
      exact .condF (decide_eq_false (by omega)) (.one rfl)
  subst hs
  have hdl : (downs h).length = h := by simp [downs]
  refine .ck (limB_of ⟨?_, ?_⟩) ?_
  · rw [hdl]; exact Nat.le_trans (m := 100000000000000) (by omega) (by unfold maxLen; decide)
  · rw [hdl]; omega
  obtain ⟨e0, h0, hp⟩ := play_all hN n fast hl
  obtain ⟨e, he, hP⟩ := hp (downs h ++ acts) (by rw [List.length_append, hdl]; omega) (by rw [List.length_append, hdl]; omega)
  refine .bdO hP (.bdO hL (.cond (fun hc => .bdO hL (.one ?_)) fun hc => ?_))
  · have : ¬ e = 0 := by
      intro h1; rw [if_pos h1] at hc; simp at hc
    rw [if_neg this]; rfl
  have e1 : e = 0 := by
    by_cases e1 : e = 0
    · exact e1
    · rw [if_neg e1] at hc; simp [e1] at hc
  subst e1
  rw [if_pos rfl]
  have e00 : e0 = 0 := by
    by_cases e00 : e0 = 0
    · exact e00
    · rw [if_pos e00] at he; omega
  subst e00
  obtain ⟨hn, h8, hok⟩ := h0 rfl
  rw [if_neg (by simp)] at he
  have hlen : (downs h ++ acts).length ≤ 1000 := by
    by_cases hlen : (downs h ++ acts).length ≤ 1000
    · exact hlen
    · rw [if_pos hlen] at he; omega
  rw [if_neg (by simpa using hlen)] at he
  have hact : ∀ a ∈ downs h ++ acts, OkA people.length n.toNat a := by
    by_cases hact : ∀ a ∈ downs h ++ acts, OkA people.length n.toNat a
    · exact hact
    · rw [if_neg hact] at he; omega
  have hzn : z = n + 1 := by rw [← hz]; exact wrap64_in _ (by omega)
  have hhn : h = (n.toNat + 1) / 2 := by
    rw [quo2 (by omega) (by omega)] at hh
    omega
  rw [List.length_append, hdl] at hlen
  obtain ⟨g1, ev1, g2, g3⟩ := run_ok fast (by omega : n.toNat ≤ 5) (inv0 n.toNat people) (acts := downs h) (fun a h => hact a (List.mem_append_left _ h)) (by rw [hdl]; omega)
  obtain ⟨d1, d2, d3, d4, d5⟩ := downs_run fast n.toNat people h (by omega)
  rw [hdl] at g1
  have hact2 : ∀ a ∈ acts, OkA people.length n.toNat a := fun a h => hact a (List.mem_append_right _ h)
  obtain ⟨g4, ev2, g5, g6⟩ := run_ok fast (by omega : n.toNat ≤ 5) g1 (acts := acts) hact2 (by omega)
  have hj : J h (run fast (m0 n.toNat people) (downs h)) := by
    generalize run fast (m0 n.toNat people) (downs h) = X at *
    refine ⟨d5, fun l hl => ?_, ?_, fun w hw => ?_, fun w hw hp l hl => ?_, fun p hp a ha => ?_, fun e he => ?_⟩
    · rw [d2] at hl; cases hl
    · rw [d2]; exact List.nodup_nil
    · rw [d1] at hw
      unfold M.who
      rw [d1]
      have hw' : w < people.length := by simpa [m0] using hw
      simp [m0, hw']
    · rw [d2] at hl; cases hl
    · rw [d1] at hp
      obtain ⟨l, hl, rfl⟩ := List.mem_map.1 hp
      have := (hok.ask l hl a ha).2
      obtain ⟨t1, t2, _⟩ := this
      intro e
      rw [e] at t2
      have ht := (hok.ask l hl a ha).1
      have : a.thing = 0 := by simp at ht; omega
      rw [this] at t2
      exact absurd t2 (by decide)
    · rw [d3] at he; cases he
  have hj2 := run_j fast (by omega : n.toNat ≤ 5) (by omega) g1 hj hact2 (by omega)
  rw [run_app]
  have hlen2 : (run fast (run fast (m0 n.toNat people) (downs h)) acts).events.length ≤ 1000 := by
    rw [g5, d3]; simp; omega
  refine .bdO (contains_ok (by show (run fast (run fast (m0 n.toNat people) (downs h)) acts).events.length < N; omega) (by show (run fast (run fast (m0 n.toNat people) (downs h)) acts).events.length ≤ _; omega) hj2.ev) (.one rfl)
end Si

end Go.Proofs.Yteklmleiiiodfaa
