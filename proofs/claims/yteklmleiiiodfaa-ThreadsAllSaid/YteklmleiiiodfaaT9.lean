/- ThreadsAll, plainly. -/
import Derived.Test.YteklmleiiiodfaaT7
set_option linter.unusedVariables false
set_option linter.unusedSimpArgs false
set_option linter.unusedSectionVars false
set_option maxRecDepth 100000
namespace Go.Proofs.Yteklmleiiiodfaa
open Go.RowKit
namespace Sr
theorem ok_wp {N : Nat} {l : List Int} (hN : l.length < N) (hl : l.length ≤ 1000) : Wp (alibkeep_ok N l) fun r => r = true ↔ ∀ x ∈ l, x = 0 := by
  unfold alibkeep_ok
  refine .elim (P := fun t => match t with | .inl _ => ∀ x ∈ l, x = 0 | .inr r => r = false ∧ ∃ x ∈ l, x ≠ 0) (.iter l.length (fun k v => v = (k : Int) ∧ ∀ j, (h : j < l.length) → j < k → l[j] = 0) hN ⟨rfl, fun j _ h => absurd h (Nat.not_lt_zero _)⟩ ?_ ?_) (fun _ _ h => .one ⟨fun _ => h, fun _ => rfl⟩) (fun r _ h => .one ?_)
  · rintro k v hk ⟨rfl, hr⟩
    simp only [alibkeep_ok_L3]
    refine .condT (decide_eq_true (by omega)) (.ix hk (.cond (fun h => .one ⟨rfl, l[k], List.getElem_mem hk, by simpa using h⟩) (fun h => .ck64 (by omega) (.one ⟨by simp, fun j hj hjk => ?_⟩))))
    rcases Nat.lt_or_ge j k with h1 | h1
    · exact hr j hj h1
    · obtain rfl : j = k := by omega
      simpa using h
  · rintro v ⟨rfl, hr⟩
    simp only [alibkeep_ok_L3]
    refine .condF (decide_eq_false (by omega)) (.one fun x hx => ?_)
    obtain ⟨j, hj, rfl⟩ := List.mem_iff_getElem.1 hx
    exact hr j hj hj
  · have h : r = false ∧ ∃ x ∈ l, x ≠ 0 := h
    obtain ⟨rfl, x, hx, hn⟩ := h
    exact ⟨fun h => (by cases h), fun h => absurd (h x hx) hn⟩
theorem okd {N : Nat} {l : List Int} (hN : l.length < N) (hl : l.length ≤ 1000) : alibkeep_ok N l = some (decide (∀ e ∈ l, e = 0)) := by
  obtain ⟨o, h1, h2⟩ := ok_wp hN hl
  rw [h1]
  congr 1
  cases o with
  | true => exact (decide_eq_true (h2.1 rfl)).symm
  | false => exact (decide_eq_false fun h => by have := h2.2 h; cases this).symm
end Sr

namespace Th
theorem lives : alibkeep_threadsLives 18446744073709551616 = some true := by kernel_rfl
end Th

namespace Th
open Ob Hs
/-- A state in which so much was put, at most. -/
def Sz (typ : Int) (s : List Int) (k : Nat) : Prop := OkS typ s ∧ (typ ≠ 1 → typ ≠ 5 → s.length ≤ k) ∧ (typ = 5 → s.getD 0 0 ≤ k)
theorem sz_nx {typ : Int} {s : List Int} {kind arg : Int} {k : Nat} (h : Sz typ s k) (hA : Asked typ kind arg) (hk : k < 50) : ∃ n res, nx typ s kind arg = some (n, res) ∧ Sz typ n (k + 1) := by
  obtain ⟨hO, h1, h2⟩ := h
  have hne : ∃ n res, stp typ s kind arg = some (n, res) ∧ (typ = 5 → n.getD 0 0 ≤ ((k + 1 : Nat) : Int)) := by
    have hinv := tyK_inv hA.2.1 hA.1
    unfold stp
    rcases hinv with ⟨rfl, hk'⟩ | ⟨rfl, hk'⟩ | ⟨rfl, hk'⟩ | ⟨rfl, hk'⟩ | ⟨rfl, hk'⟩
    · rw [if_pos rfl]
      split
      · exact ⟨_, _, rfl, fun e => by omega⟩
      · exact ⟨_, _, rfl, fun e => by omega⟩
    · have hl := h1 (by decide) (by decide)
      rw [if_neg (by decide), if_neg (by decide), if_pos rfl]
      split
      · rw [if_neg (by omega)]; exact ⟨_, _, rfl, fun e => by omega⟩
      · split
        · exact ⟨_, _, rfl, fun e => by omega⟩
        · exact ⟨_, _, rfl, fun e => by omega⟩
    · have hl := h1 (by decide) (by decide)
      rw [if_neg (by decide), if_neg (by decide), if_neg (by decide), if_pos rfl]
      split
      · rw [if_neg (by omega)]; exact ⟨_, _, rfl, fun e => by omega⟩
      · split
        · exact ⟨_, _, rfl, fun e => by omega⟩
        · exact ⟨_, _, rfl, fun e => by omega⟩
    · have hl := h1 (by decide) (by decide)
      rw [if_neg (by decide), if_neg (by decide), if_neg (by decide), if_neg (by decide)]
      split
      · split
        · exact ⟨_, _, rfl, fun e => by omega⟩
        · rw [if_neg (by omega)]; exact ⟨_, _, rfl, fun e => by omega⟩
      · split
        · split
          · exact ⟨_, _, rfl, fun e => by omega⟩
          · exact ⟨_, _, rfl, fun e => by omega⟩
        · exact ⟨_, _, rfl, fun e => by omega⟩
    · have h3 := h2 rfl
      rw [if_neg (by decide), if_pos rfl, if_neg (by omega)]
      refine ⟨_, _, rfl, fun _ => ?_⟩
      show s.getD 0 0 + 1 ≤ _
      omega
  obtain ⟨n, res, g1, g2⟩ := hne
  have h4 := stp_ok hO hA g1
  refine ⟨n, res, ?_, h4.1, fun a b => ?_, g2⟩
  · unfold nx; rw [if_pos ⟨hO, hA⟩]; exact g1
  · have := h1 a b
    omega
def rems (p : ThreadsProcess) : Nat := p.program.length - (if p.pending = true ∧ p.done = true then 1 else 0)
def meas (p : ThreadsProcess) : Nat := 3 * p.program.length - (if p.pending = true then (if p.done = true then 2 else 1) else 0)
structure A (types : List Int) (P0 : List (List Ask)) (m : M) : Prop where
  sl : m.states.length = types.length
  sz : ∀ x, x < types.length → Sz (types.getD x 0) (m.states.getD x []) m.steps.length
  nf : ∀ w, w < m.people.length → (m.who w).failed = false
  ss : (m.people.map rems).sum + m.steps.length = tot P0
theorem a_step {N : Nat} {types : List Int} {P0 : List (List Ask)} {m m' : M} {out out' : List Call} {op op' : List Int} (hP : OkP types P0) (h : H N types P0 m out op) (g : A types P0 m) (ht : tot P0 ≤ 40) {w : Nat} (hw : w < P0.length) (n : Nxt types m w out op m' out' op') :
    A types P0 m' ∧ ∀ v, meas (m'.who v) = if v = w then meas (m.who w) - 1 else meas (m.who v) := by
  have hpl := h.pl
  have hw' : w < m.people.length := by omega
  have hnf := g.nf w hw'
  cases n with
  | same hs =>
    refine ⟨g, fun v => ?_⟩
    rcases hs with hs | ⟨_, _, hs⟩
    · split
      · rename_i e; subst e
        unfold meas; rw [hs]; simp
      · rfl
    · rw [hnf] at hs; cases hs
  | call a r hp hn =>
    have hwho : ∀ v, (M.who ⟨m.states, m.people.set w (callP (m.who w) m.calls), m.events ++ [⟨w, a.thing, a.kind, a.arg⟩], m.steps, m.calls + 1⟩ v) = if v = w then callP (m.who w) m.calls else m.who v := fun v => who_set hw'
    refine ⟨⟨g.sl, g.sz, fun v hv => ?_, ?_⟩, fun v => ?_⟩
    · rw [hwho]
      split
      · exact hnf
      · exact g.nf v (by simpa using hv)
    · have hs := sum_people rems hw' (callP (m.who w) m.calls)
      have h1 : rems (callP (m.who w) m.calls) = rems (m.who w) := by unfold rems callP; rw [hn]; simp
      have := g.ss
      show ((m.people.set w _).map rems).sum + m.steps.length = _
      omega
    · rw [hwho]
      split
      · unfold meas callP; rw [hn]; simp
      · rfl
  | did a r s res hp hn hd hx =>
    have hwho : ∀ v, (M.who ⟨m.states.set a.thing.toNat s, m.people.set w (doP (m.who w) false res), m.events, m.steps ++ [⟨(m.who w).call, res⟩], m.calls⟩ v) = if v = w then doP (m.who w) false res else m.who v := fun v => who_set hw'
    obtain ⟨a', r', q1, i, q2, q3, q4, q5, _⟩ := h.pe w hw hn
    rw [hp] at q1
    obtain ⟨rfl, rfl⟩ : a = a' ∧ r = r' := by simpa using q1
    have O := h.rn.wf.one i q3
    have hth := O.thing
    rw [q5.1] at hth
    have hsl := g.sl
    have hss := g.ss
    have hxo := nx_ok hx
    have hr1 : rems (m.who w) = r.length + 1 := by unfold rems; rw [hp, hd]; simp
    have hle : 1 ≤ (m.people.map rems).sum := by
      have := sum_people rems hw' (doP (m.who w) false res)
      have h2 : rems (doP (m.who w) false res) = r.length := by unfold rems doP; rw [hp, hn]; simp
      omega
    refine ⟨⟨by simpa using hsl, fun x hx2 => ?_, fun v hv => ?_, ?_⟩, fun v => ?_⟩
    · show Sz _ ((m.states.set a.thing.toNat s).getD x []) (m.steps ++ [_]).length
      rw [List.length_append, List.length_singleton]
      have hgd : (m.states.set a.thing.toNat s).getD x [] = if x = a.thing.toNat then s else m.states.getD x [] := by
        simp only [List.getD_eq_getElem?_getD]
        by_cases e : x = a.thing.toNat
        · rw [if_pos e, e, List.getElem?_set_self (by omega)]; rfl
        · rw [if_neg e, List.getElem?_set_ne (fun e2 => e e2.symm)]
      rw [hgd]
      by_cases e : x = a.thing.toNat
      · rw [if_pos e]
        subst e
        obtain ⟨n', res', k1, k2⟩ := sz_nx (g.sz _ hx2) hxo.2.1 (by omega)
        rw [hx] at k1
        obtain ⟨rfl, rfl⟩ : s = n' ∧ res = res' := by simpa using k1
        exact k2
      · rw [if_neg e]
        obtain ⟨k1, k2, k3⟩ := g.sz x hx2
        exact ⟨k1, fun a b => by have := k2 a b; omega, fun a => by have := k3 a; omega⟩
    · rw [hwho]
      split
      · rfl
      · exact g.nf v (by simpa using hv)
    · have hs := sum_people rems hw' (doP (m.who w) false res)
      have h2 : rems (doP (m.who w) false res) = r.length := by unfold rems doP; rw [hp, hn]; simp
      show ((m.people.set w _).map rems).sum + (m.steps ++ [_]).length = _
      rw [List.length_append, List.length_singleton]
      omega
    · rw [hwho]
      split
      · unfold meas doP; rw [hp, hn, hd]; simp; omega
      · rfl
  | fail a r hp hn hd hx =>
    exfalso
    obtain ⟨a', r', q1, i, q2, q3, q4, q5, _⟩ := h.pe w hw hn
    rw [hp] at q1
    obtain ⟨rfl, rfl⟩ : a = a' ∧ r = r' := by simpa using q1
    have hr1 : rems (m.who w) = r.length + 1 := by unfold rems; rw [hp, hd]; simp
    have hss := g.ss
    have hle : 1 ≤ (m.people.map rems).sum := by
      have := sum_people rems hw' (doP (m.who w) false 0)
      have h2 : rems (doP (m.who w) false 0) = r.length := by unfold rems doP; rw [hp, hn]; simp
      omega
    obtain ⟨d, hd1, _⟩ := h.pr w hw
    have hw0 : P0.getD w [] ∈ P0 := by rw [getD_of hw]; exact List.getElem_mem hw
    have ha : a ∈ P0.getD w [] := by
      have : a ∈ (P0.getD w []).drop d := by rw [← hd1, hp]; exact .head _
      exact List.mem_of_mem_drop this
    obtain ⟨hth, hask⟩ := hP.ask _ hw0 a ha
    obtain ⟨n', res', k1, k2⟩ := sz_nx (g.sz a.thing.toNat (by omega)) hask (by omega)
    rw [hx] at k1
    cases k1
  | ans a r i hp hn hd hf hc hi =>
    have hwho : ∀ v, (M.who ⟨m.states, m.people.set w (ansP (m.who w)), m.events ++ [⟨w, a.thing, 0, (m.who w).res⟩], m.steps, m.calls⟩ v) = if v = w then ansP (m.who w) else m.who v := fun v => who_set hw'
    refine ⟨⟨g.sl, g.sz, fun v hv => ?_, ?_⟩, fun v => ?_⟩
    · rw [hwho]
      split
      · exact hnf
      · exact g.nf v (by simpa using hv)
    · have hs := sum_people rems hw' (ansP (m.who w))
      have h1 : rems (ansP (m.who w)) = r.length := by unfold rems ansP; rw [hp]; simp
      have h2 : rems (m.who w) = r.length := by unfold rems; rw [hp, hn, hd]; simp
      have := g.ss
      show ((m.people.set w _).map rems).sum + m.steps.length = _
      omega
    · rw [hwho]
      split
      · unfold meas ansP; rw [hp, hn, hd]; simp; omega
      · rfl
theorem a_run {N : Nat} {types : List Int} {P0 : List (List Ask)} (hP : OkP types P0) (ht : tot P0 ≤ 40) : ∀ {turns : List Int} {m : M} {out : List Call} {op : List Int}, (∀ t ∈ turns, 0 ≤ t ∧ t < P0.length) → H N types P0 m out op → A types P0 m → ∃ out' op', H N types P0 (runM types m turns) out' op' ∧ A types P0 (runM types m turns) ∧ ∀ v, meas ((runM types m turns).who v) ≤ meas (m.who v)
  | [], m, out, op, _, h, g => ⟨out, op, h, g, fun v => Nat.le_refl _⟩
  | t :: turns, m, out, op, htt, h, g => by
    obtain ⟨w, rfl⟩ : ∃ w : Nat, t = w := ⟨t.toNat, by have := htt t (.head _); omega⟩
    have hw : w < P0.length := by have := htt (w : Int) (.head _); omega
    obtain ⟨out1, op1, n1, h1⟩ := turn_nxt hP h hw
    obtain ⟨g1, me⟩ := a_step hP h g ht hw n1
    have e : runM types m ((w : Int) :: turns) = runM types (trn types m w) turns := rfl
    rw [e]
    obtain ⟨out2, op2, h2, g2, me2⟩ := a_run (turns := turns) hP ht (fun x hx => htt x (.tail _ hx)) h1 g1
    refine ⟨out2, op2, h2, g2, fun v => Nat.le_trans (me2 v) ?_⟩
    rw [me v]
    split
    · rename_i e; subst e; omega
    · exact Nat.le_refl _
theorem a_rep {N : Nat} {types : List Int} {P0 : List (List Ask)} (hP : OkP types P0) (ht : tot P0 ≤ 40) {w : Nat} (hw : w < P0.length) : ∀ (k : Nat) {m : M} {out : List Call} {op : List Int}, H N types P0 m out op → A types P0 m → meas ((runM types m (List.replicate k (w : Int))).who w) = meas (m.who w) - k
  | 0, _, _, _, _, _ => rfl
  | k + 1, m, out, op, h, g => by
    obtain ⟨out1, op1, n1, h1⟩ := turn_nxt hP h hw
    obtain ⟨g1, me⟩ := a_step hP h g ht hw n1
    have e : runM types m (List.replicate (k + 1) (w : Int)) = runM types (trn types m w) (List.replicate k (w : Int)) := rfl
    rw [e, a_rep hP ht hw k h1 g1, me w, if_pos rfl]
    omega
/-- Turns enough for all. -/
def enough (P0 : List (List Ask)) (k : Nat) : List Int := (List.range k).flatMap fun w => List.replicate (3 * (P0.getD w []).length) (w : Int)
theorem enough_succ (P0 : List (List Ask)) (k : Nat) : enough P0 (k + 1) = enough P0 k ++ List.replicate (3 * (P0.getD k []).length) (k : Int) := by
  unfold enough
  rw [List.range_succ, List.flatMap_append]
  simp
theorem enough_ok (P0 : List (List Ask)) : ∀ k, k ≤ P0.length → ∀ t ∈ enough P0 k, 0 ≤ t ∧ t < P0.length := by
  intro k hk t ht
  unfold enough at ht
  obtain ⟨w, hw, ht⟩ := List.mem_flatMap.1 ht
  have := List.mem_range.1 hw
  rw [(List.mem_replicate.1 ht).2]
  omega
theorem enough_len (P0 : List (List Ask)) : ∀ k, k ≤ P0.length → (enough P0 k).length = 3 * tot (P0.take k)
  | 0, _ => by simp [enough, tot]
  | k + 1, hk => by
    rw [enough_succ, List.length_append, enough_len P0 k (by omega), tot_take P0 (by omega), getD_of (by omega)]
    simp; omega
theorem a_all {N : Nat} {types : List Int} {P0 : List (List Ask)} (hP : OkP types P0) (ht : tot P0 ≤ 40) {m : M} {out : List Call} {op : List Int} (h : H N types P0 m out op) (g : A types P0 m) : ∀ k, k ≤ P0.length → ∃ out' op', H N types P0 (runM types m (enough P0 k)) out' op' ∧ A types P0 (runM types m (enough P0 k)) ∧ (∀ v, meas ((runM types m (enough P0 k)).who v) ≤ meas (m.who v)) ∧ ∀ v, v < k → meas ((runM types m (enough P0 k)).who v) = 0
  | 0, _ => ⟨out, op, h, g, fun v => Nat.le_refl _, fun v hv => absurd hv (Nat.not_lt_zero _)⟩
  | k + 1, hk => by
    obtain ⟨out1, op1, h1, g1, l1, z1⟩ := a_all hP ht h g k (by omega)
    rw [enough_succ, runM_app]
    have hkl : k < P0.length := by omega
    have hr := a_rep hP ht hkl (3 * (P0.getD k []).length) h1 g1
    obtain ⟨out2, op2, h2, g2, l2⟩ := a_run (turns := List.replicate (3 * (P0.getD k []).length) (k : Int)) hP ht (fun t ht => by rw [(List.mem_replicate.1 ht).2]; omega) h1 g1
    refine ⟨out2, op2, h2, g2, fun v => Nat.le_trans (l2 v) (l1 v), fun v hv => ?_⟩
    by_cases e : v = k
    · subst e
      rw [hr]
      obtain ⟨d, hd, _⟩ := h1.pr v hkl
      have h5 : meas ((runM types m (enough P0 v)).who v) ≤ 3 * ((runM types m (enough P0 v)).who v).program.length := by unfold meas; omega
      have h6 : ((runM types m (enough P0 v)).who v).program.length ≤ (P0.getD v []).length := by rw [hd]; simp
      omega
    · have := l2 v
      rw [z1 v (by omega)] at this
      omega
theorem sum_zero {l : List ThreadsProcess} {f : ThreadsProcess → Nat} (h : ∀ p ∈ l, f p = 0) : (l.map f).sum = 0 := by
  induction l with
  | nil => rfl
  | cons a l ih => rw [List.map_cons, List.sum_cons, h a (.head _), ih fun p hp => h p (.tail _ hp)]
/-- Behind them all are answered. -/
theorem a_end {N : Nat} {types : List Int} {P0 : List (List Ask)} (hP : OkP types P0) {m : M} {out : List Call} {op : List Int} (h : H N types P0 m out op) (g : A types P0 m) (z : ∀ v, v < P0.length → meas (m.who v) = 0) : out.length = tot P0 ∧ m.steps.length = tot P0 ∧ ∀ i, i < out.length → (out.getD i Call.z).to_ ≠ -1 := by
  have hpl := h.pl
  have h8 := hP.few
  have hdone : ∀ v, v < P0.length → (m.who v).program = [] ∧ (m.who v).pending = false := by
    intro v hv
    have hz := z v hv
    have hprog : (m.who v).program = [] := by
      cases hq : (m.who v).program with
      | nil => rfl
      | cons a r =>
        unfold meas at hz
        rw [hq] at hz
        simp only [List.length_cons] at hz
        split at hz
        · split at hz <;> omega
        · omega
    refine ⟨hprog, ?_⟩
    cases hq : (m.who v).pending with
    | false => rfl
    | true =>
      obtain ⟨a, r, e, _⟩ := h.pe v hv hq
      rw [hprog] at e
      cases e
  have hall : ∀ p ∈ m.people, p.program = [] ∧ p.pending = false := by
    intro p hp
    obtain ⟨v, hv, rfl⟩ := List.getElem_of_mem hp
    have := hdone v (by omega)
    unfold M.who at this
    rwa [getD_of hv] at this
  refine ⟨?_, ?_, fun i hi ht => ?_⟩
  · have := h.sum
    rw [sum_zero fun p hp => by unfold rem; rw [(hall p hp).1]; simp] at this
    omega
  · have := g.ss
    rw [sum_zero fun p hp => by unfold rems; rw [(hall p hp).1]; simp] at this
    omega
  · obtain ⟨w, a, e1, e2, _⟩ := h.ord_ i hi
    rcases (h.rn.wf.one i hi).to with ⟨_, e3, _⟩ | ⟨e3, _⟩
    · rw [e1, Int.toNat_natCast, h.np w (by omega) (.inr (hdone w e2).2)] at e3
      omega
    · have := (h.rn.wf.one i hi).fr
      omega
theorem a0 {types : List Int} {P0 : List (List Ask)} (hP : OkP types P0) : A types P0 (m0 types P0) := by
  have hf : ∀ w, ((m0 types P0).who w).failed = false := by
    intro w
    unfold M.who m0
    simp only [List.getD_eq_getElem?_getD, List.getElem?_map]
    cases P0[w]? <;> rfl
  refine ⟨by simp [m0], fun x hx => ?_, fun w _ => hf w, ?_⟩
  · have e : (m0 types P0).states.getD x [] = st0 (types.getD x 0) := by simp [m0, List.getD_eq_getElem?_getD, hx]
    rw [e]
    have hT := hP.ty.2.2 (types.getD x 0) (by rw [getD_of hx]; exact List.getElem_mem hx)
    refine ⟨st0_ok hT, fun h1 h5 => ?_, fun h5 => ?_⟩
    · unfold st0
      rw [if_neg (by omega)]
      exact Nat.zero_le _
    · unfold st0
      rw [if_pos (.inr h5)]
      exact Int.natCast_nonneg _
  · unfold tot m0
    simp only [List.map_map, List.length_nil, Nat.add_zero]
    congr 1
theorem allLaw {N : Nat} (hN : 50000000 < N) (hL : alibkeep_threadsLives N = some true) (types : List Int) (P0 : List (List Ask)) (turns : List Int) (hl : ∀ l ∈ P0, l.length < N ∧ l.length ≤ 9223372036854775807) (hb9 : ∀ q ∈ P0, q.length ≤ 10000000000000) : alibkeep_ThreadsAll N types P0 turns = some true := by
  obtain ⟨e, he, h1⟩ := play_wp (by omega : 5000 < N) (types := types) hl turns
  refine Wp.eq ?_
  unfold alibkeep_ThreadsAll
  refine .seq h1 fun r _ hr => .bdO hL (.cond (fun _ => .bdO hL (.one rfl)) fun hc => ?_)
  have hr0 : r.2.2 = 0 := by simpa using hc
  have hr : e = 0 ∧ OkP types P0 ∧ (turns.length ≤ 300 ∧ ∀ t ∈ turns, 0 ≤ t ∧ t < P0.length) := by
    rcases hr with ⟨h, rfl⟩ | h | ⟨_, _, _, _, _, h, _⟩
    · exact (h hr0).elim
    · exact ⟨h.1, h.2.1, h.2.2.1⟩
    · exact (h hr0).elim
  obtain ⟨rfl, hP, hT⟩ := hr
  have hb : tot P0 ≤ 90 := check_tot (by omega) he hb9
  have h8 := hP.few
  refine .ck (limB_of ⟨Nat.le_trans (m := 300) hT.1 (by unfold maxLen; decide), by omega⟩) ?_
  have hel : ∀ k, k ≤ P0.length → (enough P0 k).length ≤ 3145728 := fun k hk => by
    rw [enough_len P0 k hk]
    have := tot_le P0 k
    omega
  refine .seq (P := fun s => s = (turns ++ enough P0 P0.length, (tot P0 : Int))) (.iter P0.length (fun k st => st = (turns ++ enough P0 k, (tot (P0.take k) : Int), (k : Int))) (by omega) (by simp [enough, tot]) ?_ ?_) fun s _ hs => ?_
  · rintro k st hk rfl
    simp only [alibkeep_ThreadsAll_L49]
    have ht1 := tot_take P0 hk
    have ht2 := tot_le P0 (k + 1)
    refine .condT (decide_eq_true (by omega)) (.seq (P := fun s => s = (turns ++ enough P0 (k + 1), (tot (P0.take (k + 1)) : Int))) (.ix hk ?_) fun s _ hs => ?_)
    · refine .seq (P := fun s => s = turns ++ enough P0 (k + 1)) (.ck64 (by omega) (.iter (3 * P0[k].length) (fun j st => st = (turns ++ (enough P0 k ++ List.replicate j (k : Int)), (j : Int))) (by omega) (by simp) ?_ ?_)) fun s _ hs => ?_
      · rintro j st hj rfl
        simp only [alibkeep_ThreadsAll_L53]
        have h5 := hel k (by omega)
        have h6 := hT.1
        refine .condT (decide_eq_true (by omega)) (.ck (limB_of ⟨?_, ?_⟩) (.ck64 (by omega) (.one ?_)))
        · simp only [List.length_append, List.length_replicate, List.length_singleton]
          exact Nat.le_trans (m := 10000000) (by omega) (by unfold maxLen; decide)
        · simp only [List.length_append, List.length_replicate, List.length_singleton]
          omega
        · refine Prod.ext ?_ (by simp)
          show _ = turns ++ (enough P0 k ++ List.replicate (j + 1) (k : Int))
          simp [List.replicate_succ', List.append_assoc]
      · rintro st rfl
        simp only [alibkeep_ThreadsAll_L53]
        refine .condF (decide_eq_false (by omega)) (.one ?_)
        rw [enough_succ, getD_of hk]
      · subst hs
        refine .ck64 (by omega) (.one ?_)
        rw [ht1]
        simp
    · subst hs
      exact .ck64 (by omega) (.one (by simp))
  · rintro st rfl
    simp only [alibkeep_ThreadsAll_L49]
    refine .condF (decide_eq_false (by omega)) (.one ?_)
    rw [List.take_length]
  subst hs
  obtain ⟨e', he', h2⟩ := play_wp (by omega : 5000 < N) (types := types) hl (turns ++ enough P0 P0.length)
  obtain rfl : 0 = e' := by rw [he] at he'; exact Option.some.inj he'
  refine .seq h2 fun q _ hq => .cond (fun _ => .one rfl) fun hc2 => ?_
  simp only [Bool.or_eq_false_iff, decide_eq_false_iff_not] at hc2
  have htot : tot P0 ≤ 40 := by omega
  have hall : ∀ t ∈ turns ++ enough P0 P0.length, 0 ≤ t ∧ t < P0.length := fun t ht => by
    rcases List.mem_append.1 ht with ht | ht
    · exact hT.2 t ht
    · exact enough_ok P0 _ (Nat.le_refl _) t ht
  have hq : q = ((runM types (m0 types P0) (turns ++ enough P0 P0.length)).events, (runM types (m0 types P0) (turns ++ enough P0 P0.length)).steps, 0) := by
    rcases hq with ⟨h, _⟩ | ⟨_, _, _, h⟩ | ⟨_, _, hn, _, _, _, h2⟩
    · exact (h rfl).elim
    · exact h
    · exact (hc2.1 (h2.2 fun h3 => hn ⟨h3, hall⟩)).elim
  subst hq
  obtain ⟨o1, p1, x1, x2, _⟩ := a_run hP htot hT.2 (h0 (N := N)) (a0 hP)
  obtain ⟨out, op, h, g, _, z⟩ := a_all hP htot x1 x2 P0.length (Nat.le_refl _)
  rw [← runM_app] at h g z
  obtain ⟨e1, e2, e3⟩ := a_end hP h g z
  generalize hX : runM types (m0 types P0) (turns ++ enough P0 P0.length) = X at *
  have htz : history_Types N types = some 0 := by
    have := he
    unfold threads_Check at this
    obtain ⟨r, hr, this⟩ := bd_inv this
    rcases cond_inv this with ⟨_, h⟩ | ⟨hc, _⟩
    · cases h
    simp only [Bool.or_eq_false_iff, Bool.not_eq_false', decide_eq_true_eq] at hc
    rw [hr, hc.1]
  have hev : X.events.length ≤ 200 := by
    have h2 := h.rn.wf.cnt
    have h3 := List.countP_le_length (p := fun c : Call => !decide (c.to_ = -1)) (l := out)
    omega
  refine .bdO (calls_of (by omega : 300 < N) htz hev h.rn) (.bdO (Sr.okd (by simp; omega) (by simp)) (.condF (by simp; omega) (.ck (mkB_of (by omega) (by simp; omega) (by simp; omega)) ?_)))
  refine .elim (P := fun t => match t with | .inl _ => True | .inr _ => False) (.iter out.length (fun k st => st.2 = (k : Int) ∧ st.1.length = P0.length ∧ ∀ v, v < P0.length → st.1.getD v 0 = (cnt (out.take k) v : Int)) (by omega) ⟨rfl, by simp, fun v hv => by simp [List.getD_eq_getElem?_getD, hv, cnt]⟩ ?_ ?_) (fun _ _ _ => .one rfl) (fun _ _ h => h.elim)
  · rintro k ⟨at_, v⟩ hk ⟨hv, hlen, hat⟩
    simp only at hv hlen hat
    subst hv
    simp only [alibkeep_ThreadsAll_L55]
    obtain ⟨w, a, g1, g2, g3, g4, g5, g6⟩ := h.ord_ k hk
    have hto := e3 k hk
    refine .condT (decide_eq_true (by omega)) (.ixD Call.z (by omega) (by omega) ?_)
    simp only [Int.toNat_natCast]
    have hlt : cnt (out.take k) w < (P0.getD w []).length := (List.getElem?_eq_some_iff.1 g3).1
    refine .ixD [] (by rw [g1]; omega) (by rw [g1]; omega) (.ixD 0 (by rw [g1]; omega) (by rw [g1]; omega) ?_)
    rw [g1, Int.toNat_natCast, hat w g2]
    have ha : (P0.getD w []).getD (cnt (out.take k) w) Ask.z = a := by rw [List.getD_eq_getElem?_getD, g3]; rfl
    refine .ixD Ask.z (by omega) (by omega) ?_
    simp only [Int.toNat_natCast, ha]
    have hcl : cnt (out.take k) w ≤ out.length := by
      have : cnt (out.take k) w ≤ (out.take k).length := List.countP_le_length
      simp at this; omega
    refine .ck64 (by omega) (.condF ?_ (.ck64 (by omega) (.one ⟨by simp, by simpa using hlen, fun v hv => ?_⟩)))
    · have : a = ⟨(out.getD k Call.z).thing, (out.getD k Call.z).kind, (out.getD k Call.z).arg⟩ := by
        rw [← g4, ← g5, ← g6]
      rw [decide_eq_false hto, decide_eq_true this]; rfl
    · have e4 : out.take (k + 1) = out.take k ++ [out.getD k Call.z] := by rw [getD_of hk]; exact (List.take_append_getElem hk).symm
      rw [e4, cnt_app, g1]
      simp only [List.getD_eq_getElem?_getD]
      by_cases e5 : v = w
      · subst e5
        rw [if_pos rfl, List.getElem?_set_self (by omega)]
        simp
      · rw [if_neg (by omega), List.getElem?_set_ne (fun e6 => e5 e6.symm)]
        have := hat v hv
        rw [List.getD_eq_getElem?_getD] at this
        rw [this]
        simp
  · rintro ⟨at_, v⟩ ⟨hv, _⟩
    simp only at hv
    subst hv
    simp only [alibkeep_ThreadsAll_L55]
    exact .condF (decide_eq_false (by omega)) (.one trivial)
end Th

end Go.Proofs.Yteklmleiiiodfaa
