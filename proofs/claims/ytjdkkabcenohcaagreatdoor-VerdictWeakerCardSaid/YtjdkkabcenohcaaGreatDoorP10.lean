/- Parts of a history; orders of parts are joined. -/
import Derived.Test.YtjdkkabcenohcaaGreatDoorP6
import Derived.Test.YtjdkkabcenohcaaGreatDoorP9
set_option linter.unusedVariables false
set_option linter.unusedSimpArgs false
set_option linter.unusedSectionVars false
set_option maxRecDepth 100000
namespace Go.Proofs.YtjdkkabcenohcaaGreatDoor
open Go.RowKit
namespace Sr
open Rl Hs
theorem cx9 {N : Nat} {types : List Int} {l : List Event} {c : List Call} (H : Hc N types l c) (hN : 300 < N) : ∃ rel, Cx types c rel (bfA c) := by
  have hf := H.few
  obtain ⟨a, _, ha⟩ := ahead_wp hN (c := c) (by omega)
  exact ⟨_, cx_of (n := a.1) H.his (by omega) ha.2.2⟩
theorem calls9_of {N : Nat} {types : List Int} {l : List Event} {c : List Call} (h : history_Calls N types l = some (c, 0, 0)) (hl : c.length ≤ 9) : search_Calls N types l = some (c, 0) := by
  unfold search_Calls
  rw [bd_of h]
  exact (cond_no rfl).trans (cond_no (decide_eq_false (by simp only; omega)))
theorem hc_of {N : Nat} (hN : 300 < N) {types : List Int} {l : List Event} {c : List Call} (h : search_Calls N types l = some (c, 0)) : Hc N types l c := by
  obtain ⟨r, h1, h2⟩ := calls9_wp hN types l
  rw [h] at h1
  cases h1
  rcases h2 with ⟨_, H, _⟩ | ⟨h, _⟩
  · exact H
  · exact (h rfl).elim
theorem asked_of {N : Nat} {types : List Int} {l : List Event} {k : Nat} {c : List Call} {op : List Int} (R : RnH N types l k c op) {m : Nat} (hm : m < c.length) : Ob.Asked (types.getD (c.getD m Call.z).thing.toNat 0) (c.getD m Call.z).kind (c.getD m Call.z).arg := by
  have O := R.wf.one m hm
  have a1 := (rn_arg R m hm).1
  rw [Ob.argument_ok] at a1
  refine ⟨O.fit.1, O.fit.2, fun h => ?_, fun h => ?_⟩
  · rw [if_pos h] at a1
    simpa using a1
  · rw [if_neg h] at a1
    have : 1 ≤ (c.getD m Call.z).arg ∧ (c.getD m Call.z).arg ≤ 1000 := by simpa using a1
    exact this
end Sr

namespace Hs
/-- A call of the whole and the same call in the part. -/
structure One (pos : List Nat) (a b : Call) : Prop where
  who : b.who = a.who
  thing : b.thing = a.thing
  kind : b.kind = a.kind
  arg : b.arg = a.arg
  res : b.res = a.res
  fr : 0 ≤ b.from_ ∧ b.from_.toNat < pos.length ∧ a.from_ = (pos.getD b.from_.toNat 0 : Nat)
  tO : (a.to_ = -1 ∧ b.to_ = -1) ∨ (0 ≤ b.to_ ∧ b.to_.toNat < pos.length ∧ a.to_ = (pos.getD b.to_.toNat 0 : Nat))
theorem getDn_app {α : Type} {l m : List α} {d : α} {i : Nat} (h : i < l.length) : (l ++ m).getD i d = l.getD i d := by
  simp only [List.getD_eq_getElem?_getD, List.getElem?_append_left h]
theorem One.more {pos : List Nat} {a b : Call} (h : One pos a b) (k : Nat) : One (pos ++ [k]) a b := by
  obtain ⟨h1, h2, h3, h4, h5, h6, h7⟩ := h
  refine ⟨h1, h2, h3, h4, h5, ⟨h6.1, by rw [List.length_append]; omega, by rw [getDn_app h6.2.1]; exact h6.2.2⟩, ?_⟩
  rcases h7 with h7 | ⟨h7, h8, h9⟩
  · exact .inl h7
  · exact .inr ⟨h7, by rw [List.length_append]; omega, by rw [getDn_app h8]; exact h9⟩
def gC (g : Int → Int → Int → Bool) (c : Call) : Bool := g c.thing c.kind c.arg
/-- The calls that g tells, read alone. -/
structure SubH (N : Nat) (types : List Int) (g : Int → Int → Int → Bool) (p : List Event) (k : Nat) (out out' : List Call) (op op' : List Int) (idx pos : List Nat) : Prop where
  run : RnH N types p p.length out' op'
  plen : pos.length = p.length
  pinc : pos.Pairwise (· < ·)
  plt : ∀ x ∈ pos, x < k
  ilen : idx.length = out'.length
  iinc : idx.Pairwise (· < ·)
  ilt : ∀ x ∈ idx, x < out.length
  cov : ∀ i, i < out.length → (i ∈ idx ↔ gC g (out.getD i Call.z) = true)
  cnt : out'.length = out.countP (gC g)
  one : ∀ j, j < out'.length → One pos (out.getD (idx.getD j 0) Call.z) (out'.getD j Call.z)
  who : ∀ w, w < 8 → (op.getD w 0 ≤ 0 → op'.getD w 0 = 0) ∧ ∀ m : Nat, op.getD w 0 = m + 1 → (gC g (out.getD m Call.z) = false ∧ op'.getD w 0 = 0) ∨ ∃ m' : Nat, m' < out'.length ∧ idx.getD m' 0 = m ∧ op'.getD w 0 = m' + 1
theorem SubH.zero (N : Nat) (types : List Int) (g : Int → Int → Int → Bool) : SubH N types g [] 0 [] [] [] [] [] [] :=
  ⟨.zero, rfl, .nil, fun _ h => (nomatch h), rfl, .nil, fun _ h => (nomatch h), fun _ h => absurd h (Nat.not_lt_zero _), rfl, fun _ h => absurd h (Nat.not_lt_zero _), fun w _ => ⟨fun _ => rfl, fun m h => absurd h (by show ¬ (0 : Int) = m + 1; omega)⟩⟩
theorem RnH.app {N : Nat} {types : List Int} {l : List Event} {v : Event} : ∀ {k : Nat} {out : List Call} {op : List Int}, RnH N types l k out op → RnH N types (l ++ [v]) k out op := by
  intro k out op R
  induction R with
  | zero => exact .zero
  | @succ k out out' op op' R hk S ih =>
    refine .succ ih (by rw [List.length_append]; omega) ?_
    rw [getD_app, if_pos hk]; exact S
theorem RnH.snoc {N : Nat} {types : List Int} {l : List Event} {v : Event} {out out' : List Call} {op op' : List Int} (R : RnH N types l l.length out op) (S : StpX N types out op (l.length : Int) v out' op') : RnH N types (l ++ [v]) (l ++ [v]).length out' op' := by
  rw [List.length_append, List.length_singleton]
  refine .succ (RnH.app R) (by rw [List.length_append, List.length_singleton]; omega) ?_
  rw [getD_app, if_neg (Nat.lt_irrefl _), if_pos rfl]; exact S
/-- Is the event of one of these calls? -/
def Sel (g : Int → Int → Int → Bool) (out : List Call) (op : List Int) (v : Event) (b : Bool) : Prop :=
  (v.kind ≠ 0 → b = g v.thing v.kind v.value) ∧ (v.kind = 0 → ∀ m : Nat, op.getD v.who.toNat 0 = m + 1 → b = gC g (out.getD m Call.z))
theorem gC_set {g : Int → Int → Int → Bool} {out : List Call} {m i : Nat} {r z : Int} (hm : m < out.length) : gC g ((out.set m (endC (out.getD m Call.z) r z)).getD i Call.z) = gC g (out.getD i Call.z) := by
  rw [getD_set2 hm]
  split
  · rename_i e; subst e; rfl
  · rfl
theorem cnt_set {g : Int → Int → Int → Bool} {out : List Call} {m : Nat} {r z : Int} (hm : m < out.length) : (out.set m (endC (out.getD m Call.z) r z)).countP (gC g) = out.countP (gC g) := by
  have e : (out.set m (endC (out.getD m Call.z) r z)).map (gC g) = out.map (gC g) := by
    apply List.ext_getElem?
    intro j
    rw [List.getElem?_map, List.getElem?_map, List.getElem?_set]
    split
    · rename_i e
      subst e
      rw [List.getElem?_eq_getElem hm, getD_of hm]
      rfl
    · rfl
  have h : ∀ l : List Call, l.countP (gC g) = (l.map (gC g)).countP id := fun l => by rw [List.countP_map]; rfl
  rw [h, h, e]
theorem mem_getD {idx : List Nat} {i : Nat} (h : i < idx.length) : idx.getD i 0 ∈ idx := by
  rw [List.getD_eq_getElem?_getD, List.getElem?_eq_getElem h]; exact List.getElem_mem h
theorem getD_ne {idx : List Nat} (h : idx.Pairwise (· < ·)) {i j : Nat} (hi : i < idx.length) (hj : j < idx.length) (e : idx.getD i 0 = idx.getD j 0) : i = j := by
  rw [List.getD_eq_getElem?_getD, List.getD_eq_getElem?_getD, List.getElem?_eq_getElem hi, List.getElem?_eq_getElem hj] at e
  rw [List.pairwise_iff_getElem] at h
  rcases Nat.lt_trichotomy i j with x | x | x
  · have := h i j hi hj x; simp only [Option.getD_some] at e; omega
  · exact x
  · have := h j i hj hi x; simp only [Option.getD_some] at e; omega
theorem inc_snoc {idx : List Nat} {k : Nat} (h : idx.Pairwise (· < ·)) (hl : ∀ x ∈ idx, x < k) : (idx ++ [k]).Pairwise (· < ·) :=
  List.pairwise_append.2 ⟨h, List.pairwise_singleton _ _, fun x hx y hy => by rw [List.mem_singleton.1 hy]; exact hl x hx⟩
theorem SubH.step {N : Nat} {types : List Int} {g : Int → Int → Int → Bool} {p : List Event} {k : Nat} {out out' out2 : List Call} {op op' op2 : List Int} {idx pos : List Nat} {v : Event} {l : List Event} (P : SubH N types g p k out out' op op' idx pos) (W : WF types l k out op) (S : StpX N types out op (k : Int) v out2 op2) {b : Bool} (hb : Sel g out op v b) :
    (b = true → ∃ o2 p2 i2 s2, SubH N types g (p ++ [v]) (k + 1) out2 o2 op2 p2 i2 s2) ∧ (b = false → SubH N types g p (k + 1) out2 out' op2 op' idx pos) := by
  have W' := P.run.wf
  have hw := S.who
  have hw8 : v.who.toNat < 8 := by omega
  have hlt : ∀ w, w < 8 → ∀ m : Nat, op.getD w 0 = m + 1 → m < out.length := fun w h m e => by have := (W.pen w h).2.1; omega
  have hpl := P.plen
  have hil := P.ilen
  have hplt : ∀ x ∈ pos, x < k + 1 := fun x hx => by have := P.plt x hx; omega
  rcases S.how with ⟨hk, hf, ha, hn, rfl, rfl⟩ | ⟨hk, m, hm, hml, ht, hr, rfl, rfl⟩
  · have hbv := hb.1 hk
    have h0 := (P.who v.who.toNat hw8).1 hn
    have hop : ∀ w, w < 8 → (setA 8 0 op v.who ((out.length : Int) + 1)).getD w 0 = if w = v.who.toNat then (out.length : Int) + 1 else op.getD w 0 := fun w h => setA_get h
    have hop' : ∀ w, w < 8 → (setA 8 0 op' v.who ((out'.length : Int) + 1)).getD w 0 = if w = v.who.toNat then (out'.length : Int) + 1 else op'.getD w 0 := fun w h => setA_get h
    have hidx : ∀ j, j < out'.length → (out ++ [begC v (k : Int)]).getD (idx.getD j 0) Call.z = out.getD (idx.getD j 0) Call.z := fun j hj => getDn_app (P.ilt _ (mem_getD (by omega)))
    refine ⟨fun hv => ?_, fun hv => ?_⟩
    · refine ⟨out' ++ [begC v (p.length : Int)], setA 8 0 op' v.who ((out'.length : Int) + 1), idx ++ [out.length], pos ++ [k], RnH.snoc P.run ⟨hw, S.thing, .inl ⟨hk, hf, ha, by omega, rfl, rfl⟩⟩, by simp [hpl], inc_snoc P.pinc P.plt, fun x hx => ?_, by simp [hil], inc_snoc P.iinc P.ilt, fun x hx => ?_, fun i hi => ?_, ?_, fun j hj => ?_, fun w h => ?_⟩
      · rcases List.mem_append.1 hx with h | h
        · exact hplt x h
        · rw [List.mem_singleton.1 h]; omega
      · rw [List.length_append, List.length_singleton]
        rcases List.mem_append.1 hx with h | h
        · have := P.ilt x h; omega
        · rw [List.mem_singleton.1 h]; omega
      · rw [List.mem_append, List.mem_singleton, getD_app]
        rw [List.length_append, List.length_singleton] at hi
        rcases Nat.lt_or_ge i out.length with h | h
        · rw [if_pos h, ← P.cov i h]
          exact ⟨fun e => e.elim id fun e => by omega, .inl⟩
        · obtain rfl : i = out.length := by omega
          rw [if_neg (Nat.lt_irrefl _), if_pos rfl]
          exact ⟨fun _ => by rw [← hv, hbv]; rfl, fun _ => .inr rfl⟩
      · have : gC g (begC v (k : Int)) = true := by rw [← hv, hbv]; rfl
        rw [List.length_append, List.length_singleton, P.cnt, List.countP_append, List.countP_singleton, if_pos this]
      · rw [List.length_append, List.length_singleton] at hj
        rcases Nat.lt_or_ge j out'.length with h | h
        · rw [getDn_app (l := idx) (by omega), hidx j h, getDn_app h]
          exact (P.one j h).more k
        · obtain rfl : j = out'.length := by omega
          have e1 : (idx ++ [out.length]).getD out'.length 0 = out.length := by rw [← hil, getD_app, if_neg (Nat.lt_irrefl _), if_pos rfl]
          have e2 : (out ++ [begC v (k : Int)]).getD out.length Call.z = begC v (k : Int) := by rw [getD_app, if_neg (Nat.lt_irrefl _), if_pos rfl]
          have e3 : (out' ++ [begC v (p.length : Int)]).getD out'.length Call.z = begC v (p.length : Int) := by rw [getD_app, if_neg (Nat.lt_irrefl _), if_pos rfl]
          rw [e1, e2, e3]
          refine ⟨rfl, rfl, rfl, rfl, rfl, ⟨Int.natCast_nonneg _, ?_, ?_⟩, .inl ⟨rfl, rfl⟩⟩
          · show ((p.length : Int)).toNat < _
            rw [List.length_append, List.length_singleton, Int.toNat_natCast, hpl]; omega
          · show (k : Int) = ((pos ++ [k]).getD ((p.length : Int)).toNat 0 : Nat)
            rw [Int.toNat_natCast, ← hpl, getD_app, if_neg (Nat.lt_irrefl _), if_pos rfl]
      · rw [hop w h, hop' w h]
        by_cases e : w = v.who.toNat
        · rw [if_pos e, if_pos e]
          refine ⟨fun h => by omega, fun m hm => .inr ⟨out'.length, by simp, ?_, rfl⟩⟩
          obtain rfl : m = out.length := by omega
          rw [← hil, getD_app, if_neg (Nat.lt_irrefl _), if_pos rfl]
        · rw [if_neg e, if_neg e]
          refine ⟨(P.who w h).1, fun m hm => ?_⟩
          rw [getDn_app (hlt w h m hm)]
          rcases (P.who w h).2 m hm with a2 | ⟨m', a3, a4, a5⟩
          · exact .inl a2
          · exact .inr ⟨m', by rw [List.length_append]; omega, by rw [getDn_app (by omega)]; exact a4, a5⟩
    · refine ⟨P.run, hpl, P.pinc, hplt, hil, P.iinc, fun x hx => by have := P.ilt x hx; rw [List.length_append]; omega, fun i hi => ?_, ?_, fun j hj => by rw [hidx j hj]; exact P.one j hj, fun w h => ?_⟩
      · rw [getD_app]
        rw [List.length_append, List.length_singleton] at hi
        rcases Nat.lt_or_ge i out.length with h | h
        · rw [if_pos h, ← P.cov i h]
        · obtain rfl : i = out.length := by omega
          rw [if_neg (Nat.lt_irrefl _), if_pos rfl]
          refine ⟨fun e => absurd (P.ilt _ e) (Nat.lt_irrefl _), fun e => ?_⟩
          have e : g v.thing v.kind v.value = true := e
          rw [← hbv, hv] at e; cases e
      · have : gC g (begC v (k : Int)) = false := by rw [← hv, hbv]; rfl
        rw [P.cnt, List.countP_append, List.countP_singleton, if_neg (by rw [this]; decide), Nat.add_zero]
      · rw [hop w h]
        by_cases e : w = v.who.toNat
        · rw [if_pos e]
          refine ⟨fun h => by omega, fun m hm => ?_⟩
          obtain rfl : m = out.length := by omega
          rw [getD_app, if_neg (Nat.lt_irrefl _), if_pos rfl]
          exact .inl ⟨by show g v.thing v.kind v.value = false; rw [← hbv, hv], by rw [e]; exact h0⟩
        · rw [if_neg e]
          refine ⟨(P.who w h).1, fun m hm => ?_⟩
          rw [getDn_app (hlt w h m hm)]
          exact (P.who w h).2 m hm
  · have hbv := hb.2 hk m hm
    have b2 := (P.who v.who.toNat hw8).2 m hm
    have hop : ∀ w, w < 8 → (setA 8 0 op v.who 0).getD w 0 = if w = v.who.toNat then 0 else op.getD w 0 := fun w h => setA_get h
    have hop' : ∀ w, w < 8 → (setA 8 0 op' v.who 0).getD w 0 = if w = v.who.toNat then 0 else op'.getD w 0 := fun w h => setA_get h
    refine ⟨fun hv => ?_, fun hv => ?_⟩
    · rcases b2 with ⟨b2, _⟩ | ⟨m', b3, b4, b5⟩
      · rw [hbv, b2] at hv; cases hv
      have O := P.one m' b3
      rw [b4] at O
      refine ⟨out'.set m' (endC (out'.getD m' Call.z) v.value (p.length : Int)), setA 8 0 op' v.who 0, idx, pos ++ [k], RnH.snoc P.run ⟨hw, S.thing, .inr ⟨hk, m', b5, b3, by rw [O.thing]; exact ht, by rw [O.kind]; exact hr, rfl, rfl⟩⟩, by simp [hpl], inc_snoc P.pinc P.plt, fun x hx => ?_, by rw [List.length_set]; exact hil, P.iinc, fun x hx => by rw [List.length_set]; exact P.ilt x hx, fun i hi => ?_, by rw [List.length_set, cnt_set hml]; exact P.cnt, fun j hj => ?_, fun w h => ?_⟩
      · rcases List.mem_append.1 hx with h | h
        · exact hplt x h
        · rw [List.mem_singleton.1 h]; omega
      · rw [List.length_set] at hi
        rw [gC_set hml]; exact P.cov i hi
      · rw [List.length_set] at hj
        rw [getD_set2 hml, getD_set2 b3]
        by_cases e : j = m'
        · subst e
          rw [if_pos b4, if_pos rfl]
          have M := O.more k
          refine ⟨M.who, M.thing, M.kind, M.arg, rfl, M.fr, .inr ⟨Int.natCast_nonneg _, ?_, ?_⟩⟩
          · show ((p.length : Int)).toNat < _
            rw [List.length_append, List.length_singleton, Int.toNat_natCast, hpl]; omega
          · show (k : Int) = ((pos ++ [k]).getD ((p.length : Int)).toNat 0 : Nat)
            rw [Int.toNat_natCast, ← hpl, getD_app, if_neg (Nat.lt_irrefl _), if_pos rfl]
        · rw [if_neg e, if_neg (fun z => e (getD_ne P.iinc (by omega) (by omega) (z.trans b4.symm)))]
          exact (P.one j hj).more k
      · rw [hop w h, hop' w h]
        by_cases e : w = v.who.toNat
        · rw [if_pos e, if_pos e]
          exact ⟨fun _ => rfl, fun m hm => by omega⟩
        · rw [if_neg e, if_neg e]
          refine ⟨(P.who w h).1, fun q hq => ?_⟩
          rw [gC_set hml]
          rcases (P.who w h).2 q hq with a2 | ⟨q', a3, a4, a5⟩
          · exact .inl a2
          · exact .inr ⟨q', by rw [List.length_set]; exact a3, a4, a5⟩
    · have h0 : op'.getD v.who.toNat 0 = 0 := by
        rcases b2 with ⟨_, b2⟩ | ⟨m', b3, b4, _⟩
        · exact b2
        · have := (P.cov m hml).1 (by rw [← b4]; exact mem_getD (by omega))
          rw [hbv, this] at hv; cases hv
      have hnm : ∀ j, j < out'.length → idx.getD j 0 ≠ m := fun j hj e => by
        have := (P.cov m hml).1 (by rw [← e]; exact mem_getD (by omega))
        rw [hbv, this] at hv; cases hv
      refine ⟨P.run, hpl, P.pinc, hplt, hil, P.iinc, fun x hx => by rw [List.length_set]; exact P.ilt x hx, fun i hi => ?_, by rw [cnt_set hml]; exact P.cnt, fun j hj => ?_, fun w h => ?_⟩
      · rw [List.length_set] at hi
        rw [gC_set hml]; exact P.cov i hi
      · rw [getD_set2 hml, if_neg (hnm j hj)]
        exact P.one j hj
      · rw [hop w h]
        by_cases e : w = v.who.toNat
        · rw [if_pos e]
          exact ⟨fun _ => by rw [e]; exact h0, fun m hm => by omega⟩
        · rw [if_neg e]
          refine ⟨(P.who w h).1, fun q hq => ?_⟩
          rw [gC_set hml]
          exact (P.who w h).2 q hq
end Hs

namespace Sr
open Rl Hs
/-- A step of a call of c. -/
structure InC (c : List Call) (s : Step) : Prop where
  rng : 0 ≤ s.call ∧ s.call < c.length
  res : (c.getD s.call.toNat Call.z).to_ ≠ -1 → s.res = (c.getD s.call.toNat Call.z).res
/-- One may stand ahead of the other. -/
def Bef (q : Nat → Nat → Bool) (a b : Step) : Prop := a.call ≠ b.call ∧ q b.call.toNat a.call.toNat = false
theorem ac_pw {c : List Call} {q : Nat → Nat → Bool} : ∀ {t : List Step} {w : List Nat}, Ac c q w t ↔ (∀ s ∈ t, InC c s ∧ s.call.toNat ∉ w ∧ ∀ j ∈ w, q s.call.toNat j = false) ∧ t.Pairwise (Bef q)
  | [], w => by simp [Ac]
  | s :: t, w => by
    constructor
    · rintro ⟨i, h1, h2, h3, h4, h5, h6⟩
      obtain ⟨g1, g2⟩ := ac_pw.1 h6
      have e : s.call.toNat = i := by omega
      refine ⟨fun x hx => ?_, List.pairwise_cons.2 ⟨fun x hx => ?_, g2⟩⟩
      · rcases List.mem_cons.1 hx with rfl | hx
        · exact ⟨⟨by omega, by rw [e]; exact h5⟩, by rw [e]; exact h3, by rw [e]; exact h4⟩
        · obtain ⟨a1, a2, a3⟩ := g1 x hx
          exact ⟨a1, fun h => a2 (List.mem_append.2 (.inl h)), fun j hj => a3 j (List.mem_append.2 (.inl hj))⟩
      · obtain ⟨a1, a2, a3⟩ := g1 x hx
        refine ⟨fun h => a2 (by rw [← h, e]; simp), ?_⟩
        rw [e]; exact a3 i (by simp)
    · rintro ⟨g1, g2⟩
      obtain ⟨g2, g3⟩ := List.pairwise_cons.1 g2
      obtain ⟨a1, a2, a3⟩ := g1 s (.head _)
      have := a1.rng
      refine ⟨s.call.toNat, by omega, by omega, a2, a3, a1.res, ac_pw.2 ⟨fun x hx => ?_, g3⟩⟩
      obtain ⟨b1, b2, b3⟩ := g1 x (.tail _ hx)
      have b4 := g2 x hx
      have := b1.rng
      refine ⟨b1, fun h => ?_, fun j hj => ?_⟩
      · rcases List.mem_append.1 h with h | h
        · exact b2 h
        · have := List.mem_singleton.1 h; exact b4.1 (by omega)
      · rcases List.mem_append.1 hj with h | h
        · exact b3 j h
        · rw [List.mem_singleton.1 h]; exact b4.2
theorem ac0 {c : List Call} {q : Nat → Nat → Bool} {t : List Step} : Ac c q [] t ↔ (∀ s ∈ t, InC c s) ∧ t.Pairwise (Bef q) := by
  rw [ac_pw]
  exact ⟨fun ⟨h1, h2⟩ => ⟨fun s hs => (h1 s hs).1, h2⟩, fun ⟨h1, h2⟩ => ⟨fun s hs => ⟨h1 s hs, (nomatch ·), fun j hj => (nomatch hj)⟩, h2⟩⟩
/-- How far on it is with each. -/
def pts (c : List Call) : Int → List Step → List (Int × Step)
  | _, [] => []
  | m, s :: t => (max m (c.getD s.call.toNat Call.z).from_, s) :: pts c (max m (c.getD s.call.toNat Call.z).from_) t
end Sr
namespace Sr
open Rl Hs
def D (c : List Call) (s : Step) : Do := ⟨(c.getD s.call.toNat Call.z).kind, (c.getD s.call.toNat Call.z).arg, s.res⟩
/-- A step of the part, in the whole; and back. -/
def upS (idx : List Nat) (s : Step) : Step := ⟨((idx.getD s.call.toNat 0 : Nat) : Int), s.res⟩
def dnS (idx : List Nat) (s : Step) : Step := ⟨((idx.idxOf s.call.toNat : Nat) : Int), s.res⟩
variable {N : Nat} {types : List Int} {g : Int → Int → Int → Bool} {p : List Event} {k : Nat} {out out' : List Call} {op op' : List Int} {idx pos : List Nat}
end Sr

end Go.Proofs.YtjdkkabcenohcaaGreatDoor
