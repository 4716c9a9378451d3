/- Calls of some values alone, plainly. -/
import Derived.Test.YtgmodmacchdkiaaRB5
set_option linter.unusedVariables false
set_option linter.unusedSimpArgs false
set_option linter.unusedSectionVars false
set_option maxRecDepth 100000
namespace Go.Proofs.Ytgmodmacchdkiaa
open Go.RowKit
namespace Hs
def bfA (c : List Call) (i j : Nat) : Bool := decide (i < c.length ∧ j < c.length ∧ (c.getD i Call.z).to_ ≠ -1 ∧ (c.getD i Call.z).to_ < (c.getD j Call.z).from_)
end Hs
namespace Hs
/-- A call of the whole and the same call in the part. -/
structure One (pos : List Nat) (a b : Call) : Prop where
  who : b.who = a.who
  thing : b.thing = a.thing
  kind : b.kind = a.kind
  arg : b.arg = a.arg
  res : b.res = a.res
  fr : 0 ≤ b.from_ ∧ b.from_.toNat < pos.length ∧ a.from_ = (pos.getD b.from_.toNat 0 : Nat)
  to : (a.to_ = -1 ∧ b.to_ = -1) ∨ (0 ≤ b.to_ ∧ b.to_.toNat < pos.length ∧ a.to_ = (pos.getD b.to_.toNat 0 : Nat))
theorem getDn_app {α : Type} {l m : List α} {d : α} {i : Nat} (h : i < l.length) : (l ++ m).getD i d = l.getD i d := by
  simp only [List.getD_eq_getElem?_getD, List.getElem?_append_left h]
theorem One.more {pos : List Nat} {a b : Call} (h : One pos a b) (k : Nat) : One (pos ++ [k]) a b := by
  obtain ⟨h1, h2, h3, h4, h5, h6, h7⟩ := h
  refine ⟨h1, h2, h3, h4, h5, ⟨h6.1, by rw [List.length_append]; omega, by rw [getDn_app h6.2.1]; exact h6.2.2⟩, ?_⟩
  rcases h7 with h7 | ⟨h7, h8, h9⟩
  · exact .inl h7
  · exact .inr ⟨h7, by rw [List.length_append]; omega, by rw [getDn_app h8]; exact h9⟩
def gC (g : Int → Bool) (c : Call) : Bool := g c.from_
/-- The calls that g tells, read alone. -/
structure SubH (N : Nat) (types : List Int) (g : Int → Bool) (p : List Event) (k : Nat) (out out' : List Call) (op op' : List Int) (idx pos : List Nat) : Prop where
  run : Rn N types p p.length out' op'
  plen : pos.length = p.length
  pinc : pos.Pairwise (· < ·)
  plt : ∀ x ∈ pos, x < k
  ilen : idx.length = out'.length
  iinc : idx.Pairwise (· < ·)
  ilt : ∀ x ∈ idx, x < out.length
  cov : ∀ i, i < out.length → (i ∈ idx ↔ gC g (out.getD i Call.z) = true)
  cnt : out'.length = out.countP (gC g)
  one : ∀ j, j < out'.length → One pos (out.getD (idx.getD j 0) Call.z) (out'.getD j Call.z)
  who : ∀ w, w < 8 → (op.getD w 0 ≤ 0 → op'.getD w 0 = 0) ∧ ∀ m : Nat, op.getD w 0 = m + 1 → (gC g (out.getD m Call.z) = false ∧ op'.getD w 0 = 0) ∨ ∃ m' : Nat, m' < out'.length ∧ idx.getD m' 0 = m ∧ op'.getD w 0 = m' + 1
theorem SubH.zero (N : Nat) (types : List Int) (g : Int → Bool) : SubH N types g [] 0 [] [] [] [] [] [] :=
  ⟨.zero, rfl, .nil, fun _ h => (nomatch h), rfl, .nil, fun _ h => (nomatch h), fun _ h => absurd h (Nat.not_lt_zero _), rfl, fun _ h => absurd h (Nat.not_lt_zero _), fun w _ => ⟨fun _ => rfl, fun m h => absurd h (by show ¬ (0 : Int) = m + 1; omega)⟩⟩
theorem Rn.app {N : Nat} {types : List Int} {l : List Event} {v : Event} : ∀ {k : Nat} {out : List Call} {op : List Int}, Rn N types l k out op → Rn N types (l ++ [v]) k out op := by
  intro k out op R
  induction R with
  | zero => exact .zero
  | @succ k out out' op op' R hk S ih =>
    refine .succ ih (by rw [List.length_append]; omega) ?_
    rw [getD_app, if_pos hk]; exact S
theorem Rn.snoc {N : Nat} {types : List Int} {l : List Event} {v : Event} {out out' : List Call} {op op' : List Int} (R : Rn N types l l.length out op) (S : StpX N types out op (l.length : Int) v out' op') : Rn N types (l ++ [v]) (l ++ [v]).length out' op' := by
  rw [List.length_append, List.length_singleton]
  refine .succ (Rn.app R) (by rw [List.length_append, List.length_singleton]; omega) ?_
  rw [getD_app, if_neg (Nat.lt_irrefl _), if_pos rfl]; exact S
/-- Is the event of one of these calls? -/
def Sel (g : Int → Bool) (out : List Call) (op : List Int) (k : Nat) (v : Event) (b : Bool) : Prop :=
  (v.kind ≠ 0 → b = g (k : Int)) ∧ (v.kind = 0 → ∀ m : Nat, op.getD v.who.toNat 0 = m + 1 → b = gC g (out.getD m Call.z))
theorem gC_set {g : Int → Bool} {out : List Call} {m i : Nat} {r z : Int} (hm : m < out.length) : gC g ((out.set m (endC (out.getD m Call.z) r z)).getD i Call.z) = gC g (out.getD i Call.z) := by
  rw [getD_set2 hm]
  split
  · rename_i e; subst e; rfl
  · rfl
theorem cnt_set {g : Int → Bool} {out : List Call} {m : Nat} {r z : Int} (hm : m < out.length) : (out.set m (endC (out.getD m Call.z) r z)).countP (gC g) = out.countP (gC g) := by
  have e : (out.set m (endC (out.getD m Call.z) r z)).map (gC g) = out.map (gC g) := by
    apply List.ext_getElem?
    intro j
    rw [List.getElem?_map, List.getElem?_map, List.getElem?_set]
    split
    · rename_i e
      subst e
      rw [List.getElem?_eq_getElem hm, getD_of hm]
      rfl
    · rfl
  have h : ∀ l : List Call, l.countP (gC g) = (l.map (gC g)).countP id := fun l => by rw [List.countP_map]; rfl
  rw [h, h, e]
theorem mem_getD {idx : List Nat} {i : Nat} (h : i < idx.length) : idx.getD i 0 ∈ idx := by
  rw [List.getD_eq_getElem?_getD, List.getElem?_eq_getElem h]; exact List.getElem_mem h
theorem getD_ne {idx : List Nat} (h : idx.Pairwise (· < ·)) {i j : Nat} (hi : i < idx.length) (hj : j < idx.length) (e : idx.getD i 0 = idx.getD j 0) : i = j := by
  rw [List.getD_eq_getElem?_getD, List.getD_eq_getElem?_getD, List.getElem?_eq_getElem hi, List.getElem?_eq_getElem hj] at e
  rw [List.pairwise_iff_getElem] at h
  rcases Nat.lt_trichotomy i j with x | x | x
  · have := h i j hi hj x; simp only [Option.getD_some] at e; omega
  · exact x
  · have := h j i hj hi x; simp only [Option.getD_some] at e; omega
theorem getD_lt {idx : List Nat} (h : idx.Pairwise (· < ·)) {i j : Nat} (hi : i < idx.length) (hj : j < idx.length) : idx.getD i 0 < idx.getD j 0 ↔ i < j := by
  rw [List.getD_eq_getElem?_getD, List.getD_eq_getElem?_getD, List.getElem?_eq_getElem hi, List.getElem?_eq_getElem hj]
  rw [List.pairwise_iff_getElem] at h
  simp only [Option.getD_some]
  refine ⟨fun e => ?_, h i j hi hj⟩
  rcases Nat.lt_trichotomy i j with x | x | x
  · exact x
  · subst x; omega
  · have := h j i hj hi x; omega
theorem inc_snoc {idx : List Nat} {k : Nat} (h : idx.Pairwise (· < ·)) (hl : ∀ x ∈ idx, x < k) : (idx ++ [k]).Pairwise (· < ·) :=
  List.pairwise_append.2 ⟨h, List.pairwise_singleton _ _, fun x hx y hy => by rw [List.mem_singleton.1 hy]; exact hl x hx⟩
theorem SubH.step {N : Nat} {types : List Int} {g : Int → Bool} {p : List Event} {k : Nat} {out out' out2 : List Call} {op op' op2 : List Int} {idx pos : List Nat} {v : Event} {l : List Event} (P : SubH N types g p k out out' op op' idx pos) (W : WF types l k out op) (S : StpX N types out op (k : Int) v out2 op2) {b : Bool} (hb : Sel g out op k v b) :
    (b = true → ∃ o2 p2 i2 s2, SubH N types g (p ++ [v]) (k + 1) out2 o2 op2 p2 i2 s2) ∧ (b = false → SubH N types g p (k + 1) out2 out' op2 op' idx pos) := by
  have W' := P.run.wf
  have hw := S.who
  have hw8 : v.who.toNat < 8 := by omega
  have hlt : ∀ w, w < 8 → ∀ m : Nat, op.getD w 0 = m + 1 → m < out.length := fun w h m e => by have := (W.pen w h).2.1; omega
  have hpl := P.plen
  have hil := P.ilen
  have hplt : ∀ x ∈ pos, x < k + 1 := fun x hx => by have := P.plt x hx; omega
  rcases S.how with ⟨hk, hf, ha, hn, rfl, rfl⟩ | ⟨hk, m, hm, hml, ht, hr, rfl, rfl⟩
  · have hbv := hb.1 hk
    have h0 := (P.who v.who.toNat hw8).1 hn
    have hop : ∀ w, w < 8 → (setA 8 0 op v.who ((out.length : Int) + 1)).getD w 0 = if w = v.who.toNat then (out.length : Int) + 1 else op.getD w 0 := fun w h => setA_get h
    have hop' : ∀ w, w < 8 → (setA 8 0 op' v.who ((out'.length : Int) + 1)).getD w 0 = if w = v.who.toNat then (out'.length : Int) + 1 else op'.getD w 0 := fun w h => setA_get h
    have hidx : ∀ j, j < out'.length → (out ++ [begC v (k : Int)]).getD (idx.getD j 0) Call.z = out.getD (idx.getD j 0) Call.z := fun j hj => getDn_app (P.ilt _ (mem_getD (by omega)))
    refine ⟨fun hv => ?_, fun hv => ?_⟩
    · refine ⟨out' ++ [begC v (p.length : Int)], setA 8 0 op' v.who ((out'.length : Int) + 1), idx ++ [out.length], pos ++ [k], Rn.snoc P.run ⟨hw, S.thing, .inl ⟨hk, hf, ha, by omega, rfl, rfl⟩⟩, by simp [hpl], inc_snoc P.pinc P.plt, fun x hx => ?_, by simp [hil], inc_snoc P.iinc P.ilt, fun x hx => ?_, fun i hi => ?_, ?_, fun j hj => ?_, fun w h => ?_⟩
      · rcases List.mem_append.1 hx with h | h
        · exact hplt x h
        · rw [List.mem_singleton.1 h]; omega
      · rw [List.length_append, List.length_singleton]
        rcases List.mem_append.1 hx with h | h
        · have := P.ilt x h; omega
        · rw [List.mem_singleton.1 h]; omega
      · rw [List.mem_append, List.mem_singleton, getD_app]
        rw [List.length_append, List.length_singleton] at hi
        rcases Nat.lt_or_ge i out.length with h | h
        · rw [if_pos h, ← P.cov i h]
          exact ⟨fun e => e.elim id fun e => by omega, .inl⟩
        · obtain rfl : i = out.length := by omega
          rw [if_neg (Nat.lt_irrefl _), if_pos rfl]
          exact ⟨fun _ => by rw [← hv, hbv]; rfl, fun _ => .inr rfl⟩
      · have : gC g (begC v (k : Int)) = true := by rw [← hv, hbv]; rfl
        rw [List.length_append, List.length_singleton, P.cnt, List.countP_append, List.countP_singleton, if_pos this]
      · rw [List.length_append, List.length_singleton] at hj
        rcases Nat.lt_or_ge j out'.length with h | h
        · rw [getDn_app (l := idx) (by omega), hidx j h, getDn_app h]
          exact (P.one j h).more k
        · obtain rfl : j = out'.length := by omega
          have e1 : (idx ++ [out.length]).getD out'.length 0 = out.length := by rw [← hil, getD_app, if_neg (Nat.lt_irrefl _), if_pos rfl]
          have e2 : (out ++ [begC v (k : Int)]).getD out.length Call.z = begC v (k : Int) := by rw [getD_app, if_neg (Nat.lt_irrefl _), if_pos rfl]
          have e3 : (out' ++ [begC v (p.length : Int)]).getD out'.length Call.z = begC v (p.length : Int) := by rw [getD_app, if_neg (Nat.lt_irrefl _), if_pos rfl]
          rw [e1, e2, e3]
          refine ⟨rfl, rfl, rfl, rfl, rfl, ⟨Int.natCast_nonneg _, ?_, ?_⟩, .inl ⟨rfl, rfl⟩⟩
          · show ((p.length : Int)).toNat < _
            rw [List.length_append, List.length_singleton, Int.toNat_natCast, hpl]; omega
          · show (k : Int) = ((pos ++ [k]).getD ((p.length : Int)).toNat 0 : Nat)
            rw [Int.toNat_natCast, ← hpl, getD_app, if_neg (Nat.lt_irrefl _), if_pos rfl]
      · rw [hop w h, hop' w h]
        by_cases e : w = v.who.toNat
        · rw [if_pos e, if_pos e]
          refine ⟨fun h => by omega, fun m hm => .inr ⟨out'.length, by simp, ?_, rfl⟩⟩
          obtain rfl : m = out.length := by omega
          rw [← hil, getD_app, if_neg (Nat.lt_irrefl _), if_pos rfl]
        · rw [if_neg e, if_neg e]
          refine ⟨(P.who w h).1, fun m hm => ?_⟩
          rw [getDn_app (hlt w h m hm)]
          rcases (P.who w h).2 m hm with a2 | ⟨m', a3, a4, a5⟩
          · exact .inl a2
          · exact .inr ⟨m', by rw [List.length_append]; omega, by rw [getDn_app (by omega)]; exact a4, a5⟩
    · refine ⟨P.run, hpl, P.pinc, hplt, hil, P.iinc, fun x hx => by have := P.ilt x hx; rw [List.length_append]; omega, fun i hi => ?_, ?_, fun j hj => by rw [hidx j hj]; exact P.one j hj, fun w h => ?_⟩
      · rw [getD_app]
        rw [List.length_append, List.length_singleton] at hi
        rcases Nat.lt_or_ge i out.length with h | h
        · rw [if_pos h, ← P.cov i h]
        · obtain rfl : i = out.length := by omega
          rw [if_neg (Nat.lt_irrefl _), if_pos rfl]
          refine ⟨fun e => absurd (P.ilt _ e) (Nat.lt_irrefl _), fun e => ?_⟩
          have e : g (k : Int) = true := e
          rw [← hbv, hv] at e; cases e
      · have : gC g (begC v (k : Int)) = false := by rw [← hv, hbv]; rfl
        rw [P.cnt, List.countP_append, List.countP_singleton, if_neg (by rw [this]; decide), Nat.add_zero]
      · rw [hop w h]
        by_cases e : w = v.who.toNat
        · rw [if_pos e]
          refine ⟨fun h => by omega, fun m hm => ?_⟩
          obtain rfl : m = out.length := by omega
          rw [getD_app, if_neg (Nat.lt_irrefl _), if_pos rfl]
          exact .inl ⟨by show g (k : Int) = false; rw [← hbv, hv], by rw [e]; exact h0⟩
        · rw [if_neg e]
          refine ⟨(P.who w h).1, fun m hm => ?_⟩
          rw [getDn_app (hlt w h m hm)]
          exact (P.who w h).2 m hm
  · have hbv := hb.2 hk m hm
    have b2 := (P.who v.who.toNat hw8).2 m hm
    have hop : ∀ w, w < 8 → (setA 8 0 op v.who 0).getD w 0 = if w = v.who.toNat then 0 else op.getD w 0 := fun w h => setA_get h
    have hop' : ∀ w, w < 8 → (setA 8 0 op' v.who 0).getD w 0 = if w = v.who.toNat then 0 else op'.getD w 0 := fun w h => setA_get h
    refine ⟨fun hv => ?_, fun hv => ?_⟩
    · rcases b2 with ⟨b2, _⟩ | ⟨m', b3, b4, b5⟩
      · rw [hbv, b2] at hv; cases hv
      have O := P.one m' b3
      rw [b4] at O
      refine ⟨out'.set m' (endC (out'.getD m' Call.z) v.value (p.length : Int)), setA 8 0 op' v.who 0, idx, pos ++ [k], Rn.snoc P.run ⟨hw, S.thing, .inr ⟨hk, m', b5, b3, by rw [O.thing]; exact ht, by rw [O.kind]; exact hr, rfl, rfl⟩⟩, by simp [hpl], inc_snoc P.pinc P.plt, fun x hx => ?_, by rw [List.length_set]; exact hil, P.iinc, fun x hx => by rw [List.length_set]; exact P.ilt x hx, fun i hi => ?_, by rw [List.length_set, cnt_set hml]; exact P.cnt, fun j hj => ?_, fun w h => ?_⟩
      · rcases List.mem_append.1 hx with h | h
        · exact hplt x h
        · rw [List.mem_singleton.1 h]; omega
      · rw [List.length_set] at hi
        rw [gC_set hml]; exact P.cov i hi
      · rw [List.length_set] at hj
        rw [getD_set2 hml, getD_set2 b3]
        by_cases e : j = m'
        · subst e
          rw [if_pos b4, if_pos rfl]
          have M := O.more k
          refine ⟨M.who, M.thing, M.kind, M.arg, rfl, M.fr, .inr ⟨Int.natCast_nonneg _, ?_, ?_⟩⟩
          · show ((p.length : Int)).toNat < _
            rw [List.length_append, List.length_singleton, Int.toNat_natCast, hpl]; omega
          · show (k : Int) = ((pos ++ [k]).getD ((p.length : Int)).toNat 0 : Nat)
            rw [Int.toNat_natCast, ← hpl, getD_app, if_neg (Nat.lt_irrefl _), if_pos rfl]
        · rw [if_neg e, if_neg (fun z => e (getD_ne P.iinc (by omega) (by omega) (z.trans b4.symm)))]
          exact (P.one j hj).more k
      · rw [hop w h, hop' w h]
        by_cases e : w = v.who.toNat
        · rw [if_pos e, if_pos e]
          exact ⟨fun _ => rfl, fun m hm => by omega⟩
        · rw [if_neg e, if_neg e]
          refine ⟨(P.who w h).1, fun q hq => ?_⟩
          rw [gC_set hml]
          rcases (P.who w h).2 q hq with a2 | ⟨q', a3, a4, a5⟩
          · exact .inl a2
          · exact .inr ⟨q', by rw [List.length_set]; exact a3, a4, a5⟩
    · have h0 : op'.getD v.who.toNat 0 = 0 := by
        rcases b2 with ⟨_, b2⟩ | ⟨m', b3, b4, _⟩
        · exact b2
        · have := (P.cov m hml).1 (by rw [← b4]; exact mem_getD (by omega))
          rw [hbv, this] at hv; cases hv
      have hnm : ∀ j, j < out'.length → idx.getD j 0 ≠ m := fun j hj e => by
        have := (P.cov m hml).1 (by rw [← e]; exact mem_getD (by omega))
        rw [hbv, this] at hv; cases hv
      refine ⟨P.run, hpl, P.pinc, hplt, hil, P.iinc, fun x hx => by rw [List.length_set]; exact P.ilt x hx, fun i hi => ?_, by rw [cnt_set hml]; exact P.cnt, fun j hj => ?_, fun w h => ?_⟩
      · rw [List.length_set] at hi
        rw [gC_set hml]; exact P.cov i hi
      · rw [getD_set2 hml, if_neg (hnm j hj)]
        exact P.one j hj
      · rw [hop w h]
        by_cases e : w = v.who.toNat
        · rw [if_pos e]
          exact ⟨fun _ => by rw [e]; exact h0, fun m hm => by omega⟩
        · rw [if_neg e]
          refine ⟨(P.who w h).1, fun q hq => ?_⟩
          rw [gC_set hml]
          exact (P.who w h).2 q hq
theorem SubH.bef {N : Nat} {types : List Int} {g : Int → Bool} {p : List Event} {k : Nat} {out out' : List Call} {op op' : List Int} {idx pos : List Nat} (P : SubH N types g p k out out' op op' idx pos) {i j : Nat} (hi : i < out'.length) (hj : j < out'.length) : bfA out' i j = bfA out (idx.getD i 0) (idx.getD j 0) := by
  have hil := P.ilen
  have a1 := P.ilt _ (mem_getD (idx := idx) (i := i) (by omega))
  have a2 := P.ilt _ (mem_getD (idx := idx) (i := j) (by omega))
  have O1 := P.one i hi
  have O2 := P.one j hj
  unfold bfA
  refine decide_eq_decide.2 ?_
  obtain ⟨f1, f2, f3⟩ := O2.fr
  rcases O1.to with ⟨h1, h2⟩ | ⟨h1, h2, h3⟩
  · rw [h1, h2]; simp
  · have := getD_lt P.pinc h2 f2
    constructor
    · rintro ⟨_, _, _, h4⟩
      have := this.2 (by omega)
      exact ⟨a1, a2, by omega, by omega⟩
    · rintro ⟨_, _, _, h4⟩
      have := this.1 (by omega)
      exact ⟨hi, hj, by omega, by omega⟩
end Hs
namespace Rw
open Hs Sr
theorem Rn.det {N : Nat} {types : List Int} {l : List Event} {k : Nat} {c : List Call} {op : List Int} (R : Rn N types l k c op) : ∀ {c2 : List Call} {op2 : List Int}, Rn N types l k c2 op2 → c2 = c ∧ op2 = op := by
  induction R with
  | zero => intro c2 op2 R2; cases R2; exact ⟨rfl, rfl⟩
  | @succ k out out' op op' R hk S ih =>
    intro c2 op2 R2
    cases R2 with
    | succ R2 hk2 S2 =>
      obtain ⟨rfl, rfl⟩ := ih R2
      rcases S.how with ⟨a1, _, _, _, rfl, rfl⟩ | ⟨a1, m, a2, _, _, _, rfl, rfl⟩
      · rcases S2.how with ⟨_, _, _, _, rfl, rfl⟩ | ⟨b1, _⟩
        · exact ⟨rfl, rfl⟩
        · exact (a1 b1).elim
      · rcases S2.how with ⟨b1, _⟩ | ⟨_, m2, b2, _, _, _, rfl, rfl⟩
        · exact (b1 a1).elim
        · obtain rfl : m2 = m := by omega
          exact ⟨rfl, rfl⟩
/-- The events that K keeps, of the first k. -/
def pickE (l : List Event) (K : Nat → Bool) : Nat → List Event
  | 0 => []
  | k + 1 => if K k = true then pickE l K k ++ [l.getD k Event.z] else pickE l K k
theorem pick_len (l : List Event) (K : Nat → Bool) : ∀ k, (pickE l K k).length ≤ k
  | 0 => Nat.le_refl _
  | k + 1 => by
    have := pick_len l K k
    unfold pickE
    split
    · rw [List.length_append, List.length_singleton]; omega
    · omega
theorem pick_run {N : Nat} {l : List Event} {c : List Call} {op : List Int} (R : Rn N [2] l l.length c op) {K : Nat → Bool} (Kto : ∀ i, i < c.length → (c.getD i Call.z).to_ ≠ -1 → K (c.getD i Call.z).to_.toNat = K (c.getD i Call.z).from_.toNat) :
    ∃ d op' idx pos, SubH N [2] (fun f => K f.toNat) (pickE l K l.length) l.length c d op op' idx pos := by
  obtain ⟨f, f0, fl, fs⟩ := R.fn
  have hpre : ∀ k, k ≤ l.length → Sr.Pre k (f k).1 c := by
    intro k hk
    obtain ⟨a, oa, Ra, P⟩ := Sr.Rn.pre R k hk
    have : a = (f k).1 := by
      rcases Nat.lt_or_ge k l.length with h | h
      · exact ((Rn.det (fs k h).1) Ra).1
      · obtain rfl : k = l.length := by omega
        rw [fl]; exact (Rn.det R Ra).1
    rw [← this]; exact P
  have key : ∀ k, k ≤ l.length → ∃ d op' idx pos, SubH N [2] (fun f => K f.toNat) (pickE l K k) k (f k).1 d (f k).2 op' idx pos := by
    intro k
    induction k with
    | zero =>
      intro _
      rw [f0]
      exact ⟨[], [], [], [], SubH.zero ..⟩
    | succ k ih =>
      intro hk
      obtain ⟨d, op', idx, pos, P⟩ := ih (by omega)
      obtain ⟨Rk, S⟩ := fs k (by omega)
      have S' : StpX N [2] (f k).1 (f k).2 (k : Int) (l.getD k Event.z) (f (k + 1)).1 (f (k + 1)).2 := S
      have Pk := hpre (k + 1) hk
      have hsel : Sel (fun f => K f.toNat) (f k).1 (f k).2 k (l.getD k Event.z) (K k) := by
        refine ⟨fun _ => rfl, fun h m hm => ?_⟩
        rcases S'.how with ⟨a1, _⟩ | ⟨_, m2, a2, a3, _, _, a6, _⟩
        · exact (a1 h).elim
        obtain rfl : m2 = m := by omega
        have ml : m2 < (f (k + 1)).1.length := by rw [a6, List.length_set]; exact a3
        have e1 : (f (k + 1)).1.getD m2 Call.z = endC ((f k).1.getD m2 Call.z) (l.getD k Event.z).value (k : Int) := by rw [a6, getD_set2 a3, if_pos rfl]
        have hto : ((f (k + 1)).1.getD m2 Call.z).to_ = (k : Int) := by rw [e1]; rfl
        have hfr : ((f (k + 1)).1.getD m2 Call.z).from_ = ((f k).1.getD m2 Call.z).from_ := by rw [e1]; rfl
        have hc := (Pk.old m2 ml).2.1 (by rw [hto]; omega)
        have hlen := Pk.len
        have hK := Kto m2 (by omega) (by rw [hc, hto]; omega)
        rw [hc, hto, Int.toNat_natCast, hfr] at hK
        exact hK
      have hst := P.step Rk.wf S' hsel
      by_cases h : K k = true
      · obtain ⟨d2, o2, i2, s2, P2⟩ := hst.1 h
        exact ⟨d2, o2, i2, s2, by rw [pickE, if_pos h]; exact P2⟩
      · exact ⟨d, op', idx, pos, by rw [pickE, if_neg h]; exact hst.2 (by simpa using h)⟩
  have := key l.length (Nat.le_refl _)
  rw [fl] at this
  exact this
/-- All calls of a value are kept. -/
def Clo (g : Int → Bool) (c : List Call) (v : Int) : Prop := ∀ i, i < c.length → ((c.getD i Call.z).kind = 3 ∧ (c.getD i Call.z).arg = v) ∨ ((c.getD i Call.z).kind = 4 ∧ (c.getD i Call.z).res = v) → g (c.getD i Call.z).from_ = true
section
variable {N : Nat} {g : Int → Bool} {p : List Event} {k : Nat} {c d : List Call} {op op' : List Int} {idx pos : List Nat}
theorem sub_lt (P : SubH N [2] g p k c d op op' idx pos) {i : Nat} (hi : i < d.length) : idx.getD i 0 < c.length := P.ilt _ (mem_getD (by have := P.ilen; omega))
theorem sub_ex (P : SubH N [2] g p k c d op op' idx pos) {i : Nat} (hi : i < c.length) (hg : g (c.getD i Call.z).from_ = true) : ∃ j, j < d.length ∧ idx.getD j 0 = i := by
  have hm := (P.cov i hi).2 hg
  obtain ⟨j, hj, e⟩ := List.getElem_of_mem hm
  exact ⟨j, by have := P.ilen; omega, by rw [getD_of hj]; exact e⟩
theorem sub_kp (P : SubH N [2] g p k c d op op' idx pos) {i : Nat} (hi : i < d.length) : g (c.getD (idx.getD i 0) Call.z).from_ = true := (P.cov _ (sub_lt P hi)).1 (mem_getD (by have := P.ilen; omega))
theorem sub_pd (P : SubH N [2] g p k c d op op' idx pos) {i : Nat} (hi : i < d.length) : (d.getD i Call.z).to_ = -1 ↔ (c.getD (idx.getD i 0) Call.z).to_ = -1 := by
  rcases (P.one i hi).to with ⟨h1, h2⟩ | ⟨h1, h2, h3⟩
  · rw [h1, h2]
  · rw [h3]; omega
theorem sub_ah (P : SubH N [2] g p k c d op op' idx pos) {i j : Nat} (hi : i < d.length) (hj : j < d.length) : Ah d i j ↔ Ah c (idx.getD i 0) (idx.getD j 0) := by
  have h := P.bef hi hj
  unfold bfA at h
  rw [decide_eq_decide] at h
  exact ⟨fun x => (h.1 ⟨hi, hj, x⟩).2.2, fun x => (h.2 ⟨sub_lt P hi, sub_lt P hj, x⟩).2.2⟩
theorem sub_ilt (P : SubH N [2] g p k c d op op' idx pos) {i j : Nat} (hi : i < d.length) (hj : j < d.length) : idx.getD i 0 < idx.getD j 0 ↔ i < j := getD_lt P.iinc (by have := P.ilen; omega) (by have := P.ilen; omega)
theorem sub_cls (P : SubH N [2] g p k c d op op' idx pos) (C : Cls c) : Cls d := by
  refine ⟨fun i hi h1 h2 => ?_, fun i j hi hj h1 h2 e => ?_⟩
  · exact C.dn _ (sub_lt P hi) ((P.one i hi).kind ▸ h1) ((sub_pd P hi).1 h2)
  · have := C.uq _ _ (sub_lt P hi) (sub_lt P hj) ((P.one i hi).kind ▸ h1) ((P.one j hj).kind ▸ h2) (by rw [← (P.one i hi).arg, ← (P.one j hj).arg]; exact e)
    exact getD_ne P.iinc (by have := P.ilen; omega) (by have := P.ilen; omega) this
theorem sub_fd (P : SubH N [2] g p k c d op op' idx pos) {v : Int} (K : Clo g c v) {x : Nat} (h : Fd d d.length v x) : Fd c c.length v (idx.getD x 0) := by
  obtain ⟨h1, h2, h3, h4⟩ := h
  refine ⟨sub_lt P h1, by rw [← (P.one x h1).kind]; exact h2, by rw [← (P.one x h1).res]; exact h3, fun j hj k1 k2 => ?_⟩
  have hjc : j < c.length := Nat.lt_trans hj (sub_lt P h1)
  obtain ⟨y, y1, rfl⟩ := sub_ex P hjc (K j hjc (.inr ⟨k1, k2⟩))
  exact h4 y ((sub_ilt P y1 h1).1 hj) (by rw [(P.one y y1).kind]; exact k1) (by rw [(P.one y y1).res]; exact k2)
theorem sub_fd' (P : SubH N [2] g p k c d op op' idx pos) {v : Int} (K : Clo g c v) {i : Nat} (h : Fd c c.length v i) : ∃ x, x < d.length ∧ idx.getD x 0 = i ∧ Fd d d.length v x := by
  obtain ⟨h1, h2, h3, h4⟩ := h
  obtain ⟨x, x1, rfl⟩ := sub_ex P h1 (K i h1 (.inr ⟨h2, h3⟩))
  refine ⟨x, x1, rfl, x1, by rw [(P.one x x1).kind]; exact h2, by rw [(P.one x x1).res]; exact h3, fun j hj k1 k2 => ?_⟩
  have hj' : j < d.length := Nat.lt_trans hj x1
  exact h4 _ ((sub_ilt P hj' x1).2 hj) (by rw [← (P.one j hj').kind]; exact k1) (by rw [← (P.one j hj').res]; exact k2)
theorem sub_nd (P : SubH N [2] g p k c d op op' idx pos) {v : Int} (K : Clo g c v) (h : Nd d d.length v) : Nd c c.length v := fun j hj k1 k2 => by
  obtain ⟨y, y1, rfl⟩ := sub_ex P hj (K j hj (.inr ⟨k1, k2⟩))
  exact h y y1 (by rw [(P.one y y1).kind]; exact k1) (by rw [(P.one y y1).res]; exact k2)
theorem sub_nd' (P : SubH N [2] g p k c d op op' idx pos) {v : Int} (h : Nd c c.length v) : Nd d d.length v := fun j hj k1 k2 =>
  h _ (sub_lt P hj) (by rw [← (P.one j hj).kind]; exact k1) (by rw [← (P.one j hj).res]; exact k2)
theorem sub_stray (P : SubH N [2] g p k c d op op' idx pos) {i : Nat} (K : Clo g c (d.getD i Call.z).res) (S : StrayAt d i) : StrayAt c (idx.getD i 0) := by
  have O := P.one i S.lt
  refine ⟨sub_lt P S.lt, by rw [← O.kind, ← O.res]; exact S.dq, fun e he k1 k2 => ?_⟩
  rw [← O.res] at k2
  obtain ⟨y, y1, rfl⟩ := sub_ex P he (K e he (.inl ⟨k1, k2⟩))
  exact S.no y y1 (by rw [(P.one y y1).kind]; exact k1) (by rw [(P.one y y1).arg]; exact k2)
theorem sub_twice (P : SubH N [2] g p k c d op op' idx pos) {i : Nat} (S : TwiceAt d i) : TwiceAt c (idx.getD i 0) := by
  have O := P.one i S.lt
  obtain ⟨j, j1, j2, j3⟩ := S.is
  have hj : j < d.length := Nat.lt_trans j1 S.lt
  exact ⟨sub_lt P S.lt, by rw [← O.kind, ← O.res]; exact S.dq, _, (sub_ilt P hj S.lt).2 j1, by rw [← (P.one j hj).kind]; exact j2, by rw [← (P.one j hj).res, ← O.res]; exact j3⟩
theorem sub_early (P : SubH N [2] g p k c d op op' idx pos) (D : Cls d) {i : Nat} (S : EarlyAt d i) : EarlyAt c (idx.getD i 0) := by
  have O := P.one i S.lt
  obtain ⟨e, e1, e2, e3, e4⟩ := S.is
  have h := (sub_ah P S.lt e1).1 ⟨D.dn i S.lt S.dq.1, e4⟩
  exact ⟨sub_lt P S.lt, by rw [← O.kind, ← O.res]; exact S.dq, _, sub_lt P e1, by rw [← (P.one e e1).kind]; exact e2, by rw [← (P.one e e1).arg, ← O.res]; exact e3, h.2⟩
theorem sub_ordr (P : SubH N [2] g p k c d op op' idx pos) {a b : Nat} (Ka : Clo g c (d.getD a Call.z).arg) (Kb : Clo g c (d.getD b Call.z).arg) (S : OrdrAt d a b) : OrdrAt c (idx.getD a 0) (idx.getD b 0) := by
  have Oa := P.one a S.la
  have Ob := P.one b S.lb
  obtain ⟨x, x1, x2⟩ := S.is
  refine ⟨sub_lt P S.la, sub_lt P S.lb, by rw [← Oa.kind]; exact S.ka, by rw [← Ob.kind]; exact S.kb, (sub_ah P S.la S.lb).1 S.ah, idx.getD x 0, by rw [← Ob.arg]; exact sub_fd P Kb x1, ?_⟩
  rw [← Oa.arg]
  rcases x2 with x2 | ⟨y, y1, y2⟩
  · exact .inl (sub_nd P Ka x2)
  · exact .inr ⟨_, sub_fd P Ka y1, (sub_ah P x1.1 y1.1).1 y2⟩
/-- The last of the kept times that is not after t. -/
theorem last_pos {pos : List Nat} (hp : pos.Pairwise (· < ·)) {t : Nat} {a : Nat} (ha : a < pos.length) (h : pos.getD a 0 ≤ t) : ∃ u, u < pos.length ∧ pos.getD u 0 ≤ t ∧ a ≤ u ∧ ∀ w, w < pos.length → (u < w ↔ t < pos.getD w 0) := by
  have key : ∀ n, a + n < pos.length → (∃ u, u < pos.length ∧ pos.getD u 0 ≤ t ∧ a ≤ u ∧ ∀ w, w < pos.length → (u < w ↔ t < pos.getD w 0)) ∨ pos.getD (a + n) 0 ≤ t := by
    intro n
    induction n with
    | zero => exact fun _ => .inr h
    | succ n ih =>
      intro hn
      rcases ih (by omega) with g | g
      · exact .inl g
      · by_cases h2 : pos.getD (a + (n + 1)) 0 ≤ t
        · exact .inr h2
        · refine .inl ⟨a + n, by omega, g, by omega, fun w hw => ⟨fun h3 => ?_, fun h3 => ?_⟩⟩
          · by_cases e : w = a + (n + 1)
            · rw [e]; omega
            · have := (getD_lt hp hn hw).2 (by omega)
              omega
          · exact (getD_lt hp (show a + n < pos.length by omega) hw).1 (by omega)
  rcases key (pos.length - 1 - a) (by omega) with g | g
  · exact g
  · refine ⟨a + (pos.length - 1 - a), by omega, g, by omega, fun w hw => ⟨fun h3 => by omega, fun h3 => ?_⟩⟩
    exact (getD_lt hp (by omega) hw).1 (by omega)
theorem sub_empt (P : SubH N [2] g p k c d op op' idx pos) (D : Cls d) (K : ∀ e, e < d.length → (d.getD e Call.z).kind = 3 → Clo g c (d.getD e Call.z).arg) {i : Nat} (S : EmptAt d i) : EmptAt c (idx.getD i 0) := by
  have O := P.one i S.lt
  refine ⟨sub_lt P S.lt, by rw [← O.kind, ← O.res]; exact S.dq, fun t t1 t2 => ?_⟩
  obtain ⟨f1, f2, f3⟩ := O.fr
  rcases O.to with ⟨_, h⟩ | ⟨g1, g2, g3⟩
  · exact (D.dn i S.lt S.dq.1 h).elim
  rw [f3] at t1
  rw [g3] at t2
  obtain ⟨u, u1, u2, u3, u4⟩ := last_pos P.pinc (t := t.toNat) f2 (by omega)
  obtain ⟨e, e1, e2, e3, e4, e5⟩ := S.is (u : Int) (by omega) (by have := (u4 _ g2).2 (by omega); omega)
  have Oe := P.one e e1
  refine ⟨idx.getD e 0, sub_lt P e1, by rw [← Oe.kind]; exact e2, fun h => e3 ((sub_pd P e1).2 h), ?_, ?_⟩
  · rcases Oe.to with ⟨_, h⟩ | ⟨h1, h2, h3⟩
    · exact (e3 h).elim
    · rw [h3]
      have := u4 _ h2
      omega
  · rw [← Oe.arg]
    have K' := K e e1 e2
    rcases e5 with e5 | ⟨x, x1, x2⟩
    · exact .inl (sub_nd P K' e5)
    · refine .inr ⟨_, sub_fd P K' x1, ?_⟩
      obtain ⟨h1, h2, h3⟩ := (P.one x x1.1).fr
      rw [h3]
      have := (u4 _ h2).1 (by omega)
      omega
end
/-- Kept by values. -/
theorem clo_of {g : Int → Bool} {c : List Call} {s : List Int} (Qc : Q c) (hg : ∀ i, i < c.length → max (c.getD i Call.z).arg (c.getD i Call.z).res ∈ s → g (c.getD i Call.z).from_ = true) {v : Int} (hv : v ∈ s) (h1 : 1 ≤ v) : Clo g c v := fun i hi h => by
  refine hg i hi ?_
  rcases h with ⟨h2, h3⟩ | ⟨h2, h3⟩
  · have := Qc.ea i hi h2
    rw [h3, this.2.2, show max v 0 = v by omega]; exact hv
  · have := Qc.da i hi h2
    rw [h3, this.1, show max 0 v = v by omega]; exact hv
theorem ok2 {N : Nat} (hN : 300 < N) (a b : Int) : alibkeep_ok N [a, b] = some (decide (a = 0 ∧ b = 0)) := by
  obtain ⟨M, rfl⟩ : ∃ M, N = M + 3 := ⟨N - 3, by omega⟩
  by_cases h1 : a = 0
  · subst h1
    by_cases h2 : b = 0
    · subst h2; rfl
    · have : decide ((0 : Int) = 0 ∧ b = 0) = false := decide_eq_false fun h => h2 h.2
      rw [this]
      simp [alibkeep_ok, alibkeep_ok_L3, iter, bd, ix, ck, ok64, h2]
  · have : decide (a = 0 ∧ b = 0) = false := decide_eq_false fun h => h1 h.1
    rw [this]
    simp [alibkeep_ok, alibkeep_ok_L3, iter, bd, ix, ck, ok64, h1]
theorem contains_wp {N : Nat} {s : List Int} (hN : s.length < N) (hs : s.length ≤ 9223372036854775807) (n : Int) : Wp (slices_Contains_int_int N s n) fun b => b = decide (n ∈ s) := by
  unfold slices_Contains_int_int slices_Index_int_int
  refine .seq (P := fun r => decide (0 ≤ r) = decide (n ∈ s)) (.elim (P := fun t => match t with | .inl _ => n ∉ s | .inr r => 0 ≤ r ∧ n ∈ s) (.iter s.length (fun k v => v = (k : Int) ∧ n ∉ s.take k) hN ⟨rfl, by simp⟩ ?_ ?_) (fun _ _ h => .one ?_) (fun r _ h => .one ?_)) fun r _ h => .one h
  · rintro k v hk ⟨rfl, h⟩
    simp only [slices_Index_int_int_L3]
    refine .condT (decide_eq_true (by omega)) (.ix hk (.cond (fun h2 => .one ⟨by omega, ?_⟩) fun h2 => .ck64 (by omega) (.one ⟨by simp, ?_⟩)))
    · rw [of_decide_eq_true h2]; exact List.getElem_mem hk
    · rw [List.take_add_one, List.getElem?_eq_getElem hk]
      intro h3
      rcases List.mem_append.1 h3 with h3 | h3
      · exact h h3
      · exact (of_decide_eq_false h2) (by simpa using h3)
  · rintro v ⟨rfl, h⟩
    simp only [slices_Index_int_int_L3]
    rw [List.take_length] at h
    exact .condF (decide_eq_false (by omega)) (.one h)
  · rw [decide_eq_false h]; rfl
  · rw [decide_eq_true h.1, decide_eq_true h.2]
end Rw

end Go.Proofs.Ytgmodmacchdkiaa
