/- Search, plainly: Find; registers with ranks. -/
import Derived.Test.YteklmleiiiodfaaH1
import Derived.Test.YteklmleiiiodfaaL3
set_option linter.unusedVariables false
set_option linter.unusedSimpArgs false
set_option linter.unusedSectionVars false
set_option maxRecDepth 100000
namespace Go.Proofs.Yteklmleiiiodfaa
open Go.RowKit
namespace Hs
open Rl
def bfA (c : List Call) (i j : Nat) : Bool := decide (i < c.length ∧ j < c.length ∧ (c.getD i Call.z).to_ ≠ -1 ∧ (c.getD i Call.z).to_ < (c.getD j Call.z).from_)
theorem ahead_wp {N : Nat} {c : List Call} (hN : 300 < N) (h12 : c.length ≤ 12) : Wp (history_Ahead N c) fun r => r.1 = c.length ∧ r.2.2 = 0 ∧ ∀ i, i < 12 → Row (r.2.1.getD i 0) (bfA c i) := by
  unfold history_Ahead
  refine .condF (decide_eq_false (by omega)) ?_
  refine .seq (P := fun A => ∀ i, i < 12 → Row (A.getD i 0) (bfA c i)) (.iter c.length (fun k st => st.2 = (k : Int) ∧ ∀ i, i < 12 → Row (st.1.getD i 0) fun j => decide (i < k) && bfA c i j) (by omega) ⟨rfl, fun i _ => Row.zero.cong fun j => by simp⟩ ?_ ?_) fun A _ hA => .one ⟨rfl, rfl, hA⟩
  · rintro k ⟨A, v⟩ hk ⟨hv, hA⟩
    simp only at hv hA
    subst hv
    simp only [history_Ahead_L25]
    refine .condT (decide_eq_true (by omega)) ?_
    refine .seq (P := fun A' => ∀ i, i < 12 → Row (A'.getD i 0) fun j => decide (i < k + 1) && bfA c i j) (.bd (.ixV hk ?_)) fun A' _ hA' => .ck64 (by omega) (.one ⟨by simp, hA'⟩)
    refine mat_in (by omega) h12 (by omega) hA (fun j h => (of_decide_eq_true h).2.1) (fun B j hj => ?_) (fun B => ?_)
    · simp only [history_Ahead_L27]
      refine Wp.eq (.condT (decide_eq_true (by omega)) (.ix hj ?_))
      have e : ((!(decide (c[k].to_ = (-1)))) && (decide (c[k].to_ < c[j].from_))) = bfA c k j := by
        unfold bfA
        rw [getD_of hk, getD_of hj, Bool.eq_iff_iff]
        simp only [Bool.and_eq_true, Bool.not_eq_true', decide_eq_false_iff_not, decide_eq_true_eq]
        exact ⟨fun h => ⟨hk, hj, h.1, h.2⟩, fun h => h.2.2⟩
      rw [e]
      exact .cond (fun hb => .axN (by omega) (.axN (by omega) (.ck64 (by omega) (.one (by rw [hb]; rfl))))) (fun hb => .ck64 (by omega) (.one (by rw [hb]; rfl)))
    · simp only [history_Ahead_L27]
      exact Wp.eq (.condF (by simp) (.one rfl))
  · rintro ⟨B, v⟩ ⟨hv, hB⟩
    simp only at hv hB
    subst hv
    simp only [history_Ahead_L25]
    refine .condF (by simp) (.one fun i hi => (hB i hi).cong fun j => ?_)
    by_cases h : i < c.length
    · simp [h]
    · have : bfA c i j = false := decide_eq_false (fun hh => h hh.1)
      simp [this]
end Hs

namespace Sr
open Rl Hs
/-- A history that is read, of few calls. -/
structure Hc (N : Nat) (types : List Int) (l : List Event) (c : List Call) : Prop where
  his : His N types l c
  few : c.length ≤ 9
theorem calls9_wp {N : Nat} (hN : 300 < N) (types : List Int) (l : List Event) : Wp (search_Calls N types l) fun r => (r.2 = 0 ∧ Hc N types l r.1 ∧ history_Calls N types l = some (r.1, 0, 0)) ∨ (r.2 ≠ 0 ∧ r.1 = []) := by
  unfold search_Calls
  refine .seq (calls_wp hN) fun r hr h => .cond (fun h2 => .one (.inr ⟨by simpa using h2, rfl⟩)) fun h2 => .cond (fun _ => .one (.inr ⟨by simp, rfl⟩)) fun h3 => .one (.inl ⟨rfl, ⟨?_, by have := of_decide_eq_false h3; simp only; omega⟩, ?_⟩)
  · exact (h (by simpa using h2)).1
  · obtain ⟨a, b, e⟩ := r
    have h2 : e = 0 := by simpa using h2
    have := (h h2).2
    simp only at this
    subst h2; subst this
    exact hr
theorem cx_of {N : Nat} {types : List Int} {l : List Event} {c : List Call} (H : His N types l c) (h12 : c.length ≤ 12) {n : Int} {A : List Int} {q : Nat → Nat → Bool} (hA : ∀ i, i < 12 → Row (A.getD i 0) (q i)) : Cx types c ⟨n, A⟩ q := by
  obtain ⟨h1, h2, h3⟩ := H.tys
  obtain ⟨op, W⟩ := H.wf
  exact ⟨h2, fun x hx => h3 _ (by rw [getD_of hx]; exact List.getElem_mem hx), h12, fun m hm => (W.one m hm).thing, hA⟩
/-- What is found. -/
def Fnd (types : List Int) (c : List Call) (q : Nat → Nat → Bool) (x : List Step) (b : Bool) : Prop := (b = true ∧ Gd types c q (S0 types) [] x ∧ ∀ u, Gd types c q (S0 types) [] u → lex x u) ∨ (b = false ∧ x = [] ∧ ∀ u, ¬ Gd types c q (S0 types) [] u)
theorem find_wp {N : Nat} (hN : 300 < N) {types : List Int} {l : List Event} {c : List Call} {e : Int} (hc : search_Calls N types l = some (c, e)) : Wp (search_Find N types l) fun r => r.2.2 = e ∧ (e ≠ 0 → r.1 = [] ∧ r.2.1 = false) ∧ (e = 0 → Hc N types l c → Fnd types c (bfA c) r.1 r.2.1) := by
  obtain ⟨r, h1, h2⟩ := calls9_wp hN types l
  rw [hc] at h1
  cases h1
  unfold search_Find
  refine .bdO hc ?_
  rcases h2 with ⟨h0, H, _⟩ | ⟨h0, _⟩
  · simp only at h0 H
    subst h0
    have hf := H.few
    refine .condF rfl (.seq (ahead_wp hN (c := c) (by omega)) fun a _ ha => .seq (smallest_wp hN (cx_of H.his (by omega) ha.2.2)) fun r _ hr => .one ⟨rfl, fun h => (h rfl).elim, fun _ _ => hr⟩)
  · exact .condT (by simpa using h0) (.one ⟨rfl, fun _ => ⟨rfl, rfl⟩, fun h => (h0 h).elim⟩)
end Sr

namespace Sr
open Rl Hs
theorem cx9 {N : Nat} {types : List Int} {l : List Event} {c : List Call} (H : Hc N types l c) (hN : 300 < N) : ∃ rel, Cx types c rel (bfA c) := by
  have hf := H.few
  obtain ⟨a, _, ha⟩ := ahead_wp hN (c := c) (by omega)
  exact ⟨_, cx_of (n := a.1) H.his (by omega) ha.2.2⟩
end Sr

namespace Sr
open Rl Hs
theorem calls9_of {N : Nat} {types : List Int} {l : List Event} {c : List Call} (h : history_Calls N types l = some (c, 0, 0)) (hl : c.length ≤ 9) : search_Calls N types l = some (c, 0) := by
  unfold search_Calls
  rw [bd_of h]
  exact (cond_no rfl).trans (cond_no (decide_eq_false (by simp only; omega)))
end Sr

namespace Sr
open Rl Hs
theorem hc_of {N : Nat} (hN : 300 < N) {types : List Int} {l : List Event} {c : List Call} (h : search_Calls N types l = some (c, 0)) : Hc N types l c := by
  obtain ⟨r, h1, h2⟩ := calls9_wp hN types l
  rw [h] at h1
  cases h1
  rcases h2 with ⟨_, H, _⟩ | ⟨h, _⟩
  · exact H
  · exact (h rfl).elim
theorem Fnd.iff {types : List Int} {c : List Call} {q : Nat → Nat → Bool} {x : List Step} {b : Bool} (F : Fnd types c q x b) : b = true ↔ ∃ u, Gd types c q (S0 types) [] u := by
  rcases F with ⟨h, g, _⟩ | ⟨h, _, g⟩
  · exact ⟨fun _ => ⟨x, g⟩, fun _ => h⟩
  · exact ⟨fun e => (by rw [h] at e; cases e), fun ⟨u, gu⟩ => (g u gu).elim⟩
theorem asked_of {N : Nat} {types : List Int} {l : List Event} {k : Nat} {c : List Call} {op : List Int} (R : Rn N types l k c op) {m : Nat} (hm : m < c.length) : Ob.Asked (types.getD (c.getD m Call.z).thing.toNat 0) (c.getD m Call.z).kind (c.getD m Call.z).arg := by
  have O := R.wf.one m hm
  have a1 := (rn_arg R m hm).1
  rw [Ob.argument_ok] at a1
  refine ⟨O.fit.1, O.fit.2, fun h => ?_, fun h => ?_⟩
  · rw [if_pos h] at a1
    simpa using a1
  · rw [if_neg h] at a1
    have : 1 ≤ (c.getD m Call.z).arg ∧ (c.getD m Call.z).arg ≤ 1000 := by simpa using a1
    exact this
end Sr

namespace Sr
open Rl Hs
/-- A step of a call of c. -/
structure InC (c : List Call) (s : Step) : Prop where
  rng : 0 ≤ s.call ∧ s.call < c.length
  res : (c.getD s.call.toNat Call.z).to_ ≠ -1 → s.res = (c.getD s.call.toNat Call.z).res
/-- One may stand ahead of the other. -/
def Bef (q : Nat → Nat → Bool) (a b : Step) : Prop := a.call ≠ b.call ∧ q b.call.toNat a.call.toNat = false
theorem ac_pw {c : List Call} {q : Nat → Nat → Bool} : ∀ {t : List Step} {w : List Nat}, Ac c q w t ↔ (∀ s ∈ t, InC c s ∧ s.call.toNat ∉ w ∧ ∀ j ∈ w, q s.call.toNat j = false) ∧ t.Pairwise (Bef q)
  | [], w => by simp [Ac]
  | s :: t, w => by
    constructor
    · rintro ⟨i, h1, h2, h3, h4, h5, h6⟩
      obtain ⟨g1, g2⟩ := ac_pw.1 h6
      have e : s.call.toNat = i := by omega
      refine ⟨fun x hx => ?_, List.pairwise_cons.2 ⟨fun x hx => ?_, g2⟩⟩
      · rcases List.mem_cons.1 hx with rfl | hx
        · exact ⟨⟨by omega, by rw [e]; exact h5⟩, by rw [e]; exact h3, by rw [e]; exact h4⟩
        · obtain ⟨a1, a2, a3⟩ := g1 x hx
          exact ⟨a1, fun h => a2 (List.mem_append.2 (.inl h)), fun j hj => a3 j (List.mem_append.2 (.inl hj))⟩
      · obtain ⟨a1, a2, a3⟩ := g1 x hx
        refine ⟨fun h => a2 (by rw [← h, e]; simp), ?_⟩
        rw [e]; exact a3 i (by simp)
    · rintro ⟨g1, g2⟩
      obtain ⟨g2, g3⟩ := List.pairwise_cons.1 g2
      obtain ⟨a1, a2, a3⟩ := g1 s (.head _)
      have := a1.rng
      refine ⟨s.call.toNat, by omega, by omega, a2, a3, a1.res, ac_pw.2 ⟨fun x hx => ?_, g3⟩⟩
      obtain ⟨b1, b2, b3⟩ := g1 x (.tail _ hx)
      have b4 := g2 x hx
      have := b1.rng
      refine ⟨b1, fun h => ?_, fun j hj => ?_⟩
      · rcases List.mem_append.1 h with h | h
        · exact b2 h
        · have := List.mem_singleton.1 h; exact b4.1 (by omega)
      · rcases List.mem_append.1 hj with h | h
        · exact b3 j h
        · rw [List.mem_singleton.1 h]; exact b4.2
theorem ac0 {c : List Call} {q : Nat → Nat → Bool} {t : List Step} : Ac c q [] t ↔ (∀ s ∈ t, InC c s) ∧ t.Pairwise (Bef q) := by
  rw [ac_pw]
  exact ⟨fun ⟨h1, h2⟩ => ⟨fun s hs => (h1 s hs).1, h2⟩, fun ⟨h1, h2⟩ => ⟨fun s hs => ⟨h1 s hs, (nomatch ·), fun j hj => (nomatch hj)⟩, h2⟩⟩
end Sr
namespace Sr
open Rl Hs
/-- Calls of a register that have ranks. -/
structure Rank (c : List Call) (tg : Nat → Bool) (T : Nat → Int) : Prop where
  dn : ∀ i, i < c.length → (c.getD i Call.z).to_ ≠ -1 → tg i = true
  ord : ∀ a b, a < c.length → b < c.length → (c.getD a Call.z).to_ ≠ -1 → (c.getD a Call.z).to_ < (c.getD b Call.z).from_ → tg b = true → T a ≤ T b ∧ ((c.getD b Call.z).kind = 1 → T a < T b)
  uni : ∀ a b, a < c.length → b < c.length → tg a = true → tg b = true → (c.getD a Call.z).kind = 1 → (c.getD b Call.z).kind = 1 → T a = T b → a = b
  wr : ∀ i, i < c.length → tg i = true → (c.getD i Call.z).kind = 1 → 0 < T i ∧ ((c.getD i Call.z).to_ ≠ -1 → (c.getD i Call.z).res = 0)
  rd : ∀ i, i < c.length → (c.getD i Call.z).to_ ≠ -1 → (c.getD i Call.z).kind ≠ 1 → (T i = 0 ∧ (c.getD i Call.z).res = 0) ∨ ∃ k, k < c.length ∧ tg k = true ∧ (c.getD k Call.z).kind = 1 ∧ T k = T i ∧ (c.getD k Call.z).arg = (c.getD i Call.z).res
def selR (c : List Call) (tg : Nat → Bool) (i : Nat) : Bool := decide ((c.getD i Call.z).to_ ≠ -1) || (tg i && decide ((c.getD i Call.z).kind = 1))
def kR (c : List Call) (i : Nat) : Int := if (c.getD i Call.z).kind = 1 then 0 else 1
def leR (c : List Call) (T : Nat → Int) (i j : Nat) : Prop := T i < T j ∨ (T i = T j ∧ (kR c i < kR c j ∨ (kR c i = kR c j ∧ (c.getD i Call.z).from_ ≤ (c.getD j Call.z).from_)))
instance (c : List Call) (T : Nat → Int) (i j : Nat) : Decidable (leR c T i j) := by unfold leR; infer_instance
def stR (c : List Call) (i : Nat) : Step := ⟨(i : Int), if (c.getD i Call.z).kind = 1 then 0 else (c.getD i Call.z).res⟩
def DR (c : List Call) (s : Step) : Do := ⟨(c.getD s.call.toNat Call.z).kind, (c.getD s.call.toNat Call.z).arg, s.res⟩
theorem kR_c (c : List Call) (i : Nat) : ((c.getD i Call.z).kind = 1 ∧ kR c i = 0) ∨ ((c.getD i Call.z).kind ≠ 1 ∧ kR c i = 1) := by
  unfold kR
  by_cases h : (c.getD i Call.z).kind = 1
  · exact .inl ⟨h, if_pos h⟩
  · exact .inr ⟨h, if_neg h⟩
theorem run_reg {c : List Call} {tg : Nat → Bool} {T : Nat → Int} (K : Rank c tg T) (hA : ∀ i, i < c.length → Ob.Asked 1 (c.getD i Call.z).kind (c.getD i Call.z).arg) {L : List Nat} (hL : ∀ i, i ∈ L ↔ i < c.length ∧ selR c tg i = true) : ∀ (B : List Nat) (v t0 : Int), B.Nodup → B.Pairwise (leR c T) → (∀ i ∈ B, i ∈ L) → (∀ k ∈ L, (c.getD k Call.z).kind = 1 → k ∉ B → T k ≤ t0) → (∀ x ∈ B, t0 ≤ T x) →
    ((t0 = 0 ∧ v = 0) ∨ ∃ k, k < c.length ∧ tg k = true ∧ (c.getD k Call.z).kind = 1 ∧ T k = t0 ∧ (c.getD k Call.z).arg = v) → ∃ s', Ob.run 1 [v] ((B.map (stR c)).map (DR c)) = some s'
  | [], v, _, _, _, _, _, _, _ => ⟨[v], rfl⟩
  | i :: B, v, t0, hnd, hpw, hm, hk, ht, hv => by
    obtain ⟨p1, p2⟩ := List.pairwise_cons.1 hpw
    obtain ⟨d1, d2⟩ := List.nodup_cons.1 hnd
    obtain ⟨hi, hsel⟩ := (hL i).1 (hm i (.head _))
    have hAi := hA i hi
    have argb : ∀ k, k < c.length → (c.getD k Call.z).kind = 1 → 1 ≤ (c.getD k Call.z).arg ∧ (c.getD k Call.z).arg ≤ 1000 := fun k hk h1 => by
      have := (hA k hk).2.2.2 (by omega)
      exact this
    have hOk : Ob.OkS 1 [v] := by
      refine .inl ⟨.inl rfl, v, rfl, ?_⟩
      rcases hv with ⟨_, rfl⟩ | ⟨k, k1, _, k3, _, rfl⟩
      · exact ⟨by decide, by decide⟩
      · have := argb k k1 k3; omega
    have ht0 := ht i (.head _)
    have e : DR c (stR c i) = ⟨(c.getD i Call.z).kind, (c.getD i Call.z).arg, (stR c i).res⟩ := by unfold DR stR; simp only [Int.toNat_natCast]
    have hle : ∀ x ∈ B, T i ≤ T x := fun x hx => by
      have := p1 x hx
      unfold leR at this; omega
    simp only [List.map_cons, Ob.run, e]
    by_cases hw : (c.getD i Call.z).kind = 1
    · have hnx : Ob.nx 1 [v] (c.getD i Call.z).kind (c.getD i Call.z).arg = some ([(c.getD i Call.z).arg], 0) := by
        unfold Ob.nx; rw [if_pos ⟨hOk, hAi⟩]; unfold Ob.stp; rw [if_pos rfl, if_pos hw]
      have hres : (stR c i).res = 0 := by unfold stR; simp only; rw [if_pos hw]
      rw [hnx, hres]
      simp only [if_true]
      have htg : tg i = true := by
        unfold selR at hsel
        rw [Bool.or_eq_true] at hsel
        rcases hsel with h | h
        · exact K.dn i hi (of_decide_eq_true h)
        · rw [Bool.and_eq_true] at h; exact h.1
      refine run_reg K hA hL B _ (T i) d2 p2 (fun x hx => hm x (.tail _ hx)) (fun k hk1 hk2 hk3 => ?_) hle (.inr ⟨i, hi, htg, hw, rfl, rfl⟩)
      by_cases e2 : k = i
      · subst e2; exact Int.le_refl _
      · have := hk k hk1 hk2 (fun h => by
          rcases List.mem_cons.1 h with h | h
          · exact e2 h
          · exact hk3 h)
        omega
    · have hnx : Ob.nx 1 [v] (c.getD i Call.z).kind (c.getD i Call.z).arg = some ([v], v) := by
        unfold Ob.nx; rw [if_pos ⟨hOk, hAi⟩]; unfold Ob.stp; rw [if_pos rfl, if_neg hw]; rfl
      have hres : (stR c i).res = (c.getD i Call.z).res := by unfold stR; simp only; rw [if_neg hw]
      have hto : (c.getD i Call.z).to_ ≠ -1 := by
        unfold selR at hsel
        rw [Bool.or_eq_true] at hsel
        rcases hsel with h | h
        · exact of_decide_eq_true h
        · rw [Bool.and_eq_true, decide_eq_true_eq] at h; exact (hw h.2).elim
      have hval : v = (c.getD i Call.z).res := by
        rcases K.rd i hi hto hw with ⟨h1, h2⟩ | ⟨k, k1, k2, k3, k4, k5⟩
        · rcases hv with ⟨_, h4⟩ | ⟨k, k1, k2, k3, k4, k5⟩
          · rw [h4, h2]
          · have := (K.wr k k1 k2 k3).1; omega
        · have hkL : k ∈ L := (hL k).2 ⟨k1, by unfold selR; rw [k2, decide_eq_true k3]; simp⟩
          have hkB : k ∉ i :: B := by
            intro h
            rcases List.mem_cons.1 h with h | h
            · subst h; exact hw k3
            · have := p1 k h
              unfold leR at this
              have a1 := kR_c c i
              have a2 := kR_c c k
              omega
          have h3 := hk k hkL k3 hkB
          have h4 := (K.wr k k1 k2 k3).1
          rcases hv with ⟨h5, _⟩ | ⟨k', l1, l2, l3, l4, l5⟩
          · omega
          · have := K.uni k' k l1 k1 l2 k2 l3 k3 (by omega)
            subst this
            rw [← l5, k5]
      rw [hnx, hres]
      simp only
      rw [if_pos hval]
      refine run_reg K hA hL B v t0 d2 p2 (fun x hx => hm x (.tail _ hx)) (fun k hk1 hk2 hk3 => hk k hk1 hk2 fun h => ?_) (fun x hx => by have := hle x hx; omega) hv
      rcases List.mem_cons.1 h with h | h
      · subst h; exact hw hk2
      · exact hk3 h
/-- Calls of a register that have ranks have a right order. -/
theorem reg_lin {c : List Call} {rel : Rel} (X : Cx [1] c rel (bfA c)) (hA : ∀ i, i < c.length → Ob.Asked 1 (c.getD i Call.z).kind (c.getD i Call.z).arg) (hft : ∀ i, i < c.length → (c.getD i Call.z).to_ ≠ -1 → (c.getD i Call.z).from_ ≤ (c.getD i Call.z).to_) {tg : Nat → Bool} {T : Nat → Int} (K : Rank c tg T) : ∃ t, Gd [1] c (bfA c) (S0 [1]) [] t := by
  have hth : ∀ i, i < c.length → (c.getD i Call.z).thing = 0 := fun i hi => by
    have := X.th i hi
    simp only [List.length_singleton] at this
    omega
  obtain ⟨le, hle⟩ : ∃ le : Nat → Nat → Bool, le = fun a b => decide (leR c T a b) := ⟨_, rfl⟩
  have tr : ∀ a b d, le a b = true → le b d = true → le a d = true := by
    intro a b d; rw [hle]; simp only [decide_eq_true_eq]; unfold leR; omega
  have tot : ∀ a b, (le a b || le b a) = true := by
    intro a b; rw [hle]; simp only [Bool.or_eq_true, decide_eq_true_eq]; unfold leR; omega
  obtain ⟨L, hLe⟩ : ∃ L, L = ((List.range c.length).filter (selR c tg)).mergeSort le := ⟨_, rfl⟩
  have hperm : L.Perm ((List.range c.length).filter (selR c tg)) := by rw [hLe]; exact List.mergeSort_perm ..
  have hL : ∀ i, i ∈ L ↔ i < c.length ∧ selR c tg i = true := fun i => by
    rw [hperm.mem_iff, List.mem_filter, List.mem_range]
  have hnd : L.Nodup := hperm.nodup_iff.2 (List.nodup_range.sublist List.filter_sublist)
  have hpw : L.Pairwise (leR c T) := by
    have := List.pairwise_mergeSort tr tot ((List.range c.length).filter (selR c tg))
    rw [← hLe] at this
    exact this.imp fun h => by rw [hle] at h; exact of_decide_eq_true h
  have htg : ∀ i ∈ L, tg i = true := fun i hi => by
    obtain ⟨h1, h2⟩ := (hL i).1 hi
    unfold selR at h2
    rw [Bool.or_eq_true] at h2
    rcases h2 with h | h
    · exact K.dn i h1 (of_decide_eq_true h)
    · rw [Bool.and_eq_true] at h; exact h.1
  have hin : ∀ s ∈ L.map (stR c), 0 ≤ s.call ∧ s.call < c.length ∧ s = stR c s.call.toNat ∧ s.call.toNat ∈ L := fun s hs => by
    obtain ⟨i, hi, rfl⟩ := List.mem_map.1 hs
    have := ((hL i).1 hi).1
    refine ⟨Int.natCast_nonneg _, by show (i : Int) < _; omega, ?_, ?_⟩
    · show stR c i = stR c ((i : Int)).toNat
      rw [Int.toNat_natCast]
    · show ((i : Int)).toNat ∈ L
      rw [Int.toNat_natCast]; exact hi
  have hinc : ∀ s ∈ L.map (stR c), InC c s := fun s hs => by
    obtain ⟨h1, h2, h3, h4⟩ := hin s hs
    refine ⟨⟨h1, h2⟩, fun ha => ?_⟩
    rw [h3]
    unfold stR
    simp only [Int.toNat_natCast]
    by_cases hk : (c.getD s.call.toNat Call.z).kind = 1
    · rw [if_pos hk]
      exact ((K.wr _ (by omega) (htg _ h4) hk).2 ha).symm
    · rw [if_neg hk]
  have hbef : (L.map (stR c)).Pairwise (Bef (bfA c)) := by
    rw [List.pairwise_map]
    refine (hpw.and hnd).imp_of_mem fun {a b} ha hb h => ?_
    obtain ⟨h1, h2⟩ := h
    refine ⟨fun e => h2 (by have e : (a : Int) = b := e; omega), ?_⟩
    show bfA c ((b : Int)).toNat ((a : Int)).toNat = false
    rw [Int.toNat_natCast, Int.toNat_natCast]
    unfold bfA
    refine decide_eq_false ?_
    rintro ⟨q1, q2, q3, q4⟩
    have o := K.ord b a q1 q2 q3 q4 (htg a ha)
    unfold leR at h1
    have a1 := kR_c c a
    have a2 := kR_c c b
    have a3 := hft b q1 q3
    rcases a1 with ⟨a1, _⟩ | ⟨a1, _⟩
    · have := o.2 a1; omega
    · omega
  have hac := ac0.2 ⟨hinc, hbef⟩
  refine ⟨L.map (stR c), (pl_iff X (by simp [S0])).2 ⟨hac, fun x hx => ?_⟩, fun i hi ha => ?_⟩
  · have : x = 0 := by simp only [List.length_singleton] at hx; omega
    subst this
    have hS : (S0 [1]).getD 0 [] = [0] := by simp [S0, Ob.st0]
    have ho : objl c 0 (L.map (stR c)) = (L.map (stR c)).map (DR c) := by
      have key : ∀ t : List Step, (∀ s ∈ t, InC c s) → objl c 0 t = t.map (DR c) := by
        intro t
        induction t with
        | nil => intro _; rfl
        | cons s t ih =>
          intro h
          have hr := (h s (.head _)).rng
          have := hth s.call.toNat (by omega)
          unfold objl
          rw [if_pos (by rw [this]; rfl), ih fun x hx => h x (.tail _ hx)]
          rfl
      exact key _ hinc
    rw [hS, ho]
    show ∃ s', Ob.run 1 [0] _ = some s'
    refine run_reg K hA hL L 0 0 hnd hpw (fun i hi => hi) (fun k h1 _ h3 => (h3 h1).elim) (fun i hi => ?_) (.inl ⟨rfl, rfl⟩)
    obtain ⟨h1, h2⟩ := (hL i).1 hi
    by_cases hk : (c.getD i Call.z).kind = 1
    · have := (K.wr i h1 (htg i hi) hk).1; omega
    · have hto : (c.getD i Call.z).to_ ≠ -1 := by
        unfold selR at h2
        rw [Bool.or_eq_true] at h2
        rcases h2 with h | h
        · exact of_decide_eq_true h
        · rw [Bool.and_eq_true, decide_eq_true_eq] at h; exact (hk h.2).elim
      rcases K.rd i h1 hto hk with ⟨h, _⟩ | ⟨k, k1, k2, k3, k4, _⟩
      · omega
      · have := (K.wr k k1 k2 k3).1; omega
  · rw [List.nil_append]
    refine List.mem_map.2 ⟨stR c i, List.mem_map.2 ⟨i, (hL i).2 ⟨hi, ?_⟩, rfl⟩, Int.toNat_natCast _⟩
    unfold selR
    rw [decide_eq_true ha]; rfl
end Sr

end Go.Proofs.Yteklmleiiiodfaa
