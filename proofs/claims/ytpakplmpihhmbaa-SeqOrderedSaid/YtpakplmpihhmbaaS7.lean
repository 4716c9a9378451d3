/- Programs, epochs, plainly. -/
import Derived.Test.YtpakplmpihhmbaaL5
import Derived.Test.YtpakplmpihhmbaaS6
set_option linter.unusedVariables false
set_option linter.unusedSimpArgs false
set_option linter.unusedSectionVars false
set_option maxRecDepth 100000
namespace Go.Proofs.Ytpakplmpihhmbaa
open Go.RowKit
namespace Hs
theorem bd_inv {α β : Type} {m : Option α} {f : α → Option β} {b : β} (h : bd m f = some b) : ∃ a, m = some a ∧ f a = some b := by
  cases m with
  | none => cases h
  | some a => exact ⟨a, rfl, h⟩
theorem cond_inv {α : Type} {c : Bool} {x y : Option α} {b : α} (h : cond c x y = some b) : (c = true ∧ x = some b) ∨ (c = false ∧ y = some b) := by
  cases c with
  | true => exact .inl ⟨rfl, h⟩
  | false => exact .inr ⟨rfl, h⟩
theorem ck_inv {α : Type} {c : Bool} {x : Option α} {b : α} (h : ck c x = some b) : c = true ∧ x = some b := by
  cases c with
  | true => exact ⟨rfl, h⟩
  | false => cases h
def begC (v : Event) (i : Int) : Call := ⟨v.who, v.thing, v.kind, v.value, 0, i, -1⟩
def endC (c : Call) (r i : Int) : Call := ⟨c.who, c.thing, c.kind, c.arg, r, c.from_, i⟩
/-- What one event does, in full. -/
structure StpX (N : Nat) (types : List Int) (out : List Call) (op : List Int) (i : Int) (v : Event) (out' : List Call) (op' : List Int) : Prop where
  who : 0 ≤ v.who ∧ v.who < 8
  thing : 0 ≤ v.thing ∧ v.thing < types.length
  how : (v.kind ≠ 0 ∧ (types.getD v.thing.toNat 0 ≠ 0 ∧ tyF v.kind = types.getD v.thing.toNat 0) ∧ history_Argument N v.kind v.value = some true ∧ op.getD v.who.toNat 0 ≤ 0 ∧ out' = out ++ [begC v i] ∧ op' = setA 8 0 op v.who ((out.length : Int) + 1)) ∨
    (v.kind = 0 ∧ ∃ m : Nat, op.getD v.who.toNat 0 = m + 1 ∧ m < out.length ∧ (out.getD m Call.z).thing = v.thing ∧ history_result N (out.getD m Call.z).kind v.value = some true ∧ out' = out.set m (endC (out.getD m Call.z) v.value i) ∧ op' = setA 8 0 op v.who 0)
theorem StpX.stp {N : Nat} {types : List Int} {out out' : List Call} {op op' : List Int} {i : Int} {v : Event} (S : StpX N types out op i v out' op') : Stp types out op i v out' op' := by
  obtain ⟨h1, h2, h⟩ := S
  refine ⟨h1, h2, ?_⟩
  rcases h with ⟨a, b, c, d, e, f⟩ | ⟨a, m, b, c, d, e, f, g⟩
  · exact .inl ⟨a, b, d, e, f⟩
  · exact .inr ⟨a, m, b, _, c, rfl, d, f, g⟩
theorem event_x {N : Nat} {types : List Int} {out : List Call} {op : List Int} {i : Int} {v : Event} (hl : out.length ≤ 1000) (ho : ∀ w, w < 8 → 0 ≤ op.getD w 0 ∧ op.getD w 0 ≤ out.length) :
    Wp (history_reader_event N types out op i v) fun r => r.2.2 = 0 → StpX N types out op i v r.1 r.2.1 := by
  unfold history_reader_event
  refine .cond (fun _ => .one (by simp)) (fun h => ?_)
  simp only [Bool.or_eq_true, Bool.and_eq_true, Bool.not_eq_true', Bool.not_eq_false', Bool.or_eq_false_iff, Bool.and_eq_false_imp, decide_eq_true_eq, decide_eq_false_iff_not, beq_iff_eq, not_or, Int.not_lt, Int.not_le, Bool.false_eq_true, not_false_eq_true, not_true_eq_false, Decidable.not_not] at *
  have h8 := ho v.who.toNat (by omega)
  have hw : 0 ≤ v.who ∧ v.who < 8 := by omega
  have ht : 0 ≤ v.thing ∧ v.thing < types.length := by omega
  refine .ax (by omega) (by omega) (.cond (fun hk => ?_) (fun hk => ?_))
  · refine .ixD 0 (by omega) (by omega) (.bdO (fits_eq ..) ?_)
    obtain ⟨b, hb⟩ := argument_some N v.kind v.value
    refine .gd b (fun _ => hb) fun x hx => .cond (fun _ => .one (by simp)) (fun hf => .cond (fun _ => .one (by simp)) (fun hn => .ck (limB_of ⟨?_, ?_⟩) (.ax (by omega) (by omega) (.one fun _ => ?_))))
    · simp only [List.length_singleton]; exact Nat.le_trans (m := 2000) (by omega) (by decide)
    · simp only [List.length_singleton]; omega
    · simp only [Bool.or_eq_false_iff, Bool.not_eq_false', decide_eq_true_eq, decide_eq_false_iff_not, Bool.not_eq_true'] at hf hn hk
      have hx' := hx (by rw [decide_eq_true hf.1]; rfl)
      rw [hf.2] at hx'
      exact ⟨hw, ht, .inl ⟨hk, hf.1, by rw [hb, ← hx'], by omega, rfl, by simp⟩⟩
  · refine .cond (fun _ => .one (by simp)) (fun hn => ?_)
    simp only [decide_eq_false_iff_not, Bool.not_eq_false', decide_eq_true_eq] at hn hk
    obtain ⟨m, hm⟩ : ∃ m : Nat, op.getD v.who.toNat 0 = m + 1 := ⟨(op.getD v.who.toNat 0 - 1).toNat, by omega⟩
    rw [hm]
    simp only [show ((m : Int) + 1 - 1) = (m : Int) by omega]
    refine .ck64 (by omega) (.ixD Call.z (by omega) (by omega) ?_)
    simp only [Int.toNat_natCast]
    obtain ⟨b, hb⟩ := result_some N (out.getD m Call.z).kind v.value
    refine .gd b (fun _ => hb) fun x hx => .cond (fun _ => .one (by simp)) (fun hf => .ax (by omega) (by omega) (.one fun _ => ?_))
    simp only [Bool.or_eq_false_iff, Bool.not_eq_false', decide_eq_true_eq] at hf
    have hx' := hx (by rw [decide_eq_true hf.1]; rfl)
    rw [hf.2] at hx'
    exact ⟨hw, ht, .inr ⟨hk, m, hm, by omega, hf.1, by rw [hb, ← hx'], rfl, rfl⟩⟩
theorem event_of {N : Nat} {types : List Int} {out out' : List Call} {op op' : List Int} {i : Int} {v : Event} (hl : out.length ≤ 1000) (S : StpX N types out op i v out' op') :
    history_reader_event N types out op i v = some (out', op', 0) := by
  obtain ⟨hw, ht, h⟩ := S
  refine Wp.eq ?_
  unfold history_reader_event
  refine .condF (by simp; omega) (.ax (by omega) (by omega) ?_)
  rcases h with ⟨hk, hf, ha, hn, rfl, rfl⟩ | ⟨hk, m, hm, hml, hth, hr, rfl, rfl⟩
  · refine .condT (by simpa using hk) (.ixD 0 (by omega) (by omega) (.bdO (fits_eq ..) ?_))
    rw [decide_eq_true hf]
    refine .gd true (fun _ => ha) fun x hx => ?_
    rw [hx rfl]
    refine .condF rfl (.condF (decide_eq_false (by omega)) (.ck (limB_of ⟨?_, ?_⟩) (.ax (by omega) (by omega) (.one ?_))))
    · simp only [List.length_singleton]; exact Nat.le_trans (m := 2000) (by omega) (by decide)
    · simp only [List.length_singleton]; omega
    · simp [begC]
  · refine .condF (by simp [hk]) (.condF (by rw [hm]; exact decide_eq_false (by omega)) ?_)
    rw [hm]
    simp only [show ((m : Int) + 1 - 1) = (m : Int) by omega]
    refine .ck64 (by omega) (.ixD Call.z (by omega) (by omega) ?_)
    simp only [Int.toNat_natCast]
    refine .gd true (fun _ => hr) fun x hx => ?_
    rw [hx (by rw [decide_eq_true hth]; rfl)]
    exact .condF (by rw [decide_eq_true hth]; rfl) (.ax (by omega) (by omega) (.one rfl))
/-- What is read of so many events. -/
inductive Rn (N : Nat) (types : List Int) (l : List Event) : Nat → List Call → List Int → Prop
  | zero : Rn N types l 0 [] []
  | succ {k : Nat} {out out' : List Call} {op op' : List Int} : Rn N types l k out op → k < l.length → StpX N types out op (k : Int) (l.getD k Event.z) out' op' → Rn N types l (k + 1) out' op'
theorem Rn.wf {N : Nat} {types : List Int} {l : List Event} {k : Nat} {out : List Call} {op : List Int} (R : Rn N types l k out op) : WF types l k out op := by
  induction R with
  | zero => exact wf_zero types l
  | succ _ _ S ih => exact wf_step ih S.stp rfl
theorem Rn.fn {N : Nat} {types : List Int} {l : List Event} {n : Nat} {c : List Call} {op : List Int} (R : Rn N types l n c op) :
    ∃ f : Nat → List Call × List Int, f 0 = ([], []) ∧ f n = (c, op) ∧ ∀ k, k < n → Rn N types l k (f k).1 (f k).2 ∧ StpX N types (f k).1 (f k).2 (k : Int) (l.getD k Event.z) (f (k + 1)).1 (f (k + 1)).2 := by
  induction R with
  | zero => exact ⟨fun _ => ([], []), rfl, rfl, fun k h => absurd h (Nat.not_lt_zero _)⟩
  | @succ k out out' op op' R hk S ih =>
    obtain ⟨f, h0, hn, hs⟩ := ih
    refine ⟨fun j => if j ≤ k then f j else (out', op'), by simp [h0], if_neg (by omega), fun j hj => ?_⟩
    rcases Nat.lt_or_ge j k with h | h
    · simp only [if_pos (show j ≤ k by omega), if_pos (show j + 1 ≤ k by omega)]
      exact hs j h
    · obtain rfl : j = k := by omega
      simp only [if_pos (Nat.le_refl j), if_neg (show ¬ j + 1 ≤ j by omega), hn]
      exact ⟨R, S⟩
theorem calls_of {N : Nat} {types : List Int} {l : List Event} {c : List Call} {op : List Int} (hN : 300 < N) (ht : history_Types N types = some 0) (hl : l.length ≤ 200) (R : Rn N types l l.length c op) : history_Calls N types l = some (c, 0, 0) := by
  obtain ⟨f, h0, hn, hs⟩ := R.fn
  refine Wp.eq ?_
  unfold history_Calls
  refine .bdO ht (.condF rfl (.condF (decide_eq_false (by omega)) (.bdO (a := .inl (c, op)) ?_ ⟨(c, 0, 0), rfl, rfl⟩)))
  refine iter_up (ρ := (List Call × List Int) ⊕ (List Call × Int × Int)) (fun k => ((f k).1, (f k).2, (k : Int))) (Sum.inl (c, op)) l.length _ (by simp only [h0]; rfl) (fun k hk => Wp.eq ?_) (Wp.eq ?_) N (by omega)
  · simp only [history_Calls_L3]
    obtain ⟨hr, hx⟩ := hs k hk
    have hle := hr.wf.len
    rw [getD_of hk] at hx
    exact .condT (decide_eq_true (by omega)) (.ix hk (.bdO (event_of (by omega) hx) (.condF rfl (.ck64 (by omega) (.one (by simp))))))
  · simp only [history_Calls_L3]
    exact .condF (decide_eq_false (by omega)) (.one (by rw [hn]))
theorem calls_rn {N : Nat} {types : List Int} {l : List Event} (hN : 300 < N) : Wp (history_Calls N types l) fun r => r.2.2 = 0 → history_Types N types = some 0 ∧ (1 ≤ types.length ∧ types.length ≤ 4) ∧ l.length ≤ 200 ∧ r.2.1 = 0 ∧ ∃ op, Rn N types l l.length r.1 op := by
  unfold history_Calls
  refine .seq (types_wp hN) fun e hte ht => .cond (fun h => .one fun h2 => ?_) (fun h => .cond (fun _ => .one (by simp)) (fun hl => ?_))
  · simp only [Bool.or_eq_true, Bool.and_eq_true, Bool.not_eq_true', Bool.not_eq_false', Bool.or_eq_false_iff, Bool.and_eq_false_imp, decide_eq_true_eq, decide_eq_false_iff_not, beq_iff_eq, not_or, Int.not_lt, Int.not_le, Bool.false_eq_true, not_false_eq_true, not_true_eq_false, Decidable.not_not] at *; exact absurd h2 h
  · simp only [Bool.or_eq_true, Bool.and_eq_true, Bool.not_eq_true', Bool.not_eq_false', Bool.or_eq_false_iff, Bool.and_eq_false_imp, decide_eq_true_eq, decide_eq_false_iff_not, beq_iff_eq, not_or, Int.not_lt, Int.not_le, Bool.false_eq_true, not_false_eq_true, not_true_eq_false, Decidable.not_not] at *
    subst h
    refine .elim (P := fun t => match t with | .inl s => Rn N types l l.length s.1 s.2 | .inr r => r.2.2 ≠ 0) (.iter l.length (fun k s => s.2.2 = (k : Int) ∧ Rn N types l k s.1 s.2.1) (by omega) ⟨rfl, .zero⟩ ?_ ?_) (fun s _ h => .one fun _ => ⟨hte, ⟨(ht rfl).1, (ht rfl).2.1⟩, by omega, rfl, s.2, h⟩) (fun r _ h => .one fun h2 => absurd h2 h)
    · rintro k ⟨out, op, v⟩ hk ⟨hv, R⟩
      simp only at hv R
      subst hv
      simp only [history_Calls_L3]
      have W := R.wf
      have hle := W.len
      refine .condT (decide_eq_true (by omega)) (.ix hk (.seq (event_x (by omega) fun w hw => ⟨(W.pen w hw).1, (W.pen w hw).2.1⟩) fun r _ hr => .cond (fun h => .one (by simpa using h)) (fun h => .ck64 (by omega) (.one ⟨by simp, ?_⟩))))
      simp only [Bool.or_eq_true, Bool.and_eq_true, Bool.not_eq_true', Bool.not_eq_false', Bool.or_eq_false_iff, Bool.and_eq_false_imp, decide_eq_true_eq, decide_eq_false_iff_not, beq_iff_eq, not_or, Int.not_lt, Int.not_le, Bool.false_eq_true, not_false_eq_true, not_true_eq_false, Decidable.not_not] at *
      exact .succ R hk (by rw [getD_of hk]; exact hr h)
    · rintro ⟨out, op, v⟩ ⟨hv, W⟩
      simp only at hv W
      subst hv
      simp only [history_Calls_L3]
      exact .condF (decide_eq_false (by omega)) (.one W)
end Hs

namespace Sr
open Rl Hs
theorem ok_wp {N : Nat} {l : List Int} (hN : l.length < N) (hl : l.length ≤ 1000) : Wp (alibkeep_ok N l) fun r => r = true ↔ ∀ x ∈ l, x = 0 := by
  unfold alibkeep_ok
  refine .elim (P := fun t => match t with | .inl _ => ∀ x ∈ l, x = 0 | .inr r => r = false ∧ ∃ x ∈ l, x ≠ 0) (.iter l.length (fun k v => v = (k : Int) ∧ ∀ j, (h : j < l.length) → j < k → l[j] = 0) hN ⟨rfl, fun j _ h => absurd h (Nat.not_lt_zero _)⟩ ?_ ?_) (fun _ _ h => .one ⟨fun _ => h, fun _ => rfl⟩) (fun r _ h => .one ?_)
  · rintro k v hk ⟨rfl, hr⟩
    simp only [alibkeep_ok_L3]
    refine .condT (decide_eq_true (by omega)) (.ix hk (.cond (fun h => .one ⟨rfl, l[k], List.getElem_mem hk, by simpa using h⟩) (fun h => .ck64 (by omega) (.one ⟨by simp, fun j hj hjk => ?_⟩))))
    rcases Nat.lt_or_ge j k with h1 | h1
    · exact hr j hj h1
    · obtain rfl : j = k := by omega
      simpa using h
  · rintro v ⟨rfl, hr⟩
    simp only [alibkeep_ok_L3]
    refine .condF (decide_eq_false (by omega)) (.one fun x hx => ?_)
    obtain ⟨j, hj, rfl⟩ := List.mem_iff_getElem.1 hx
    exact hr j hj hj
  · have h : r = false ∧ ∃ x ∈ l, x ≠ 0 := h
    obtain ⟨rfl, x, hx, hn⟩ := h
    exact ⟨fun h => (by cases h), fun h => absurd (h x hx) hn⟩
theorem okd {N : Nat} {l : List Int} (hN : l.length < N) (hl : l.length ≤ 1000) : alibkeep_ok N l = some (decide (∀ e ∈ l, e = 0)) := by
  obtain ⟨o, h1, h2⟩ := ok_wp hN hl
  rw [h1]
  congr 1
  cases o with
  | true => exact (decide_eq_true (h2.1 rfl)).symm
  | false => exact (decide_eq_false fun h => by have := h2.2 h; cases this).symm
theorem Fnd.len {types : List Int} {c : List Call} {rel : Rel} {q : Nat → Nat → Bool} (X : Cx types c rel q) {x : List Step} {b : Bool} (h : Fnd types c q x b) : x.length ≤ c.length := by
  rcases h with ⟨_, h, _⟩ | ⟨_, rfl, _⟩
  · exact h.len X
  · simp
theorem cx9 {N : Nat} {types : List Int} {l : List Event} {c : List Call} (H : Hc N types l c) (hN : 300 < N) : ∃ rel, Cx types c rel (bfA c) := by
  have hf := H.few
  obtain ⟨a, _, ha⟩ := ahead_wp hN (c := c) (by omega)
  exact ⟨_, cx_of (n := a.1) H.his (by omega) ha.2.2⟩
end Sr

namespace Sr
open Rl Hs
theorem calls9_of {N : Nat} {types : List Int} {l : List Event} {c : List Call} (h : history_Calls N types l = some (c, 0, 0)) (hl : c.length ≤ 9) : search_Calls N types l = some (c, 0) := by
  unfold search_Calls
  rw [bd_of h]
  exact (cond_no rfl).trans (cond_no (decide_eq_false (by simp only; omega)))
theorem rn_of {N : Nat} {types : List Int} {l : List Event} {c : List Call} (hN : 300 < N) (h : history_Calls N types l = some (c, 0, 0)) : history_Types N types = some 0 ∧ l.length ≤ 200 ∧ ∃ op, Rn N types l l.length c op := by
  obtain ⟨r, h1, h2⟩ := calls_rn (types := types) (l := l) hN
  rw [h] at h1
  cases h1
  obtain ⟨g1, _, g3, _, g5⟩ := h2 rfl
  exact ⟨g1, g3, g5⟩
end Sr

namespace Sr
open Rl Hs
/-- Each one's calls, as they came. -/
def prS (c : List Call) (i j : Nat) : Bool := decide (i < c.length ∧ j < c.length ∧ (c.getD i Call.z).who = (c.getD j Call.z).who ∧ i < j)
theorem programs_wp {N : Nat} {c : List Call} (hN : 300 < N) (h12 : c.length ≤ 12) : Wp (seq_programs N c) fun A => ∀ i, i < 12 → Row (A.getD i 0) (prS c i) := by
  unfold seq_programs
  refine .seq (P := fun A => ∀ i, i < 12 → Row (A.getD i 0) (prS c i)) (.iter c.length (fun k st => st.2 = (k : Int) ∧ ∀ i, i < 12 → Row (st.1.getD i 0) fun j => decide (i < k) && prS c i j) (by omega) ⟨rfl, fun i _ => Row.zero.cong fun j => by simp⟩ ?_ ?_) fun A _ hA => .one hA
  · rintro k ⟨A, v⟩ hk ⟨hv, hA⟩
    simp only at hv hA
    subst hv
    simp only [seq_programs_L25]
    refine .condT (decide_eq_true (by omega)) ?_
    refine .seq (P := fun A' => ∀ i, i < 12 → Row (A'.getD i 0) fun j => decide (i < k + 1) && prS c i j) (.bd (.ixV hk ?_)) fun A' _ hA' => .ck64 (by omega) (.one ⟨by simp, hA'⟩)
    refine mat_in (by omega) h12 (by omega) hA (fun j h => (of_decide_eq_true h).2.1) (fun B j hj => ?_) (fun B => ?_)
    · simp only [seq_programs_L27]
      refine Wp.eq (.condT (decide_eq_true (by omega)) (.ix hj ?_))
      have e : ((decide (c[k].who = c[j].who)) && (decide ((k : Int) < (j : Int)))) = prS c k j := by
        unfold prS
        rw [getD_of hk, getD_of hj, Bool.eq_iff_iff]
        simp only [Bool.and_eq_true, decide_eq_true_eq]
        exact ⟨fun h => ⟨hk, hj, h.1, by omega⟩, fun h => ⟨h.2.2.1, by omega⟩⟩
      rw [e]
      exact .cond (fun hb => .axN (by omega) (.axN (by omega) (.ck64 (by omega) (.one (by rw [hb]; rfl))))) (fun hb => .ck64 (by omega) (.one (by rw [hb]; rfl)))
    · simp only [seq_programs_L27]
      exact Wp.eq (.condF (by simp) (.one rfl))
  · rintro ⟨B, v⟩ ⟨hv, hB⟩
    simp only at hv hB
    subst hv
    simp only [seq_programs_L25]
    refine .condF (by simp) (.one fun i hi => (hB i hi).cong fun j => ?_)
    by_cases h : i < c.length
    · simp [h]
    · have : prS c i j = false := decide_eq_false (fun hh => h hh.1)
      simp [this]
theorem sfind_wp {N : Nat} (hN : 300 < N) {types : List Int} {l : List Event} {c : List Call} {e : Int} (hc : search_Calls N types l = some (c, e)) : Wp (seq_Find N types l) fun r => r.2.2 = e ∧ (e ≠ 0 → r.1 = [] ∧ r.2.1 = false) ∧ (e = 0 → Hc N types l c → Fnd types c (prS c) r.1 r.2.1) := by
  obtain ⟨r, h1, h2⟩ := calls9_wp hN types l
  rw [hc] at h1
  cases h1
  unfold seq_Find
  refine .bdO hc ?_
  rcases h2 with ⟨h0, H, _⟩ | ⟨h0, _⟩
  · simp only at h0 H
    subst h0
    have hf := H.few
    refine .condF rfl (.seq (programs_wp hN (c := c) (by omega)) fun a _ ha => .seq (smallest_wp hN (cx_of H.his (by omega) ha)) fun r _ hr => .one ⟨rfl, fun h => (h rfl).elim, fun _ _ => hr⟩)
  · exact .condT (by simpa using h0) (.one ⟨rfl, fun _ => ⟨rfl, rfl⟩, fun h => (h0 h).elim⟩)
theorem sright_wp {N : Nat} (hN : 300 < N) {types : List Int} {l : List Event} {c : List Call} {e : Int} (hc : search_Calls N types l = some (c, e)) {w : List Step} (hw : w.length < N) : Wp (seq_Right N types l w) fun r => r.2 = e ∧ (e ≠ 0 → r.1 = false) ∧ (e = 0 → Hc N types l c → (r.1 = true ↔ Gd types c (prS c) (S0 types) [] w)) := by
  obtain ⟨r, h1, h2⟩ := calls9_wp hN types l
  rw [hc] at h1
  cases h1
  unfold seq_Right
  refine .bdO hc ?_
  rcases h2 with ⟨h0, H, _⟩ | ⟨h0, _⟩
  · simp only at h0 H
    subst h0
    have hf := H.few
    refine .condF rfl (.seq (programs_wp hN (c := c) (by omega)) fun a _ ha => .seq (valid_wp hN (cx_of H.his (by omega) ha) hw) fun r _ hr => .one ⟨rfl, fun h => (h rfl).elim, fun _ _ => hr⟩)
  · exact .condT (by simpa using h0) (.one ⟨rfl, fun _ => rfl, fun h => (h0 h).elim⟩)
/-! Epochs -/
def epS (s : List Int × Int × Int) (v : Event) : List Int × Int × Int := if v.kind = 0 then (s.1, s.2.1 - 1, if s.2.1 - 1 = 0 then s.2.2 + 1 else s.2.2) else (s.1 ++ [s.2.2], s.2.1 + 1, s.2.2)
def epR (l : List Event) : Nat → List Int × Int × Int
  | 0 => ([], 0, 0)
  | k + 1 => epS (epR l k) (l.getD k Event.z)
theorem ep_b (l : List Event) : ∀ k : Nat, (epR l k).1.length ≤ k ∧ -(k : Int) ≤ (epR l k).2.1 ∧ (epR l k).2.1 ≤ k ∧ 0 ≤ (epR l k).2.2 ∧ (epR l k).2.2 ≤ k
  | 0 => by simp [epR]
  | k + 1 => by
    obtain ⟨h1, h2, h3, h4, h5⟩ := ep_b l k
    simp only [epR, epS]
    split
    · refine ⟨by simp only; omega, by simp only; omega, by simp only; omega, ?_, ?_⟩
      · simp only; split <;> omega
      · simp only; split <;> omega
    · refine ⟨by simp only [List.length_append, List.length_singleton]; omega, by simp only; omega, by simp only; omega, by simp only; omega, by simp only; omega⟩
theorem epochs_wp {N : Nat} (hN : 300 < N) {l : List Event} (hl : l.length ≤ 200) : seq_epochs N l = some (epR l l.length).1 := by
  refine Wp.eq ?_
  unfold seq_epochs
  refine .seq (P := fun E => E = (epR l l.length).1) (.iter l.length (fun k st => st = ((epR l k).1, (epR l k).2.1, (epR l k).2.2, (k : Int))) (by omega) rfl ?_ ?_) fun E _ hE => .one (by rw [hE])
  · rintro k st hk rfl
    obtain ⟨h1, h2, h3, h4, h5⟩ := ep_b l k
    simp only [seq_epochs_L3]
    refine .condT (decide_eq_true (by omega)) (.ix hk (.cond (fun hv => .ck64 (by omega) (.cond (fun h0 => .ck64 (by omega) (.ck64 (by omega) (.one ?_))) fun h0 => .ck64 (by omega) (.one ?_))) fun hv => .ck (limB_of ⟨by unfold maxLen; simp only [List.length_append, List.length_singleton]; omega, by simp only [List.length_append, List.length_singleton]; omega⟩) (.ck64 (by omega) (.ck64 (by omega) (.one ?_)))))
    · simp only [epR, epS, getD_of hk]
      rw [if_pos (of_decide_eq_true hv), if_pos (of_decide_eq_true h0)]
      simp
    · simp only [epR, epS, getD_of hk]
      rw [if_pos (of_decide_eq_true hv), if_neg (of_decide_eq_false h0)]
      simp
    · simp only [epR, epS, getD_of hk]
      rw [if_neg (of_decide_eq_false hv)]
      simp
  · rintro st rfl
    simp only [seq_epochs_L3]
    exact .condF (decide_eq_false (by omega)) (.one rfl)
structure Ep (k : Nat) (out : List Call) (s : List Int × Int × Int) : Prop where
  len : s.1.length = out.length
  cnt : s.2.1 = 2 * (out.length : Int) - k
  top : ∀ m, m < out.length → s.1.getD m 0 ≤ s.2.2
  pen : ∀ m, m < out.length → s.1.getD m 0 < s.2.2 → (out.getD m Call.z).to_ ≠ -1
  mono : ∀ i j, i < j → j < out.length → s.1.getD i 0 ≤ s.1.getD j 0
  lt : ∀ i j, i < out.length → j < out.length → s.1.getD i 0 < s.1.getD j 0 → (out.getD i Call.z).to_ ≠ -1 ∧ (out.getD i Call.z).to_ < (out.getD j Call.z).from_
theorem rn_ep {N : Nat} {types : List Int} {l : List Event} {k : Nat} {out : List Call} {op : List Int} (R : Rn N types l k out op) : Ep k out (epR l k) := by
  induction R with
  | zero => exact ⟨rfl, rfl, fun m h => absurd h (Nat.not_lt_zero _), fun m h => absurd h (Nat.not_lt_zero _), fun i j _ h => absurd h (Nat.not_lt_zero _), fun i j _ h => absurd h (Nat.not_lt_zero _)⟩
  | @succ k out out' op op' R hk S ih =>
    have W := R.wf
    have W' := (Rn.succ R hk S).wf
    obtain ⟨i1, i2, i3, i4, i5, i6⟩ := ih
    simp only [epR]
    generalize epR l k = s at i1 i2 i3 i4 i5 i6 ⊢
    obtain ⟨E, o, e⟩ := s
    simp only at i1 i2 i3 i4 i5 i6
    rcases S.how with ⟨hv, _, _, _, rfl, _⟩ | ⟨hv, m0, hm, hml, _, _, rfl, _⟩
    · have es : epS (E, o, e) (l.getD k Event.z) = (E ++ [e], o + 1, e) := by unfold epS; rw [if_neg hv]
      rw [es]
      have hlen : (out ++ [begC (l.getD k Event.z) k]).length = out.length + 1 := by simp
      have gE : ∀ m, m < out.length → (E ++ [e]).getD m 0 = E.getD m 0 := fun m h => by rw [getD_app, if_pos (by omega)]
      have gL : (E ++ [e]).getD out.length 0 = e := by rw [getD_app, if_neg (by omega), if_pos (by omega)]
      have cE : ∀ m, m < out.length → (out ++ [begC (l.getD k Event.z) k]).getD m Call.z = out.getD m Call.z := fun m h => by rw [getD_app, if_pos h]
      have cL : (out ++ [begC (l.getD k Event.z) k]).getD out.length Call.z = begC (l.getD k Event.z) k := by rw [getD_app, if_neg (by omega), if_pos rfl]
      have low : ∀ m, m < out.length → E.getD m 0 < e → (out.getD m Call.z).to_ ≠ -1 ∧ (out.getD m Call.z).to_ < k := fun m hm h => by
        have h1 := i4 m hm h
        rcases (W.one m hm).to with ⟨h2, _⟩ | ⟨_, h2⟩
        · exact (h1 h2).elim
        · exact ⟨h1, h2⟩
      refine ⟨by simp [i1], by simp only [hlen]; omega, fun m hm => ?_, fun m hm => ?_, fun i j hij hj => ?_, fun i j hi hj => ?_⟩
      · rw [hlen] at hm
        simp only
        rcases Nat.lt_or_ge m out.length with h | h
        · rw [gE m h]; exact i3 m h
        · obtain rfl : m = out.length := by omega
          rw [gL]; omega
      · rw [hlen] at hm
        simp only
        rcases Nat.lt_or_ge m out.length with h | h
        · rw [gE m h, cE m h]; exact i4 m h
        · obtain rfl : m = out.length := by omega
          rw [gL]; omega
      · rw [hlen] at hj
        simp only
        rw [gE i (by omega)]
        rcases Nat.lt_or_ge j out.length with h | h
        · rw [gE j h]; exact i5 i j hij h
        · obtain rfl : j = out.length := by omega
          rw [gL]; exact i3 i hij
      · rw [hlen] at hi hj
        simp only
        rcases Nat.lt_or_ge i out.length with h | h
        · rw [gE i h, cE i h]
          rcases Nat.lt_or_ge j out.length with h2 | h2
          · rw [gE j h2, cE j h2]; exact i6 i j h h2
          · obtain rfl : j = out.length := by omega
            rw [gL, cL]
            exact low i h
        · obtain rfl : i = out.length := by omega
          rw [gL]
          intro h3
          exfalso
          rcases Nat.lt_or_ge j out.length with h2 | h2
          · rw [gE j h2] at h3
            have := i3 j h2
            omega
          · obtain rfl : j = out.length := by omega
            rw [gL] at h3
            omega
    · have hlen : (out.set m0 (endC (out.getD m0 Call.z) (l.getD k Event.z).value k)).length = out.length := by rw [List.length_set]
      have hpend : (out.getD m0 Call.z).to_ = -1 := by
        obtain ⟨h1, h2⟩ := S.who
        exact ((W.pen (l.getD k Event.z).who.toNat (by omega)).2.2 m0 hm).2
      have es : epS (E, o, e) (l.getD k Event.z) = (E, o - 1, if o - 1 = 0 then e + 1 else e) := by unfold epS; rw [if_pos hv]
      rw [es]
      have hE0 : ¬ E.getD m0 0 < e := fun h => i4 m0 hml h hpend
      have all0 : o - 1 = 0 → ∀ m, m < out.length → ((out.set m0 (endC (out.getD m0 Call.z) (l.getD k Event.z).value k)).getD m Call.z).to_ ≠ -1 := fun h0 m hm2 => by
        have hc := W'.cnt
        rw [hlen] at hc
        have hc2 : (out.set m0 (endC (out.getD m0 Call.z) (l.getD k Event.z).value k)).countP (fun c => !decide (c.to_ = -1)) = (out.set m0 (endC (out.getD m0 Call.z) (l.getD k Event.z).value k)).length := by rw [hlen]; omega
        have := List.countP_eq_length.1 hc2
        have hm3 : m < (out.set m0 (endC (out.getD m0 Call.z) (l.getD k Event.z).value k)).length := by rw [hlen]; exact hm2
        have h4 := this _ (List.getElem_mem hm3)
        rw [getD_of hm3]
        simpa using h4
      refine ⟨by simp only [hlen]; exact i1, by simp only [hlen]; omega, fun m hm => ?_, fun m hm => ?_, fun i j hij hj => ?_, fun i j hi hj => ?_⟩
      · rw [hlen] at hm
        have := i3 m hm
        simp only
        split <;> omega
      · rw [hlen] at hm
        simp only
        intro h
        by_cases h0 : o - 1 = 0
        · exact all0 h0 m hm
        · rw [if_neg h0] at h
          rw [getD_set2 hml]
          by_cases em : m = m0
          · subst em; exact (hE0 h).elim
          · rw [if_neg em]; exact i4 m hm h
      · rw [hlen] at hj
        exact i5 i j hij hj
      · rw [hlen] at hi hj
        simp only
        intro h
        rw [getD_set2 hml, getD_set2 hml]
        have ei : i ≠ m0 := fun e1 => by
          subst e1
          have := i3 j hj
          omega
        rw [if_neg ei]
        have h6 := i6 i j hi hj h
        by_cases ej : j = m0
        · subst ej; rw [if_pos rfl]; exact h6
        · rw [if_neg ej]; exact h6
def caE (E : List Int) (i j : Nat) : Bool := decide (i < E.length ∧ j < E.length ∧ E.getD i 0 < E.getD j 0)
theorem quiet_wp {N : Nat} (hN : 300 < N) {types : List Int} {l : List Event} {c : List Call} {e : Int} (hc : search_Calls N types l = some (c, e)) : Wp (seq_Quiet N types l) fun r => r.2.2 = e ∧ (e ≠ 0 → r.1 = [] ∧ r.2.1 = false) ∧ (e = 0 → Hc N types l c → Fnd types c (caE (epR l l.length).1) r.1 r.2.1) := by
  obtain ⟨r, h1, h2⟩ := calls9_wp hN types l
  rw [hc] at h1
  cases h1
  unfold seq_Quiet
  refine .bdO hc ?_
  rcases h2 with ⟨h0, H, hcalls⟩ | ⟨h0, _⟩
  · simp only at h0 H hcalls
    subst h0
    have hf := H.few
    obtain ⟨t1, t2, op, R⟩ := rn_of (by omega) hcalls
    have he := (rn_ep R).len
    refine .condF rfl (.bdO (epochs_wp hN t2) ?_)
    generalize (epR l l.length).1 = E at he ⊢
    refine .seq (P := fun A => ∀ i, i < 12 → Row (A.getD i 0) (caE E i)) (.iter E.length (fun k st => st.2 = (k : Int) ∧ ∀ i, i < 12 → Row (st.1.getD i 0) fun j => decide (i < k) && caE E i j) (by omega) ⟨rfl, fun i _ => Row.zero.cong fun j => by simp⟩ ?_ ?_) fun A _ hA => .seq (smallest_wp hN (cx_of H.his (by omega) hA)) fun r _ hr => .one ⟨rfl, fun h => (h rfl).elim, fun _ _ => hr⟩
    · rintro k ⟨A, v⟩ hk ⟨hv, hA⟩
      simp only at hv hA
      subst hv
      simp only [seq_Quiet_L25]
      refine .condT (decide_eq_true (by omega)) ?_
      refine .seq (P := fun A' => ∀ i, i < 12 → Row (A'.getD i 0) fun j => decide (i < k + 1) && caE E i j) ?_ fun A' _ hA' => .ck64 (by omega) (.one ⟨by simp, hA'⟩)
      refine mat_in (by omega) (by omega) (by omega) hA (fun j h => (of_decide_eq_true h).2.1) (fun B j hj => ?_) (fun B => ?_)
      · simp only [seq_Quiet_L27]
        refine Wp.eq (.condT (decide_eq_true (by omega)) (.ix hk (.ix hj ?_)))
        have e : decide (E[k] < E[j]) = caE E k j := by
          unfold caE
          rw [getD_of hk, getD_of hj, decide_eq_decide]
          exact ⟨fun h => ⟨hk, hj, h⟩, fun h => h.2.2⟩
        rw [e]
        exact .cond (fun hb => .axN (by omega) (.axN (by omega) (.ck64 (by omega) (.one (by rw [hb]; rfl))))) (fun hb => .ck64 (by omega) (.one (by rw [hb]; rfl)))
      · simp only [seq_Quiet_L27]
        exact Wp.eq (.condF (by simp) (.one rfl))
    · rintro ⟨B, v⟩ ⟨hv, hB⟩
      simp only at hv hB
      subst hv
      simp only [seq_Quiet_L25]
      refine .condF (by simp) (.one fun i hi => (hB i hi).cong fun j => ?_)
      by_cases h : i < E.length
      · simp [h]
      · have : caE E i j = false := decide_eq_false (fun hh => h hh.1)
        simp [this]
  · exact .condT (by simpa using h0) (.one ⟨rfl, fun _ => ⟨rfl, rfl⟩, fun h => (h0 h).elim⟩)
theorem calm_wp {N : Nat} (hN : 300 < N) {types : List Int} {l : List Event} {c : List Call} {e : Int} (hc : search_Calls N types l = some (c, e)) : Wp (seq_Calm N types l) fun r => r.2 = e ∧ (e = 0 → r.1 = (epR l l.length).1) := by
  obtain ⟨r, h1, h2⟩ := calls9_wp hN types l
  rw [hc] at h1
  cases h1
  unfold seq_Calm
  refine .bdO hc ?_
  rcases h2 with ⟨h0, H, hcalls⟩ | ⟨h0, _⟩
  · simp only at h0 H hcalls
    subst h0
    obtain ⟨t1, t2, op, R⟩ := rn_of (by omega) hcalls
    exact .condF rfl (.bdO (epochs_wp hN t2) (.one ⟨rfl, fun _ => rfl⟩))
  · exact .condT (by simpa using h0) (.one ⟨rfl, fun h => (h0 h).elim⟩)
theorem Gd.mono {types : List Int} {c : List Call} {q q' : Nat → Nat → Bool} (h : ∀ i j, q' i j = true → q i j = true) {S : List (List Int)} {w : List Nat} {t : List Step} (g : Gd types c q S w t) : Gd types c q' S w t := by
  refine ⟨?_, g.2⟩
  have key : ∀ (t : List Step) (S : List (List Int)) (w : List Nat), Pl types c q S w t → Pl types c q' S w t := by
    intro t
    induction t with
    | nil => exact fun _ _ _ => trivial
    | cons s t ih =>
      rintro S w ⟨i, n, h1, h2, h3, h4, h5, h6, h7⟩
      refine ⟨i, n, h1, h2, h3, fun j hj => ?_, h5, h6, ih _ _ h7⟩
      cases hb : q' i j with
      | false => rfl
      | true => rw [← h4 j hj]; exact (h i j hb).symm
  exact key t S w g.1
theorem prS_bf {types : List Int} {l : List Event} {k : Nat} {c : List Call} {op : List Int} (W : WF types l k c op) {i j : Nat} (h : prS c i j = true) : bfA c i j = true := by
  obtain ⟨h1, h2, h3, h4⟩ := of_decide_eq_true h
  obtain ⟨h5, h6⟩ := (W.two i j h4 h2).own h3
  exact decide_eq_true ⟨h1, h2, h5, h6⟩
theorem caE_bf {k : Nat} {c : List Call} {s : List Int × Int × Int} (P : Ep k c s) {i j : Nat} (h : caE s.1 i j = true) : bfA c i j = true := by
  obtain ⟨h1, h2, h3⟩ := of_decide_eq_true h
  rw [P.len] at h1 h2
  obtain ⟨h5, h6⟩ := P.lt i j h1 h2 h3
  exact decide_eq_true ⟨h1, h2, h5, h6⟩
theorem slives : alibkeep_seqLives 18446744073709551616 = some true := by kernel_rfl
theorem Fnd.iff {types : List Int} {c : List Call} {q : Nat → Nat → Bool} {x : List Step} {b : Bool} (F : Fnd types c q x b) : b = true ↔ ∃ u, Gd types c q (S0 types) [] u := by
  rcases F with ⟨h, g, _⟩ | ⟨h, _, g⟩
  · exact ⟨fun _ => ⟨x, g⟩, fun _ => h⟩
  · exact ⟨fun e => (by rw [h] at e; cases e), fun ⟨u, gu⟩ => (g u gu).elim⟩
end Sr

end Go.Proofs.Ytpakplmpihhmbaa
