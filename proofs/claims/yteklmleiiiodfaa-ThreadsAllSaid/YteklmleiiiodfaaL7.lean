/- Histories as runs. -/
import Derived.Test.YteklmleiiiodfaaL4
set_option linter.unusedVariables false
set_option linter.unusedSimpArgs false
set_option linter.unusedSectionVars false
set_option maxRecDepth 100000
namespace Go.Proofs.Yteklmleiiiodfaa
open Go.RowKit
namespace Hs
theorem bd_inv {α β : Type} {m : Option α} {f : α → Option β} {b : β} (h : bd m f = some b) : ∃ a, m = some a ∧ f a = some b := by
  cases m with
  | none => cases h
  | some a => exact ⟨a, rfl, h⟩
theorem cond_inv {α : Type} {c : Bool} {x y : Option α} {b : α} (h : cond c x y = some b) : (c = true ∧ x = some b) ∨ (c = false ∧ y = some b) := by
  cases c with
  | true => exact .inl ⟨rfl, h⟩
  | false => exact .inr ⟨rfl, h⟩
theorem ck_inv {α : Type} {c : Bool} {x : Option α} {b : α} (h : ck c x = some b) : c = true ∧ x = some b := by
  cases c with
  | true => exact ⟨rfl, h⟩
  | false => cases h
def begC (v : Event) (i : Int) : Call := ⟨v.who, v.thing, v.kind, v.value, 0, i, -1⟩
def endC (c : Call) (r i : Int) : Call := ⟨c.who, c.thing, c.kind, c.arg, r, c.from_, i⟩
/-- What one event does, in full. -/
structure StpX (N : Nat) (types : List Int) (out : List Call) (op : List Int) (i : Int) (v : Event) (out' : List Call) (op' : List Int) : Prop where
  who : 0 ≤ v.who ∧ v.who < 8
  thing : 0 ≤ v.thing ∧ v.thing < types.length
  how : (v.kind ≠ 0 ∧ (types.getD v.thing.toNat 0 ≠ 0 ∧ tyF v.kind = types.getD v.thing.toNat 0) ∧ history_Argument N v.kind v.value = some true ∧ op.getD v.who.toNat 0 ≤ 0 ∧ out' = out ++ [begC v i] ∧ op' = setA 8 0 op v.who ((out.length : Int) + 1)) ∨
    (v.kind = 0 ∧ ∃ m : Nat, op.getD v.who.toNat 0 = m + 1 ∧ m < out.length ∧ (out.getD m Call.z).thing = v.thing ∧ history_result N (out.getD m Call.z).kind v.value = some true ∧ out' = out.set m (endC (out.getD m Call.z) v.value i) ∧ op' = setA 8 0 op v.who 0)
theorem StpX.stp {N : Nat} {types : List Int} {out out' : List Call} {op op' : List Int} {i : Int} {v : Event} (S : StpX N types out op i v out' op') : Stp types out op i v out' op' := by
  obtain ⟨h1, h2, h⟩ := S
  refine ⟨h1, h2, ?_⟩
  rcases h with ⟨a, b, c, d, e, f⟩ | ⟨a, m, b, c, d, e, f, g⟩
  · exact .inl ⟨a, b, d, e, f⟩
  · exact .inr ⟨a, m, b, _, c, rfl, d, f, g⟩
theorem event_x {N : Nat} {types : List Int} {out : List Call} {op : List Int} {i : Int} {v : Event} (hl : out.length ≤ 1000) (ho : ∀ w, w < 8 → 0 ≤ op.getD w 0 ∧ op.getD w 0 ≤ out.length) :
    Wp (history_reader_event N types out op i v) fun r => r.2.2 = 0 → StpX N types out op i v r.1 r.2.1 := by
  unfold history_reader_event
  refine .cond (fun _ => .one (by simp)) (fun h => ?_)
  simp only [Bool.or_eq_true, Bool.and_eq_true, Bool.not_eq_true', Bool.not_eq_false', Bool.or_eq_false_iff, Bool.and_eq_false_imp, decide_eq_true_eq, decide_eq_false_iff_not, beq_iff_eq, not_or, Int.not_lt, Int.not_le, Bool.false_eq_true, not_false_eq_true, not_true_eq_false, Decidable.not_not] at *
  have h8 := ho v.who.toNat (by omega)
  have hw : 0 ≤ v.who ∧ v.who < 8 := by omega
  have ht : 0 ≤ v.thing ∧ v.thing < types.length := by omega
  refine .ax (by omega) (by omega) (.cond (fun hk => ?_) (fun hk => ?_))
  · refine .ixD 0 (by omega) (by omega) (.bdO (fits_eq ..) ?_)
    obtain ⟨b, hb⟩ := argument_some N v.kind v.value
    refine .gd b (fun _ => hb) fun x hx => .cond (fun _ => .one (by simp)) (fun hf => .cond (fun _ => .one (by simp)) (fun hn => .ck (limB_of ⟨?_, ?_⟩) (.ax (by omega) (by omega) (.one fun _ => ?_))))
    · simp only [List.length_singleton]; exact Nat.le_trans (m := 2000) (by omega) (by decide)
    · simp only [List.length_singleton]; omega
    · simp only [Bool.or_eq_false_iff, Bool.not_eq_false', decide_eq_true_eq, decide_eq_false_iff_not, Bool.not_eq_true'] at hf hn hk
      have hx' := hx (by rw [decide_eq_true hf.1]; rfl)
      rw [hf.2] at hx'
      exact ⟨hw, ht, .inl ⟨hk, hf.1, by rw [hb, ← hx'], by omega, rfl, by simp⟩⟩
  · refine .cond (fun _ => .one (by simp)) (fun hn => ?_)
    simp only [decide_eq_false_iff_not, Bool.not_eq_false', decide_eq_true_eq] at hn hk
    obtain ⟨m, hm⟩ : ∃ m : Nat, op.getD v.who.toNat 0 = m + 1 := ⟨(op.getD v.who.toNat 0 - 1).toNat, by omega⟩
    rw [hm]
    simp only [show ((m : Int) + 1 - 1) = (m : Int) by omega]
    refine .ck64 (by omega) (.ixD Call.z (by omega) (by omega) ?_)
    simp only [Int.toNat_natCast]
    obtain ⟨b, hb⟩ := result_some N (out.getD m Call.z).kind v.value
    refine .gd b (fun _ => hb) fun x hx => .cond (fun _ => .one (by simp)) (fun hf => .ax (by omega) (by omega) (.one fun _ => ?_))
    simp only [Bool.or_eq_false_iff, Bool.not_eq_false', decide_eq_true_eq] at hf
    have hx' := hx (by rw [decide_eq_true hf.1]; rfl)
    rw [hf.2] at hx'
    exact ⟨hw, ht, .inr ⟨hk, m, hm, by omega, hf.1, by rw [hb, ← hx'], rfl, rfl⟩⟩
theorem event_of {N : Nat} {types : List Int} {out out' : List Call} {op op' : List Int} {i : Int} {v : Event} (hl : out.length ≤ 1000) (S : StpX N types out op i v out' op') :
    history_reader_event N types out op i v = some (out', op', 0) := by
  obtain ⟨hw, ht, h⟩ := S
  refine Wp.eq ?_
  unfold history_reader_event
  refine .condF (by simp; omega) (.ax (by omega) (by omega) ?_)
  rcases h with ⟨hk, hf, ha, hn, rfl, rfl⟩ | ⟨hk, m, hm, hml, hth, hr, rfl, rfl⟩
  · refine .condT (by simpa using hk) (.ixD 0 (by omega) (by omega) (.bdO (fits_eq ..) ?_))
    rw [decide_eq_true hf]
    refine .gd true (fun _ => ha) fun x hx => ?_
    rw [hx rfl]
    refine .condF rfl (.condF (decide_eq_false (by omega)) (.ck (limB_of ⟨?_, ?_⟩) (.ax (by omega) (by omega) (.one ?_))))
    · simp only [List.length_singleton]; exact Nat.le_trans (m := 2000) (by omega) (by decide)
    · simp only [List.length_singleton]; omega
    · simp [begC]
  · refine .condF (by simp [hk]) (.condF (by rw [hm]; exact decide_eq_false (by omega)) ?_)
    rw [hm]
    simp only [show ((m : Int) + 1 - 1) = (m : Int) by omega]
    refine .ck64 (by omega) (.ixD Call.z (by omega) (by omega) ?_)
    simp only [Int.toNat_natCast]
    refine .gd true (fun _ => hr) fun x hx => ?_
    rw [hx (by rw [decide_eq_true hth]; rfl)]
    exact .condF (by rw [decide_eq_true hth]; rfl) (.ax (by omega) (by omega) (.one rfl))
/-- What is read of so many events. -/
inductive Rn (N : Nat) (types : List Int) (l : List Event) : Nat → List Call → List Int → Prop
  | zero : Rn N types l 0 [] []
  | succ {k : Nat} {out out' : List Call} {op op' : List Int} : Rn N types l k out op → k < l.length → StpX N types out op (k : Int) (l.getD k Event.z) out' op' → Rn N types l (k + 1) out' op'
theorem Rn.wf {N : Nat} {types : List Int} {l : List Event} {k : Nat} {out : List Call} {op : List Int} (R : Rn N types l k out op) : WF types l k out op := by
  induction R with
  | zero => exact wf_zero types l
  | succ _ _ S ih => exact wf_step ih S.stp rfl
theorem Rn.fn {N : Nat} {types : List Int} {l : List Event} {n : Nat} {c : List Call} {op : List Int} (R : Rn N types l n c op) :
    ∃ f : Nat → List Call × List Int, f 0 = ([], []) ∧ f n = (c, op) ∧ ∀ k, k < n → Rn N types l k (f k).1 (f k).2 ∧ StpX N types (f k).1 (f k).2 (k : Int) (l.getD k Event.z) (f (k + 1)).1 (f (k + 1)).2 := by
  induction R with
  | zero => exact ⟨fun _ => ([], []), rfl, rfl, fun k h => absurd h (Nat.not_lt_zero _)⟩
  | @succ k out out' op op' R hk S ih =>
    obtain ⟨f, h0, hn, hs⟩ := ih
    refine ⟨fun j => if j ≤ k then f j else (out', op'), by simp [h0], if_neg (by omega), fun j hj => ?_⟩
    rcases Nat.lt_or_ge j k with h | h
    · simp only [if_pos (show j ≤ k by omega), if_pos (show j + 1 ≤ k by omega)]
      exact hs j h
    · obtain rfl : j = k := by omega
      simp only [if_pos (Nat.le_refl j), if_neg (show ¬ j + 1 ≤ j by omega), hn]
      exact ⟨R, S⟩
theorem calls_of {N : Nat} {types : List Int} {l : List Event} {c : List Call} {op : List Int} (hN : 300 < N) (ht : history_Types N types = some 0) (hl : l.length ≤ 200) (R : Rn N types l l.length c op) : history_Calls N types l = some (c, 0, 0) := by
  obtain ⟨f, h0, hn, hs⟩ := R.fn
  refine Wp.eq ?_
  unfold history_Calls
  refine .bdO ht (.condF rfl (.condF (decide_eq_false (by omega)) (.bdO (a := .inl (c, op)) ?_ ⟨(c, 0, 0), rfl, rfl⟩)))
  refine iter_up (ρ := (List Call × List Int) ⊕ (List Call × Int × Int)) (fun k => ((f k).1, (f k).2, (k : Int))) (Sum.inl (c, op)) l.length _ (by simp only [h0]; rfl) (fun k hk => Wp.eq ?_) (Wp.eq ?_) N (by omega)
  · simp only [history_Calls_L3]
    obtain ⟨hr, hx⟩ := hs k hk
    have hle := hr.wf.len
    rw [getD_of hk] at hx
    exact .condT (decide_eq_true (by omega)) (.ix hk (.bdO (event_of (by omega) hx) (.condF rfl (.ck64 (by omega) (.one (by simp))))))
  · simp only [history_Calls_L3]
    exact .condF (decide_eq_false (by omega)) (.one (by rw [hn]))
theorem calls_rn {N : Nat} {types : List Int} {l : List Event} (hN : 300 < N) : Wp (history_Calls N types l) fun r => r.2.2 = 0 → history_Types N types = some 0 ∧ (1 ≤ types.length ∧ types.length ≤ 4) ∧ l.length ≤ 200 ∧ r.2.1 = 0 ∧ ∃ op, Rn N types l l.length r.1 op := by
  unfold history_Calls
  refine .seq (types_wp hN) fun e hte ht => .cond (fun h => .one fun h2 => ?_) (fun h => .cond (fun _ => .one (by simp)) (fun hl => ?_))
  · simp only [Bool.or_eq_true, Bool.and_eq_true, Bool.not_eq_true', Bool.not_eq_false', Bool.or_eq_false_iff, Bool.and_eq_false_imp, decide_eq_true_eq, decide_eq_false_iff_not, beq_iff_eq, not_or, Int.not_lt, Int.not_le, Bool.false_eq_true, not_false_eq_true, not_true_eq_false, Decidable.not_not] at *; exact absurd h2 h
  · simp only [Bool.or_eq_true, Bool.and_eq_true, Bool.not_eq_true', Bool.not_eq_false', Bool.or_eq_false_iff, Bool.and_eq_false_imp, decide_eq_true_eq, decide_eq_false_iff_not, beq_iff_eq, not_or, Int.not_lt, Int.not_le, Bool.false_eq_true, not_false_eq_true, not_true_eq_false, Decidable.not_not] at *
    subst h
    refine .elim (P := fun t => match t with | .inl s => Rn N types l l.length s.1 s.2 | .inr r => r.2.2 ≠ 0) (.iter l.length (fun k s => s.2.2 = (k : Int) ∧ Rn N types l k s.1 s.2.1) (by omega) ⟨rfl, .zero⟩ ?_ ?_) (fun s _ h => .one fun _ => ⟨hte, ⟨(ht rfl).1, (ht rfl).2.1⟩, by omega, rfl, s.2, h⟩) (fun r _ h => .one fun h2 => absurd h2 h)
    · rintro k ⟨out, op, v⟩ hk ⟨hv, R⟩
      simp only at hv R
      subst hv
      simp only [history_Calls_L3]
      have W := R.wf
      have hle := W.len
      refine .condT (decide_eq_true (by omega)) (.ix hk (.seq (event_x (by omega) fun w hw => ⟨(W.pen w hw).1, (W.pen w hw).2.1⟩) fun r _ hr => .cond (fun h => .one (by simpa using h)) (fun h => .ck64 (by omega) (.one ⟨by simp, ?_⟩))))
      simp only [Bool.or_eq_true, Bool.and_eq_true, Bool.not_eq_true', Bool.not_eq_false', Bool.or_eq_false_iff, Bool.and_eq_false_imp, decide_eq_true_eq, decide_eq_false_iff_not, beq_iff_eq, not_or, Int.not_lt, Int.not_le, Bool.false_eq_true, not_false_eq_true, not_true_eq_false, Decidable.not_not] at *
      exact .succ R hk (by rw [getD_of hk]; exact hr h)
    · rintro ⟨out, op, v⟩ ⟨hv, W⟩
      simp only at hv W
      subst hv
      simp only [history_Calls_L3]
      exact .condF (decide_eq_false (by omega)) (.one W)
end Hs

end Go.Proofs.Yteklmleiiiodfaa
