/- Histories whose events change places. -/
import Derived.Test.YtkccgokdahlmeaaV1
set_option linter.unusedVariables false
set_option linter.unusedSimpArgs false
set_option linter.unusedSectionVars false
set_option maxRecDepth 100000
namespace Go.Proofs.Ytkccgokdahlmeaa
open Go.RowKit
namespace Hs
theorem bd_inv {α β : Type} {m : Option α} {f : α → Option β} {b : β} (h : bd m f = some b) : ∃ a, m = some a ∧ f a = some b := by
  cases m with
  | none => cases h
  | some a => exact ⟨a, rfl, h⟩
theorem cond_inv {α : Type} {c : Bool} {x y : Option α} {b : α} (h : cond c x y = some b) : (c = true ∧ x = some b) ∨ (c = false ∧ y = some b) := by
  cases c with
  | true => exact .inl ⟨rfl, h⟩
  | false => exact .inr ⟨rfl, h⟩
theorem ck_inv {α : Type} {c : Bool} {x : Option α} {b : α} (h : ck c x = some b) : c = true ∧ x = some b := by
  cases c with
  | true => exact ⟨rfl, h⟩
  | false => cases h
def begC (v : Event) (i : Int) : Call := ⟨v.who, v.thing, v.kind, v.value, 0, i, -1⟩
def endC (c : Call) (r i : Int) : Call := ⟨c.who, c.thing, c.kind, c.arg, r, c.from_, i⟩
/-- What one event does, in full. -/
structure StpX (N : Nat) (types : List Int) (out : List Call) (op : List Int) (i : Int) (v : Event) (out' : List Call) (op' : List Int) : Prop where
  who : 0 ≤ v.who ∧ v.who < 8
  thing : 0 ≤ v.thing ∧ v.thing < types.length
  how : (v.kind ≠ 0 ∧ (types.getD v.thing.toNat 0 ≠ 0 ∧ tyF v.kind = types.getD v.thing.toNat 0) ∧ history_Argument N v.kind v.value = some true ∧ op.getD v.who.toNat 0 ≤ 0 ∧ out' = out ++ [begC v i] ∧ op' = setA 8 0 op v.who ((out.length : Int) + 1)) ∨
    (v.kind = 0 ∧ ∃ m : Nat, op.getD v.who.toNat 0 = m + 1 ∧ m < out.length ∧ (out.getD m Call.z).thing = v.thing ∧ history_result N (out.getD m Call.z).kind v.value = some true ∧ out' = out.set m (endC (out.getD m Call.z) v.value i) ∧ op' = setA 8 0 op v.who 0)
theorem StpX.stp {N : Nat} {types : List Int} {out out' : List Call} {op op' : List Int} {i : Int} {v : Event} (S : StpX N types out op i v out' op') : Stp types out op i v out' op' := by
  obtain ⟨h1, h2, h⟩ := S
  refine ⟨h1, h2, ?_⟩
  rcases h with ⟨a, b, c, d, e, f⟩ | ⟨a, m, b, c, d, e, f, g⟩
  · exact .inl ⟨a, b, d, e, f⟩
  · exact .inr ⟨a, m, b, _, c, rfl, d, f, g⟩
theorem event_x {N : Nat} {types : List Int} {out : List Call} {op : List Int} {i : Int} {v : Event} (hl : out.length ≤ 1000) (ho : ∀ w, w < 8 → 0 ≤ op.getD w 0 ∧ op.getD w 0 ≤ out.length) :
    Wp (history_reader_event N types out op i v) fun r => r.2.2 = 0 → StpX N types out op i v r.1 r.2.1 := by
  unfold history_reader_event
  refine .cond (fun _ => .one (by simp)) (fun h => ?_)
  simp only [Bool.or_eq_true, Bool.and_eq_true, Bool.not_eq_true', Bool.not_eq_false', Bool.or_eq_false_iff, Bool.and_eq_false_imp, decide_eq_true_eq, decide_eq_false_iff_not, beq_iff_eq, not_or, Int.not_lt, Int.not_le, Bool.false_eq_true, not_false_eq_true, not_true_eq_false, Decidable.not_not] at *
  have h8 := ho v.who.toNat (by omega)
  have hw : 0 ≤ v.who ∧ v.who < 8 := by omega
  have ht : 0 ≤ v.thing ∧ v.thing < types.length := by omega
  refine .ax (by omega) (by omega) (.cond (fun hk => ?_) (fun hk => ?_))
  · refine .ixD 0 (by omega) (by omega) (.bdO (fits_eq ..) ?_)
    obtain ⟨b, hb⟩ := argument_some N v.kind v.value
    refine .gd b (fun _ => hb) fun x hx => .cond (fun _ => .one (by simp)) (fun hf => .cond (fun _ => .one (by simp)) (fun hn => .ck (limB_of ⟨?_, ?_⟩) (.ax (by omega) (by omega) (.one fun _ => ?_))))
    · simp only [List.length_singleton]; exact Nat.le_trans (m := 2000) (by omega) (by decide)
    · simp only [List.length_singleton]; omega
    · simp only [Bool.or_eq_false_iff, Bool.not_eq_false', decide_eq_true_eq, decide_eq_false_iff_not, Bool.not_eq_true'] at hf hn hk
      have hx' := hx (by rw [decide_eq_true hf.1]; rfl)
      rw [hf.2] at hx'
      exact ⟨hw, ht, .inl ⟨hk, hf.1, by rw [hb, ← hx'], by omega, rfl, by simp⟩⟩
  · refine .cond (fun _ => .one (by simp)) (fun hn => ?_)
    simp only [decide_eq_false_iff_not, Bool.not_eq_false', decide_eq_true_eq] at hn hk
    obtain ⟨m, hm⟩ : ∃ m : Nat, op.getD v.who.toNat 0 = m + 1 := ⟨(op.getD v.who.toNat 0 - 1).toNat, by omega⟩
    rw [hm]
    simp only [show ((m : Int) + 1 - 1) = (m : Int) by omega]
    refine .ck64 (by omega) (.ixD Call.z (by omega) (by omega) ?_)
    simp only [Int.toNat_natCast]
    obtain ⟨b, hb⟩ := result_some N (out.getD m Call.z).kind v.value
    refine .gd b (fun _ => hb) fun x hx => .cond (fun _ => .one (by simp)) (fun hf => .ax (by omega) (by omega) (.one fun _ => ?_))
    simp only [Bool.or_eq_false_iff, Bool.not_eq_false', decide_eq_true_eq] at hf
    have hx' := hx (by rw [decide_eq_true hf.1]; rfl)
    rw [hf.2] at hx'
    exact ⟨hw, ht, .inr ⟨hk, m, hm, by omega, hf.1, by rw [hb, ← hx'], rfl, rfl⟩⟩
theorem event_of {N : Nat} {types : List Int} {out out' : List Call} {op op' : List Int} {i : Int} {v : Event} (hl : out.length ≤ 1000) (S : StpX N types out op i v out' op') :
    history_reader_event N types out op i v = some (out', op', 0) := by
  obtain ⟨hw, ht, h⟩ := S
  refine Wp.eq ?_
  unfold history_reader_event
  refine .condF (by simp; omega) (.ax (by omega) (by omega) ?_)
  rcases h with ⟨hk, hf, ha, hn, rfl, rfl⟩ | ⟨hk, m, hm, hml, hth, hr, rfl, rfl⟩
  · refine .condT (by simpa using hk) (.ixD 0 (by omega) (by omega) (.bdO (fits_eq ..) ?_))
    rw [decide_eq_true hf]
    refine .gd true (fun _ => ha) fun x hx => ?_
    rw [hx rfl]
    refine .condF rfl (.condF (decide_eq_false (by omega)) (.ck (limB_of ⟨?_, ?_⟩) (.ax (by omega) (by omega) (.one ?_))))
    · simp only [List.length_singleton]; exact Nat.le_trans (m := 2000) (by omega) (by decide)
    · simp only [List.length_singleton]; omega
    · simp [begC]
  · refine .condF (by simp [hk]) (.condF (by rw [hm]; exact decide_eq_false (by omega)) ?_)
    rw [hm]
    simp only [show ((m : Int) + 1 - 1) = (m : Int) by omega]
    refine .ck64 (by omega) (.ixD Call.z (by omega) (by omega) ?_)
    simp only [Int.toNat_natCast]
    refine .gd true (fun _ => hr) fun x hx => ?_
    rw [hx (by rw [decide_eq_true hth]; rfl)]
    exact .condF (by rw [decide_eq_true hth]; rfl) (.ax (by omega) (by omega) (.one rfl))
/-- What is read of so many events. -/
inductive Rn (N : Nat) (types : List Int) (l : List Event) : Nat → List Call → List Int → Prop
  | zero : Rn N types l 0 [] []
  | succ {k : Nat} {out out' : List Call} {op op' : List Int} : Rn N types l k out op → k < l.length → StpX N types out op (k : Int) (l.getD k Event.z) out' op' → Rn N types l (k + 1) out' op'
theorem Rn.wf {N : Nat} {types : List Int} {l : List Event} {k : Nat} {out : List Call} {op : List Int} (R : Rn N types l k out op) : WF types l k out op := by
  induction R with
  | zero => exact wf_zero types l
  | succ _ _ S ih => exact wf_step ih S.stp rfl
theorem Rn.fn {N : Nat} {types : List Int} {l : List Event} {n : Nat} {c : List Call} {op : List Int} (R : Rn N types l n c op) :
    ∃ f : Nat → List Call × List Int, f 0 = ([], []) ∧ f n = (c, op) ∧ ∀ k, k < n → Rn N types l k (f k).1 (f k).2 ∧ StpX N types (f k).1 (f k).2 (k : Int) (l.getD k Event.z) (f (k + 1)).1 (f (k + 1)).2 := by
  induction R with
  | zero => exact ⟨fun _ => ([], []), rfl, rfl, fun k h => absurd h (Nat.not_lt_zero _)⟩
  | @succ k out out' op op' R hk S ih =>
    obtain ⟨f, h0, hn, hs⟩ := ih
    refine ⟨fun j => if j ≤ k then f j else (out', op'), by simp [h0], if_neg (by omega), fun j hj => ?_⟩
    rcases Nat.lt_or_ge j k with h | h
    · simp only [if_pos (show j ≤ k by omega), if_pos (show j + 1 ≤ k by omega)]
      exact hs j h
    · obtain rfl : j = k := by omega
      simp only [if_pos (Nat.le_refl j), if_neg (show ¬ j + 1 ≤ j by omega), hn]
      exact ⟨R, S⟩
theorem calls_of {N : Nat} {types : List Int} {l : List Event} {c : List Call} {op : List Int} (hN : 300 < N) (ht : history_Types N types = some 0) (hl : l.length ≤ 200) (R : Rn N types l l.length c op) : history_Calls N types l = some (c, 0, 0) := by
  obtain ⟨f, h0, hn, hs⟩ := R.fn
  refine Wp.eq ?_
  unfold history_Calls
  refine .bdO ht (.condF rfl (.condF (decide_eq_false (by omega)) (.bdO (a := .inl (c, op)) ?_ ⟨(c, 0, 0), rfl, rfl⟩)))
  refine iter_up (ρ := (List Call × List Int) ⊕ (List Call × Int × Int)) (fun k => ((f k).1, (f k).2, (k : Int))) (Sum.inl (c, op)) l.length _ (by simp only [h0]; rfl) (fun k hk => Wp.eq ?_) (Wp.eq ?_) N (by omega)
  · simp only [history_Calls_L3]
    obtain ⟨hr, hx⟩ := hs k hk
    have hle := hr.wf.len
    rw [getD_of hk] at hx
    exact .condT (decide_eq_true (by omega)) (.ix hk (.bdO (event_of (by omega) hx) (.condF rfl (.ck64 (by omega) (.one (by simp))))))
  · simp only [history_Calls_L3]
    exact .condF (decide_eq_false (by omega)) (.one (by rw [hn]))
theorem calls_rn {N : Nat} {types : List Int} {l : List Event} (hN : 300 < N) : Wp (history_Calls N types l) fun r => r.2.2 = 0 → history_Types N types = some 0 ∧ (1 ≤ types.length ∧ types.length ≤ 4) ∧ l.length ≤ 200 ∧ r.2.1 = 0 ∧ ∃ op, Rn N types l l.length r.1 op := by
  unfold history_Calls
  refine .seq (types_wp hN) fun e hte ht => .cond (fun h => .one fun h2 => ?_) (fun h => .cond (fun _ => .one (by simp)) (fun hl => ?_))
  · simp only [Bool.or_eq_true, Bool.and_eq_true, Bool.not_eq_true', Bool.not_eq_false', Bool.or_eq_false_iff, Bool.and_eq_false_imp, decide_eq_true_eq, decide_eq_false_iff_not, beq_iff_eq, not_or, Int.not_lt, Int.not_le, Bool.false_eq_true, not_false_eq_true, not_true_eq_false, Decidable.not_not] at *; exact absurd h2 h
  · simp only [Bool.or_eq_true, Bool.and_eq_true, Bool.not_eq_true', Bool.not_eq_false', Bool.or_eq_false_iff, Bool.and_eq_false_imp, decide_eq_true_eq, decide_eq_false_iff_not, beq_iff_eq, not_or, Int.not_lt, Int.not_le, Bool.false_eq_true, not_false_eq_true, not_true_eq_false, Decidable.not_not] at *
    subst h
    refine .elim (P := fun t => match t with | .inl s => Rn N types l l.length s.1 s.2 | .inr r => r.2.2 ≠ 0) (.iter l.length (fun k s => s.2.2 = (k : Int) ∧ Rn N types l k s.1 s.2.1) (by omega) ⟨rfl, .zero⟩ ?_ ?_) (fun s _ h => .one fun _ => ⟨hte, ⟨(ht rfl).1, (ht rfl).2.1⟩, by omega, rfl, s.2, h⟩) (fun r _ h => .one fun h2 => absurd h2 h)
    · rintro k ⟨out, op, v⟩ hk ⟨hv, R⟩
      simp only at hv R
      subst hv
      simp only [history_Calls_L3]
      have W := R.wf
      have hle := W.len
      refine .condT (decide_eq_true (by omega)) (.ix hk (.seq (event_x (by omega) fun w hw => ⟨(W.pen w hw).1, (W.pen w hw).2.1⟩) fun r _ hr => .cond (fun h => .one (by simpa using h)) (fun h => .ck64 (by omega) (.one ⟨by simp, ?_⟩))))
      simp only [Bool.or_eq_true, Bool.and_eq_true, Bool.not_eq_true', Bool.not_eq_false', Bool.or_eq_false_iff, Bool.and_eq_false_imp, decide_eq_true_eq, decide_eq_false_iff_not, beq_iff_eq, not_or, Int.not_lt, Int.not_le, Bool.false_eq_true, not_false_eq_true, not_true_eq_false, Decidable.not_not] at *
      exact .succ R hk (by rw [getD_of hk]; exact hr h)
    · rintro ⟨out, op, v⟩ ⟨hv, W⟩
      simp only at hv W
      subst hv
      simp only [history_Calls_L3]
      exact .condF (decide_eq_false (by omega)) (.one W)
/-! Two events change places. -/
def tau (k x : Int) : Int := if x = k then k + 1 else if x = k + 1 then k else x
def tmC (k : Int) (c : Call) : Call := ⟨c.who, c.thing, c.kind, c.arg, c.res, tau k c.from_, tau k c.to_⟩
theorem tau_id {k x : Int} (h : x ≠ k) (h2 : x ≠ k + 1) : tau k x = x := by unfold tau; rw [if_neg h, if_neg h2]
theorem tmC_id {k : Int} {c : Call} (h : c.from_ < k) (h2 : c.to_ < k) : tmC k c = c := by
  obtain ⟨a, b, d, e, f, g, i⟩ := c
  simp only at h h2
  simp only [tmC, tau_id (show g ≠ k by omega) (by omega), tau_id (show i ≠ k by omega) (by omega)]
/-- What is read so, and otherwise. -/
structure Sim (k : Nat) (q : Nat → Nat) (out : List Call) (op : List Int) (out' : List Call) (op' : List Int) : Prop where
  len : out'.length = out.length
  inv : ∀ m, q (q m) = m
  lo : ∀ m, m < out.length → q m < out.length
  hi : ∀ m, out.length ≤ m → q m = m
  at_ : ∀ m, m < out.length → out'.getD (q m) Call.z = tmC k (out.getD m Call.z)
  op_ : ∀ w, w < 8 → (op.getD w 0 = 0 ∧ op'.getD w 0 = 0) ∨ ∃ m : Nat, m < out.length ∧ op.getD w 0 = m + 1 ∧ op'.getD w 0 = (q m : Int) + 1
theorem Sim.step {N : Nat} {types : List Int} {k : Nat} {q : Nat → Nat} {out out' out2 : List Call} {op op' op2 : List Int} {i : Int} {v : Event} (S : Sim k q out op out' op') (X : StpX N types out op i v out2 op2) (hi : (k : Int) + 1 < i) :
    ∃ out2' op2', StpX N types out' op' i v out2' op2' ∧ Sim k q out2 op2 out2' op2' := by
  obtain ⟨hw, ht, h⟩ := X
  have h8 := S.op_ v.who.toNat (by omega)
  have hlen := S.len
  rcases h with ⟨hk, hf, ha, hn, rfl, rfl⟩ | ⟨hk, m, hm, hml, hth, hr, rfl, rfl⟩
  · have h0 : op'.getD v.who.toNat 0 = 0 := by
      rcases h8 with h8 | ⟨m, h1, h2, h3⟩
      · exact h8.2
      · omega
    refine ⟨out' ++ [begC v i], setA 8 0 op' v.who ((out'.length : Int) + 1), ⟨hw, ht, .inl ⟨hk, hf, ha, by omega, rfl, rfl⟩⟩, ⟨by simp [hlen], S.inv, fun m hm => ?_, fun m hm => ?_, fun m hm => ?_, fun w hw8 => ?_⟩⟩
    · rw [List.length_append, List.length_singleton] at hm ⊢
      rcases Nat.lt_or_ge m out.length with h | h
      · have := S.lo m h; omega
      · rw [S.hi m h]; exact hm
    · rw [List.length_append] at hm
      exact S.hi m (by omega)
    · rw [List.length_append, List.length_singleton] at hm
      rw [getD_app, getD_app, hlen]
      rcases Nat.lt_or_ge m out.length with h | h
      · rw [if_pos (S.lo m h), if_pos h, S.at_ m h]
      · obtain rfl : m = out.length := by omega
        rw [S.hi _ h, if_neg (Nat.lt_irrefl _), if_pos rfl, if_neg (Nat.lt_irrefl _)]
        simp only [tmC, begC, tau_id (show i ≠ (k : Int) by omega) (by omega), tau_id (show (-1 : Int) ≠ (k : Int) by omega) (by omega)]
    · rw [setA_get hw8, setA_get hw8]
      by_cases e : w = v.who.toNat
      · rw [if_pos e, if_pos e, hlen]
        exact .inr ⟨out.length, by simp, rfl, by rw [S.hi _ (Nat.le_refl _)]⟩
      · rw [if_neg e, if_neg e]
        rcases S.op_ w hw8 with h | ⟨m, h1, h2, h3⟩
        · exact .inl h
        · exact .inr ⟨m, by simp; omega, h2, h3⟩
  · have h0 : op'.getD v.who.toNat 0 = (q m : Int) + 1 := by
      rcases h8 with h8 | ⟨m', h1, h2, h3⟩
      · omega
      · obtain rfl : m' = m := by omega
        exact h3
    have hat := S.at_ m hml
    have hlo := S.lo m hml
    refine ⟨out'.set (q m) (endC (out'.getD (q m) Call.z) v.value i), setA 8 0 op' v.who 0, ⟨hw, ht, .inr ⟨hk, q m, h0, by omega, by rw [hat]; exact hth, by rw [hat]; exact hr, rfl, rfl⟩⟩, ⟨by simp [hlen], S.inv, fun m' h => by rw [List.length_set] at h ⊢; exact S.lo m' h, fun m' h => by rw [List.length_set] at h; exact S.hi m' h, fun m' h => ?_, fun w hw8 => ?_⟩⟩
    · rw [List.length_set] at h
      rw [getD_set2 (by omega), getD_set2 hml]
      by_cases e : m' = m
      · subst e
        rw [if_pos rfl, if_pos rfl, hat]
        simp only [tmC, endC, tau_id (show i ≠ (k : Int) by omega) (by omega)]
      · rw [if_neg e, if_neg (fun h2 => e (by rw [← S.inv m', h2, S.inv])), S.at_ m' h]
    · rw [setA_get hw8, setA_get hw8]
      by_cases e : w = v.who.toNat
      · rw [if_pos e, if_pos e]; exact .inl ⟨rfl, rfl⟩
      · rw [if_neg e, if_neg e, List.length_set]
        exact S.op_ w hw8
/-- The places p and p + 1 change. -/
def sw (p i : Nat) : Nat := if i = p then p + 1 else if i = p + 1 then p else i
theorem sw_inv (p i : Nat) : sw p (sw p i) = i := by
  unfold sw
  by_cases h : i = p
  · subst h; simp
  · by_cases h2 : i = p + 1
    · subst h2; simp
    · simp [h, h2]
theorem Sim.two {N : Nat} {types : List Int} {l : List Event} {k : Nat} {out out1 out2 : List Call} {op op1 op2 : List Int} {x y : Event} (R : Rn N types l k out op) (X : StpX N types out op (k : Int) x out1 op1) (Y : StpX N types out1 op1 ((k + 1 : Nat) : Int) y out2 op2) (hne : x.who ≠ y.who) :
    ∃ q out1' op1' out2' op2', StpX N types out op (k : Int) y out1' op1' ∧ StpX N types out1' op1' ((k + 1 : Nat) : Int) x out2' op2' ∧ Sim k q out2 op2 out2' op2' := by
  have W := R.wf
  have hid : ∀ m, m < out.length → tmC k (out.getD m Call.z) = out.getD m Call.z := fun m hm => by
    have O := W.one m hm
    have h1 := O.fr
    exact tmC_id (by omega) (by rcases O.to with h | h <;> omega)
  have hop : ∀ w, w < 8 → op.getD w 0 = 0 ∨ ∃ m : Nat, m < out.length ∧ op.getD w 0 = m + 1 ∧ (out.getD m Call.z).who = w := fun w hw => by
    obtain ⟨h1, h2, h3⟩ := W.pen w hw
    rcases Int.lt_or_le 0 (op.getD w 0) with h | h
    · refine .inr ⟨(op.getD w 0 - 1).toNat, by omega, by omega, (h3 _ (by omega)).1⟩
    · exact .inl (by omega)
  have t1 : tau (k : Int) (k : Int) = ((k + 1 : Nat) : Int) := by unfold tau; rw [if_pos rfl]; omega
  have t2 : tau (k : Int) ((k + 1 : Nat) : Int) = (k : Int) := by unfold tau; rw [if_neg (by omega), if_pos (by omega)]
  have t3 : tau (k : Int) (-1) = -1 := tau_id (by omega) (by omega)
  have tb : ∀ v, tmC k (begC v k) = begC v ((k + 1 : Nat) : Int) := fun v => by simp only [tmC, begC, t1, t3]
  have tb2 : ∀ v, tmC k (begC v ((k + 1 : Nat) : Int)) = begC v k := fun v => by simp only [tmC, begC, t2, t3]
  have te : ∀ m, m < out.length → ∀ r, tmC k (endC (out.getD m Call.z) r k) = endC (out.getD m Call.z) r ((k + 1 : Nat) : Int) := fun m hm r => by
    have h := (W.one m hm).fr
    simp only [tmC, endC, t1, tau_id (show (out.getD m Call.z).from_ ≠ (k : Int) by omega) (by omega)]
  have te2 : ∀ m, m < out.length → ∀ r, tmC k (endC (out.getD m Call.z) r ((k + 1 : Nat) : Int)) = endC (out.getD m Call.z) r k := fun m hm r => by
    have h := (W.one m hm).fr
    simp only [tmC, endC, t2, tau_id (show (out.getD m Call.z).from_ ≠ (k : Int) by omega) (by omega)]
  have xw := X.who
  have yw := Y.who
  have xt := X.thing
  have yt := Y.thing
  have hne' : ¬ x.who.toNat = y.who.toNat := by omega
  have hne2 : ¬ y.who.toNat = x.who.toNat := by omega
  have y8 : y.who.toNat < 8 := by omega
  have x8 : x.who.toNat < 8 := by omega
  have X := X.how
  have Y := Y.how
  rcases X with ⟨xk, xf, xa, xn, rfl, rfl⟩ | ⟨xk, m, xm, xml, xth, xr, rfl, rfl⟩
  · rw [setA_get y8, if_neg hne2] at Y
    rcases Y with ⟨yk, yf, ya, yn, rfl, rfl⟩ | ⟨yk, p, ym, yml, yth, yr, rfl, rfl⟩
    · refine ⟨sw out.length, _, _, _, _, ⟨yw, yt, .inl ⟨yk, yf, ya, yn, rfl, rfl⟩⟩, ⟨xw, xt, .inl ⟨xk, xf, xa, by rw [setA_get x8, if_neg hne']; exact xn, rfl, rfl⟩⟩, ⟨by simp, sw_inv _, fun m hm => ?_, fun m hm => ?_, fun m hm => ?_, fun w hw => ?_⟩⟩
      · simp only [List.length_append, List.length_singleton] at hm ⊢
        unfold sw; split
        · omega
        · split <;> omega
      · simp only [List.length_append, List.length_singleton] at hm
        unfold sw; rw [if_neg (by omega), if_neg (by omega)]
      · simp only [List.length_append, List.length_singleton] at hm
        simp only [getD_app, List.length_append, List.length_singleton]
        rcases Nat.lt_or_ge m out.length with h | h
        · have e : sw out.length m = m := by unfold sw; rw [if_neg (by omega), if_neg (by omega)]
          rw [e]
          simp only [if_pos (show m < out.length + 1 by omega), if_pos h]
          exact (hid m h).symm
        · rcases Nat.lt_or_ge m (out.length + 1) with h2 | h2
          · obtain rfl : m = out.length := by omega
            have e : sw out.length out.length = out.length + 1 := by unfold sw; rw [if_pos rfl]
            rw [e]
            simp [tb]
          · obtain rfl : m = out.length + 1 := by omega
            have e : sw out.length (out.length + 1) = out.length := by unfold sw; rw [if_neg (by omega), if_pos rfl]
            rw [e]
            simp only [Nat.lt_irrefl, if_false, if_true, if_pos (Nat.lt_succ_self _)]
            exact (tb2 y).symm
      · simp only [setA_get hw, List.length_append, List.length_singleton]
        have s1 : sw out.length out.length = out.length + 1 := by unfold sw; rw [if_pos rfl]
        have s2 : sw out.length (out.length + 1) = out.length := by unfold sw; rw [if_neg (by omega), if_pos rfl]
        by_cases e : w = y.who.toNat
        · subst e
          rw [if_pos rfl, if_neg hne2, if_pos rfl]
          exact .inr ⟨out.length + 1, by omega, by simp, by rw [s2]⟩
        · rw [if_neg e]
          by_cases e2 : w = x.who.toNat
          · subst e2
            rw [if_pos rfl, if_pos rfl]
            exact .inr ⟨out.length, by omega, rfl, by rw [s1]⟩
          · rw [if_neg e2, if_neg e2, if_neg e]
            rcases hop w hw with h | ⟨m, h1, h2, h3⟩
            · exact .inl ⟨h, h⟩
            · exact .inr ⟨m, by omega, h2, by rw [show sw out.length m = m by unfold sw; rw [if_neg (by omega), if_neg (by omega)]]; exact h2⟩
    · have pl : p < out.length := by
        rcases hop _ y8 with h | ⟨m, h1, h2, h3⟩
        · omega
        · omega
      have gp : (out ++ [begC x (k : Int)]).getD p Call.z = out.getD p Call.z := by rw [getD_app, if_pos pl]
      rw [gp] at yth yr
      refine ⟨id, _, _, _, _, ⟨yw, yt, .inr ⟨yk, p, ym, pl, yth, yr, rfl, rfl⟩⟩, ⟨xw, xt, .inl ⟨xk, xf, xa, by rw [setA_get x8, if_neg hne']; exact xn, rfl, rfl⟩⟩, ⟨by simp, fun _ => rfl, fun m hm => hm, fun m hm => rfl, fun m hm => ?_, fun w hw => ?_⟩⟩
      · simp only [List.length_set, List.length_append, List.length_singleton] at hm
        simp only [id, gp]
        rw [getD_app, getD_set2 (l := out ++ _) (by rw [List.length_append]; omega), getD_app (l := out), List.length_set]
        rcases Nat.lt_or_ge m out.length with h | h
        · rw [if_pos h, if_pos h, getD_set2 pl]
          by_cases e : m = p
          · subst e; rw [if_pos rfl, if_pos rfl, te2 _ pl]
          · rw [if_neg e, if_neg e, hid m h]
        · obtain rfl : m = out.length := by omega
          rw [if_neg (by omega), if_pos rfl, if_neg (by omega), if_neg (by omega), if_pos rfl, tb]
      · simp only [setA_get hw, List.length_set, List.length_append, List.length_singleton, id]
        by_cases e : w = y.who.toNat
        · subst e
          rw [if_pos rfl, if_neg hne2, if_pos rfl]; exact .inl ⟨rfl, rfl⟩
        · rw [if_neg e, if_neg e]
          by_cases e2 : w = x.who.toNat
          · rw [if_pos e2]; exact .inr ⟨out.length, by omega, rfl, rfl⟩
          · rw [if_neg e2]
            rcases hop w hw with h | ⟨m, h1, h2, h3⟩
            · exact .inl ⟨h, h⟩
            · exact .inr ⟨m, by omega, h2, h2⟩
  · rw [setA_get y8, if_neg hne2] at Y
    rcases Y with ⟨yk, yf, ya, yn, rfl, rfl⟩ | ⟨yk, p, ym, yml, yth, yr, rfl, rfl⟩
    · refine ⟨id, _, _, _, _, ⟨yw, yt, .inl ⟨yk, yf, ya, yn, rfl, rfl⟩⟩, ⟨xw, xt, .inr ⟨xk, m, by rw [setA_get x8, if_neg hne']; exact xm, by simp; omega, by rw [getD_app, if_pos xml]; exact xth, by rw [getD_app, if_pos xml]; exact xr, rfl, rfl⟩⟩, ⟨by simp, fun _ => rfl, fun m hm => hm, fun m hm => rfl, fun j hj => ?_, fun w hw => ?_⟩⟩
      · simp only [List.length_set, List.length_append, List.length_singleton] at hj
        simp only [id]
        rw [getD_app (l := out.set _ _), getD_set2 (by rw [List.length_append]; omega), getD_app, List.length_set, getD_app, if_pos xml]
        rcases Nat.lt_or_ge j out.length with h | h
        · rw [if_pos h, if_pos h, getD_set2 xml]
          by_cases e : j = m
          · subst e; rw [if_pos rfl, if_pos rfl, te _ xml]
          · rw [if_neg e, if_neg e, hid j h]
        · obtain rfl : j = out.length := by omega
          rw [if_neg (by omega), if_neg (by omega), if_pos rfl, if_neg (by omega), if_pos rfl, tb2]
      · simp only [setA_get hw, List.length_set, List.length_append, List.length_singleton, id]
        by_cases e : w = y.who.toNat
        · subst e
          rw [if_pos rfl, if_neg hne2, if_pos rfl]; exact .inr ⟨out.length, by omega, rfl, rfl⟩
        · rw [if_neg e, if_neg e]
          by_cases e2 : w = x.who.toNat
          · rw [if_pos e2]; exact .inl ⟨rfl, rfl⟩
          · rw [if_neg e2]
            rcases hop w hw with h | ⟨m, h1, h2, h3⟩
            · exact .inl ⟨h, h⟩
            · exact .inr ⟨m, by omega, h2, h2⟩
    · have pl : p < out.length := by simpa using yml
      have pm : ¬ p = m := by
        intro e
        subst e
        have h1 := ((W.pen _ y8).2.2 p ym).1
        have h2 := ((W.pen _ x8).2.2 p xm).1
        omega
      have gp : (out.set m (endC (out.getD m Call.z) x.value (k : Int))).getD p Call.z = out.getD p Call.z := by rw [getD_set2 xml, if_neg pm]
      have gm : (out.set p (endC (out.getD p Call.z) y.value (k : Int))).getD m Call.z = out.getD m Call.z := by rw [getD_set2 pl, if_neg fun e => pm e.symm]
      rw [gp] at yth yr
      refine ⟨id, _, _, _, _, ⟨yw, yt, .inr ⟨yk, p, ym, pl, yth, yr, rfl, rfl⟩⟩, ⟨xw, xt, .inr ⟨xk, m, by rw [setA_get x8, if_neg hne']; exact xm, by simpa using xml, by rw [gm]; exact xth, by rw [gm]; exact xr, rfl, rfl⟩⟩, ⟨by simp, fun _ => rfl, fun m hm => hm, fun m hm => rfl, fun j hj => ?_, fun w hw => ?_⟩⟩
      · simp only [List.length_set] at hj
        simp only [id, gp, gm]
        rw [getD_set2 (by simpa using xml), getD_set2 pl, getD_set2 (by simpa using pl), getD_set2 xml]
        by_cases e : j = m
        · subst e
          rw [if_pos rfl, if_neg (fun e => pm e.symm), if_pos rfl, te _ xml]
        · rw [if_neg e, if_neg e]
          by_cases e2 : j = p
          · subst e2; rw [if_pos rfl, if_pos rfl, te2 _ pl]
          · rw [if_neg e2, if_neg e2, hid j hj]
      · simp only [setA_get hw, List.length_set, id]
        by_cases e : w = y.who.toNat
        · subst e
          rw [if_pos rfl, if_neg hne2, if_pos rfl]; exact .inl ⟨rfl, rfl⟩
        · rw [if_neg e, if_neg e]
          by_cases e2 : w = x.who.toNat
          · rw [if_pos e2]; exact .inl ⟨rfl, rfl⟩
          · rw [if_neg e2]
            rcases hop w hw with h | ⟨m, h1, h2, h3⟩
            · exact .inl ⟨h, h⟩
            · exact .inr ⟨m, h1, h2, h2⟩
/-- The events k and k + 1 change places. -/
def swap (l : List Event) (k : Nat) : List Event := (l.set k (l.getD (k + 1) Event.z)).set (k + 1) (l.getD k Event.z)
theorem swap_get {l : List Event} {k j : Nat} (hk : k + 1 < l.length) : (swap l k).getD j Event.z = if j = k + 1 then l.getD k Event.z else if j = k then l.getD (k + 1) Event.z else l.getD j Event.z := by
  unfold swap
  rw [getD_set2 (by simpa using hk), getD_set2 (by omega)]
theorem Rn.same {N : Nat} {types : List Int} {l l' : List Event} {n : Nat} {out : List Call} {op : List Int} (hlen : l'.length = l.length) (R : Rn N types l n out op) (h : ∀ j, j < n → l'.getD j Event.z = l.getD j Event.z) : Rn N types l' n out op := by
  induction R with
  | zero => exact .zero
  | succ R hk S ih => exact .succ (ih fun j hj => h j (by omega)) (by omega) (by rw [h _ (Nat.lt_succ_self _)]; exact S)
theorem Rn.swap {N : Nat} {types : List Int} {l : List Event} {k : Nat} (hk : k + 1 < l.length) (hne : (l.getD k Event.z).who ≠ (l.getD (k + 1) Event.z).who) :
    ∀ {n : Nat} {out : List Call} {op : List Int}, k + 2 ≤ n → Rn N types l n out op → ∃ q out' op', Rn N types (swap l k) n out' op' ∧ Sim k q out op out' op' := by
  intro n
  induction n with
  | zero => intro _ _ h; omega
  | succ n ih =>
    intro out op hn R
    cases R with
    | @succ _ out0 _ op0 _ R0 h0 S0 =>
      have hlen : (Hs.swap l k).length = l.length := by simp [Hs.swap]
      rcases Nat.lt_or_ge (k + 1) n with h | h
      · obtain ⟨q, o', p', R', S'⟩ := ih (by omega) R0
        obtain ⟨o2, p2, X, S2⟩ := S'.step S0 (by omega)
        exact ⟨q, o2, p2, .succ R' (by omega) (by rw [swap_get hk, if_neg (by omega), if_neg (by omega)]; exact X), S2⟩
      · obtain rfl : n = k + 1 := by omega
        cases R0 with
        | @succ _ out1 _ op1 _ R1 h1 S1 =>
          obtain ⟨q, o1, p1, o2, p2, X, Y, S2⟩ := Sim.two R1 S1 S0 hne
          refine ⟨q, o2, p2, .succ (out := o1) (op := p1) (.succ (R1.same hlen fun j hj => ?_) (by omega) ?_) (by omega) ?_, S2⟩
          · rw [swap_get hk, if_neg (by omega), if_neg (by omega)]
          · rw [swap_get hk, if_neg (by omega), if_pos rfl]; exact X
          · rw [swap_get hk, if_pos rfl]; exact Y
end Hs

end Go.Proofs.Ytkccgokdahlmeaa
