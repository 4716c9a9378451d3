/- Rows, plainly: what is read. -/
import Derived.Test.YtkmmagekepoapaaO1
import Derived.Test.YtkmmagekepoapaaG4
set_option linter.unusedVariables false
set_option linter.unusedSimpArgs false
set_option linter.unusedSectionVars false
set_option maxRecDepth 100000
namespace Go.Proofs.Ytkmmagekepoapaa
open Go.RowKit
namespace Rw
open Hs
/-- What holds of a queue's calls. -/
structure Q (c : List Call) : Prop where
  kd : ∀ i, i < c.length → (c.getD i Call.z).kind = 3 ∨ (c.getD i Call.z).kind = 4
  ea : ∀ i, i < c.length → (c.getD i Call.z).kind = 3 → 1 ≤ (c.getD i Call.z).arg ∧ (c.getD i Call.z).arg ≤ 1000 ∧ (c.getD i Call.z).res = 0
  da : ∀ i, i < c.length → (c.getD i Call.z).kind = 4 → (c.getD i Call.z).arg = 0 ∧ ((c.getD i Call.z).to_ = -1 → (c.getD i Call.z).res = 0) ∧ ((c.getD i Call.z).to_ ≠ -1 → (c.getD i Call.z).res = -1 ∨ (1 ≤ (c.getD i Call.z).res ∧ (c.getD i Call.z).res ≤ 1000))
  tm : ∀ i, i < c.length → 0 ≤ (c.getD i Call.z).from_ ∧ (c.getD i Call.z).from_ < 200 ∧ ((c.getD i Call.z).to_ = -1 ∨ ((c.getD i Call.z).from_ < (c.getD i Call.z).to_ ∧ (c.getD i Call.z).to_ < 200))
  ne : ∀ i j, i < c.length → j < c.length → (c.getD i Call.z).to_ ≠ -1 → (c.getD i Call.z).to_ ≠ (c.getD j Call.z).from_
  nf : ∀ i j, i < c.length → j < c.length → (c.getD i Call.z).from_ = (c.getD j Call.z).from_ → i = j
  nt : ∀ i j, i < c.length → j < c.length → (c.getD i Call.z).to_ ≠ -1 → (c.getD i Call.z).to_ = (c.getD j Call.z).to_ → i = j
  inc : ∀ i j, i < j → j < c.length → (c.getD i Call.z).from_ < (c.getD j Call.z).from_
theorem tyF2 {k : Int} (h : tyF k = 2) : k = 3 ∨ k = 4 := by
  unfold tyF at h
  by_cases h1 : k = 1 ∨ k = 2
  · rw [if_pos h1] at h; omega
  · rw [if_neg h1] at h
    by_cases h2 : k = 3 ∨ k = 4
    · exact h2
    · rw [if_neg h2] at h
      by_cases h3 : k = 5 ∨ k = 6
      · rw [if_pos h3] at h; omega
      · rw [if_neg h3] at h
        by_cases h4 : k = 7 ∨ k = 8 ∨ k = 9
        · rw [if_pos h4] at h; omega
        · rw [if_neg h4] at h
          by_cases h5 : k = 10
          · rw [if_pos h5] at h; omega
          · rw [if_neg h5] at h; omega
theorem rn_arg {N : Nat} {types : List Int} {l : List Event} {k : Nat} {out : List Call} {op : List Int} (R : Rn N types l k out op) : ∀ m, m < out.length → history_Argument N (out.getD m Call.z).kind (out.getD m Call.z).arg = some true ∧ ((out.getD m Call.z).to_ ≠ -1 → history_result N (out.getD m Call.z).kind (out.getD m Call.z).res = some true) := by
  induction R with
  | zero => exact fun m h => absurd h (Nat.not_lt_zero _)
  | @succ k out out' op op' R hk S ih =>
    intro m hm
    rcases S.how with ⟨_, _, ha, _, rfl, _⟩ | ⟨_, m0, _, hml, _, hr, rfl, _⟩
    · rw [List.length_append, List.length_singleton] at hm
      rw [getD_app]
      by_cases h : m < out.length
      · rw [if_pos h]; exact ih m h
      · rw [if_neg h, if_pos (by omega)]
        exact ⟨ha, fun h => (h rfl).elim⟩
    · rw [List.length_set] at hm
      rw [getD_set2 hml]
      by_cases e : m = m0
      · subst e
        rw [if_pos rfl]
        exact ⟨(ih m hm).1, fun _ => hr⟩
      · rw [if_neg e]; exact ih m hm
theorem q_of {N : Nat} {l : List Event} {c : List Call} {op : List Int} {n : Nat} (hn : n ≤ 200) (R : Rn N [2] l n c op) : Q c := by
  have W := R.wf
  have hk : ∀ i, i < c.length → (c.getD i Call.z).kind = 3 ∨ (c.getD i Call.z).kind = 4 := fun i hi => by
    have O := W.one i hi
    have hth := O.thing
    simp only [List.length_singleton] at hth
    have e : (c.getD i Call.z).thing.toNat = 0 := by omega
    have h2 := O.fit.2
    rw [e] at h2
    exact tyF2 h2
  refine ⟨hk, fun i hi h1 => ?_, fun i hi h1 => ?_, fun i hi => ?_, fun i j hi hj h1 e => ?_, fun i j hi hj e => ?_, fun i j hi hj h1 e => ?_, fun i j hij hj => (W.two i j hij hj).fr⟩
  · have h2 := rn_arg R i hi
    rw [h1] at h2
    have e : history_Argument N 3 (c.getD i Call.z).arg = some ((decide (1 ≤ (c.getD i Call.z).arg)) && (decide ((c.getD i Call.z).arg ≤ 1000))) := rfl
    have e2 : history_result N 3 (c.getD i Call.z).res = some (decide ((c.getD i Call.z).res = 0)) := rfl
    rw [e, e2] at h2
    have h3 : 1 ≤ (c.getD i Call.z).arg ∧ (c.getD i Call.z).arg ≤ 1000 := by simpa using h2.1
    refine ⟨h3.1, h3.2, ?_⟩
    by_cases ht : (c.getD i Call.z).to_ = -1
    · have hf := (W.one i hi).fr
      rcases (W.one i hi).to with h | h
      · exact h.2.2
      · omega
    · simpa using h2.2 ht
  · have h2 := rn_arg R i hi
    rw [h1] at h2
    have e : history_Argument N 4 (c.getD i Call.z).arg = some (decide ((c.getD i Call.z).arg = 0)) := rfl
    have e2 : history_result N 4 (c.getD i Call.z).res = some ((decide ((c.getD i Call.z).res = (-1))) || ((decide (1 ≤ (c.getD i Call.z).res)) && (decide ((c.getD i Call.z).res ≤ 1000)))) := rfl
    rw [e, e2] at h2
    refine ⟨by simpa using h2.1, fun ht => ?_, fun ht => by simpa using h2.2 ht⟩
    have hf := (W.one i hi).fr
    rcases (W.one i hi).to with h | h
    · exact h.2.2
    · omega
  · have h1 := (W.one i hi).fr
    rcases (W.one i hi).to with h | h <;> omega
  · have h2 := (W.one i hi).evt h1
    have h3 := (W.one j hj).evf
    rw [e, h3.1] at h2
    have : (c.getD j Call.z).kind = 0 := congrArg (·.kind) h2
    exact h3.2 this
  · rcases Nat.lt_trichotomy i j with h | h | h
    · have := (W.two i j h hj).fr; omega
    · exact h
    · have := (W.two j i h hi).fr; omega
  · rcases Nat.lt_trichotomy i j with h | h | h
    · exact ((W.two i j h hj).to h1 e).elim
    · exact h
    · exact ((W.two j i h hi).to (by omega) e.symm).elim
/-- All that take were answered; no value is put twice. -/
structure Cls (c : List Call) : Prop where
  dn : ∀ i, i < c.length → (c.getD i Call.z).kind = 4 → (c.getD i Call.z).to_ ≠ -1
  uq : ∀ i j, i < c.length → j < c.length → (c.getD i Call.z).kind = 3 → (c.getD j Call.z).kind = 3 → (c.getD i Call.z).arg = (c.getD j Call.z).arg → i = j
/-- The first one that takes n, of k calls. -/
def Fd (c : List Call) (k : Nat) (n : Int) (d : Nat) : Prop := d < k ∧ (c.getD d Call.z).kind = 4 ∧ (c.getD d Call.z).res = n ∧ ∀ j, j < d → (c.getD j Call.z).kind = 4 → (c.getD j Call.z).res ≠ n
def Nd (c : List Call) (k : Nat) (n : Int) : Prop := ∀ j, j < k → (c.getD j Call.z).kind = 4 → (c.getD j Call.z).res ≠ n
theorem fd_uq {c : List Call} {k : Nat} {n : Int} {d d' : Nat} (h : Fd c k n d) (h' : Fd c k n d') : d = d' := by
  rcases Nat.lt_trichotomy d d' with x | x | x
  · exact (h'.2.2.2 d x h.2.1 h.2.2.1).elim
  · exact x
  · exact (h.2.2.2 d' x h'.2.1 h'.2.2.1).elim
/-- A value: by whom it is put, and who takes it, of k calls. -/
def Val (c : List Call) (k : Nat) (v : RowsValue) : Prop := ∃ e : Nat, v.enq = e ∧ e < c.length ∧ (c.getD e Call.z).kind = 3 ∧ (c.getD e Call.z).arg = v.n ∧ ((v.deq = -1 ∧ Nd c k v.n) ∨ ∃ d : Nat, v.deq = d ∧ Fd c k v.n d)
structure Vals (c : List Call) (k : Nat) (V : List RowsValue) : Prop where
  mem : ∀ v ∈ V, Val c k v
  all : ∀ e, e < c.length → (c.getD e Call.z).kind = 3 → ∃ v ∈ V, v.enq = (e : Int)
  len : V.length ≤ 200
theorem find_wp {N : Nat} (hN : 300 < N) (c : List Call) {V : List RowsValue} (hV : V.length ≤ 200) (n : Int) : Wp (rows_log_find N c V n) fun r => (r = -1 ∧ ∀ v ∈ V, v.n ≠ n) ∨ ∃ k : Nat, r = k ∧ k < V.length ∧ (V.getD k RowsValue.z).n = n := by
  unfold rows_log_find slices_IndexFunc_rows_value_rows_value
  refine .seq (P := fun (r : Int) => (r = -1 ∧ ∀ v ∈ V, v.n ≠ n) ∨ ∃ k : Nat, r = k ∧ k < V.length ∧ (V.getD k RowsValue.z).n = n) (.elim (P := fun t => match t with | .inl _ => ∀ v ∈ V, v.n ≠ n | .inr r => ∃ k : Nat, r = k ∧ k < V.length ∧ (V.getD k RowsValue.z).n = n) (.iter V.length (fun (k : Nat) (v : Int) => v = (k : Int) ∧ ∀ j, j < k → (V.getD j RowsValue.z).n ≠ n) (by omega) ⟨rfl, fun j h => absurd h (Nat.not_lt_zero _)⟩ ?_ ?_) (fun _ _ h => .one (.inl ⟨rfl, h⟩)) (fun r _ h => .one (.inr h))) fun r _ hr => ?_
  · rintro k v hk ⟨rfl, hr⟩
    simp only [slices_IndexFunc_rows_value_rows_value_L3]
    refine .condT (decide_eq_true (by omega)) (.ixD RowsValue.z (by omega) (by omega) (.bdO rfl ?_))
    simp only [Int.toNat_natCast]
    refine .cond (fun h => .one ⟨k, rfl, hk, of_decide_eq_true h⟩) fun h => .ck64 (by omega) (.one ⟨by simp, fun j hj => ?_⟩)
    rcases Nat.lt_or_ge j k with h1 | h1
    · exact hr j h1
    · obtain rfl : j = k := by omega
      exact of_decide_eq_false h
  · rintro v ⟨rfl, hr⟩
    simp only [slices_IndexFunc_rows_value_rows_value_L3]
    refine .condF (decide_eq_false (by omega)) (.one fun v hv => ?_)
    obtain ⟨j, hj, rfl⟩ := List.mem_iff_getElem.1 hv
    have := hr j hj
    rwa [getD_of hj] at this
  · rcases hr with ⟨rfl, h⟩ | ⟨k, rfl, hk, h⟩
    · exact .condT rfl (.one (.inl ⟨rfl, h⟩))
    · exact .condF (decide_eq_false (by omega)) (.ix hk (.one (.inr ⟨k, rfl, hk, h⟩)))
theorem getD_mem {α : Type} {l : List α} {k : Nat} {d : α} (h : k < l.length) : l.getD k d ∈ l := by rw [getD_of h]; exact List.getElem_mem h
/-- What the code's look for a value tells. -/
theorem look_wp {N : Nat} (hN : 300 < N) {c : List Call} {k : Nat} {V : List RowsValue} (hV : Vals c k V) (n : Int) : Wp (rows_log_find N c V n) fun r => (r = -1 ∧ ∀ e, e < c.length → (c.getD e Call.z).kind = 3 → (c.getD e Call.z).arg ≠ n) ∨ ∃ m : Nat, r = m ∧ m < V.length ∧ (V.getD m RowsValue.z).n = n ∧ Val c k (V.getD m RowsValue.z) := by
  refine (find_wp hN c hV.len n).mono fun r hr => ?_
  rcases hr with ⟨h1, h2⟩ | ⟨m, h1, h2, h3⟩
  · refine .inl ⟨h1, fun e he h3 h4 => ?_⟩
    obtain ⟨v, hv, h5⟩ := hV.all e he h3
    obtain ⟨e', g1, g2, g3, g4, _⟩ := hV.mem v hv
    obtain rfl : e' = e := by omega
    exact h2 v hv (g4 ▸ h4)
  · exact .inr ⟨m, h1, h2, h3, hV.mem _ (getD_mem h2)⟩
/-- The calls are read: what can't be taken by this law; the values. -/
structure Pre (c : List Call) (k : Nat) (V : List RowsValue) : Prop where
  mem : ∀ v ∈ V, ∃ e : Nat, v.enq = e ∧ e < k ∧ (c.getD e Call.z).kind = 3 ∧ (c.getD e Call.z).arg = v.n ∧ v.deq = -1
  all : ∀ e, e < k → (c.getD e Call.z).kind = 3 → ∃ v ∈ V, v.enq = (e : Int)
  len : V.length ≤ k
  nd : (V.map (·.n)).Nodup
  dn : ∀ i, i < k → (c.getD i Call.z).kind = 4 → (c.getD i Call.z).to_ ≠ -1
  uq : ∀ i j, i < k → j < k → (c.getD i Call.z).kind = 3 → (c.getD j Call.z).kind = 3 → (c.getD i Call.z).arg = (c.getD j Call.z).arg → i = j
theorem read1_wp {N : Nat} (hN : 300 < N) {c : List Call} (hc : c.length ≤ 200) (a b : Int) : Wp (iter (rows_read_2_L5 N (c, a, b)) N (([] : List RowsValue), 0)) fun t => match t with
    | .inl V => Pre c c.length V
    | .inr r => ¬ Cls c ∧ r = (false, [], [], 6) := by
  refine .iter c.length (fun k st => Pre c k st.1 ∧ st.2 = (k : Int)) (by omega) ⟨⟨fun v h => (nomatch h), fun e h => absurd h (Nat.not_lt_zero _), Nat.le_refl _, List.nodup_nil, fun i h => absurd h (Nat.not_lt_zero _), fun i _ h => absurd h (Nat.not_lt_zero _)⟩, rfl⟩ ?_ ?_
  · rintro k ⟨V, v⟩ hk ⟨P, hv⟩
    dsimp only at P hv
    subst hv
    have hlen := P.len
    simp only [rows_read_2_L5]
    refine .condT (decide_eq_true (by show (k : Int) < c.length; omega)) (.ixD Call.z (by omega) (by show (k : Int) < c.length; omega) ?_)
    simp only [Int.toNat_natCast]
    refine .cond (fun h => .one ⟨fun C => ?_, rfl⟩) fun h => ?_
    · have h : (c.getD k Call.z).kind = 4 ∧ (c.getD k Call.z).to_ = -1 := by simpa using h
      exact C.dn k hk h.1 h.2
    · have h4 : (c.getD k Call.z).kind = 4 → (c.getD k Call.z).to_ ≠ -1 := by simpa using h
      have dn' : ∀ i, i < k + 1 → (c.getD i Call.z).kind = 4 → (c.getD i Call.z).to_ ≠ -1 := fun i hi => by
        rcases Nat.lt_or_ge i k with h1 | h1
        · exact P.dn i h1
        · obtain rfl : i = k := by omega
          exact h4
      by_cases h3 : (c.getD k Call.z).kind = 3
      · refine .seq (P := fun b => (b = true ∧ ¬ Cls c) ∨ (b = false ∧ ∀ v ∈ V, v.n ≠ (c.getD k Call.z).arg)) (.condT (by rw [decide_eq_true h3]; rfl) (.seq (find_wp hN c (by omega) (c.getD k Call.z).arg) fun r _ hr => .one ?_)) fun b _ hb => ?_
        · rw [decide_eq_true h3, Bool.true_and]
          rcases hr with ⟨rfl, h1⟩ | ⟨m, rfl, h1, h2⟩
          · exact .inr ⟨rfl, h1⟩
          · refine .inl ⟨by rw [decide_eq_false (by omega)]; rfl, fun C => ?_⟩
            obtain ⟨e, g1, g2, g3, g4, _⟩ := P.mem _ (getD_mem (d := RowsValue.z) h1)
            have := C.uq e k (by omega) hk g3 h3 (g4.trans h2)
            omega
        · rcases hb with ⟨rfl, h1⟩ | ⟨rfl, h1⟩
          · exact .condT rfl (.one ⟨h1, rfl⟩)
          · refine .condF rfl (.condT (decide_eq_true h3) (.ck (limB_of ⟨?_, ?_⟩) (.ck64 (by omega) (.one ⟨⟨fun v hv => ?_, fun e he hke => ?_, by simp; omega, ?_, dn', fun i j hi hj k1 k2 e => ?_⟩, by simp⟩))))
            · simp only [List.length_singleton]; exact Nat.le_trans (m := 2000) (by omega) (by decide)
            · simp only [List.length_singleton]; omega
            · rcases List.mem_append.1 hv with hv | hv
              · obtain ⟨e, g1, g2, g3⟩ := P.mem v hv
                exact ⟨e, g1, by omega, g3⟩
              · rw [List.mem_singleton.1 hv]
                exact ⟨k, rfl, by omega, h3, rfl, rfl⟩
            · rcases Nat.lt_or_ge e k with h5 | h5
              · obtain ⟨v, hv, g⟩ := P.all e h5 hke
                exact ⟨v, List.mem_append.2 (.inl hv), g⟩
              · obtain rfl : e = k := by omega
                exact ⟨_, List.mem_append.2 (.inr (List.mem_singleton.2 rfl)), rfl⟩
            · rw [List.map_append, List.nodup_append]
              refine ⟨P.nd, by simp, fun x hx y hy e => ?_⟩
              obtain ⟨v, hv, rfl⟩ := List.mem_map.1 hx
              simp only [List.map_cons, List.map_nil, List.mem_singleton] at hy
              exact h1 v hv (e.trans hy)
            · have key : ∀ i, i < k → (c.getD i Call.z).kind = 3 → (c.getD i Call.z).arg = (c.getD k Call.z).arg → False := fun i hi k3 e => by
                obtain ⟨v, hv, g⟩ := P.all i hi k3
                obtain ⟨e', g1, g2, g3, g4, _⟩ := P.mem v hv
                obtain rfl : e' = i := by omega
                exact h1 v hv (g4 ▸ e)
              rcases Nat.lt_or_ge i k with h5 | h5
              · rcases Nat.lt_or_ge j k with h6 | h6
                · exact P.uq i j h5 h6 k1 k2 e
                · obtain rfl : j = k := by omega
                  exact (key i h5 k1 e).elim
              · obtain rfl : i = k := by omega
                rcases Nat.lt_or_ge j i with h6 | h6
                · exact (key j h6 k2 e.symm).elim
                · omega
      · refine .bdO (a := false) ((cond_no (by rw [decide_eq_false h3]; rfl)).trans (by rw [decide_eq_false h3]; rfl)) (.condF rfl (.condF (decide_eq_false h3) (.ck64 (by omega) (.one ⟨⟨fun v hv => ?_, fun e he hke => ?_, by simp only; omega, P.nd, dn', fun i j hi hj k1 k2 e => ?_⟩, by simp⟩))))
        · obtain ⟨e, g1, g2, g3⟩ := P.mem v hv
          exact ⟨e, g1, by omega, g3⟩
        · rcases Nat.lt_or_ge e k with h5 | h5
          · exact P.all e h5 hke
          · obtain rfl : e = k := by omega
            exact (h3 hke).elim
        · rcases Nat.lt_or_ge i k with h5 | h5
          · rcases Nat.lt_or_ge j k with h6 | h6
            · exact P.uq i j h5 h6 k1 k2 e
            · obtain rfl : j = k := by omega
              exact (h3 k2).elim
          · obtain rfl : i = k := by omega
            exact (h3 k1).elim
  · rintro ⟨V, v⟩ ⟨P, hv⟩
    dsimp only at P hv
    subst hv
    simp only [rows_read_2_L5]
    exact .condF (decide_eq_false (by show ¬ (c.length : Int) < c.length; omega)) (.one P)
theorem sort_wp {N : Nat} {V : List RowsValue} (h : ∀ v ∈ V, 1 ≤ v.n ∧ v.n ≤ 1000) (hl : V.length ≤ 200) : ∃ W, sort74 N V = some W ∧ W.Perm V := by
  have hs : V.all sort74S = true := List.all_eq_true.2 fun v hv => decide_eq_true (by have := h v hv; omega)
  refine ⟨sortL sort74S sort74C V, ?_, (sortL_facts sort74_swo hs).1⟩
  show sortO sort74S sort74C V = _
  exact if_pos ⟨hs, by omega⟩
theorem val_up {c : List Call} {k : Nat} {v : RowsValue} (h : Val c k v) (hk : (c.getD k Call.z).kind = 4 → (c.getD k Call.z).res = v.n → v.deq ≠ -1) : Val c (k + 1) v := by
  obtain ⟨e, g1, g2, g3, g4, g5⟩ := h
  refine ⟨e, g1, g2, g3, g4, ?_⟩
  rcases g5 with ⟨g5, g6⟩ | ⟨d, g5, g6, g7⟩
  · refine .inl ⟨g5, fun j hj h1 h2 => ?_⟩
    rcases Nat.lt_or_ge j k with h3 | h3
    · exact g6 j h3 h1 h2
    · obtain rfl : j = k := by omega
      exact hk h1 h2 g5
  · exact .inr ⟨d, g5, by omega, g7⟩
theorem val_set {c : List Call} {k : Nat} {v : RowsValue} (h : Val c k v) (hd : v.deq = -1) (h4 : (c.getD k Call.z).kind = 4) (hr : (c.getD k Call.z).res = v.n) : Val c (k + 1) ⟨v.n, v.enq, (k : Int)⟩ := by
  obtain ⟨e, g1, g2, g3, g4, g5⟩ := h
  refine ⟨e, g1, g2, g3, g4, .inr ⟨k, rfl, ?_⟩⟩
  rcases g5 with ⟨_, g6⟩ | ⟨d, g5, _⟩
  · exact ⟨by omega, h4, hr, g6⟩
  · omega
theorem getD_set3 {α : Type} {l : List α} {i j : Nat} {v d : α} (h : i < l.length) : (l.set i v).getD j d = if j = i then v else l.getD j d := getD_set2 h
theorem read2_wp {N : Nat} (hN : 300 < N) {c : List Call} (hc : c.length ≤ 200) (a b : Int) {V : List RowsValue} (hV : Vals c 0 V) (hn : (V.map (·.n)).Nodup) : Wp (iter (rows_read_2_L7 N (c, a, b)) N (V, 0)) fun W => Vals c c.length W := by
  refine .iter c.length (fun k st => Vals c k st.1 ∧ (st.1.map (·.n)).Nodup ∧ st.2 = (k : Int)) (by omega) ⟨hV, hn, rfl⟩ ?_ ?_
  · rintro k ⟨V, v⟩ hk ⟨hV, hn, hv⟩
    dsimp only at hV hn hv
    subst hv
    have hlen := hV.len
    simp only [rows_read_2_L7]
    refine .condT (decide_eq_true (by show (k : Int) < c.length; omega)) (.ixD Call.z (by omega) (by show (k : Int) < c.length; omega) ?_)
    simp only [Int.toNat_natCast]
    have huq : ∀ i j, i < V.length → j < V.length → (V.getD i RowsValue.z).n = (V.getD j RowsValue.z).n → i = j := fun i j hi hj e => by
      refine (List.getElem?_inj (l := V.map (·.n)) (by simpa using hi) hn).1 ?_
      rw [List.getElem?_map, List.getElem?_map, List.getElem?_eq_getElem hi, List.getElem?_eq_getElem hj]
      rw [getD_of hi, getD_of hj] at e
      simp [e]
    have keep : (∀ v ∈ V, (c.getD k Call.z).kind = 4 → (c.getD k Call.z).res = v.n → v.deq ≠ -1) → Vals c (k + 1) V := fun h => ⟨fun v hv => val_up (hV.mem v hv) (h v hv), hV.all, hV.len⟩
    refine .seq (find_wp hN c hV.len (c.getD k Call.z).res) fun r _ hr => ?_
    rcases hr with ⟨rfl, h1⟩ | ⟨m, rfl, h1, h2⟩
    · have e1 : (!(decide ((-1 : Int) < 0))) = false := rfl
      rw [e1, Bool.and_false]
      refine .gd RowsValue.z (fun h => by cases h) fun x _ => .condF rfl (.ck64 (by omega) (.one ⟨keep fun v hv _ h => (h1 v hv h.symm).elim, hn, by simp⟩))
    · have e1 : (!(decide ((m : Int) < 0))) = true := by rw [decide_eq_false (by omega)]; rfl
      rw [e1, Bool.and_true]
      by_cases h4 : (c.getD k Call.z).kind = 4
      · refine .gix RowsValue.z (fun _ => ⟨by omega, by omega⟩) fun x hx => ?_
        have hx := hx (by rw [decide_eq_true h4]; rfl)
        rw [Int.toNat_natCast] at hx
        subst hx
        rw [decide_eq_true h4, Bool.true_and]
        have hm := hV.mem _ (getD_mem (d := RowsValue.z) h1)
        refine .cond (fun h => ?_) fun h => ?_
        · have h : (V.getD m RowsValue.z).deq < 0 := of_decide_eq_true h
          have hd : (V.getD m RowsValue.z).deq = -1 := by
            obtain ⟨e, _, _, _, _, g5⟩ := hm
            rcases g5 with ⟨g5, _⟩ | ⟨d, g5, _⟩
            · exact g5
            · omega
          refine .ixD RowsValue.z (by omega) (by omega) (.ck64 (by omega) (.one ⟨⟨fun v hv => ?_, fun e he hke => ?_, by rw [List.length_set]; exact hlen⟩, ?_, by simp⟩))
          · simp only [Int.toNat_natCast] at hv
            obtain ⟨i, hi, rfl⟩ := List.mem_iff_getElem.1 hv
            rw [List.length_set] at hi
            have := getD_set3 (l := V) (i := m) (j := i) (v := (⟨(V.getD m RowsValue.z).n, (V.getD m RowsValue.z).enq, (k : Int)⟩ : RowsValue)) (d := RowsValue.z) h1
            rw [getD_of (by rw [List.length_set]; exact hi)] at this
            rw [this]
            by_cases e : i = m
            · rw [if_pos e]; exact val_set hm hd h4 h2.symm
            · rw [if_neg e]
              exact val_up (hV.mem _ (getD_mem hi)) fun _ h3 => (e (huq i m hi h1 (h3.symm.trans h2.symm))).elim
          · obtain ⟨v, hv, g⟩ := hV.all e he hke
            obtain ⟨i, hi, rfl⟩ := List.mem_iff_getElem.1 hv
            simp only [Int.toNat_natCast]
            refine ⟨(V.set m ⟨(V.getD m RowsValue.z).n, (V.getD m RowsValue.z).enq, (k : Int)⟩).getD i RowsValue.z, getD_mem (by rw [List.length_set]; exact hi), ?_⟩
            rw [getD_set3 h1]
            by_cases e2 : i = m
            · subst e2; rw [if_pos rfl]; simp only; rw [getD_of hi]; exact g
            · rw [if_neg e2, getD_of hi]; exact g
          · simp only [Int.toNat_natCast]
            rw [List.map_set]
            have e2 : (V.map (·.n)).set m (V.getD m RowsValue.z).n = V.map (·.n) := by
              apply List.ext_getElem (by simp)
              intro i h5 h6
              rw [List.getElem_set]
              split
              · rename_i e3; subst e3; rw [List.getElem_map, getD_of h1]
              · rfl
            rw [e2]; exact hn
        · have h : ¬ (V.getD m RowsValue.z).deq < 0 := of_decide_eq_false h
          refine .ck64 (by omega) (.one ⟨keep fun v hv _ h3 h5 => ?_, hn, by simp⟩)
          obtain ⟨i, hi, rfl⟩ := List.mem_iff_getElem.1 hv
          have := huq i m hi h1 (by rw [getD_of hi, h2, h3])
          subst this
          rw [getD_of hi, h5] at h
          exact h (by decide)
      · rw [decide_eq_false h4]
        refine .gd RowsValue.z (fun h => by cases h) fun x _ => .condF rfl (.ck64 (by omega) (.one ⟨keep fun v hv h => (h4 h).elim, hn, by simp⟩))
  · rintro ⟨V, v⟩ ⟨hV, hn, hv⟩
    dsimp only at hV hn hv
    subst hv
    simp only [rows_read_2_L7]
    exact .condF (decide_eq_false (by show ¬ (c.length : Int) < c.length; omega)) (.one hV)
theorem read_wp {N : Nat} (hN : 300 < N) {l : List Event} {c : List Call} {op : List Int} (ht : history_Types N [2] = some 0) (hl : l.length ≤ 200) (R : Rn N [2] l l.length c op) : Wp (rows_read_2 N l) fun r => (¬ Cls c ∧ r = (false, [], [], 6)) ∨ (Cls c ∧ r.1 = true ∧ r.2.1 = c ∧ r.2.2.2 = 0 ∧ Vals c c.length r.2.2.1) := by
  have hcl := R.wf.len
  have Qc := q_of hl R
  unfold rows_read_2
  refine .bdO (calls_of hN ht hl R) (.condF rfl (.elim (read1_wp hN (by omega) 0 0) (fun V _ P => ?_) (fun r _ h => .one (.inl h))))
  have P : Pre c c.length V := P
  have C : Cls c := ⟨P.dn, P.uq⟩
  have hlen := P.len
  obtain ⟨W, h1, h2⟩ := sort_wp (N := N) (V := V) (fun v hv => by
    obtain ⟨e, _, g2, g3, g4, _⟩ := P.mem v hv
    have := Qc.ea e g2 g3
    omega) (by omega)
  refine .bdO h1 (.seq (read2_wp hN (by omega) 0 0 (V := W) ⟨fun v hv => ?_, fun e he hk => ?_, ?_⟩ ?_) fun X _ hX => .one (.inr ⟨C, rfl, rfl, rfl, hX⟩))
  · obtain ⟨e, g1, g2, g3, g4, g5⟩ := P.mem v (h2.mem_iff.1 hv)
    exact ⟨e, g1, g2, g3, g4, .inl ⟨g5, fun j h => absurd h (Nat.not_lt_zero _)⟩⟩
  · obtain ⟨v, hv, g⟩ := P.all e he hk
    exact ⟨v, h2.mem_iff.2 hv, g⟩
  · rw [h2.length_eq]; omega
  · exact (h2.map (·.n)).nodup_iff.2 P.nd
end Rw

end Go.Proofs.Ytkmmagekepoapaa
