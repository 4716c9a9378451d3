/- Zones, plainly: clusters. -/
import Derived.Test.YtolneilkgjglkaaZ4
set_option linter.unusedVariables false
set_option linter.unusedSimpArgs false
set_option linter.unusedSectionVars false
set_option maxRecDepth 100000
namespace Go.Proofs.Ytolneilkgjglkaa
open Go.RowKit
namespace Zo
open Hs
/-- An answered read. -/
def isRd (x : Call) : Bool := decide (x.kind = 2) && !decide (x.to_ = -1)
def cl0 : ZonesCluster := ⟨0, -1, -1, [], ⟨0, -1, -1, false⟩, false⟩
def clw (x : Call) (i : Int) : ZonesCluster := ⟨x.arg, i, x.from_, [], ⟨x.arg, if x.to_ = -1 then 200 else x.to_, x.from_, false⟩, !decide (x.to_ = -1)⟩
/-- The clusters at first: of the writes. -/
def cls (c : List Call) : Nat → List ZonesCluster
  | 0 => [cl0]
  | k + 1 => if (c.getD k Call.z).kind = 1 then cls c k ++ [clw (c.getD k Call.z) (k : Int)] else cls c k
/-- With one read more. -/
def addR (z : ZonesCluster) (x : Call) (i : Int) : ZonesCluster :=
  if isRd x = true ∧ x.res = z.value then ⟨z.value, z.write, z.from_, z.reads ++ [i], ⟨z.zone.value, min z.zone.first x.to_, max z.zone.last x.from_, z.zone.forward⟩, true⟩ else z
def addA (c : List Call) (z : ZonesCluster) : Nat → ZonesCluster
  | 0 => z
  | k + 1 => addR (addA c z k) (c.getD k Call.z) (k : Int)
def fwd (z : ZonesCluster) : ZonesCluster := ⟨z.value, z.write, z.from_, z.reads, ⟨z.zone.value, z.zone.first, z.zone.last, decide (z.zone.first < z.zone.last)⟩, z.counts⟩
def fin (c : List Call) (z : ZonesCluster) : ZonesCluster := fwd (addA c z c.length)
theorem cls_len (c : List Call) : ∀ k, (cls c k).length ≤ k + 1
  | 0 => Nat.le_refl _
  | k + 1 => by
    have := cls_len c k
    unfold cls
    split
    · rw [List.length_append, List.length_singleton]; omega
    · omega
theorem cls_mem {c : List Call} {z : ZonesCluster} : ∀ {k : Nat}, z ∈ cls c k ↔ z = cl0 ∨ ∃ i, i < k ∧ (c.getD i Call.z).kind = 1 ∧ z = clw (c.getD i Call.z) (i : Int)
  | 0 => by
    unfold cls
    rw [List.mem_singleton]
    exact ⟨.inl, fun h => h.elim id fun ⟨i, h, _⟩ => absurd h (Nat.not_lt_zero _)⟩
  | k + 1 => by
    unfold cls
    constructor
    · intro h
      split at h
      · rename_i hk
        rcases List.mem_append.1 h with h | h
        · rcases cls_mem.1 h with h | ⟨i, h1, h2⟩
          · exact .inl h
          · exact .inr ⟨i, by omega, h2⟩
        · exact .inr ⟨k, by omega, hk, List.mem_singleton.1 h⟩
      · rcases cls_mem.1 h with h | ⟨i, h1, h2⟩
        · exact .inl h
        · exact .inr ⟨i, by omega, h2⟩
    · intro h
      have old : z = cl0 ∨ (∃ i, i < k ∧ (c.getD i Call.z).kind = 1 ∧ z = clw (c.getD i Call.z) (i : Int)) ∨ ((c.getD k Call.z).kind = 1 ∧ z = clw (c.getD k Call.z) (k : Int)) := by
        rcases h with h | ⟨i, h1, h2⟩
        · exact .inl h
        · rcases Nat.lt_or_ge i k with h3 | h3
          · exact .inr (.inl ⟨i, h3, h2⟩)
          · obtain rfl : i = k := by omega
            exact .inr (.inr h2)
      rcases old with h | h | ⟨h1, h2⟩
      · split
        · exact List.mem_append.2 (.inl (cls_mem.2 (.inl h)))
        · exact cls_mem.2 (.inl h)
      · split
        · exact List.mem_append.2 (.inl (cls_mem.2 (.inr h)))
        · exact cls_mem.2 (.inr h)
      · rw [if_pos h1]
        exact List.mem_append.2 (.inr (List.mem_singleton.2 h2))
theorem addR_f (z : ZonesCluster) (x : Call) (i : Int) : (addR z x i).value = z.value ∧ (addR z x i).write = z.write ∧ (addR z x i).from_ = z.from_ ∧ (addR z x i).zone.value = z.zone.value ∧ (addR z x i).reads.length ≤ z.reads.length + 1 := by
  unfold addR
  split
  · exact ⟨rfl, rfl, rfl, rfl, by simp⟩
  · exact ⟨rfl, rfl, rfl, rfl, by omega⟩
theorem addA_f (c : List Call) (z : ZonesCluster) : ∀ k, (addA c z k).value = z.value ∧ (addA c z k).write = z.write ∧ (addA c z k).from_ = z.from_ ∧ (addA c z k).zone.value = z.zone.value ∧ (addA c z k).reads.length ≤ z.reads.length + k
  | 0 => ⟨rfl, rfl, rfl, rfl, Nat.le_refl _⟩
  | k + 1 => by
    obtain ⟨h1, h2, h3, h4, h5⟩ := addA_f c z k
    obtain ⟨g1, g2, g3, g4, g5⟩ := addR_f (addA c z k) (c.getD k Call.z) (k : Int)
    exact ⟨g1.trans h1, g2.trans h2, g3.trans h3, g4.trans h4, by show (addR _ _ _).reads.length ≤ _; omega⟩
/-- What a cluster's zone is. -/
structure Zn (c : List Call) (z : ZonesCluster) (k : Nat) (y : ZonesCluster) : Prop where
  cnt : y.counts = true ↔ z.counts = true ∨ ∃ i, i < k ∧ isRd (c.getD i Call.z) = true ∧ (c.getD i Call.z).res = z.value
  fle : y.zone.first ≤ z.zone.first ∧ ∀ i, i < k → isRd (c.getD i Call.z) = true → (c.getD i Call.z).res = z.value → y.zone.first ≤ (c.getD i Call.z).to_
  fat : y.zone.first = z.zone.first ∨ ∃ i, i < k ∧ isRd (c.getD i Call.z) = true ∧ (c.getD i Call.z).res = z.value ∧ y.zone.first = (c.getD i Call.z).to_
  lge : z.zone.last ≤ y.zone.last ∧ ∀ i, i < k → isRd (c.getD i Call.z) = true → (c.getD i Call.z).res = z.value → (c.getD i Call.z).from_ ≤ y.zone.last
  lat : y.zone.last = z.zone.last ∨ ∃ i, i < k ∧ isRd (c.getD i Call.z) = true ∧ (c.getD i Call.z).res = z.value ∧ y.zone.last = (c.getD i Call.z).from_
theorem addA_zn (c : List Call) (z : ZonesCluster) : ∀ k, Zn c z k (addA c z k)
  | 0 => ⟨⟨.inl, fun h => h.elim id fun ⟨i, h, _⟩ => absurd h (Nat.not_lt_zero _)⟩, ⟨Int.le_refl _, fun i h => absurd h (Nat.not_lt_zero _)⟩, .inl rfl, ⟨Int.le_refl _, fun i h => absurd h (Nat.not_lt_zero _)⟩, .inl rfl⟩
  | k + 1 => by
    have h := addA_zn c z k
    have hv := (addA_f c z k).1
    show Zn c z (k + 1) (addR (addA c z k) (c.getD k Call.z) (k : Int))
    generalize addA c z k = y at h hv ⊢
    unfold addR
    rw [hv]
    by_cases hr : isRd (c.getD k Call.z) = true ∧ (c.getD k Call.z).res = z.value
    · rw [if_pos hr]
      obtain ⟨hr1, hr2⟩ := hr
      refine ⟨⟨fun _ => .inr ⟨k, by omega, hr1, hr2⟩, fun _ => rfl⟩, ⟨?_, fun i hi h1 h2 => ?_⟩, ?_, ⟨?_, fun i hi h1 h2 => ?_⟩, ?_⟩
      · have := h.fle.1; simp only; omega
      · simp only
        rcases Nat.lt_or_ge i k with h3 | h3
        · have := h.fle.2 i h3 h1 h2; omega
        · obtain rfl : i = k := by omega
          omega
      · simp only
        rcases Int.le_total y.zone.first (c.getD k Call.z).to_ with h3 | h3
        · rw [Int.min_eq_left h3]
          rcases h.fat with h4 | ⟨i, h4, h5⟩
          · exact .inl h4
          · exact .inr ⟨i, by omega, h5⟩
        · exact .inr ⟨k, by omega, hr1, hr2, Int.min_eq_right h3⟩
      · have := h.lge.1; simp only; omega
      · simp only
        rcases Nat.lt_or_ge i k with h3 | h3
        · have := h.lge.2 i h3 h1 h2; omega
        · obtain rfl : i = k := by omega
          omega
      · simp only
        rcases Int.le_total y.zone.last (c.getD k Call.z).from_ with h3 | h3
        · exact .inr ⟨k, by omega, hr1, hr2, Int.max_eq_right h3⟩
        · rw [Int.max_eq_left h3]
          rcases h.lat with h4 | ⟨i, h4, h5⟩
          · exact .inl h4
          · exact .inr ⟨i, by omega, h5⟩
    · rw [if_neg hr]
      have no : ∀ i, i < k + 1 → isRd (c.getD i Call.z) = true → (c.getD i Call.z).res = z.value → i < k := fun i hi h1 h2 => by
        rcases Nat.lt_or_ge i k with h3 | h3
        · exact h3
        · obtain rfl : i = k := by omega
          exact (hr ⟨h1, h2⟩).elim
      refine ⟨h.cnt.trans ⟨fun g => g.imp id fun ⟨i, a, b⟩ => ⟨i, by omega, b⟩, fun g => g.imp id fun ⟨i, a, b1, b2⟩ => ⟨i, no i a b1 b2, b1, b2⟩⟩, ⟨h.fle.1, fun i hi h1 h2 => h.fle.2 i (no i hi h1 h2) h1 h2⟩, h.fat.imp id fun ⟨i, a, b⟩ => ⟨i, by omega, b⟩, ⟨h.lge.1, fun i hi h1 h2 => h.lge.2 i (no i hi h1 h2) h1 h2⟩, h.lat.imp id fun ⟨i, a, b⟩ => ⟨i, by omega, b⟩⟩
/-- No value is written twice, nor 0. -/
def Dist (c : List Call) : Prop := ∀ i j, i < j → j < c.length → (c.getD i Call.z).kind = 1 → (c.getD j Call.z).kind = 1 → (c.getD i Call.z).arg ≠ (c.getD j Call.z).arg
theorem mget_put {α : Type} (v : α) (k j : Int) : ∀ m : List (Int × α), mget (mput m k v) j = if k = j then some v else mget m j
  | [] => by
    unfold mput mget
    by_cases h : k = j
    · rw [if_pos h, if_pos h]
    · rw [if_neg h, if_neg h]; rfl
  | (a, u) :: r => by
    unfold mput
    by_cases h : a = k
    · subst h
      rw [if_pos rfl]
      unfold mget
      by_cases h2 : a = j
      · rw [if_pos h2, if_pos h2]
      · rw [if_neg h2, if_neg h2]
        rw [if_neg h2]
    · rw [if_neg h]
      unfold mget
      by_cases h2 : a = j
      · rw [if_pos h2, if_pos h2, if_neg (fun e => h (h2.trans e.symm))]
      · rw [if_neg h2, if_neg h2]
        exact mget_put v k j r
theorem calls_wp1 {N : Nat} (hN : 300 < N) (l : List Event) {c : List Call} {e er : Int} (hc : history_Calls N [1] l = some (c, e, er)) (hl : er = 0 → c.length ≤ 200) : Wp (zones_calls N l) fun r => (r.2 ≠ 0 ∧ (r.2 = er ∨ (er = 0 ∧ r.2 = 6 ∧ ¬ Dist c))) ∨ (r.2 = 0 ∧ er = 0 ∧ r.1 = c ∧ Dist c) := by
  unfold zones_calls
  refine .bdO hc (.cond (fun h => .one (.inl ⟨by simpa using h, .inl rfl⟩)) fun h => ?_)
  have h0 : er = 0 := by simpa using h
  have hl := hl h0
  refine .elim (P := fun t => match t with | .inl _ => Dist c | .inr r => ¬ Dist c ∧ r = ([], 6)) (.iter c.length (fun k st => (∀ x, (mget st.1 x).getD false = true ↔ ∃ i, i < k ∧ (c.getD i Call.z).kind = 1 ∧ (c.getD i Call.z).arg = x) ∧ (∀ i j, i < j → j < k → (c.getD i Call.z).kind = 1 → (c.getD j Call.z).kind = 1 → (c.getD i Call.z).arg ≠ (c.getD j Call.z).arg) ∧ st.2 = (k : Int)) (by omega) ⟨fun x => ⟨fun h => (nomatch h), fun ⟨i, h, _⟩ => absurd h (Nat.not_lt_zero _)⟩, fun i j _ h => absurd h (Nat.not_lt_zero _), rfl⟩ ?_ ?_) (fun _ _ h => .one (.inr ⟨rfl, h0, rfl, h⟩)) (fun r _ h => .one (.inl ⟨by rw [h.2]; simp, .inr ⟨h0, by rw [h.2], h.1⟩⟩))
  · rintro k ⟨m, v⟩ hk ⟨h1, h2, hv⟩
    dsimp only at h1 h2 hv
    subst hv
    simp only [zones_calls_L3]
    refine .condT (decide_eq_true (by show (k : Int) < c.length; omega)) (.ixD Call.z (by omega) (by show (k : Int) < c.length; omega) ?_)
    simp only [Int.toNat_natCast]
    have ext : ∀ (P : Nat → Prop), (∃ i, i < k + 1 ∧ P i) ↔ (∃ i, i < k ∧ P i) ∨ P k := fun P => by
      constructor
      · rintro ⟨i, a, b⟩
        rcases Nat.lt_or_ge i k with h | h
        · exact .inl ⟨i, h, b⟩
        · obtain rfl : i = k := by omega
          exact .inr b
      · rintro (⟨i, a, b⟩ | b)
        · exact ⟨i, by omega, b⟩
        · exact ⟨k, by omega, b⟩
    refine .cond (fun hw => .cond (fun hs => .one ⟨fun D => ?_, rfl⟩) fun hs => .ck64 (by omega) (.one ⟨fun x => ?_, fun i j hij hj k1 k2 => ?_, by simp⟩)) fun hw => .ck64 (by omega) (.one ⟨fun x => ?_, fun i j hij hj k1 k2 => ?_, by simp⟩)
    · obtain ⟨i, a, b, d⟩ := (h1 _).1 hs
      exact D i k a hk b (of_decide_eq_true hw) d
    · rw [ext]
      show (mget (mput m _ true) x).getD false = true ↔ _
      rw [mget_put]
      by_cases e : (c.getD k Call.z).arg = x
      · rw [if_pos e]
        exact ⟨fun _ => .inr ⟨of_decide_eq_true hw, e⟩, fun _ => rfl⟩
      · rw [if_neg e, h1 x]
        exact ⟨.inl, fun h => h.elim id fun h => (e h.2).elim⟩
    · rcases Nat.lt_or_ge j k with h | h
      · exact h2 i j hij h k1 k2
      · obtain rfl : j = k := by omega
        intro e
        have := (h1 _).2 ⟨i, hij, k1, e⟩
        rw [this] at hs; cases hs
    · have hw : ¬ (c.getD k Call.z).kind = 1 := of_decide_eq_false hw
      rw [ext, h1 x]
      exact ⟨.inl, fun h => h.elim id fun h => (hw h.1).elim⟩
    · have hw : ¬ (c.getD k Call.z).kind = 1 := of_decide_eq_false hw
      rcases Nat.lt_or_ge j k with h | h
      · exact h2 i j hij h k1 k2
      · obtain rfl : j = k := by omega
        exact (hw k2).elim
  · rintro ⟨m, v⟩ ⟨h1, h2, hv⟩
    dsimp only at h1 h2 hv
    subst hv
    simp only [zones_calls_L3]
    exact .condF (decide_eq_false (by show ¬ (c.length : Int) < c.length; omega)) (.one h2)
theorem getD_set3 {α : Type} {l : List α} {i j : Nat} {v d : α} (h : i < l.length) : (l.set i v).getD j d = if j = i then v else l.getD j d := by
  simp only [List.getD_eq_getElem?_getD, List.getElem?_set, h, if_true]
  by_cases hj : i = j
  · subst hj; simp
  · rw [if_neg hj, if_neg (fun e => hj e.symm)]
theorem set_self {α : Type} {l : List α} {i : Nat} {v : α} {d : α} (h : i < l.length) (e : v = l.getD i d) : l.set i v = l := by
  subst e
  rw [getD_of h, List.set_getElem_self]
theorem ixset {α : Type} {l : List α} {i : Nat} {a : α} (h : i < l.length) : ix (l.set i a) (i : Int) = some a := by rw [ix_nat, List.getElem?_set_self h]
/-- One cluster gets its reads. -/
theorem inner_wp {N : Nat} (hN : 300 < N) {c : List Call} (hc : c.length ≤ 200) {o : List ZonesCluster} {i : Nat} (hi : i < o.length) (hr : (o.getD i ZonesCluster.z).reads.length ≤ 1000) : iter (zones_clusters_L55 N c (i : Int)) N (o, 0) = some (o.set i (addA c (o.getD i ZonesCluster.z) c.length)) := by
  refine Wp.eq (.iter c.length (fun k st => st = (o.set i (addA c (o.getD i ZonesCluster.z) k), (k : Int))) (by omega) ?_ ?_ ?_)
  · show (o, (0 : Int)) = (_, _)
    rw [show addA c (o.getD i ZonesCluster.z) 0 = o.getD i ZonesCluster.z from rfl, set_self hi rfl]; rfl
  · rintro k st hk rfl
    simp only [zones_clusters_L55]
    have hy := addA_f c (o.getD i ZonesCluster.z) k
    have hnext : addA c (o.getD i ZonesCluster.z) (k + 1) = addR (addA c (o.getD i ZonesCluster.z) k) (c.getD k Call.z) (k : Int) := rfl
    rw [hnext]
    generalize addA c (o.getD i ZonesCluster.z) k = y at hy ⊢
    refine .condT (decide_eq_true (by omega)) (.ixD Call.z (by omega) (by omega) ?_)
    simp only [Int.toNat_natCast]
    obtain ⟨x, hx0⟩ : ∃ x, c.getD k Call.z = x := ⟨_, rfl⟩
    simp only [hx0]
    have hx : ix (o.set i y) (i : Int) = some y := ixset hi
    have hrd : (decide (x.kind = 2) && !decide (x.to_ = -1)) = isRd x := rfl
    rw [hrd]
    cases hR : isRd x with
    | false =>
      refine .bdO (a := ZonesCluster.z) rfl (.condF rfl (.ck64 (by omega) (.one ?_)))
      show (_, _) = (_, _)
      unfold addR
      rw [if_neg (by rw [hR]; rintro ⟨h, _⟩; cases h)]
      simp
    | true =>
      refine .bdO (a := y) hx ?_
      by_cases he : x.res = y.value
      · refine .condT (by rw [decide_eq_true he]; rfl) (.bdO hx (.ck (limB_of ⟨?_, ?_⟩) ?_))
        · simp only [List.length_singleton]; exact Nat.le_trans (m := 2000) (by omega) (by decide)
        · simp only [List.length_singleton]; omega
        refine .bdO hx ?_
        simp only [List.set_set, Int.toNat_natCast]
        refine .bdO (ixset hi) (.bdO (ixset hi) (.bdO (ixset hi) (.bdO (ixset hi) (.bdO (ixset hi) ?_))))
        refine .ck64 (by omega) (.one ?_)
        show (_, _) = (_, _)
        unfold addR
        rw [if_pos ⟨hR, he⟩]
        simp
      · refine .condF (by rw [decide_eq_false he]; rfl) (.ck64 (by omega) (.one ?_))
        show (_, _) = (_, _)
        unfold addR
        rw [if_neg (fun h => he h.2)]
        simp
  · rintro st rfl
    simp only [zones_clusters_L55]
    exact .condF (decide_eq_false (by omega)) (.one rfl)
theorem ext_getD {α : Type} {l m : List α} {d : α} (hl : l.length = m.length) (h : ∀ i, i < l.length → l.getD i d = m.getD i d) : l = m := by
  apply List.ext_getElem hl
  intro i h1 h2
  have := h i h1
  rwa [getD_of h1, getD_of h2] at this
theorem clusters_ok {N : Nat} (hN : 300 < N) {c : List Call} (hc : c.length ≤ 200) : zones_clusters N c = bd (sort94 N ((cls c c.length).map (fin c))) fun r => some r := by
  unfold zones_clusters
  have h0 : iter (zones_clusters_L29 N c) N ([cl0], 0) = some (cls c c.length) := by
    refine Wp.eq (.iter c.length (fun k st => st = (cls c k, (k : Int))) (by omega) rfl ?_ ?_)
    · rintro k st hk rfl
      simp only [zones_clusters_L29]
      have hl := cls_len c k
      have hcl : cls c (k + 1) = if (c.getD k Call.z).kind = 1 then cls c k ++ [clw (c.getD k Call.z) (k : Int)] else cls c k := rfl
      refine .condT (decide_eq_true (by omega)) (.ixD Call.z (by omega) (by omega) ?_)
      simp only [Int.toNat_natCast]
      rw [hcl]
      obtain ⟨x, hx0⟩ : ∃ x, c.getD k Call.z = x := ⟨_, rfl⟩
      simp only [hx0]
      refine .cond (fun h => .ck64 (by omega) (.one ?_)) fun h => .cond (fun h2 => .ck (limB_of ⟨?_, ?_⟩) (.ck64 (by omega) (.one ?_))) fun h2 => .ck (limB_of ⟨?_, ?_⟩) (.ck64 (by omega) (.one ?_))
      · have h : ¬ x.kind = 1 := by simpa using h
        show (_, _) = (_, _)
        rw [if_neg h]; simp
      · simp only [List.length_singleton]; exact Nat.le_trans (m := 2000) (by omega) (by decide)
      · simp only [List.length_singleton]; omega
      · have h : x.kind = 1 := by simpa using h
        show (_, _) = (_, _)
        rw [if_pos h]
        unfold clw
        rw [if_pos (of_decide_eq_true h2)]; simp
      · simp only [List.length_singleton]; exact Nat.le_trans (m := 2000) (by omega) (by decide)
      · simp only [List.length_singleton]; omega
      · have h : x.kind = 1 := by simpa using h
        show (_, _) = (_, _)
        rw [if_pos h]
        unfold clw
        rw [if_neg (of_decide_eq_false h2)]; simp
    · rintro st rfl
      simp only [zones_clusters_L29]
      exact .condF (decide_eq_false (by omega)) (.one rfl)
  have hlen := cls_len c c.length
  obtain ⟨K, hK⟩ : ∃ K, K = cls c c.length := ⟨_, rfl⟩
  rw [← hK] at hlen h0 ⊢
  have hrd : ∀ i, (K.getD i ZonesCluster.z).reads.length ≤ 1000 := fun i => by
    rcases Nat.lt_or_ge i K.length with h | h
    · have : K.getD i ZonesCluster.z ∈ K := by rw [getD_of h]; exact List.getElem_mem h
      rw [hK] at this
      rw [hK]
      rcases cls_mem.1 this with h2 | ⟨j, _, _, h2⟩ <;> rw [h2]
      · show (0 : Nat) ≤ 1000; omega
      · show (0 : Nat) ≤ 1000; omega
    · rw [List.getD_eq_getElem?_getD, List.getElem?_eq_none h]; show (0 : Nat) ≤ 1000; omega
  have h1 : iter (zones_clusters_L51 N K c) N (K, 0) = some (K.map (fin c)) := by
    refine Wp.eq (.iter K.length (fun k st => st.1.length = K.length ∧ (∀ j, j < K.length → st.1.getD j ZonesCluster.z = if j < k then fin c (K.getD j ZonesCluster.z) else K.getD j ZonesCluster.z) ∧ st.2 = (k : Int)) (by omega) ⟨rfl, fun j _ => by rw [if_neg (Nat.not_lt_zero _)], rfl⟩ ?_ ?_)
    · rintro k ⟨o, v⟩ hk ⟨g1, g2, hv⟩
      dsimp only at g1 g2 hv
      subst hv
      have hok := g2 k hk
      rw [if_neg (Nat.lt_irrefl _)] at hok
      simp only [zones_clusters_L51]
      have hin := inner_wp hN hc (o := o) (i := k) (by omega) (by rw [hok]; exact hrd k)
      rw [hok] at hin
      refine .condT (decide_eq_true (by omega)) ?_
      refine .seq (P := fun r => r = o.set k (fin c (K.getD k ZonesCluster.z))) (.ixD ZonesCluster.z (by omega) (by omega) (.bdO hin (.bdO (ixset (by omega)) (.bdO (ixset (by omega)) (.bdO (ixset (by omega)) (.one ?_)))))) fun r _ hr => .ck64 (by omega) (.one ?_)
      · rw [Int.toNat_natCast, List.set_set]; rfl
      · subst hr
        refine ⟨by rw [List.length_set]; exact g1, fun j hj => ?_, by simp⟩
        show (o.set k _).getD j _ = _
        rw [getD_set3 (by omega)]
        by_cases e : j = k
        · subst e; rw [if_pos rfl, if_pos (by omega)]
        · rw [if_neg e, g2 j hj]
          by_cases e2 : j < k
          · rw [if_pos e2, if_pos (by omega)]
          · rw [if_neg e2, if_neg (by omega)]
    · rintro ⟨o, v⟩ ⟨g1, g2, hv⟩
      dsimp only at g1 g2 hv
      subst hv
      simp only [zones_clusters_L51]
      refine .condF (decide_eq_false (by omega)) (.one (ext_getD (d := ZonesCluster.z) (by simpa using g1) fun i hi => ?_))
      rw [g2 i (by omega), if_pos (by omega), getD_of (l := K.map (fin c)) (by simpa using (by omega : i < K.length)), List.getElem_map, getD_of (by omega)]
  have h0' : iter (zones_clusters_L29 N c) N ([(ZonesCluster.mk 0 (-1) (-1) [] (Zone.mk 0 (-1) (-1) false) false)], 0) = some K := h0
  rw [h0', bd_some, h1, bd_some]
/-- What clusters there are, in the end. -/
structure Cls (c : List Call) (K : List ZonesCluster) : Prop where
  len : K.length ≤ c.length + 1
  mem : ∀ y, y ∈ K ↔ ∃ z, z ∈ cls c c.length ∧ y = fin c z
  nod : (K.map (·.value)).Nodup
theorem fin_val (c : List Call) (z : ZonesCluster) : (fin c z).value = z.value := (addA_f c z c.length).1
theorem cls_nod {c : List Call} (D : Dist c) (hpos : ∀ i, i < c.length → (c.getD i Call.z).kind = 1 → 1 ≤ (c.getD i Call.z).arg) : ∀ k, k ≤ c.length → ((cls c k).map (·.value)).Nodup
  | 0, _ => by unfold cls; simp
  | k + 1, hk => by
    have ih := cls_nod D hpos k (by omega)
    unfold cls
    split
    · rename_i hw
      rw [List.map_append, List.nodup_append]
      refine ⟨ih, by simp, fun a ha b hb e => ?_⟩
      subst e
      have hb : a = (c.getD k Call.z).arg := List.mem_singleton.1 hb
      obtain ⟨z, hz, rfl⟩ := List.mem_map.1 ha
      rcases cls_mem.1 hz with h | ⟨i, h1, h2, h3⟩
      · rw [h] at hb
        have hb : (0 : Int) = (c.getD k Call.z).arg := hb
        have := hpos k (by omega) hw
        omega
      · rw [h3] at hb
        exact D i k h1 (by omega) h2 hw hb
    · exact ih
theorem nodup_inj {α β : Type} {f : α → β} : ∀ {l : List α}, (l.map f).Nodup → ∀ a ∈ l, ∀ b ∈ l, f a = f b → a = b
  | x :: l, h, a, ha, b, hb, e => by
    rw [List.map_cons, List.nodup_cons] at h
    rcases List.mem_cons.1 ha with ha1 | ha2
    · rcases List.mem_cons.1 hb with hb1 | hb2
      · rw [ha1, hb1]
      · exact (h.1 (by rw [← ha1, e]; exact List.mem_map_of_mem hb2)).elim
    · rcases List.mem_cons.1 hb with hb1 | hb2
      · exact (h.1 (by rw [← hb1, ← e]; exact List.mem_map_of_mem ha2)).elim
      · exact nodup_inj h.2 a ha2 b hb2 e
theorem sorted_wp {N : Nat} (hN : 300 < N) {c : List Call} (hc : c.length ≤ 200) (D : Dist c) (hpos : ∀ i, i < c.length → (c.getD i Call.z).kind = 1 → 1 ≤ (c.getD i Call.z).arg) : Wp (zones_clusters N c) (Cls c) := by
  rw [clusters_ok hN hc]
  obtain ⟨L, hL⟩ : ∃ L, L = (cls c c.length).map (fin c) := ⟨_, rfl⟩
  have hnod : (L.map (·.value)).Nodup := by
    rw [hL, List.map_map]
    have := cls_nod D hpos c.length (Nat.le_refl _)
    have e : (cls c c.length).map ((·.value) ∘ fin c) = (cls c c.length).map (·.value) := List.map_congr_left fun z _ => fin_val c z
    rw [e]; exact this
  have hlen := cls_len c c.length
  have hLl : L.length = (cls c c.length).length := by rw [hL, List.length_map]
  have hne : L ≠ [] := by
    intro e
    have h0 : cl0 ∈ cls c c.length := cls_mem.2 (.inl rfl)
    have : fin c cl0 ∈ L := by rw [hL]; exact List.mem_map_of_mem h0
    rw [e] at this; cases this
  have hu : uniqB sort94C L = true := by
    unfold uniqB
    rw [List.all_eq_true]
    intro a ha
    rw [List.all_eq_true]
    intro b hb
    simp only [Bool.or_eq_true, decide_eq_true_eq]
    rcases Int.lt_trichotomy a.value b.value with h | h | h
    · exact .inl (.inl ((cmp_lt _ _).2 h))
    · right
      exact nodup_inj hnod a ha b hb h
    · exact .inl (.inr ((cmp_lt _ _).2 h))
  rw [← hL]
  have hs : sort94 N L = some (sortL sort94S sort94C L) := by
    unfold sort94 sortNO
    rw [if_pos ⟨hne, List.all_eq_true.2 fun _ _ => rfl, hu, by omega⟩]
  obtain ⟨hp, _⟩ := sortL_facts (S := sort94S) (cf := sort94C) sort94_swo (xs := L) (List.all_eq_true.2 fun _ _ => rfl)
  refine .bdO hs (.one ⟨by rw [hp.length_eq]; omega, fun y => ?_, ?_⟩)
  · rw [hp.mem_iff, hL, List.mem_map]
    exact ⟨fun ⟨z, a, b⟩ => ⟨z, a, b.symm⟩, fun ⟨z, a, b⟩ => ⟨z, a, b.symm⟩⟩
  · exact ((hp.map (·.value)).nodup_iff).2 hnod
end Zo

end Go.Proofs.Ytolneilkgjglkaa
