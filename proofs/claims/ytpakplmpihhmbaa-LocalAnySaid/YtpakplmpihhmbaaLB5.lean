/- Things one by one; LocalWhole, plainly. -/
import Derived.Test.YtpakplmpihhmbaaLB4
import Derived.Test.YtpakplmpihhmbaaLA2
set_option linter.unusedVariables false
set_option linter.unusedSimpArgs false
set_option linter.unusedSectionVars false
set_option maxRecDepth 100000
namespace Go.Proofs.Ytpakplmpihhmbaa
open Go.RowKit
namespace Lc
open Hs Rl Sr
def gT (z : Int) : Int → Int → Int → Bool := fun th _ _ => decide (th = z)
/-- A right order, thing by thing. -/
structure LinT (types : List Int) (c : List Call) (t : List Step) : Prop where
  inc : ∀ s ∈ t, InC c s
  pw : t.Pairwise (Bef (bfA c))
  cm : Cm c (nums t)
  run : ∀ x, x < types.length → ∃ s', Ob.run (types.getD x 0) (Ob.st0 (types.getD x 0)) (objl c x t) = some s'
theorem linT {types : List Int} {c : List Call} {rel : Rel} (X : Cx types c rel (bfA c)) {t : List Step} : Sr.Gd types c (bfA c) (S0 types) [] t ↔ LinT types c t := by
  have e : ∀ x, x < types.length → (S0 types).getD x [] = Ob.st0 (types.getD x 0) := fun x hx => by
    unfold S0
    rw [getD_of (by simpa using hx), getD_of hx, List.getElem_map]
  unfold Sr.Gd
  rw [pl_iff X (by simp [S0]), List.nil_append]
  constructor
  · rintro ⟨⟨ha, hx⟩, hc⟩
    obtain ⟨h1, h2⟩ := ac0.1 ha
    exact ⟨h1, h2, hc, fun x hx' => by rw [← e x hx']; exact hx x hx'⟩
  · rintro ⟨h1, h2, h3, h4⟩
    exact ⟨⟨ac0.2 ⟨h1, h2⟩, fun x hx => by rw [e x hx]; exact h4 x hx⟩, h3⟩
def thN (c : List Call) (s : Step) : Nat := (c.getD s.call.toNat Call.z).thing.toNat
theorem objl_eq (c : List Call) (x : Nat) : ∀ t : List Step, objl c x t = (t.filter fun s => decide (thN c s = x)).map (D c)
  | [] => rfl
  | s :: t => by
    have ih := objl_eq c x t
    simp only [objl, List.filter_cons]
    by_cases h : thN c s = x
    · have h' : (c.getD s.call.toNat Call.z).thing.toNat = x := h
      rw [if_pos h', if_pos (decide_eq_true h), List.map_cons, ih]; rfl
    · have h' : ¬ (c.getD s.call.toNat Call.z).thing.toNat = x := h
      rw [if_neg h', if_neg (by rw [decide_eq_false h]; exact Bool.false_ne_true), ih]
theorem filter_all {α : Type} {p : α → Bool} {l : List α} (h : ∀ x ∈ l, p x = true) : l.filter p = l := List.filter_eq_self.2 h
section
variable {N : Nat} {types : List Int} {p : List Event} {k : Nat} {out out' : List Call} {op op' : List Int} {idx pos : List Nat}
theorem sub_th {z : Int} (P : SubH N types (gT z) p k out out' op op' idx pos) {j : Nat} (hj : j < out'.length) : (out'.getD j Call.z).thing = z := by
  have hil := P.ilen
  have hm := mem_getD (idx := idx) (i := j) (by omega)
  have := (P.cov _ (P.ilt _ hm)).1 hm
  rw [(P.one j hj).thing]
  exact of_decide_eq_true this
/-- Of the whole, that of one thing. -/
theorem lin_part {z : Nat} (hth : ∀ i, i < out.length → 0 ≤ (out.getD i Call.z).thing) (P : SubH N types (gT (z : Int)) p k out out' op op' idx pos) {t : List Step} (L : LinT types out t) : LinT types out' ((t.filter fun s => decide (thN out s = z)).map (dnS idx)) := by
  have hmem : ∀ s ∈ t.filter (fun s => decide (thN out s = z)), InC out s ∧ gC (gT (z : Int)) (out.getD s.call.toNat Call.z) = true := fun s hs => by
    obtain ⟨h1, h2⟩ := List.mem_filter.1 hs
    have hr := (L.inc s h1).rng
    have h3 := hth s.call.toNat (by omega)
    have h4 : thN out s = z := of_decide_eq_true h2
    unfold thN at h4
    exact ⟨L.inc s h1, decide_eq_true (by omega)⟩
  have e : ((t.filter fun s => decide (thN out s = z)).map (dnS idx)).map (D out') = (t.filter fun s => decide (thN out s = z)).map (D out) := by
    rw [List.map_map]
    exact List.map_congr_left fun s hs => (dn_in P (hmem s hs).1 (hmem s hs).2).2.2
  have hinc : ∀ s ∈ (t.filter fun s => decide (thN out s = z)).map (dnS idx), InC out' s := fun s hs => by
    obtain ⟨x, hx, rfl⟩ := List.mem_map.1 hs
    exact (dn_in P (hmem x hx).1 (hmem x hx).2).1
  have hz : ∀ s ∈ (t.filter fun s => decide (thN out s = z)).map (dnS idx), thN out' s = z := fun s hs => by
    have hr := (hinc s hs).rng
    unfold thN
    rw [sub_th P (by omega)]; omega
  refine ⟨hinc, dn_pw P hmem (L.pw.sublist List.filter_sublist), cm_dn P fun i hi hg ha => ?_, fun x hx => ?_⟩
  · obtain ⟨s, hs, e⟩ := List.mem_map.1 (L.cm i hi ha)
    refine List.mem_map.2 ⟨s, List.mem_filter.2 ⟨hs, decide_eq_true ?_⟩, e⟩
    unfold thN
    have : (out.getD i Call.z).thing = z := of_decide_eq_true hg
    rw [e, this]; omega
  · rw [objl_eq]
    by_cases h : x = z
    · subst h
      rw [filter_all fun s hs => decide_eq_true (hz s hs), e, ← objl_eq]
      exact L.run x hx
    · rw [filter_none fun s hs => decide_eq_false fun e2 => h ((hz s hs).symm.trans e2).symm]
      exact ⟨_, rfl⟩
/-- What a thing's part of a right order is, in terms of the whole. -/
structure ThO (types : List Int) (c : List Call) (z : Nat) (u : List Step) : Prop where
  inc : ∀ s ∈ u, InC c s
  th : ∀ s ∈ u, thN c s = z
  pw : u.Pairwise (Bef (bfA c))
  cm : ∀ i, i < c.length → (c.getD i Call.z).thing = (z : Int) → (c.getD i Call.z).to_ ≠ -1 → i ∈ nums u
  run : ∃ s', Ob.run (types.getD z 0) (Ob.st0 (types.getD z 0)) (u.map (D c)) = some s'
theorem tho_up {z : Nat} (hz : z < types.length) (P : SubH N types (gT (z : Int)) p k out out' op op' idx pos) {t' : List Step} (L : LinT types out' t') : ThO types out z (t'.map (upS idx)) := by
  have e : (t'.map (upS idx)).map (D out) = t'.map (D out') := by
    rw [List.map_map]
    exact List.map_congr_left fun s hs => (up_in P (L.inc s hs)).2.2
  refine ⟨fun s hs => ?_, fun s hs => ?_, up_pw P L.inc L.pw, fun i hi hg ha => cm_up P L.cm i hi (decide_eq_true hg) ha, ?_⟩
  · obtain ⟨x, hx, rfl⟩ := List.mem_map.1 hs
    exact (up_in P (L.inc x hx)).1
  · obtain ⟨x, hx, rfl⟩ := List.mem_map.1 hs
    have : (out.getD (upS idx x).call.toNat Call.z).thing = z := of_decide_eq_true (up_in P (L.inc x hx)).2.1
    unfold thN; rw [this]; omega
  · have hr := L.run z hz
    rw [objl_eq, filter_all, ← e] at hr
    · exact hr
    · intro s hs
      have := (L.inc s hs).rng
      refine decide_eq_true ?_
      unfold thN
      rw [sub_th P (by omega)]; omega
/-- Of those of all things, that of the whole. -/
theorem lin_whole (hth : ∀ i, i < out.length → 0 ≤ (out.getD i Call.z).thing ∧ (out.getD i Call.z).thing < types.length) {t : List Step} (hinc : ∀ s ∈ t, InC out s) (hpw : t.Pairwise (Bef (bfA out))) (h : ∀ z, z < types.length → ThO types out z (t.filter fun s => decide (thN out s = z))) : LinT types out t := by
  refine ⟨hinc, hpw, fun i hi ha => ?_, fun x hx => ?_⟩
  · obtain ⟨h1, h2⟩ := hth i hi
    have := (h (out.getD i Call.z).thing.toNat (by omega)).cm i hi (by omega) ha
    obtain ⟨s, hs, e⟩ := List.mem_map.1 this
    exact List.mem_map.2 ⟨s, (List.mem_filter.1 hs).1, e⟩
  · rw [objl_eq]; exact (h x hx).run
theorem join_th (hft : ∀ i, i < out.length → 0 ≤ (out.getD i Call.z).from_ ∧ ((out.getD i Call.z).to_ ≠ -1 → (out.getD i Call.z).from_ ≤ (out.getD i Call.z).to_)) {ts : Nat → List Step} (h : ∀ z, z < types.length → ThO types out z (ts z)) :
    ∃ t : List Step, (∀ s ∈ t, InC out s ∧ thN out s < types.length) ∧ t.Pairwise (Bef (bfA out)) ∧ ∀ z, z < types.length → t.filter (fun s => decide (thN out s = z)) = ts z := by
  obtain ⟨t, t1, t2, t3⟩ := join_ex hft (fun z => (out.getD z.toNat Call.z).thing.toNat) (List.range types.length) List.nodup_range ts (fun n hn s hs => ⟨(h n (List.mem_range.1 hn)).th s hs, (h n (List.mem_range.1 hn)).inc s hs⟩) (fun n hn => (h n (List.mem_range.1 hn)).pw)
  refine ⟨t, fun s hs => ?_, t3, fun z hz => t2 z (List.mem_range.2 hz)⟩
  obtain ⟨a, b⟩ := t1 s hs
  exact ⟨(h _ (List.mem_range.1 a)).inc s b, List.mem_range.1 a⟩
end
theorem hft {N : Nat} {types : List Int} {l : List Event} {k : Nat} {c : List Call} {op : List Int} (R : Rn N types l k c op) : ∀ i, i < c.length → 0 ≤ (c.getD i Call.z).from_ ∧ ((c.getD i Call.z).to_ ≠ -1 → (c.getD i Call.z).from_ ≤ (c.getD i Call.z).to_) := by
  intro i hi
  have O := R.wf.one i hi
  have h1 := O.fr
  have h2 := O.to
  omega
/-- The events of one thing. -/
theorem part_wp {N : Nat} (hN : 300 < N) {types : List Int} {l : List Event} {c : List Call} {op : List Int} (ht : history_Types N types = some 0) (hl : l.length ≤ 200) (R : Rn N types l l.length c op) {z : Nat} (hz : z < types.length) :
    Wp (history_Part N types l (z : Int)) fun r => r.2 = 0 ∧ r.1.length ≤ l.length ∧ ∃ c' op' idx pos, SubH N types (gT (z : Int)) r.1 l.length c c' op op' idx pos := by
  obtain ⟨f, f0, fl, fs⟩ := R.fn
  unfold history_Part
  refine .bdO (calls_of hN ht hl R) (.condF rfl (.condF ?_ ?_))
  · simp only [Bool.or_eq_false_iff, decide_eq_false_iff_not]; omega
  refine .seq (P := fun p => p.length ≤ l.length ∧ ∃ c' op' idx pos, SubH N types (gT (z : Int)) p l.length c c' op op' idx pos) (.iter l.length (fun k st => st.1.length ≤ k ∧ (∃ a b idx pos, SubH N types (gT (z : Int)) st.1 k (f k).1 a (f k).2 b idx pos) ∧ st.2 = (k : Int)) (by omega) ⟨Nat.le_refl _, ⟨[], [], [], [], ?_⟩, rfl⟩ ?_ ?_) fun p _ h => .one ⟨rfl, h⟩
  · rw [f0]; exact .zero ..
  · rintro k ⟨p, v⟩ hk ⟨hlen, ⟨a, b, idx, pos, P⟩, hv⟩
    dsimp only at P hv hlen
    subst hv
    obtain ⟨Rk, S⟩ := fs k hk
    simp only [history_Part_L3]
    refine .condT (decide_eq_true (by omega)) (.ixD Event.z (by omega) (by omega) ?_)
    simp only [Int.toNat_natCast]
    obtain ⟨x, hx⟩ : ∃ x, l.getD k Event.z = x := ⟨_, rfl⟩
    rw [hx] at S
    simp only [hx]
    have hsel : Sel (gT (z : Int)) (f k).1 (f k).2 x (decide (x.thing = (z : Int))) := by
      refine ⟨fun _ => rfl, fun h0 m hm => ?_⟩
      rcases S.how with ⟨h1, _⟩ | ⟨_, m2, g1, g2, g3, _⟩
      · exact (h1 h0).elim
      · obtain rfl : m2 = m := by omega
        show _ = decide _
        rw [g3]
    have hst := P.step Rk.wf S hsel
    refine .cond (fun h => .ck (limB_of ⟨?_, ?_⟩) (.ck64 (by omega) (.one ⟨by simp only [List.length_append, List.length_singleton]; omega, hst.1 h, by simp⟩))) fun h => .ck64 (by omega) (.one ⟨by simp only; omega, ⟨a, b, idx, pos, hst.2 h⟩, by simp⟩)
    · simp only [List.length_singleton]; exact Nat.le_trans (m := 2000) (by omega) (by decide)
    · simp only [List.length_singleton]; omega
  · rintro ⟨p, v⟩ ⟨hlen, ⟨a, b, idx, pos, P⟩, hv⟩
    dsimp only at P hv hlen
    subst hv
    simp only [history_Part_L3]
    refine .condF (decide_eq_false (by omega)) (.one ⟨hlen, a, b, idx, pos, ?_⟩)
    rw [fl] at P
    exact P
/-- The calls of a thing, by number. -/
def numT (c : List Call) (k : Nat) (z : Int) : List Int := ((List.range k).filter fun i => decide ((c.getD i Call.z).thing = z)).map fun (i : Nat) => (i : Int)
theorem mget_put {α : Type} (v : α) (k j : Int) : ∀ m : List (Int × α), mget (mput m k v) j = if k = j then some v else mget m j
  | [] => rfl
  | (a, u) :: r => by
    simp only [mput]
    by_cases h : a = k
    · rw [if_pos h]
      simp only [mget]
      by_cases h2 : a = j
      · rw [if_pos h2, if_pos (h.symm.trans h2)]
      · rw [if_neg h2, if_neg (fun e => h2 (h.trans e)), if_neg h2]
    · rw [if_neg h]
      simp only [mget, mget_put v k j r]
      by_cases h2 : a = j
      · rw [if_pos h2, if_pos h2, if_neg (fun e => h (h2.trans e.symm))]
      · rw [if_neg h2, if_neg h2]
theorem mput_mem {α : Type} {v : α} {k : Int} {p : Int × α} : ∀ {m : List (Int × α)}, p ∈ mput m k v → (p ∈ m ∧ p.1 ≠ k) ∨ p = (k, v) ∨ (p ∈ m ∧ ∃ u, (k, u) ∈ m ∧ ¬ (m.map (·.1)).Nodup)
  | [], h => .inr (.inl (List.mem_singleton.1 h))
  | (a, u) :: r, h => by
    simp only [mput] at h
    by_cases e : a = k
    · subst e
      rw [if_pos rfl] at h
      rcases List.mem_cons.1 h with rfl | h
      · exact .inr (.inl rfl)
      · by_cases hp : p.1 = a
        · refine .inr (.inr ⟨.tail _ h, u, .head _, fun hn => ?_⟩)
          rw [List.map_cons, List.nodup_cons] at hn
          exact hn.1 (List.mem_map.2 ⟨p, h, hp⟩)
        · exact .inl ⟨.tail _ h, hp⟩
    · rw [if_neg e] at h
      rcases List.mem_cons.1 h with rfl | h
      · exact .inl ⟨.head _, e⟩
      · rcases mput_mem h with ⟨h1, h2⟩ | h1 | ⟨h1, u', h2, h3⟩
        · exact .inl ⟨.tail _ h1, h2⟩
        · exact .inr (.inl h1)
        · refine .inr (.inr ⟨.tail _ h1, u', .tail _ h2, fun hn => h3 ?_⟩)
          rw [List.map_cons, List.nodup_cons] at hn
          exact hn.2
theorem mput_nodup {α : Type} {v : α} {k : Int} : ∀ {m : List (Int × α)}, (m.map (·.1)).Nodup → ((mput m k v).map (·.1)).Nodup
  | [], _ => by simp [mput]
  | (a, u) :: r, h => by
    rw [List.map_cons, List.nodup_cons] at h
    simp only [mput]
    by_cases e : a = k
    · rw [if_pos e, List.map_cons, List.nodup_cons]; exact h
    · rw [if_neg e, List.map_cons, List.nodup_cons]
      refine ⟨fun hm => ?_, mput_nodup h.2⟩
      obtain ⟨q, hq, e2⟩ := List.mem_map.1 hm
      rcases mput_mem hq with ⟨h1, _⟩ | h1 | ⟨h1, _⟩
      · exact h.1 (List.mem_map.2 ⟨q, h1, e2⟩)
      · rw [h1] at e2; exact e e2.symm
      · exact h.1 (List.mem_map.2 ⟨q, h1, e2⟩)
theorem numT_succ (c : List Call) (k : Nat) (z : Int) : numT c (k + 1) z = if (c.getD k Call.z).thing = z then numT c k z ++ [(k : Int)] else numT c k z := by
  unfold numT
  rw [List.range_succ, List.filter_append, List.map_append]
  by_cases h : (c.getD k Call.z).thing = z
  · rw [if_pos h, List.filter_cons, if_pos (decide_eq_true h)]; rfl
  · rw [if_neg h, List.filter_cons, if_neg (by rw [decide_eq_false h]; exact Bool.false_ne_true)]; simp
theorem numT_len (c : List Call) (k : Nat) (z : Int) : (numT c k z).length ≤ k := by
  unfold numT
  rw [List.length_map]
  have := List.length_filter_le (fun i => decide ((c.getD i Call.z).thing = z)) (List.range k)
  simpa using this
theorem numbers_wp {N : Nat} {c : List Call} (hN : 300 < N) (hc : c.length ≤ 200) : Wp (local_numbers N c) fun m => (∀ z, (mget m z).getD [] = numT c c.length z) ∧ (m.map (·.1)).Nodup ∧ (∀ q ∈ m, q.2 = numT c c.length q.1) ∧ ∀ i, i < c.length → ∃ q ∈ m, q.1 = (c.getD i Call.z).thing := by
  unfold local_numbers
  refine .seq (.iter c.length (Q := fun m => (∀ z, (mget m z).getD [] = numT c c.length z) ∧ (m.map (·.1)).Nodup ∧ (∀ q ∈ m, q.2 = numT c c.length q.1) ∧ ∀ i, i < c.length → ∃ q ∈ m, q.1 = (c.getD i Call.z).thing) (fun k st => (∀ z, (mget st.1 z).getD [] = numT c k z) ∧ (st.1.map (·.1)).Nodup ∧ (∀ q ∈ st.1, q.2 = numT c k q.1) ∧ (∀ i, i < k → ∃ q ∈ st.1, q.1 = (c.getD i Call.z).thing) ∧ st.2 = (k : Int)) (by omega) ⟨fun z => rfl, List.nodup_nil, fun q h => (nomatch h), fun i h => absurd h (Nat.not_lt_zero _), rfl⟩ ?_ ?_) fun m _ h => .one h
  · rintro k ⟨m, v⟩ hk ⟨h1, h2, h3, h4, hv⟩
    dsimp only at h1 h2 h3 h4 hv
    subst hv
    simp only [local_numbers_L3]
    refine .condT (decide_eq_true (by omega)) (.ixD Call.z (by omega) (by omega) ?_)
    simp only [Int.toNat_natCast]
    obtain ⟨a, ha⟩ : ∃ a, (c.getD k Call.z).thing = a := ⟨_, rfl⟩
    have hs := numT_succ c k
    rw [ha] at hs
    have hla := numT_len c k a
    simp only [ha]
    rw [h1 a]
    refine .ck (limB_of ⟨?_, ?_⟩) (.ck64 (by omega) (.one ⟨fun z => ?_, mput_nodup h2, fun q hq => ?_, fun i hi => ?_, by simp⟩))
    · simp only [List.length_singleton]; exact Nat.le_trans (m := 2000) (by omega) (by decide)
    · simp only [List.length_singleton]; omega
    · rw [mget_put, hs z]
      by_cases e : a = z
      · subst e; rw [if_pos rfl, if_pos rfl]; rfl
      · rw [if_neg e, if_neg e]; exact h1 z
    · rcases mput_mem hq with ⟨g1, g2⟩ | rfl | ⟨_, _, _, g⟩
      · rw [hs q.1, if_neg (fun e => g2 e.symm)]; exact h3 q g1
      · rw [hs a, if_pos rfl]
      · exact (g h2).elim
    · have hput : ∃ q ∈ mput m a (numT c k a ++ [(k : Int)]), q.1 = a := by
        have : ∀ m : List (Int × List Int), ∃ q ∈ mput m a (numT c k a ++ [(k : Int)]), q.1 = a := by
          intro m
          induction m with
          | nil => exact ⟨_, .head _, rfl⟩
          | cons x r ih =>
            obtain ⟨x, y⟩ := x
            simp only [mput]
            by_cases e : x = a
            · rw [if_pos e]; exact ⟨_, .head _, e⟩
            · rw [if_neg e]
              obtain ⟨q, hq, e2⟩ := ih
              exact ⟨q, .tail _ hq, e2⟩
        exact this m
      have hkeep : ∀ m : List (Int × List Int), ∀ q ∈ m, ∃ q' ∈ mput m a (numT c k a ++ [(k : Int)]), q'.1 = q.1 := by
        intro m
        induction m with
        | nil => intro q h; cases h
        | cons x r ih =>
          obtain ⟨x, y⟩ := x
          intro q hq
          simp only [mput]
          by_cases e : x = a
          · rw [if_pos e]
            rcases List.mem_cons.1 hq with rfl | hq
            · exact ⟨_, .head _, rfl⟩
            · exact ⟨q, .tail _ hq, rfl⟩
          · rw [if_neg e]
            rcases List.mem_cons.1 hq with rfl | hq
            · exact ⟨_, .head _, rfl⟩
            · obtain ⟨q', g1, g2⟩ := ih q hq
              exact ⟨q', .tail _ g1, g2⟩
      rcases Nat.lt_or_ge i k with h | h
      · obtain ⟨q, hq, e⟩ := h4 i h
        obtain ⟨q', g1, g2⟩ := hkeep m q hq
        exact ⟨q', g1, g2.trans e⟩
      · obtain rfl : i = k := by omega
        obtain ⟨q, hq, e⟩ := hput
        exact ⟨q, hq, e.trans ha.symm⟩
  · rintro ⟨m, v⟩ ⟨h1, h2, h3, h4, hv⟩
    dsimp only at h1 h2 h3 h4 hv
    subst hv
    simp only [local_numbers_L3]
    exact .condF (decide_eq_false (by omega)) (.one ⟨h1, h2, h3, h4⟩)
theorem range_big (N : Nat) (m : List (Int × List Int)) : rangeM (local_check_L3 N) m = if (m.any fun q => decide (9 < q.2.length)) = true then some (.inr ([], 2)) else some (.inl ()) := by
  have key : ∀ m : List (Int × List Int), outsM (m.map fun a => local_check_L3 N (some a)) = some ((m.filter fun q => decide (9 < q.2.length)).map fun _ => Sum.inr (([] : List Call), (2 : Int))) := by
    intro m
    induction m with
    | nil => rfl
    | cons a r ih =>
      obtain ⟨z, xs⟩ := a
      rw [List.map_cons, List.filter_cons]
      by_cases h : 9 < xs.length
      · have e : local_check_L3 N (some (z, xs)) = some (.inr (.inr ([], 2))) := by
          simp only [local_check_L3]
          exact cond_of (decide_eq_true (by omega))
        rw [e, if_pos (decide_eq_true h)]
        simp only [outsM, ih, Option.map_some, List.map_cons]
      · have e : local_check_L3 N (some (z, xs)) = some (.inl ()) := by
          simp only [local_check_L3]
          exact cond_no (decide_eq_false (by omega))
        rw [e, if_neg (by rw [decide_eq_false h]; exact Bool.false_ne_true)]
        simp only [outsM, ih]
  unfold rangeM
  rw [key m]
  cases hf : (m.filter fun q => decide (9 < q.2.length)) with
  | nil =>
    rw [if_neg]
    · rfl
    · intro h
      obtain ⟨q, hq, e⟩ := List.any_eq_true.1 h
      have : q ∈ m.filter fun q => decide (9 < q.2.length) := List.mem_filter.2 ⟨hq, e⟩
      rw [hf] at this; cases this
  | cons q r =>
    rw [if_pos]
    · simp only [List.map_cons]
      rw [if_pos]
      rw [List.all_eq_true]
      intro y hy
      obtain ⟨_, _, rfl⟩ := List.mem_map.1 hy
      exact decide_eq_true rfl
    · have : q ∈ m.filter fun q => decide (9 < q.2.length) := by rw [hf]; exact .head _
      obtain ⟨h1, h2⟩ := List.mem_filter.1 this
      exact List.any_eq_true.2 ⟨q, h1, h2⟩
/-- Not too many of one thing. -/
def FewT (c : List Call) : Prop := ∀ z, (numT c c.length z).length ≤ 9
structure Chk (N : Nat) (types : List Int) (l : List Event) (c : List Call) : Prop where
  ty : history_Types N types = some 0
  tl : 1 ≤ types.length ∧ types.length ≤ 4
  tv : ∀ x ∈ types, 1 ≤ x ∧ x ≤ 5
  len : l.length ≤ 200
  c12 : c.length ≤ 12
  few : FewT c
  run : ∃ op, Rn N types l l.length c op
theorem check_wp {N : Nat} (hN : 300 < N) (types : List Int) (l : List Event) : Wp (local_check N types l) fun r => (r.2 ≠ 0 ∧ r.1 = []) ∨ (r.2 = 0 ∧ Chk N types l r.1) := by
  unfold local_check
  refine .seq (calls_rn (types := types) (l := l) hN) fun r hr h => .cond (fun h2 => .one (.inl ⟨by simpa using h2, rfl⟩)) fun h2 => .cond (fun _ => .one (.inl ⟨by simp, rfl⟩)) fun h3 => ?_
  have h2 : r.2.2 = 0 := by simpa using h2
  have h3 := of_decide_eq_false h3
  obtain ⟨g1, g2, g3, g4, op, R⟩ := h h2
  obtain ⟨_, hty, tw⟩ := types_wp (types := types) hN
  rw [g1] at hty
  obtain rfl := Option.some.inj hty
  refine .elim (P := fun t => match t with | .inl _ => FewT r.1 | .inr q => q = ([], 2)) (.seq (numbers_wp hN (by omega)) fun m _ ⟨m1, m2, m3, m4⟩ => ?_) (fun _ _ hf => .one (.inr ⟨rfl, g1, g2, (tw rfl).2.2, g3, (by show r.1.length ≤ 12; omega), hf, op, R⟩)) (fun q _ hq => .one (.inl (by rw [show q = ([], 2) from hq]; exact ⟨by simp, rfl⟩)))
  rw [range_big]
  by_cases hb : (m.any fun q => decide (9 < q.2.length)) = true
  · rw [if_pos hb]; exact .one rfl
  · rw [if_neg hb]
    refine .one fun z => ?_
    apply Classical.byContradiction
    intro hz
    have hne : numT r.1 r.1.length z ≠ [] := fun e => hz (by rw [e]; simp)
    obtain ⟨i, hi⟩ := List.exists_mem_of_ne_nil _ hne
    unfold numT at hi
    obtain ⟨j, hj, -⟩ := List.mem_map.1 hi
    obtain ⟨hj, he⟩ := List.mem_filter.1 hj
    obtain ⟨q, hq, e⟩ := m4 j (List.mem_range.1 hj)
    rw [of_decide_eq_true he] at e
    refine hb (List.any_eq_true.2 ⟨q, hq, decide_eq_true ?_⟩)
    rw [m3 q hq, e]; omega
theorem Chk.th {N : Nat} {types : List Int} {l : List Event} {c : List Call} (K : Chk N types l c) : ∀ i, i < c.length → 0 ≤ (c.getD i Call.z).thing ∧ (c.getD i Call.z).thing < types.length := by
  obtain ⟨op, R⟩ := K.run
  exact fun i hi => (R.wf.one i hi).thing
theorem sub_cnt {N : Nat} {types : List Int} {z : Int} {p : List Event} {k : Nat} {out out' : List Call} {op op' : List Int} {idx pos : List Nat} (P : SubH N types (gT z) p k out out' op op' idx pos) : out'.length = (numT out out.length z).length := by
  have h1 : idx.Perm ((List.range out.length).filter fun i => decide ((out.getD i Call.z).thing = z)) := by
    refine (List.perm_ext_iff_of_nodup (P.iinc.imp fun h => by omega) (List.nodup_range.filter _)).2 fun i => ?_
    rw [List.mem_filter, List.mem_range]
    constructor
    · intro hi
      exact ⟨P.ilt i hi, (P.cov i (P.ilt i hi)).1 hi⟩
    · rintro ⟨hi, h⟩
      exact (P.cov i hi).2 h
  unfold numT
  rw [List.length_map, ← h1.length_eq, P.ilen]
/-- What search tells of a thing's part. -/
theorem find_rn {N : Nat} (hN : 300 < N) {types : List Int} (ht : history_Types N types = some 0) {p : List Event} {c : List Call} {op : List Int} (hl : p.length ≤ 200) (R : Rn N types p p.length c op) (h9 : c.length ≤ 9) : Wp (search_Find N types p) fun r => r.2.2 = 0 ∧ (r.2.1 = true → LinT types c r.1) ∧ (r.2.1 = true ↔ ∃ t, LinT types c t) ∧ (∀ s ∈ r.1, 0 ≤ s.call ∧ s.call < c.length) := by
  have hc := calls9_of (calls_of hN ht hl R) h9
  have H := hc_of hN hc
  obtain ⟨rel, X⟩ := cx9 H hN
  refine (find_wp hN hc).mono fun r ⟨h1, _, h3⟩ => ?_
  have F := h3 rfl H
  refine ⟨h1, fun hr => ?_, ?_, fun s hs => ?_⟩
  · rcases F with ⟨_, g, _⟩ | ⟨h, _⟩
    · exact (linT X).1 g
    · rw [h] at hr; cases hr
  · rw [F.iff]
    exact ⟨fun ⟨u, hu⟩ => ⟨u, (linT X).1 hu⟩, fun ⟨u, hu⟩ => ⟨u, (linT X).2 hu⟩⟩
  · rcases F with ⟨_, g, _⟩ | ⟨_, h, _⟩
    · exact ((linT X).1 g).inc s hs |>.rng
    · rw [h] at hs; cases hs
theorem lfind_wp {N : Nat} (hN : 300 < N) {types : List Int} {l : List Event} {c : List Call} (K : Chk N types l c) {op : List Int} (R : Rn N types l l.length c op) {z : Nat} (hz : z < types.length) :
    Wp (local_find N types l (z : Int)) fun r => ∃ p c' op' idx pos, SubH N types (gT (z : Int)) p l.length c c' op op' idx pos ∧ c'.length ≤ 9 ∧ (r.2 = true → LinT types c' r.1) ∧ (r.2 = true ↔ ∃ t, LinT types c' t) ∧ ∀ s ∈ r.1, 0 ≤ s.call ∧ s.call < c'.length := by
  have hlen := K.len
  unfold local_find
  refine .seq (part_wp hN K.ty hlen R hz) fun r _ ⟨_, h2, c', op', idx, pos, P⟩ => ?_
  have h9 : c'.length ≤ 9 := by rw [sub_cnt P]; exact K.few _
  exact .seq (find_rn hN K.ty (by omega) P.run h9) fun q _ ⟨_, q2, q3, q4⟩ => .one ⟨r.1, c', op', idx, pos, P, h9, q2, q3, q4⟩
theorem lives : alibkeep_localLives 18446744073709551616 = some true := by kernel_rfl
end Lc

end Go.Proofs.Ytpakplmpihhmbaa
