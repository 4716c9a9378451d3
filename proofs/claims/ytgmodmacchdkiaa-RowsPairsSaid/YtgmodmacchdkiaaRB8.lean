/- RowsPairs, plainly. -/
import Derived.Test.YtgmodmacchdkiaaRB7
set_option linter.unusedVariables false
set_option linter.unusedSimpArgs false
set_option linter.unusedSectionVars false
set_option maxRecDepth 100000
namespace Go.Proofs.Ytgmodmacchdkiaa
open Go.RowKit
namespace Rw
open Hs Sr
theorem noemp_wp {N : Nat} (hN : 300 < N) {c : List Call} (hc : c.length ≤ 200) : Wp (slices_ContainsFunc_api_Call_api_Call N c) fun b => b = false → ∀ i, i < c.length → ¬ ((c.getD i Call.z).kind = 4 ∧ (c.getD i Call.z).res = -1) := by
  unfold slices_ContainsFunc_api_Call_api_Call slices_IndexFunc_api_Call_api_Call
  refine .seq (P := fun r => decide (0 ≤ r) = false → ∀ i, i < c.length → ¬ ((c.getD i Call.z).kind = 4 ∧ (c.getD i Call.z).res = -1)) (.elim (P := fun t => match t with | .inl _ => ∀ i, i < c.length → ¬ ((c.getD i Call.z).kind = 4 ∧ (c.getD i Call.z).res = -1) | .inr r => (0 : Int) ≤ r) (.iter c.length (fun (k : Nat) (v : Int) => v = (k : Int) ∧ ∀ i, i < k → ¬ ((c.getD i Call.z).kind = 4 ∧ (c.getD i Call.z).res = -1)) (by omega) ⟨rfl, fun i h => absurd h (Nat.not_lt_zero _)⟩ ?_ ?_) (fun _ _ h => .one fun _ => h) (fun r _ h => .one fun h2 => (of_decide_eq_false h2 h).elim)) fun r _ h => .one h
  · rintro k v hk ⟨rfl, h⟩
    simp only [slices_IndexFunc_api_Call_api_Call_L3]
    refine .condT (decide_eq_true (by omega)) (.ixD Call.z (by omega) (by omega) (.bdO rfl ?_))
    simp only [Int.toNat_natCast]
    refine .cond (fun h2 => .one (by omega)) fun h2 => .ck64 (by omega) (.one ⟨by simp, fun i hi => ?_⟩)
    rcases Nat.lt_or_ge i k with g | g
    · exact h i g
    · obtain rfl : i = k := by omega
      intro h3
      rw [decide_eq_true h3.1, decide_eq_true h3.2] at h2
      cases h2
  · rintro v ⟨rfl, h⟩
    simp only [slices_IndexFunc_api_Call_api_Call_L3]
    exact .condF (decide_eq_false (by omega)) (.one h)
/-- Is the event of a call of these values? -/
def Kp (c : List Call) (s : List Int) (t : Nat) : Prop := ∃ i, i < c.length ∧ mx c i ∈ s ∧ ((c.getD i Call.z).from_ = t ∨ (c.getD i Call.z).to_ = t)
theorem pickP_wp {N : Nat} (hN : 300 < N) {l : List Event} {c : List Call} {a b : Int} {s : List Int} (hl : l.length ≤ 200) (hc : c.length ≤ 200) (hs : s.length ≤ 2) (Qc : Q c) {K : Nat → Bool} (hK : ∀ t, K t = true ↔ Kp c s t) : Wp (iter (alibkeep_RowsPairs_L25 N l (c, a, b) s) N ([], 0)) fun m => m = pickE l K l.length := by
  have one : ∀ (t : Nat) {i j : Nat}, i < c.length → j < c.length → ((c.getD i Call.z).from_ = t ∨ (c.getD i Call.z).to_ = t) → ((c.getD j Call.z).from_ = t ∨ (c.getD j Call.z).to_ = t) → i = j := fun t {i j} hi hj h1 h2 => by
    rcases h1 with h1 | h1
    · rcases h2 with h2 | h2
      · exact Qc.nf i j hi hj (by omega)
      · exact (Qc.ne j i hj hi (by omega) (by omega)).elim
    · rcases h2 with h2 | h2
      · exact (Qc.ne i j hi hj (by omega) (by omega)).elim
      · exact Qc.nt i j hi hj (by omega) (by omega)
  refine .iter l.length (fun (k : Nat) (st : List Event × Int) => st.2 = (k : Int) ∧ st.1 = pickE l K k) (by omega) ⟨rfl, rfl⟩ ?_ ?_
  · rintro k ⟨m, v⟩ hk ⟨hv, hm⟩
    dsimp only at hv hm
    subst hv; subst hm
    have hp := pick_len l K k
    simp only [alibkeep_RowsPairs_L25]
    refine .condT (decide_eq_true (by omega)) (.seq (P := fun m => m = pickE l K (k + 1)) (.ixD Event.z (by omega) (by omega) ?_) fun m _ hm => .ck64 (by omega) (.one ⟨by simp, hm⟩))
    simp only [Int.toNat_natCast]
    refine .iter c.length (fun (q : Nat) (st : List Event × Int) => st.2 = (q : Int) ∧ ((st.1 = pickE l K k ∧ ∀ i, i < q → ¬ (mx c i ∈ s ∧ ((c.getD i Call.z).from_ = (k : Int) ∨ (c.getD i Call.z).to_ = (k : Int)))) ∨ (st.1 = pickE l K k ++ [l.getD k Event.z] ∧ ∃ i, i < q ∧ mx c i ∈ s ∧ ((c.getD i Call.z).from_ = (k : Int) ∨ (c.getD i Call.z).to_ = (k : Int))))) (by omega) ⟨rfl, .inl ⟨rfl, fun i h => absurd h (Nat.not_lt_zero _)⟩⟩ ?_ ?_
    · rintro q ⟨m, v⟩ hq ⟨hv, hm⟩
      dsimp only at hv hm
      subst hv
      simp only [alibkeep_RowsPairs_L27]
      refine .condT (decide_eq_true (by show (q : Int) < c.length; omega)) (.ixD Call.z (by omega) (by show (q : Int) < c.length; omega) ?_)
      simp only [Int.toNat_natCast]
      have hm0 : m.length ≤ 201 := by
        rcases hm with ⟨rfl, _⟩ | ⟨rfl, _⟩
        · omega
        · rw [List.length_append, List.length_singleton]; omega
      refine .seq (P := fun r => (((decide ((c.getD q Call.z).from_ = (k : Int))) || (decide ((c.getD q Call.z).to_ = (k : Int)))) && r) = decide (mx c q ∈ s ∧ ((c.getD q Call.z).from_ = (k : Int) ∨ (c.getD q Call.z).to_ = (k : Int)))) (.cond (fun h => (contains_wp (by omega) (by omega) _).mono fun r hr => ?_) fun h => .one ?_) fun r _ hr => ?_
      · have h : ((c.getD q Call.z).from_ = (k : Int) ∨ (c.getD q Call.z).to_ = (k : Int)) := by simpa using h
        subst hr
        rw [← Bool.decide_or, decide_eq_true h, Bool.true_and]
        exact decide_eq_decide.2 ⟨fun g => ⟨g, h⟩, fun g => g.1⟩
      · have h : ¬ ((c.getD q Call.z).from_ = (k : Int) ∨ (c.getD q Call.z).to_ = (k : Int)) := by
          intro g
          rw [← Bool.decide_or, decide_eq_true g] at h
          cases h
        rw [Bool.and_false]
        exact (decide_eq_false fun g => h g.2).symm
      rw [hr]
      refine .cond (fun h => .ck (limB_of ⟨?_, ?_⟩) (.ck64 (by omega) (.one ⟨by simp, .inr ⟨?_, q, by omega, of_decide_eq_true h⟩⟩))) fun h => .ck64 (by omega) (.one ⟨by simp, ?_⟩)
      · simp only [List.length_singleton]; exact Nat.le_trans (m := 2000) (by omega) (by decide)
      · simp only [List.length_singleton]; omega
      · rcases hm with ⟨rfl, _⟩ | ⟨_, i, i1, i2, i3⟩
        · rfl
        · have := one k (show i < c.length by omega) hq i3 (of_decide_eq_true h).2
          omega
      · rcases hm with ⟨h1, h2⟩ | ⟨h1, i, h2, h3⟩
        · refine .inl ⟨h1, fun i hi => ?_⟩
          rcases Nat.lt_or_ge i q with g | g
          · exact h2 i g
          · obtain rfl : i = q := by omega
            exact of_decide_eq_false h
        · exact .inr ⟨h1, i, by omega, h3⟩
    · rintro ⟨m, v⟩ ⟨hv, hm⟩
      dsimp only at hv hm
      subst hv
      simp only [alibkeep_RowsPairs_L27]
      refine .condF (decide_eq_false (by show ¬ (c.length : Int) < c.length; omega)) (.one ?_)
      rcases hm with ⟨rfl, h⟩ | ⟨rfl, h⟩
      · rw [pickE, if_neg]
        rw [hK]
        rintro ⟨i, h1, h2⟩
        exact h i h1 h2
      · rw [pickE, if_pos ((hK k).2 h)]
  · rintro ⟨m, v⟩ ⟨hv, hm⟩
    dsimp only at hv hm
    subst hv
    simp only [alibkeep_RowsPairs_L25]
    exact .condF (decide_eq_false (by omega)) (.one hm)
/-- What is told first is told of the values alone too. -/
theorem pair_res {N : Nat} {g : Int → Bool} {p : List Event} {k : Nat} {c d : List Call} {op op' : List Int} {idx pos : List Nat} (P : SubH N [2] g p k c d op op' idx pos) (D : Cls d) (Qc : Q c) {r : Bool × Int × Int × Int × Int} (h : Res d r) :
    (∀ i, StrayAt c i → Clo g c (c.getD i Call.z).res → r.1 = false ∧ r.2.1 = 1) ∧
    (∀ i, TwiceAt c i → (¬ ∃ i, StrayAt d i) → Clo g c (c.getD i Call.z).res → r.1 = false ∧ r.2.1 = 2) ∧
    (∀ i, EarlyAt c i → (¬ ∃ i, StrayAt d i) → (¬ ∃ i, TwiceAt d i) → Clo g c (c.getD i Call.z).res → r.1 = false ∧ r.2.1 = 3) ∧
    (∀ a b, OrdrAt c a b → (¬ ∃ i, StrayAt d i) → (¬ ∃ i, TwiceAt d i) → (¬ ∃ i, EarlyAt d i) → Clo g c (c.getD a Call.z).arg → Clo g c (c.getD b Call.z).arg → r.1 = false ∧ r.2.1 = 6) := by
  refine ⟨fun i S K => ?_, fun i S n1 K => ?_, fun i S n1 n2 K => ?_, fun a b S n1 n2 n3 Ka Kb => ?_⟩
  · have hs : ∃ j, StrayAt d j := by
      obtain ⟨j, j1, rfl⟩ := sub_ex P S.lt (K i S.lt (.inr ⟨S.dq.1, rfl⟩))
      have O := P.one j j1
      refine ⟨j, j1, by rw [O.kind, O.res]; exact S.dq, fun e he k1 k2 => ?_⟩
      have Oe := P.one e he
      exact S.no _ (sub_lt P he) (by rw [← Oe.kind]; exact k1) (by rw [← Oe.arg, ← O.res]; exact k2)
    rcases h with ⟨rfl, h, _⟩ | ⟨_, _, rfl, _⟩ | ⟨_, _, rfl, _, h⟩ | ⟨_, _, rfl, _, h, _⟩ | ⟨_, _, rfl, _, h, _⟩ | ⟨_, _, rfl, _, h, _⟩
    · exact (h hs).elim
    · exact ⟨rfl, rfl⟩
    all_goals exact (h hs).elim
  · have hs : ∃ j, TwiceAt d j := by
      obtain ⟨x, x1, x2, x3⟩ := S.is
      obtain ⟨j, j1, rfl⟩ := sub_ex P S.lt (K i S.lt (.inr ⟨S.dq.1, rfl⟩))
      have xl : x < c.length := Nat.lt_trans x1 S.lt
      obtain ⟨y, y1, rfl⟩ := sub_ex P xl (K x xl (.inr ⟨x2, x3⟩))
      have O := P.one j j1
      have Oy := P.one y y1
      exact ⟨j, j1, by rw [O.kind, O.res]; exact S.dq, y, (sub_ilt P y1 j1).1 x1, by rw [Oy.kind]; exact x2, by rw [Oy.res, O.res]; exact x3⟩
    rcases h with ⟨rfl, _, h, _⟩ | ⟨_, _, rfl, h⟩ | ⟨_, _, rfl, _, h⟩ | ⟨_, _, rfl, _, _, h⟩ | ⟨_, _, rfl, _, _, h, _⟩ | ⟨_, _, rfl, _, _, h, _⟩
    · exact (h hs).elim
    · exact (n1 ⟨_, h⟩).elim
    · exact ⟨rfl, rfl⟩
    all_goals exact (h hs).elim
  · have hs : ∃ j, EarlyAt d j := by
      obtain ⟨e, e1, e2, e3, e4⟩ := S.is
      obtain ⟨j, j1, rfl⟩ := sub_ex P S.lt (K i S.lt (.inr ⟨S.dq.1, rfl⟩))
      obtain ⟨y, y1, rfl⟩ := sub_ex P e1 (K e e1 (.inl ⟨e2, e3⟩))
      have O := P.one j j1
      have Oy := P.one y y1
      have hk : (d.getD j Call.z).kind = 4 := by rw [O.kind]; exact S.dq.1
      exact ⟨j, j1, by rw [O.kind, O.res]; exact S.dq, y, y1, by rw [Oy.kind]; exact e2, by rw [Oy.arg, O.res]; exact e3, ((sub_ah P j1 y1).2 ⟨fun q => D.dn j j1 hk ((sub_pd P j1).2 q), e4⟩).2⟩
    rcases h with ⟨rfl, _, _, h, _⟩ | ⟨_, _, rfl, h⟩ | ⟨_, _, rfl, h, _⟩ | ⟨_, _, rfl, _⟩ | ⟨_, _, rfl, _, _, _, h⟩ | ⟨_, _, rfl, _, _, _, h, _⟩
    · exact (h hs).elim
    · exact (n1 ⟨_, h⟩).elim
    · exact (n2 ⟨_, h⟩).elim
    · exact ⟨rfl, rfl⟩
    all_goals exact (h hs).elim
  · have hs : ∃ x y, OrdrAt d x y := by
      obtain ⟨w, w1, w2⟩ := S.is
      obtain ⟨x, x1, rfl⟩ := sub_ex P S.la (Ka a S.la (.inl ⟨S.ka, rfl⟩))
      obtain ⟨y, y1, rfl⟩ := sub_ex P S.lb (Kb b S.lb (.inl ⟨S.kb, rfl⟩))
      have Ox := P.one x x1
      have Oy := P.one y y1
      obtain ⟨w', w3, rfl, w4⟩ := sub_fd' P Kb w1
      refine ⟨x, y, x1, y1, by rw [Ox.kind]; exact S.ka, by rw [Oy.kind]; exact S.kb, (sub_ah P x1 y1).2 S.ah, w', by rw [Oy.arg]; exact w4, ?_⟩
      rw [Ox.arg]
      rcases w2 with w2 | ⟨z, z1, z2⟩
      · exact .inl (sub_nd' P w2)
      · obtain ⟨z', z3, rfl, z4⟩ := sub_fd' P Ka z1
        exact .inr ⟨z', z4, (sub_ah P w3 z3).2 z2⟩
    rcases h with ⟨rfl, _, _, _, h, _⟩ | ⟨_, _, rfl, h⟩ | ⟨_, _, rfl, h, _⟩ | ⟨_, _, rfl, h, _⟩ | ⟨_, _, rfl, _⟩ | ⟨_, _, rfl, _, _, _, _, h⟩
    · exact (h hs).elim
    · exact (n1 ⟨_, h⟩).elim
    · exact (n2 ⟨_, h⟩).elim
    · exact (n3 ⟨_, h⟩).elim
    · exact ⟨rfl, rfl⟩
    · exact (h hs).elim
theorem kp_E {N : Nat} {g : Int → Bool} {p : List Event} {k : Nat} {c d : List Call} {op op' : List Int} {idx pos : List Nat} {s : List Int} (P : SubH N [2] g p k c d op op' idx pos) (Qc : Q c) (kept : ∀ i, i < c.length → (g (c.getD i Call.z).from_ = true ↔ mx c i ∈ s)) {e : Nat} (he : e < d.length) (h : (d.getD e Call.z).kind = 3) : Clo g c (d.getD e Call.z).arg := by
  have O := P.one e he
  have hk := (kept _ (sub_lt P he)).1 (sub_kp P he)
  have h2 := Qc.ea _ (sub_lt P he) (O.kind ▸ h)
  unfold mx at hk
  rw [h2.2.2, ← O.arg, show max (d.getD e Call.z).arg 0 = (d.getD e Call.z).arg by rw [O.arg]; omega] at hk
  exact clo_of Qc (fun i hi h => (kept i hi).2 h) hk (by rw [O.arg]; exact h2.1)
theorem kp_D {N : Nat} {g : Int → Bool} {p : List Event} {k : Nat} {c d : List Call} {op op' : List Int} {idx pos : List Nat} {s : List Int} (P : SubH N [2] g p k c d op op' idx pos) (Qc : Q c) (C : Cls c) (kept : ∀ i, i < c.length → (g (c.getD i Call.z).from_ = true ↔ mx c i ∈ s)) {e : Nat} (he : e < d.length) (h : (d.getD e Call.z).kind = 4 ∧ (d.getD e Call.z).res ≠ -1) : Clo g c (d.getD e Call.z).res := by
  have O := P.one e he
  have hk := (kept _ (sub_lt P he)).1 (sub_kp P he)
  have h2 := Qc.da _ (sub_lt P he) (O.kind ▸ h.1)
  have h3 := h2.2.2 (C.dn _ (sub_lt P he) (O.kind ▸ h.1))
  have h4 := h.2
  rw [O.res] at h4
  unfold mx at hk
  rw [h2.1, ← O.res, show max 0 (d.getD e Call.z).res = (d.getD e Call.z).res by rw [O.res]; omega] at hk
  exact clo_of Qc (fun i hi h => (kept i hi).2 h) hk (by rw [O.res]; omega)
theorem tail_wp {N : Nat} (hN : 300 < N) {l : List Event} {c : List Call} {op : List Int} (ht : history_Types N [2] = some 0) (hl : l.length ≤ 200) (R : Rn N [2] l l.length c op) (C : Cls c) {a b : Int} {s : List Int} (hs : s.length ≤ 2) {kk : Int}
    (hS : ∀ (g : Int → Bool) (p : List Event) (d : List Call) (op' : List Int) (idx pos : List Nat), SubH N [2] g p l.length c d op op' idx pos → Cls d → (∀ v ∈ s, 1 ≤ v → Clo g c v) → (∀ e, e < d.length → (d.getD e Call.z).kind = 4 ∧ (d.getD e Call.z).res ≠ -1 → Clo g c (d.getD e Call.z).res) → ∀ r, Res d r → r.1 = false ∧ r.2.1 = kk) :
    Wp (bd (α := (List Event)) (iter (alibkeep_RowsPairs_L25 N l (c, a, b) s) N ([], 0)) fun m => bd (rows_Check N m) fun (r : (Bool × Int × Int × Int × Int)) => some (((decide (r.2.2.2.2 = 0)) && (!r.1)) && (decide (r.2.1 = kk)))) fun x => x = true := by
  have Qc := q_of hl R
  have W := R.wf
  have hcl := W.len
  have hfr : ∀ i, i < c.length → 0 ≤ (c.getD i Call.z).from_ ∧ (c.getD i Call.z).from_ < l.length := fun i hi => (W.one i hi).fr
  have hto : ∀ i, i < c.length → (c.getD i Call.z).to_ = -1 ∨ (0 ≤ (c.getD i Call.z).to_ ∧ (c.getD i Call.z).to_ < l.length) := fun i hi => by
    have := hfr i hi
    rcases (W.one i hi).to with h | h <;> omega
  obtain ⟨K, hK⟩ : ∃ K : Nat → Bool, ∀ t, K t = true ↔ Kp c s t := ⟨fun t => @decide (Kp c s t) (Classical.propDecidable _), fun t => by rw [@decide_eq_true_eq _ (Classical.propDecidable _)]⟩
  refine .seq (pickP_wp hN hl (by omega) hs Qc hK) fun m _ hm => ?_
  subst hm
  have kept : ∀ i, i < c.length → ((fun f : Int => K f.toNat) (c.getD i Call.z).from_ = true ↔ mx c i ∈ s) := fun i hi => by
    show K _ = true ↔ _
    rw [hK]
    have f := hfr i hi
    constructor
    · rintro ⟨j, j1, j2, j3 | j3⟩
      · obtain rfl := Qc.nf i j hi j1 (by omega)
        exact j2
      · exact (Qc.ne j i j1 hi (by omega) (by omega)).elim
    · exact fun h => ⟨i, hi, h, .inl (by omega)⟩
  have Kto : ∀ i, i < c.length → (c.getD i Call.z).to_ ≠ -1 → K (c.getD i Call.z).to_.toNat = K (c.getD i Call.z).from_.toNat := fun i hi h => by
    have f := hfr i hi
    have t := hto i hi
    rw [Bool.eq_iff_iff]
    refine Iff.trans ?_ (kept i hi).symm
    rw [hK]
    constructor
    · rintro ⟨j, j1, j2, j3 | j3⟩
      · exact (Qc.ne i j hi j1 h (by omega)).elim
      · obtain rfl := Qc.nt i j hi j1 h (by omega)
        exact j2
    · exact fun h2 => ⟨i, hi, h2, .inr (by omega)⟩
  obtain ⟨d, op', idx, pos, P⟩ := pick_run R Kto
  have D := sub_cls P C
  have hlen := pick_len l K l.length
  refine .seq (check_rn hN ht (by omega) P.run) fun r2 _ h2 => .one ?_
  rcases h2 with ⟨h, _⟩ | ⟨_, h2⟩
  · exact (h D).elim
  obtain ⟨g1, g2⟩ := hS _ _ _ _ _ _ P D (fun v hv h1 => clo_of Qc (fun i hi h => (kept i hi).2 h) hv h1) (fun e he h => kp_D P Qc C kept he h) r2 h2
  rw [res_fst h2, g1, g2]
  simp
theorem pairsLaw {N : Nat} (hN : 300 < N) (hL : alibkeep_rowsLives N = some true) (l : List Event) : alibkeep_RowsPairs N l = some true := by
  refine Wp.eq ?_
  unfold alibkeep_RowsPairs
  obtain ⟨q, hq, hqc⟩ := calls_rn (N := N) (types := [2]) (l := l) hN
  refine .seq (check_wp hN l) fun r _ hr => .bdO hq ?_
  refine .seq (P := fun b => b = false → r.2.2.2.2 = 0 ∧ ∀ i, i < q.1.length → ¬ ((q.1.getD i Call.z).kind = 4 ∧ (q.1.getD i Call.z).res = -1)) (.bdO hL (.condT rfl (.bdO (ok2 hN _ _) ?_))) fun b _ hb => .cond (fun _ => .bdO hL (.one rfl)) fun hg => ?_
  · by_cases h : r.2.2.2.2 = 0 ∧ q.2.2 = 0
    · rw [decide_eq_true h]
      obtain ⟨_, _, h3, _, op, R⟩ := hqc h.2
      have := R.wf.len
      refine .seq (P := fun b => b = false → ∀ i, i < q.1.length → ¬ ((q.1.getD i Call.z).kind = 4 ∧ (q.1.getD i Call.z).res = -1)) (.condT rfl (noemp_wp hN (by omega))) fun b _ hb => .one fun h2 => ⟨h.1, hb (by simpa using h2)⟩
    · rw [decide_eq_false h]
      refine .seq (P := fun _ => True) (.condF rfl (.one trivial)) fun b _ _ => .one fun h2 => ?_
      simp at h2
  obtain ⟨h0, hne⟩ := hb hg
  rcases hr with ⟨h, _⟩ | ⟨_, ht, hl, c, op, R, C, hr⟩
  · exact (h h0).elim
  have hcq := calls_of hN ht hl R
  rw [hq] at hcq
  cases hcq
  have Qc := q_of hl R
  have big : ∀ i, i < c.length → (c.getD i Call.z).kind = 4 ∧ (c.getD i Call.z).res ≠ -1 → 1 ≤ (c.getD i Call.z).res := fun i hi h => by
    have h1 := (Qc.da i hi h.1).2.2 (C.dn i hi h.1)
    have := h.2
    omega
  have val : ∀ {i : Nat}, i < c.length → ¬ ((decide ((i : Int) < 0)) || (decide (((c).length : Int) ≤ (i : Int)))) = true := fun {i} hi => by
    simp; omega
  rcases hr with ⟨rfl, _⟩ | ⟨i, b, rfl, S⟩ | ⟨i, b, rfl, S, n1⟩ | ⟨i, b, rfl, S, n1, n2⟩ | ⟨a, b, rfl, S, n1, n2, n3⟩ | ⟨i, b, rfl, S, _⟩
  · exact .condT rfl (.one rfl)
  · refine .condF rfl (.seq (P := fun x => x = .inl [(c.getD i Call.z).res]) (.condF rfl (.seq (P := fun b => b = true) (.condT rfl (.one rfl)) fun b _ hb => .condT hb (.condF (by simpa using val S.lt) (.ixD Call.z (by show (0 : Int) ≤ (i : Int); omega) (by have := S.lt; show (i : Int) < c.length; omega) (.one (by rw [Int.toNat_natCast])))))) fun x _ hx => ?_)
    subst hx
    exact tail_wp hN ht hl R C (by simp) fun g p d op' idx pos P D cl kD r h => (pair_res P D Qc h).1 i S (cl _ (by simp) (big i S.lt S.dq))
  · refine .condF rfl (.seq (P := fun x => x = .inl [(c.getD i Call.z).res]) (.condF rfl (.seq (P := fun b => b = true) (.condF rfl (.condT rfl (.one rfl))) fun b _ hb => .condT hb (.condF (by simpa using val S.lt) (.ixD Call.z (by show (0 : Int) ≤ (i : Int); omega) (by have := S.lt; show (i : Int) < c.length; omega) (.one (by rw [Int.toNat_natCast])))))) fun x _ hx => ?_)
    subst hx
    exact tail_wp hN ht hl R C (by simp) fun g p d op' idx pos P D cl kD r h => (pair_res P D Qc h).2.1 i S (fun ⟨j, S⟩ => n1 ⟨_, sub_stray P (kD j S.lt S.dq) S⟩) (cl _ (by simp) (big i S.lt S.dq))
  · refine .condF rfl (.seq (P := fun x => x = .inl [(c.getD i Call.z).res]) (.condF rfl (.seq (P := fun b => b = true) (.condF rfl (.condF rfl (.one rfl))) fun b _ hb => .condT hb (.condF (by simpa using val S.lt) (.ixD Call.z (by show (0 : Int) ≤ (i : Int); omega) (by have := S.lt; show (i : Int) < c.length; omega) (.one (by rw [Int.toNat_natCast])))))) fun x _ hx => ?_)
    subst hx
    exact tail_wp hN ht hl R C (by simp) fun g p d op' idx pos P D cl kD r h => (pair_res P D Qc h).2.2.1 i S (fun ⟨j, S⟩ => n1 ⟨_, sub_stray P (kD j S.lt S.dq) S⟩) (fun ⟨j, S⟩ => n2 ⟨_, sub_twice P S⟩) (cl _ (by simp) (big i S.lt S.dq))
  · refine .condF rfl (.seq (P := fun x => x = .inl [(c.getD a Call.z).arg, (c.getD b Call.z).arg]) (.condT rfl (.one rfl)) fun x _ hx => ?_)
    subst hx
    exact tail_wp hN ht hl R C (by simp) fun g p d op' idx pos P D cl kD r h => (pair_res P D Qc h).2.2.2 a b S (fun ⟨j, S⟩ => n1 ⟨_, sub_stray P (kD j S.lt S.dq) S⟩) (fun ⟨j, S⟩ => n2 ⟨_, sub_twice P S⟩) (fun ⟨j, S⟩ => n3 ⟨_, sub_early P D S⟩) (cl _ (by simp) (Qc.ea a S.la S.ka).1) (cl _ (by simp) (Qc.ea b S.lb S.kb).1)
  · exact (hne i S.lt S.dq).elim
end Rw

end Go.Proofs.Ytgmodmacchdkiaa
