/- BagsNames, BagsSearch, plainly. -/
import Derived.Test.YtolneilkgjglkaaB7
set_option linter.unusedVariables false
set_option linter.unusedSimpArgs false
set_option linter.unusedSectionVars false
set_option maxRecDepth 100000
namespace Go.Proofs.Ytolneilkgjglkaa
open Go.RowKit
namespace Bg
open Hs Rl Sr
def shE (z : Int) (e : Event) : Event := if e.kind = 0 then e else ⟨e.who, e.thing, e.kind, e.value + z⟩
def shC (z : Int) (c : Call) : Call := ⟨c.who, c.thing, c.kind, c.arg + z, c.res, c.from_, c.to_⟩
theorem shE_kind (z : Int) (e : Event) : (shE z e).kind = e.kind ∧ (shE z e).who = e.who ∧ (shE z e).thing = e.thing ∧ (e.kind = 0 → (shE z e).value = e.value) := by
  unfold shE; split
  · exact ⟨rfl, rfl, rfl, fun _ => rfl⟩
  · rename_i h; exact ⟨rfl, rfl, rfl, fun h2 => (h h2).elim⟩
theorem getD_map {α β : Type} {f : α → β} {l : List α} {i : Nat} {d : α} {e : β} (h : i < l.length) : (l.map f).getD i e = f (l.getD i d) := by
  rw [getD_of (by simpa using h), getD_of h, List.getElem_map]
theorem rn_sh {N : Nat} {l : List Event} {z : Int} {k : Nat} {out : List Call} {op : List Int} (R : Rn N [4] l k out op) : ∀ {out2 : List Call} {op2 : List Int}, Rn N [4] (l.map (shE z)) k out2 op2 → out2 = out.map (shC z) ∧ op2 = op := by
  induction R with
  | zero => intro out2 op2 R2; cases R2; exact ⟨rfl, rfl⟩
  | @succ k out out' op op' R hk S ih =>
    intro out2 op2 R2
    cases R2 with
    | succ R2 hk2 S2 =>
      obtain ⟨rfl, rfl⟩ := ih R2
      rw [getD_map (d := Event.z) hk] at S2
      obtain ⟨x, hx⟩ : ∃ x, l.getD k Event.z = x := ⟨_, rfl⟩
      rw [hx] at S S2
      obtain ⟨e1, e2, e3, e4⟩ := shE_kind z x
      rcases S.how with ⟨a1, a2, a3, a4, rfl, rfl⟩ | ⟨a1, m, a2, a3, a4, a5, rfl, rfl⟩
      · rcases S2.how with ⟨b1, b2, b3, b4, rfl, rfl⟩ | ⟨b1, _⟩
        · refine ⟨?_, ?_⟩
          · rw [List.map_append, List.map_singleton]
            congr 2
            unfold begC shC shE
            rw [if_neg a1]
          · rw [e2, List.length_map]
        · rw [e1] at b1; exact (a1 b1).elim
      · rcases S2.how with ⟨b1, _⟩ | ⟨b1, m2, b2, b3, b4, b5, rfl, rfl⟩
        · rw [e1] at b1; exact (b1 a1).elim
        · rw [e2] at b2 ⊢
          obtain rfl : m2 = m := by omega
          refine ⟨?_, rfl⟩
          rw [List.map_set, e4 a1, getD_map (d := Call.z) a3]
          rfl
theorem ev_val {N : Nat} {l : List Event} {c : List Call} {op : List Int} (R : Rn N [4] l l.length c op) {k : Nat} (hk : k < l.length) (h : (l.getD k Event.z).kind ≠ 0) : 1 ≤ (l.getD k Event.z).value ∧ (l.getD k Event.z).value ≤ 1000 := by
  have W := R.wf
  obtain ⟨m, hm, h2⟩ := W.all k hk
  have O := W.one m hm
  have := (argN R m hm).2
  rcases h2 with h2 | h2
  · have h3 := O.evf.1
    rw [h2, Int.toNat_natCast] at h3
    rw [h3]; exact this
  · have h3 := O.evt (by omega)
    rw [h2, Int.toNat_natCast] at h3
    rw [h3] at h; exact (h rfl).elim
theorem runb_congr {a b : List Call} : ∀ {t : List Step} (x : Bool), (∀ s ∈ t, (D a s).kind = (D b s).kind) → runb x (t.map (D a)) = runb x (t.map (D b))
  | [], _, _ => rfl
  | s :: t, x, h => by
    have e := h s (.head _)
    show (decide ((nb x (D a s).kind).2 = s.res) && runb (nb x (D a s).kind).1 (t.map (D a))) = (decide ((nb x (D b s).kind).2 = s.res) && runb (nb x (D b s).kind).1 (t.map (D b)))
    rw [e, runb_congr _ fun s hs => h s (.tail _ hs)]
theorem lin_eq {a b : List Call} {n n' : Int} (hl : a.length = b.length) (h : ∀ j, j < a.length → (a.getD j Call.z).kind = (b.getD j Call.z).kind ∧ (a.getD j Call.z).res = (b.getD j Call.z).res ∧ ((a.getD j Call.z).to_ ≠ -1 ↔ (b.getD j Call.z).to_ ≠ -1) ∧ (a.getD j Call.z).arg = n ∧ (b.getD j Call.z).arg = n')
    (hb : ∀ i j, i < a.length → j < a.length → bfA a i j = bfA b i j) {t : List Step} (L : Lin4 a t) : Lin4 b t := by
  have hr : ∀ s ∈ t, s.call.toNat < a.length ∧ 0 ≤ s.call := fun s hs => by have := (L.inc s hs).rng; omega
  refine ⟨fun s hs => ⟨by have := hr s hs; omega, fun h2 => ?_⟩, L.pw.imp_of_mem fun {x y} hx hy h2 => ⟨h2.1, by rw [← hb _ _ (hr y hy).1 (hr x hx).1]; exact h2.2⟩, fun i hi ha => L.cm i (by omega) ((h i (by omega)).2.2.1.2 ha), fun m => ?_⟩
  · obtain ⟨_, e2, e3, _⟩ := h _ (hr s hs).1
    rw [← e2]; exact (L.inc s hs).res (e3.2 h2)
  · by_cases e : m = n'
    · subst e
      have := L.run n
      unfold fo at this ⊢
      rw [List.filter_eq_self.2] at this ⊢
      · rw [← this]
        exact (runb_congr false fun s hs => (h _ (hr s hs).1).1).symm
      · intro d hd
        obtain ⟨s, hs, rfl⟩ := List.mem_map.1 hd
        exact decide_eq_true (h _ (hr s hs).1).2.2.2.2
      · intro d hd
        obtain ⟨s, hs, rfl⟩ := List.mem_map.1 hd
        exact decide_eq_true (h _ (hr s hs).1).2.2.2.1
    · have : fo m (t.map (D b)) = [] := by
        refine filter_none fun d hd => ?_
        obtain ⟨s, hs, rfl⟩ := List.mem_map.1 hd
        exact decide_eq_false fun z => e (z.symm.trans (h _ (hr s hs).1).2.2.2.2)
      rw [this]; rfl
theorem nat_ext {s t : List Nat} (hs : s.Pairwise (· < ·)) (ht : t.Pairwise (· < ·)) (h : ∀ x, x ∈ s ↔ x ∈ t) : s = t := by
  refine List.Perm.eq_of_pairwise (le := (· < ·)) (fun a b _ _ h1 h2 => by omega) hs ht ((List.perm_ext_iff_of_nodup ?_ ?_).2 h)
  · exact hs.imp fun h => by omega
  · exact ht.imp fun h => by omega
theorem bf_sh (z : Int) (c : List Call) {i j : Nat} (hi : i < c.length) (hj : j < c.length) : bfA (c.map (shC z)) i j = bfA c i j := by
  unfold bfA
  rw [getD_map (d := Call.z) hi, getD_map (d := Call.z) hj, List.length_map]
  rfl
/-- Of another name, the same. -/
theorem lin_sh {N : Nat} {p p2 : List Event} {k : Nat} {z n : Int} {c a b : List Call} {op opa opb : List Int} {idx pos idx2 pos2 : List Nat} (P : SubH N [4] (gA n) p k c a op opa idx pos) (P2 : SubH N [4] (gA (n + z)) p2 k (c.map (shC z)) b op opb idx2 pos2) : (∃ t, Lin4 a t) ↔ ∃ t, Lin4 b t := by
  have hid : idx = idx2 := by
    refine nat_ext P.iinc P2.iinc fun x => ?_
    have key : ∀ x, x < c.length → (x ∈ idx ↔ x ∈ idx2) := fun x hx => by
      rw [P.cov x hx, P2.cov x (by rw [List.length_map]; exact hx), getD_map (d := Call.z) hx]
      show decide ((c.getD x Call.z).arg = n) = true ↔ decide ((c.getD x Call.z).arg + z = n + z) = true
      rw [decide_eq_true_eq, decide_eq_true_eq]; omega
    constructor
    · intro h; exact (key x (P.ilt x h)).1 h
    · intro h
      have := P2.ilt x h
      rw [List.length_map] at this
      exact (key x this).2 h
  subst hid
  have h1 := P.ilen
  have h2 := P2.ilen
  have hl : a.length = b.length := by omega
  have hlt : ∀ j, j < a.length → idx.getD j 0 < c.length := fun j hj => P.ilt _ (mem_getD (by omega))
  have hone : ∀ j, j < a.length → (a.getD j Call.z).kind = (b.getD j Call.z).kind ∧ (a.getD j Call.z).res = (b.getD j Call.z).res ∧ ((a.getD j Call.z).to_ ≠ -1 ↔ (b.getD j Call.z).to_ ≠ -1) ∧ (a.getD j Call.z).arg = n ∧ (b.getD j Call.z).arg = n + z := by
    intro j hj
    have O := P.one j hj
    have O2 := P2.one j (by omega)
    rw [getD_map (d := Call.z) (hlt j hj)] at O2
    refine ⟨by rw [O.kind, O2.kind]; rfl, by rw [O.res, O2.res]; rfl, ?_, sub_arg P j hj, sub_arg P2 j (by omega)⟩
    rw [← one_ans O, ← one_ans O2]
    exact Iff.rfl
  have hbf : ∀ i j, i < a.length → j < a.length → bfA a i j = bfA b i j := fun i j hi hj => by
    rw [P.bef hi hj, P2.bef (by omega) (by omega), bf_sh z c (hlt i hi) (hlt j hj)]
  exact ⟨fun ⟨t, L⟩ => ⟨t, lin_eq hl hone hbf L⟩, fun ⟨t, L⟩ => ⟨t, lin_eq hl.symm (fun j hj => by
    obtain ⟨h1, h2, h3, h4, h5⟩ := hone j (by omega)
    exact ⟨h1.symm, h2.symm, h3.symm, h5, h4⟩) (fun i j hi hj => (hbf i j (by omega) (by omega)).symm) L⟩⟩
theorem upd {α : Type} {f : α → α} {d : α} {xs m : List α} (hl : m.length = xs.length) (h : ∀ j, j < xs.length → m.getD j d = f (xs.getD j d)) : m = xs.map f := by
  apply List.ext_getElem (by simpa using hl)
  intro i h1 h2
  have := h i (by omega)
  rw [getD_of h1, getD_of (by omega)] at this
  rw [this, List.getElem_map]
theorem intEq_ok {N : Nat} {s t : List Int} (hN : s.length < N) (hs : s.length ≤ 1000) (h : s = t) : slices_Equal_int_int N s t = some true := by
  subst h
  unfold slices_Equal_int_int
  refine Wp.eq (.condF (by simp) (.elim (P := fun t => match t with | .inl _ => True | .inr _ => False) (.iter s.length (fun k v => v = (k : Int)) hN rfl ?_ ?_) (fun _ _ _ => .one rfl) (fun _ _ h => h.elim)))
  · rintro k v hk rfl
    simp only [slices_Equal_int_int_L3]
    exact .condT (decide_eq_true (by omega)) (.ix hk (.ix hk (.condF (by simp) (.ck64 (by omega) (.one (by simp))))))
  · rintro v rfl
    simp only [slices_Equal_int_int_L3]
    exact .condF (decide_eq_false (by omega)) (.one trivial)
theorem K_len {c : List Call} {K : List Int} (hK : K.Pairwise (· < ·)) (hKm : ∀ n, n ∈ K ↔ ∃ i, i < c.length ∧ (c.getD i Call.z).arg = n) : K.length ≤ c.length := by
  have h1 : K.Nodup := hK.imp fun h => by omega
  have h4 : ∀ x ∈ K, x ∈ c.map (·.arg) := fun x hx => by
    obtain ⟨i, hi, e⟩ := (hKm x).1 hx
    rw [getD_of hi] at e
    exact List.mem_map.2 ⟨_, List.getElem_mem hi, e⟩
  have := List.Nodup.length_le_of_subset h1 h4
  rwa [List.length_map] at this
theorem namesLaw {N : Nat} (hN : 5000 < N) (hL : alibkeep_bagsLives N = some true) (l : List Event) (z : Int) : alibkeep_BagsNames N l z = some true := by
  refine Wp.eq ?_
  unfold alibkeep_BagsNames
  refine .seq (check_all (by omega) l) fun r _ hr => .bdO hL (.cond (fun _ => .bdO hL (.one rfl)) fun hg => ?_)
  simp only [Bool.or_eq_false_iff, Bool.not_true, Bool.not_eq_false', decide_eq_true_eq, decide_eq_false_iff_not] at hg
  obtain ⟨⟨⟨_, h0⟩, z0⟩, z1⟩ := hg
  rcases hr with ⟨h, _⟩ | ⟨_, ht, hl, c, op, R, F, K, hK, hKm, hr1⟩
  · exact (h h0).elim
  have hcl := R.wf.len
  have hKl := K_len hK hKm
  have hrK : ∀ x ∈ r.1, 1 ≤ x ∧ x ≤ 1000 := fun x hx => by
    rw [hr1] at hx
    obtain ⟨i, hi, e⟩ := (hKm x).1 (List.mem_filter.1 hx).1
    rw [← e]; exact (argN R i hi).2
  have hrl : r.1.length ≤ 200 := by
    have := List.length_filter_le (fun n => !okF N l n) K
    rw [hr1]; omega
  refine .ck (limB_of ⟨Nat.le_trans (m := 2000) (by omega) (by decide), by omega⟩) ?_
  refine .seq (P := fun m => m = l.map (shE z)) (.iter l.length (fun k st => st.1.length = l.length ∧ (∀ j, j < l.length → st.1.getD j Event.z = if j < k then shE z (l.getD j Event.z) else l.getD j Event.z) ∧ st.2 = (k : Int)) (by omega) ⟨rfl, fun j _ => by rw [if_neg (Nat.not_lt_zero _)], rfl⟩ ?_ ?_) fun m _ hm => ?_
  · rintro k ⟨m, v⟩ hk ⟨h1, h2, hv⟩
    dsimp only at h1 h2 hv
    subst hv
    have hmk := h2 k hk
    rw [if_neg (Nat.lt_irrefl _)] at hmk
    simp only [alibkeep_BagsNames_L5]
    refine .condT (decide_eq_true (by omega)) (.ixD Event.z (by omega) (by omega) ?_)
    simp only [Int.toNat_natCast, hmk]
    refine .cond (fun h => ?_) fun h => ?_
    · have h : (l.getD k Event.z).kind ≠ 0 := by simpa using h
      have := ev_val R hk h
      refine .ck64 (by omega) (.ck64 (by omega) (.one ⟨by rw [List.length_set]; exact h1, fun j hj => ?_, by simp⟩))
      rw [getD_set2 (by omega)]
      by_cases e : j = k
      · subst e
        rw [if_pos rfl, if_pos (by omega)]
        unfold shE; rw [if_neg h]
      · rw [if_neg e, h2 j hj]
        by_cases e2 : j < k
        · rw [if_pos e2, if_pos (by omega)]
        · rw [if_neg e2, if_neg (by omega)]
    · have h : (l.getD k Event.z).kind = 0 := by simpa using h
      refine .ck64 (by omega) (.one ⟨h1, fun j hj => ?_, by simp⟩)
      rw [h2 j hj]
      by_cases e : j = k
      · subst e
        rw [if_neg (Nat.lt_irrefl _), if_pos (by omega)]
        unfold shE; rw [if_pos h]
      · by_cases e2 : j < k
        · rw [if_pos e2, if_pos (by omega)]
        · rw [if_neg e2, if_neg (by omega)]
  · rintro ⟨m, v⟩ ⟨h1, h2, hv⟩
    dsimp only at h1 h2 hv
    subst hv
    simp only [alibkeep_BagsNames_L5]
    refine .condF (decide_eq_false (by omega)) (.one (upd (d := Event.z) h1 fun j hj => ?_))
    rw [h2 j hj, if_pos hj]
  · subst hm
    refine .seq (check_all (by omega) (l.map (shE z))) fun r2 _ hr2 => .seq (P := fun b => b = r.1.map (· + z)) (.iter r.1.length (fun k st => st.1.length = r.1.length ∧ (∀ j, j < r.1.length → st.1.getD j 0 = if j < k then r.1.getD j 0 + z else r.1.getD j 0) ∧ st.2 = (k : Int)) (by omega) ⟨rfl, fun j _ => by rw [if_neg (Nat.not_lt_zero _)], rfl⟩ ?_ ?_) fun b _ hb => ?_
    · rintro k ⟨m, v⟩ hk ⟨h1, h2, hv⟩
      dsimp only at h1 h2 hv
      subst hv
      have hmk := h2 k hk
      rw [if_neg (Nat.lt_irrefl _)] at hmk
      have hx := hrK (r.1.getD k 0) (by rw [getD_of hk]; exact List.getElem_mem hk)
      simp only [alibkeep_BagsNames_L7]
      refine .condT (decide_eq_true (by omega)) (.ixD 0 (by omega) (by omega) ?_)
      simp only [Int.toNat_natCast]
      rw [hmk]
      refine .ck64 (by omega) (.ck64 (by omega) (.one ⟨by rw [List.length_set]; exact h1, fun j hj => ?_, by simp⟩))
      rw [getD_set2 (by omega)]
      by_cases e : j = k
      · subst e
        rw [if_pos rfl, if_pos (by omega)]
      · rw [if_neg e, h2 j hj]
        by_cases e2 : j < k
        · rw [if_pos e2, if_pos (by omega)]
        · rw [if_neg e2, if_neg (by omega)]
    · rintro ⟨m, v⟩ ⟨h1, h2, hv⟩
      dsimp only at h1 h2 hv
      subst hv
      simp only [alibkeep_BagsNames_L7]
      refine .condF (decide_eq_false (by omega)) (.one (upd (f := (· + z)) (d := 0) h1 fun j hj => ?_))
      rw [h2 j hj, if_pos hj]
    · subst hb
      rcases hr2 with ⟨h, _⟩ | ⟨h2, _, hl2, c2, op2, R2, F2, K2, hK2, hKm2, hr2⟩
      · rw [decide_eq_false h]
        exact .bdO (a := false) rfl (.one rfl)
      · rw [decide_eq_true h2]
        rw [List.length_map] at R2
        obtain ⟨rfl, rfl⟩ := rn_sh R R2
        have hKK : K2 = K.map (· + z) := by
          refine sorted_ext hK2 ?_ fun x => ?_
          · rw [List.pairwise_map]
            exact hK.imp fun h => by omega
          · rw [hKm2, List.mem_map, List.length_map]
            constructor
            · rintro ⟨i, hi, e⟩
              rw [getD_map (d := Call.z) hi] at e
              exact ⟨_, (hKm _).2 ⟨i, hi, rfl⟩, e⟩
            · rintro ⟨y, hy, rfl⟩
              obtain ⟨i, hi, e⟩ := (hKm y).1 hy
              refine ⟨i, hi, ?_⟩
              rw [getD_map (d := Call.z) hi, ← e]; rfl
        have hR2 : Rn N [4] (l.map (shE z)) (l.map (shE z)).length (c.map (shC z)) op2 := by rw [List.length_map]; exact R2
        have hok : ∀ x, okF N (l.map (shE z)) (x + z) = okF N l x := by
          intro x
          obtain ⟨p, rf, c', op', idx, pos, q1, q2, q3, q4, P, q5⟩ := okF_wp (by omega) ht hl R (F x)
          obtain ⟨p2, rf2, c2', op2', idx2, pos2, w1, w2, w3, w4, P2, w5⟩ := okF_wp (by omega) ht hl2 hR2 (F2 (x + z))
          rw [List.length_map] at P2
          rw [Bool.eq_iff_iff, q5, w5]
          exact (lin_sh P P2).symm
        have heq : r.1.map (· + z) = r2.1 := by
          rw [hr1, hr2, hKK, List.filter_map]
          congr 1
          refine List.filter_congr fun x _ => ?_
          show (!okF N l x) = !okF N (l.map (shE z)) (x + z)
          rw [hok x]
        refine .bdO (a := true) ?_ (.one rfl)
        refine cond_of rfl |>.trans (intEq_ok (by rw [List.length_map]; omega) (by rw [List.length_map]; omega) heq)
theorem searchLaw {N : Nat} (hN : 5000 < N) (hL : alibkeep_bagsLives N = some true) (l : List Event) : alibkeep_BagsSearch N l = some true := by
  refine Wp.eq ?_
  unfold alibkeep_BagsSearch
  obtain ⟨⟨c9, e9⟩, hc9, h9⟩ := calls9_wp (N := N) (by omega) [4] l
  refine .seq (check_all (by omega) l) fun r _ hr => .seq (find_wp (by omega) hc9) fun r2 hr2 ⟨f1, _, _⟩ => .bdO hL ?_
  rcases hr with ⟨h, e⟩ | ⟨h0, ht, hl, c, op, R, F, K, hK, hKm, hr1⟩
  · rw [decide_eq_false h]
    refine .condT rfl (.bdO hL (.one ?_))
    rw [e]; rfl
  · rw [decide_eq_true h0]
    refine .condF rfl (.one ?_)
    by_cases he : e9 = 0
    · subst he
      rcases h9 with ⟨_, H, hcc⟩ | ⟨h, _⟩
      · have hco := calls_of (by omega) ht hl R
        rw [hco] at hcc
        obtain rfl : c = c9 := by cases hcc; rfl
        obtain ⟨r3, hr3, _, hf⟩ := find_rn (by omega) ht hl R H.few
        rw [hr2] at hr3
        obtain rfl : r2 = r3 := Option.some.inj hr3
        rw [f1, decide_eq_true rfl, Bool.not_true, Bool.false_or]
        have hnd : K.Nodup := hK.imp fun h => by omega
        have key : (∃ t, Lin4 c t) ↔ ∀ n ∈ K, okF N l n = true := by
          constructor
          · rintro ⟨t, L⟩ n _
            obtain ⟨p, rf, c', op', idx, pos, q1, q2, q3, q4, P, q5⟩ := okF_wp (by omega) ht hl R (F n)
            exact q5.2 (lin_part P L)
          · intro h
            refine lin_whole (N := N) (types := [4]) (k := l.length) (op := op) (hft R) hnd (fun i hi => (hKm _).2 ⟨i, hi, rfl⟩) fun n hn => ?_
            obtain ⟨p, rf, c', op', idx, pos, q1, q2, q3, q4, P, q5⟩ := okF_wp (by omega) ht hl R (F n)
            obtain ⟨t', L⟩ := q5.1 (h n hn)
            exact ⟨p, c', op', idx, pos, t', P, L⟩
        rw [beq_iff_eq, Bool.eq_iff_iff, hf, key, decide_eq_true_eq, hr1]
        constructor
        · intro h
          rw [filter_none fun x hx => by rw [h x hx]; rfl]; rfl
        · intro h n hn
          have h : K.filter (fun n => !okF N l n) = [] := List.eq_nil_of_length_eq_zero (by omega)
          rw [List.filter_eq_nil_iff] at h
          have := h n hn
          simpa using this
      · exact (h rfl).elim
    · rw [f1, decide_eq_false he]; rfl
end Bg

end Go.Proofs.Ytolneilkgjglkaa
