/- RowsSearch, plainly. -/
import Derived.Test.YtgmodmacchdkiaaRC2
import Derived.Test.YtgmodmacchdkiaaRB4
set_option linter.unusedVariables false
set_option linter.unusedSimpArgs false
set_option linter.unusedSectionVars false
set_option maxRecDepth 100000
namespace Go.Proofs.Ytgmodmacchdkiaa
open Go.RowKit
namespace Rw
open Hs
theorem res_fst {c : List Call} {r : Bool × Int × Int × Int × Int} (h : Res c r) : r.2.2.2.2 = 0 := by
  rcases h with ⟨rfl, _⟩ | ⟨_, _, rfl, _⟩ | ⟨_, _, rfl, _⟩ | ⟨_, _, rfl, _⟩ | ⟨_, _, rfl, _⟩ | ⟨_, _, rfl, _⟩ <;> rfl
theorem res_true {c : List Call} {r : Bool × Int × Int × Int × Int} (h : Res c r) (h2 : r.1 = true) : (¬ ∃ i, StrayAt c i) ∧ (¬ ∃ i, TwiceAt c i) ∧ (¬ ∃ i, EarlyAt c i) ∧ (¬ ∃ a b, OrdrAt c a b) ∧ ¬ ∃ i, EmptAt c i := by
  rcases h with ⟨rfl, h⟩ | ⟨_, _, rfl, _⟩ | ⟨_, _, rfl, _⟩ | ⟨_, _, rfl, _⟩ | ⟨_, _, rfl, _⟩ | ⟨_, _, rfl, _⟩
  · exact h
  all_goals cases h2
theorem res_ok {c : List Call} {r : Bool × Int × Int × Int × Int} (h : Res c r) (h1 : ¬ ∃ i, StrayAt c i) (h2 : ¬ ∃ i, TwiceAt c i) (h3 : ¬ ∃ i, EarlyAt c i) (h4 : ¬ ∃ x y, OrdrAt c x y) (h5 : ¬ ∃ i, EmptAt c i) : r = (true, 0, 0, 0, 0) := by
  rcases h with ⟨rfl, h⟩ | ⟨_, _, _, h⟩ | ⟨_, _, _, h, _⟩ | ⟨_, _, _, h, _⟩ | ⟨_, _, _, h, _⟩ | ⟨_, _, _, h, _⟩
  · rfl
  · exact (h1 ⟨_, h⟩).elim
  · exact (h2 ⟨_, h⟩).elim
  · exact (h3 ⟨_, h⟩).elim
  · exact (h4 ⟨_, _, h⟩).elim
  · exact (h5 ⟨_, h⟩).elim
end Rw

namespace Rw
open Hs Sr
/-- Is this value there, when these calls are done? -/
def pr (c : List Call) (w : List Nat) (e : Nat) : Bool := decide (e ∈ w) && !(w.any fun d => decide ((c.getD d Call.z).kind = 4 ∧ (c.getD d Call.z).res = (c.getD e Call.z).arg))
theorem pr_iff {c : List Call} {w : List Nat} {e : Nat} : pr c w e = true ↔ e ∈ w ∧ ∀ d ∈ w, ¬ ((c.getD d Call.z).kind = 4 ∧ (c.getD d Call.z).res = (c.getD e Call.z).arg) := by
  unfold pr
  rw [Bool.and_eq_true, decide_eq_true_eq, Bool.not_eq_true', List.any_eq_false]
  simp only [decide_eq_true_eq]
def stq (c : List Call) (V w : List Nat) : List Int := (V.filter (pr c w)).map fun e => (c.getD e Call.z).arg
/-- Without the five there is a right order. -/
theorem exists_of {c : List Call} (h200 : c.length ≤ 200) (Qc : Q c) (C : Cls c) (n1 : ¬ ∃ i, StrayAt c i) (n2 : ¬ ∃ i, TwiceAt c i) (n3 : ¬ ∃ i, EarlyAt c i) (n4 : ¬ ∃ a b, OrdrAt c a b) (n5 : ¬ ∃ i, EmptAt c i) : ∃ L : List Nat, Qr c [] [] L ∧ (∀ i, i < c.length → i ∈ L) ∧ L.length = c.length := by
  have quad : ∀ e : Nat, ∃ p : Int × Int × Int × Int, e < c.length → (c.getD e Call.z).kind = 3 → Fq c e p.1 p.2.1 p.2.2.1 p.2.2.2 := fun e => by
    by_cases h : e < c.length ∧ (c.getD e Call.z).kind = 3
    · obtain ⟨ef, et, df, dt, F⟩ := fq_ex Qc C n3 h.1 h.2
      exact ⟨(ef, et, df, dt), fun _ _ => F⟩
    · exact ⟨(0, 0, 0, 0), fun h1 h2 => (h ⟨h1, h2⟩).elim⟩
  obtain ⟨f, hf⟩ := Classical.axiomOfChoice quad
  have tauX : ∀ i : Nat, ∃ τ : Int, i < c.length → (c.getD i Call.z).kind = 4 ∧ (c.getD i Call.z).res = -1 → (c.getD i Call.z).from_ ≤ τ ∧ τ < (c.getD i Call.z).to_ ∧ ¬ Cov c τ := fun i => by
    by_cases h : i < c.length ∧ (c.getD i Call.z).kind = 4 ∧ (c.getD i Call.z).res = -1
    · apply Classical.byContradiction
      intro g
      refine n5 ⟨i, h.1, h.2, fun t t1 t2 => ?_⟩
      apply Classical.byContradiction
      intro g2
      exact g ⟨t, fun _ _ => ⟨t1, t2, g2⟩⟩
    · exact ⟨0, fun h1 h2 => (h ⟨h1, h2⟩).elim⟩
  obtain ⟨tau, htau⟩ := Classical.axiomOfChoice tauX
  have ownX : ∀ d : Nat, ∃ e : Nat, d < c.length → (c.getD d Call.z).kind = 4 ∧ (c.getD d Call.z).res ≠ -1 → e < c.length ∧ (c.getD e Call.z).kind = 3 ∧ (c.getD e Call.z).arg = (c.getD d Call.z).res := fun d => by
    by_cases h : d < c.length ∧ (c.getD d Call.z).kind = 4 ∧ (c.getD d Call.z).res ≠ -1
    · apply Classical.byContradiction
      intro g
      refine n1 ⟨d, h.1, h.2, fun e e1 e2 e3 => ?_⟩
      exact g ⟨e, fun _ _ => ⟨e1, e2, e3⟩⟩
    · exact ⟨0, fun h1 h2 => (h ⟨h1, h2⟩).elim⟩
  obtain ⟨own, hown⟩ := Classical.axiomOfChoice ownX
  have fdd : ∀ {d : Nat}, d < c.length → (c.getD d Call.z).kind = 4 ∧ (c.getD d Call.z).res ≠ -1 → Fd c c.length (c.getD d Call.z).res d := fun {d} h1 h2 => ⟨h1, h2.1, rfl, fun j hj k1 k2 => n2 ⟨d, h1, h2, j, hj, k1, k2⟩⟩
  have ownu : ∀ {x d : Nat}, x < c.length → (c.getD x Call.z).kind = 3 → d < c.length → (c.getD d Call.z).kind = 4 ∧ (c.getD d Call.z).res ≠ -1 → (c.getD d Call.z).res = (c.getD x Call.z).arg → own d = x := fun {x d} hx kx hd kd e => by
    obtain ⟨o1, o2, o3⟩ := hown d hd kd
    exact C.uq _ _ o1 hx o2 kx (by rw [o3, e])
  have argp : ∀ {x : Nat}, x < c.length → (c.getD x Call.z).kind = 3 → (c.getD x Call.z).arg ≠ -1 := fun {x} hx kx => by
    have := Qc.ea x hx kx
    omega
  -- the values in a row
  obtain ⟨V, V1, V2⟩ := topo (fun e => (f e).2.1) (fun e => (f e).1) (fun e => (f e).2.2.2) (fun e => (f e).2.2.1) _ ((List.range c.length).filter fun e => decide ((c.getD e Call.z).kind = 3)) rfl (fun v hv => by
      have hv := List.mem_filter.1 hv
      have F := hf v (List.mem_range.1 hv.1) (of_decide_eq_true hv.2)
      exact ⟨F.ee, F.dd⟩) (fun u hu v hv h1 h2 => by
      have hu := List.mem_filter.1 hu
      have hv := List.mem_filter.1 hv
      have hul := List.mem_range.1 hu.1
      have hvl := List.mem_range.1 hv.1
      have ku := of_decide_eq_true hu.2
      have kv := of_decide_eq_true hv.2
      exact no_cyc Qc C n3 n4 hul ku hvl kv (hf u hul ku) (hf v hvl kv) h1 h2)
  have Vm : ∀ {x : Nat}, x ∈ V ↔ x < c.length ∧ (c.getD x Call.z).kind = 3 := fun {x} => by
    rw [V1.mem_iff, List.mem_filter, List.mem_range, decide_eq_true_eq]
  have Vn : V.Nodup := V1.nodup_iff.2 (List.nodup_range.sublist List.filter_sublist)
  have Vl : V.length ≤ 200 := by
    have h1 := V1.length_eq
    have h2 := List.length_filter_le (fun e => decide ((c.getD e Call.z).kind = 3)) (List.range c.length)
    rw [List.length_range] at h2
    omega
  obtain ⟨X, Y, R, W1, W2⟩ := points (fun e => (f e).1) (fun e => (f e).2.1) (fun e => (f e).2.2.1) (fun e => (f e).2.2.2) (fun t => ∃ τ : Int, t = 2 * τ ∧ 0 ≤ τ ∧ τ < 200 ∧ ¬ Cov c τ) V (-1) (-1) 0 Vn V2 (fun v hv => by
      obtain ⟨h1, h2⟩ := Vm.1 hv
      have F := hf v h1 h2
      have t := Qc.tm v h1
      have a1 := F.lo
      have a2 := F.ee
      have a3 := F.ed
      have a4 := F.dd
      refine ⟨a2, a4, a3, by omega, by omega, ?_⟩
      rintro _ ⟨τ, rfl, t0, t1, t2⟩
      exact F.T τ t0 t1 t2) (by omega) (fun τ _ => Iff.rfl)
  -- when each call is done
  obtain ⟨K, hK3, hKe, hKd⟩ : ∃ K : Nat → Int, (∀ i, (c.getD i Call.z).kind = 3 → K i = X i * 3000 + R i) ∧ (∀ i, (c.getD i Call.z).kind = 4 → (c.getD i Call.z).res = -1 → K i = tau i * 6000 + 2000) ∧ (∀ i, (c.getD i Call.z).kind = 4 → (c.getD i Call.z).res ≠ -1 → K i = Y (own i) * 3000 + 1000 + R (own i)) := by
    refine ⟨fun i => if (c.getD i Call.z).kind = 3 then X i * 3000 + R i else if (c.getD i Call.z).res = -1 then tau i * 6000 + 2000 else Y (own i) * 3000 + 1000 + R (own i), fun i h => if_pos h, fun i h h2 => ?_, fun i h h2 => ?_⟩
    · exact (if_neg (by omega)).trans (if_pos h2)
    · exact (if_neg (by omega)).trans (if_neg h2)
  have pt : ∀ i, i < c.length → ∃ p : Int, 2 * (c.getD i Call.z).from_ ≤ p ∧ ((c.getD i Call.z).to_ ≠ -1 → p ≤ 2 * (c.getD i Call.z).to_) ∧ p * 3000 ≤ K i ∧ K i < p * 3000 + 3000 := fun i hi => by
    rcases Qc.kd i hi with k | k
    · have w := W2 i (Vm.2 ⟨hi, k⟩)
      have F := hf i hi k
      have a1 := F.lo
      have a2 := F.hi
      exact ⟨X i, by omega, fun h => by have := a2 h; omega, by rw [hK3 i k]; omega, by rw [hK3 i k]; omega⟩
    · by_cases r : (c.getD i Call.z).res = -1
      · have t := htau i hi ⟨k, r⟩
        exact ⟨2 * tau i, by omega, fun _ => by omega, by rw [hKe i k r]; omega, by rw [hKe i k r]; omega⟩
      · obtain ⟨o1, o2, o3⟩ := hown i hi ⟨k, r⟩
        have w := W2 _ (Vm.2 ⟨o1, o2⟩)
        have F := hf _ o1 o2
        have q := F.dq i (by rw [o3]; exact fdd hi ⟨k, r⟩)
        exact ⟨Y (own i), by omega, fun _ => by omega, by rw [hKd i k r]; omega, by rw [hKd i k r]; omega⟩
  have real : ∀ i j, i < c.length → K i ≤ K j → bfA c j i = false := fun i j hi h => by
    unfold bfA
    refine decide_eq_false fun ⟨h1, _, h3, h4⟩ => ?_
    obtain ⟨p, p1, p2, p3, p4⟩ := pt i hi
    obtain ⟨q, q1, q2, q3, q4⟩ := pt j h1
    have := q2 h3
    omega
  obtain ⟨L, L1, L2⟩ := topo K K K K _ (List.range c.length) rfl (fun v _ => ⟨Int.le_refl _, Int.le_refl _⟩) (fun u _ v _ h1 h2 => by omega)
  have Lm : ∀ {x : Nat}, x ∈ L ↔ x < c.length := fun {x} => by rw [L1.mem_iff, List.mem_range]
  have Ln : L.Nodup := L1.nodup_iff.2 List.nodup_range
  refine ⟨L, ?_, fun i hi => Lm.2 hi, by rw [L1.length_eq, List.length_range]⟩
  have main : ∀ (t w : List Nat), w ++ t = L → Qr c (stq c V w) w t := by
    intro t
    induction t with
    | nil => exact fun _ _ => trivial
    | cons i t ih =>
      intro w e
      have nd := Ln
      rw [← e] at nd
      obtain ⟨nd1, nd2, nd3⟩ := List.nodup_append.1 nd
      have hiw : i ∉ w := fun h => nd3 i h i (.head _) rfl
      have hil : i < c.length := Lm.1 (by rw [← e]; simp)
      have pw := L2
      rw [← e] at pw
      obtain ⟨pw1, pw2, pw3⟩ := List.pairwise_append.1 pw
      have within : ∀ j ∈ w, K j ≤ K i := fun j hj => (pw3 j hj i (.head _)).1
      have before : ∀ j, j < c.length → K j < K i → j ∈ w := fun j hj hk => by
        have hm : j ∈ L := Lm.2 hj
        rw [← e] at hm
        rcases List.mem_append.1 hm with h | h
        · exact h
        · exfalso
          rcases List.mem_cons.1 h with rfl | h
          · omega
          · have := ((List.pairwise_cons.1 pw2).1 j h).1
            omega
      have wl : ∀ j ∈ w, j < c.length := fun j hj => Lm.1 (by rw [← e]; exact List.mem_append.2 (.inl hj))
      have ih := ih (w ++ [i]) (by rw [← e]; simp)
      refine ⟨hil, hiw, fun j hj => real j i (wl j hj) (within j hj), ?_⟩
      have same : ∀ x, x ≠ i → ((c.getD i Call.z).kind = 4 → (c.getD i Call.z).res ≠ (c.getD x Call.z).arg) → pr c (w ++ [i]) x = pr c w x := fun x hx hr => by
        rw [Bool.eq_iff_iff, pr_iff, pr_iff]
        constructor
        · rintro ⟨h1, h2⟩
          refine ⟨?_, fun d hd => h2 d (List.mem_append.2 (.inl hd))⟩
          rcases List.mem_append.1 h1 with h | h
          · exact h
          · exact (hx (List.mem_singleton.1 h)).elim
        · rintro ⟨h1, h2⟩
          refine ⟨List.mem_append.2 (.inl h1), fun d hd => ?_⟩
          rcases List.mem_append.1 hd with h | h
          · exact h2 d h
          · rw [List.mem_singleton.1 h]
            exact fun g => hr g.1 g.2
      rcases Qc.kd i hil with k | k
      · obtain ⟨A, B, hV⟩ := List.append_of_mem (Vm.2 ⟨hil, k⟩)
        have vn := Vn
        rw [hV] at vn
        obtain ⟨vn1, vn2, vn3⟩ := List.nodup_append.1 vn
        have vp := W1
        rw [hV] at vp
        obtain ⟨_, vp2, vp3⟩ := List.pairwise_append.1 vp
        have wi := W2 i (Vm.2 ⟨hil, k⟩)
        have hA : ∀ x ∈ A, pr c (w ++ [i]) x = pr c w x := fun x hx => same x (fun g => vn3 x hx i (.head _) g) (fun g => by omega)
        have hB : ∀ x ∈ B, pr c (w ++ [i]) x = false ∧ pr c w x = false := fun x hx => by
          have hne : x ≠ i := fun g => (List.nodup_cons.1 vn2).1 (g ▸ hx)
          have hw : pr c w x = false := by
            rw [← Bool.not_eq_true, pr_iff]
            rintro ⟨h1, _⟩
            have h2 := within x h1
            have h3 := (List.pairwise_cons.1 vp2).1 x hx
            have hxV : x ∈ V := by rw [hV]; simp [hx]
            rw [hK3 i k, hK3 x (Vm.1 hxV).2] at h2
            omega
          exact ⟨by rw [same x hne fun g => by omega]; exact hw, hw⟩
        have hi1 : pr c w i = false := by
          rw [← Bool.not_eq_true, pr_iff]
          exact fun h => hiw h.1
        have hi2 : pr c (w ++ [i]) i = true := by
          rw [pr_iff]
          refine ⟨by simp, fun d hd hq => ?_⟩
          rcases List.mem_append.1 hd with h | h
          · have hdl := wl d h
            have kd : (c.getD d Call.z).kind = 4 ∧ (c.getD d Call.z).res ≠ -1 := ⟨hq.1, by rw [hq.2]; exact argp hil k⟩
            have ho := ownu hil k hdl kd hq.2
            have h2 := within d h
            rw [hKd d kd.1 kd.2, ho, hK3 i k] at h2
            omega
          · rw [List.mem_singleton.1 h] at hq
            omega
        have fB : ∀ w', (∀ x ∈ B, pr c w' x = false) → B.filter (pr c w') = [] := fun w' h => List.filter_eq_nil_iff.2 fun x hx => by rw [h x hx]; decide
        have e1 : stq c V w = (A.filter (pr c w)).map fun e => (c.getD e Call.z).arg := by
          unfold stq
          rw [hV, List.filter_append, List.filter_cons, hi1, if_neg (by decide), fB w fun x hx => (hB x hx).2, List.append_nil]
        have e2 : stq c V (w ++ [i]) = stq c V w ++ [(c.getD i Call.z).arg] := by
          rw [e1]
          unfold stq
          rw [hV, List.filter_append, List.filter_cons, hi2, if_pos rfl, fB (w ++ [i]) fun x hx => (hB x hx).1, List.filter_congr hA, List.map_append]
          rfl
        rw [e2] at ih
        exact .inl ⟨k, ih⟩
      · by_cases r : (c.getD i Call.z).res = -1
        · have hc : ∀ x ∈ V, pr c (w ++ [i]) x = pr c w x := fun x hx => by
            obtain ⟨x1, x2⟩ := Vm.1 hx
            refine same x (fun g => by subst g; omega) fun _ g => ?_
            exact argp x1 x2 (by rw [← g, r])
          have tt := htau i hil ⟨k, r⟩
          have ti := Qc.tm i hil
          have hz : stq c V w = [] := by
            unfold stq
            rw [List.map_eq_nil_iff]
            refine List.filter_eq_nil_iff.2 fun x hx => ?_
            rw [pr_iff]
            rintro ⟨h1, h2⟩
            obtain ⟨x1, x2⟩ := Vm.1 hx
            have h3 := within x h1
            rw [hKe i k r, hK3 x x2] at h3
            have w2 := W2 x hx
            have hT := w2.2.2.2.2.2.2.2.2.2 (2 * tau i) ⟨tau i, rfl, by omega, by omega, tt.2.2⟩
            have F := hf x x1 x2
            rcases fd_or c (c.getD x Call.z).arg c.length with hN | ⟨d, hd⟩
            · rcases F.E3 with ⟨d, hd, _⟩ | ⟨_, _, q⟩
              · exact hN d hd.1 hd.2.1 hd.2.2.1
              · omega
            · have kd : (c.getD d Call.z).kind = 4 ∧ (c.getD d Call.z).res ≠ -1 := ⟨hd.2.1, by rw [hd.2.2.1]; exact argp x1 x2⟩
              have ho := ownu x1 x2 hd.1 kd hd.2.2.1
              refine h2 d (before d hd.1 ?_) ⟨hd.2.1, hd.2.2.1⟩
              rw [hKd d kd.1 kd.2, ho, hKe i k r]
              omega
          have hz2 : stq c V (w ++ [i]) = [] := by
            have : stq c V (w ++ [i]) = stq c V w := by unfold stq; rw [List.filter_congr hc]
            rw [this, hz]
          rw [hz2] at ih
          exact .inr (.inl ⟨k, hz, r, ih⟩)
        · obtain ⟨o1, o2, o3⟩ := hown i hil ⟨k, r⟩
          have hoV := Vm.2 ⟨o1, o2⟩
          obtain ⟨A, B, hV⟩ := List.append_of_mem hoV
          have vn := Vn
          rw [hV] at vn
          obtain ⟨vn1, vn2, vn3⟩ := List.nodup_append.1 vn
          have vp := W1
          rw [hV] at vp
          obtain ⟨_, vp2, vp3⟩ := List.pairwise_append.1 vp
          have wo := W2 _ hoV
          have Fo := hf _ o1 o2
          have qo := Fo.dq i (by rw [o3]; exact fdd hil ⟨k, r⟩)
          have ti := Qc.tm i hil
          have hA : ∀ x ∈ A, pr c (w ++ [i]) x = false ∧ pr c w x = false := fun x hx => by
            have hxV : x ∈ V := by rw [hV]; simp [hx]
            obtain ⟨x1, x2⟩ := Vm.1 hxV
            have w2 := W2 x hxV
            have h3 := vp3 x hx (own i) (.head _)
            have F := hf x x1 x2
            have : ∃ d, d ∈ w ∧ ((c.getD d Call.z).kind = 4 ∧ (c.getD d Call.z).res = (c.getD x Call.z).arg) := by
              rcases fd_or c (c.getD x Call.z).arg c.length with hN | ⟨d, hd⟩
              · exfalso
                rcases F.E3 with ⟨d, hd, _⟩ | ⟨_, _, q⟩
                · exact hN d hd.1 hd.2.1 hd.2.2.1
                · omega
              · have kd : (c.getD d Call.z).kind = 4 ∧ (c.getD d Call.z).res ≠ -1 := ⟨hd.2.1, by rw [hd.2.2.1]; exact argp x1 x2⟩
                have ho := ownu x1 x2 hd.1 kd hd.2.2.1
                refine ⟨d, before d hd.1 ?_, hd.2.1, hd.2.2.1⟩
                rw [hKd d kd.1 kd.2, ho, hKd i k r]
                omega
            obtain ⟨d, d1, d2⟩ := this
            constructor
            · rw [← Bool.not_eq_true, pr_iff]
              exact fun h => h.2 d (List.mem_append.2 (.inl d1)) d2
            · rw [← Bool.not_eq_true, pr_iff]
              exact fun h => h.2 d d1 d2
          have hB : ∀ x ∈ B, pr c (w ++ [i]) x = pr c w x := fun x hx => by
            have hxV : x ∈ V := by rw [hV]; simp [hx]
            obtain ⟨x1, x2⟩ := Vm.1 hxV
            refine same x (fun g => by subst g; omega) fun _ g => ?_
            have := ownu x1 x2 hil ⟨k, r⟩ g
            exact (List.nodup_cons.1 vn2).1 (by rw [this]; exact hx)
          have hi1 : pr c w (own i) = true := by
            rw [pr_iff]
            refine ⟨before _ o1 (by rw [hK3 _ o2, hKd i k r]; omega), fun d hd hq => ?_⟩
            have kd : (c.getD d Call.z).kind = 4 ∧ (c.getD d Call.z).res ≠ -1 := ⟨hq.1, by rw [hq.2]; exact argp o1 o2⟩
            have h1 := fdd (wl d hd) kd
            have h2 := fdd hil ⟨k, r⟩
            rw [hq.2, o3] at h1
            obtain rfl := fd_uq h1 h2
            exact hiw hd
          have hi2 : pr c (w ++ [i]) (own i) = false := by
            rw [← Bool.not_eq_true, pr_iff]
            exact fun h => h.2 i (by simp) ⟨k, o3.symm⟩
          have fA : ∀ w', (∀ x ∈ A, pr c w' x = false) → A.filter (pr c w') = [] := fun w' h => List.filter_eq_nil_iff.2 fun x hx => by rw [h x hx]; decide
          have e2 : stq c V (w ++ [i]) = (B.filter (pr c w)).map fun e => (c.getD e Call.z).arg := by
            unfold stq
            rw [hV, List.filter_append, List.filter_cons, hi2, if_neg (by decide), fA (w ++ [i]) fun x hx => (hA x hx).1, List.filter_congr hB, List.nil_append]
          have e1 : stq c V w = (c.getD i Call.z).res :: stq c V (w ++ [i]) := by
            rw [e2, ← o3]
            unfold stq
            rw [hV, List.filter_append, List.filter_cons, hi1, if_pos rfl, fA w fun x hx => (hA x hx).2]
            rfl
          exact .inr (.inr ⟨k, _, e1, ih⟩)
  have hfin := main L [] rfl
  have h0 : stq c V [] = [] := by
    unfold stq
    rw [List.map_eq_nil_iff]
    refine List.filter_eq_nil_iff.2 fun x _ => ?_
    rw [pr_iff]
    exact fun h => (nomatch h.1)
  rw [h0] at hfin
  exact hfin
theorem S02 : S0 [2] = [[]] := by simp [S0, Ob.st0]
theorem searchLaw {N : Nat} (hN : 300 < N) (hL : alibkeep_rowsLives N = some true) (l : List Event) : alibkeep_RowsSearch N l = some true := by
  refine Wp.eq ?_
  unfold alibkeep_RowsSearch
  obtain ⟨⟨c9, e9⟩, hc9, h9⟩ := calls9_wp (N := N) hN [2] l
  refine .seq (check_wp hN l) fun r _ hr => .seq (Sr.find_wp hN hc9) fun r3 _ ⟨f1, _, f3⟩ => .bdO hL (.cond (fun hg => .bdO hL (.one ?_)) fun hg => .one ?_)
  · have hg : r.2.2.2.2 ≠ 0 := by simpa using hg
    rcases hr with ⟨_, h⟩ | ⟨h, _⟩
    · rw [h]; rfl
    · exact (hg h).elim
  have hg : r.2.2.2.2 = 0 := by simpa using hg
  rcases hr with ⟨h, _⟩ | ⟨_, ht, hl, c, op, R, C, hr⟩
  · exact (h hg).elim
  have Qc := q_of hl R
  have hcl := R.wf.len
  have hth : ∀ i, i < c.length → (c.getD i Call.z).thing = 0 := fun i hi => by
    have := (R.wf.one i hi).thing
    simp only [List.length_singleton] at this; omega
  have hA : ∀ i, i < c.length → Ob.Asked 2 (c.getD i Call.z).kind (c.getD i Call.z).arg := fun i hi => by
    have := asked_of R hi
    rw [hth i hi] at this
    exact this
  have e1 : (r.1 == decide (Bad.mk r.2.1 r.2.2.1 r.2.2.2.1 = Bad.mk 0 0 0)) = true := by
    rcases hr with ⟨rfl, _⟩ | ⟨_, _, rfl, _⟩ | ⟨_, _, rfl, _⟩ | ⟨_, _, rfl, _⟩ | ⟨_, _, rfl, _⟩ | ⟨_, _, rfl, _⟩
    · rfl
    all_goals (rw [decide_eq_false (fun h => by have h1 := (Bad.mk.inj h).1; simp at h1)]; rfl)
  rw [e1, Bool.true_and]
  by_cases he : r3.2.2 = 0
  case neg => rw [decide_eq_false he]; rfl
  rw [decide_eq_true he, Bool.not_true, Bool.false_or, beq_iff_eq]
  have he9 : e9 = 0 := by omega
  rcases h9 with ⟨_, H, hcalls⟩ | ⟨x, _⟩
  case inr => exact (x he9).elim
  rw [calls_of hN ht hl R] at hcalls
  have ec : c = c9 := (Prod.mk.inj (Option.some.inj hcalls)).1
  subst ec
  rcases f3 he9 H with ⟨y, g, _⟩ | ⟨y, _, hno⟩
  · rw [y]
    have g1 : Pl [2] c (bfA c) [[]] [] r3.1 := by rw [← S02]; exact g.1
    have g2 : ∀ i, i < c.length → (c.getD i Call.z).to_ ≠ -1 → i ∈ nums r3.1 := fun i hi h => by simpa using g.2 i hi h
    obtain ⟨p1, p2, p3, p4, p5⟩ := none_of C Qc (qr_of C Qc hth g1) g2
    rw [res_ok hr p1 p2 p3 p4 p5]
  · rw [y]
    cases hb : r.1 with
    | false => rfl
    | true =>
      obtain ⟨p1, p2, p3, p4, p5⟩ := res_true hr hb
      obtain ⟨L, q1, q2, q3⟩ := exists_of (by omega) Qc C p1 p2 p3 p4 p5
      have few : c.length ≤ 9 := H.few
      refine (hno (L.map fun (i : Nat) => (⟨(i : Int), (c.getD i Call.z).res⟩ : Step)) ⟨?_, ?_⟩).elim
      · rw [S02]
        exact pl_of hA Qc hth (by simp only [List.length_nil]; omega) (fun n h => (nomatch h)) q1
      · intro i hi _
        have hm := q2 i hi
        rw [List.nil_append]
        unfold nums
        rw [List.map_map]
        exact List.mem_map.2 ⟨i, hm, by simp⟩
end Rw

end Go.Proofs.Ytgmodmacchdkiaa
