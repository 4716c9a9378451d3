/- CausalAlone, plainly. -/
import Derived.Test.YtpakplmpihhmbaaW10
set_option linter.unusedVariables false
set_option linter.unusedSimpArgs false
set_option linter.unusedSectionVars false
set_option maxRecDepth 100000
namespace Go.Proofs.Ytpakplmpihhmbaa
open Go.RowKit
namespace Sr
open Rl Hs
theorem fd_gd {types : List Int} {c : List Call} {Q : Nat → Nat → Bool} {nd : Nat → Bool} (hall : ∀ i, nd i = decide (i < c.length)) (hty : ∀ j, j < types.length → types.getD j 0 = 1) (hth : ∀ m, m < c.length → 0 ≤ (c.getD m Call.z).thing ∧ (c.getD m Call.z).thing < types.length)
    (hA : ∀ m, m < c.length → Ob.Asked 1 (c.getD m Call.z).kind (c.getD m Call.z).arg ∧ ((c.getD m Call.z).kind = 1 → (c.getD m Call.z).res = 0) ∧ ((c.getD m Call.z).kind ≠ 1 → (c.getD m Call.z).kind = 2)) {p : Nat → Bool} {v : Nat → Int} (f : Ca.Fd c Q nd p v) :
    ∀ (S : List (List Int)) (w : List Nat), S.length = types.length → (∀ i, p i = decide (i ∈ w)) → (∀ x, x < types.length → Ob.OkS 1 (S.getD x []) ∧ v x = val S x) → ∃ t, Pl types c Q S w t ∧ ∀ i, i < c.length → i ∈ w ++ nums t := by
  induction f with
  | @done p v h =>
    intro S w hl hp hv
    refine ⟨[], trivial, fun i hi => ?_⟩
    have := h i
    rw [hp, hall, decide_eq_true hi] at this
    have := of_decide_eq_true this
    simp [this]
  | @step p v i h1 h2 h3 h4 h5 f ih =>
    intro S w hl hp hv
    obtain ⟨t0, t1⟩ := hth i h1
    have hx : (c.getD i Call.z).thing.toNat < types.length := by omega
    obtain ⟨a1, a2, a3⟩ := hA i h1
    obtain ⟨o1, o2⟩ := hv _ hx
    have hiw : i ∉ w := fun h => by rw [hp, decide_eq_true h] at h3; cases h3
    have hp2 : ∀ j, (p j || decide (i = j)) = decide (j ∈ w ++ [i]) := fun j => by
      rw [hp, ← Bool.decide_or, decide_eq_decide, List.mem_append, List.mem_singleton]
      exact ⟨fun h => h.imp id Eq.symm, fun h => h.imp id Eq.symm⟩
    obtain ⟨n, hn, hnv⟩ : ∃ n, Ob.nx 1 (S.getD (c.getD i Call.z).thing.toNat []) (c.getD i Call.z).kind (c.getD i Call.z).arg = some (n, (c.getD i Call.z).res) ∧ n.getD 0 0 = Ca.stV (c.getD i Call.z) v (c.getD i Call.z).thing.toNat := by
      unfold Ob.nx
      rw [if_pos ⟨o1, a1⟩]
      unfold Ob.stp Ca.stV
      rw [if_pos rfl]
      by_cases hk : (c.getD i Call.z).kind = 1
      · rw [if_pos hk, if_pos ⟨hk, rfl⟩, a2 hk]
        exact ⟨_, rfl, rfl⟩
      · rw [if_neg hk, if_neg (fun h => hk h.1), ← h5 (a3 hk), o2]
        exact ⟨_, rfl, rfl⟩
    have hok := (Ob.nx_ok hn).2.2.2
    obtain ⟨t, g1, g2⟩ := ih (S.set (c.getD i Call.z).thing.toNat n) (w ++ [i]) (by rw [List.length_set]; exact hl) hp2 (fun x hx2 => by
      rw [val_set (by omega), getD_set (by omega)]
      by_cases ex : x = (c.getD i Call.z).thing.toNat
      · rw [if_pos ex, if_pos ex, ex]
        exact ⟨hok, hnv.symm⟩
      · rw [if_neg ex, if_neg ex]
        refine ⟨(hv x hx2).1, ?_⟩
        unfold Ca.stV
        rw [if_neg (fun h => ex h.2)]
        exact (hv x hx2).2)
    refine ⟨⟨(i : Int), (c.getD i Call.z).res⟩ :: t, ⟨i, n, rfl, h1, hiw, fun j hj => ?_, fun _ => rfl, by rw [hty _ hx]; exact hn, g1⟩, fun j hj => ?_⟩
    · cases hb : Q i j with
      | false => rfl
      | true =>
        have := h4 j hb
        rw [hp, decide_eq_true hj] at this
        cases this
    · have := g2 j hj
      have e : nums ((⟨(i : Int), (c.getD i Call.z).res⟩ : Step) :: t) = i :: nums t := by simp [nums]
      rw [e]
      simpa using this
open Ca in
theorem alone_gd {N : Nat} {types : List Int} {l : List Event} {k : Nat} {c : List Call} {op : List Int} (R : Rn N types l k c op) (F : Few types c) (hone : ∀ m, m < c.length → (c.getD m Call.z).who = (c.getD 0 Call.z).who) (h : Vw c (prB c)) : ∃ t, Gd types c (bfA c) (S0 types) [] t := by
  have W := R.wf
  have hth : ∀ m, m < c.length → 0 ≤ (c.getD m Call.z).thing ∧ (c.getD m Call.z).thing < types.length := fun m hm => (W.one m hm).thing
  rcases Nat.eq_zero_or_pos c.length with h0 | h0
  · exact ⟨[], trivial, fun i hi => absurd hi (by omega)⟩
  · have w0 := (W.one 0 h0).who
    have hV := fd_mono (Q' := bfA c) (fun i j hb => by
      obtain ⟨h1, h2, h3, h4⟩ := of_decide_eq_true hb
      have hf : (c.getD i Call.z).from_ < (c.getD i Call.z).to_ := by
        rcases (W.one i h1).to with ⟨h5, _⟩ | ⟨h5, _⟩
        · exact (h3 h5).elim
        · exact h5
      exact decide_eq_true ⟨h1, h2, by rw [hone i h1, hone j h2], by omega⟩) (h (c.getD 0 Call.z).who.toNat (by omega))
    have hl0 : (S0 types).length = types.length := by simp [S0]
    obtain ⟨t, g1, g2⟩ := fd_gd (fun i => by
      unfold ndO
      by_cases hi : i < c.length
      · have e : decide ((c.getD i Call.z).who = (((c.getD 0 Call.z).who.toNat : Nat) : Int)) = true := decide_eq_true (by rw [hone i hi]; omega)
        rw [e, decide_eq_true hi]
        simp
      · simp [hi]) F.ty hth (fun m hm => by
      have O := W.one m hm
      obtain ⟨a1, a2⟩ := rn_arg R m hm
      have hT := F.ty _ (show (c.getD m Call.z).thing.toNat < types.length by have := hth m hm; omega)
      have hf := O.fit.2
      rw [hT] at hf
      have hk : (c.getD m Call.z).kind = 1 ∨ (c.getD m Call.z).kind = 2 := by
        unfold tyF at hf
        by_cases hk : (c.getD m Call.z).kind = 1 ∨ (c.getD m Call.z).kind = 2
        · exact hk
        · rw [if_neg hk] at hf
          exfalso
          revert hf
          split
          · omega
          · split
            · omega
            · split
              · omega
              · split <;> omega
      have ha := a2 (F.to m hm)
      rw [Ob.argument_ok] at a1
      rcases hk with hk | hk
      · rw [hk] at a1 ha ⊢
        have a1 : (1 ≤ (c.getD m Call.z).arg ∧ (c.getD m Call.z).arg ≤ 1000) := by simpa using a1
        have hr : history_result N 1 (c.getD m Call.z).res = some (decide ((c.getD m Call.z).res = 0)) := rfl
        rw [hr] at ha
        exact ⟨⟨by decide, rfl, fun h => by omega, fun _ => a1⟩, fun _ => by simpa using ha, fun h => (h rfl).elim⟩
      · rw [hk] at a1 ⊢
        have a1 : (c.getD m Call.z).arg = 0 := by simpa using a1
        exact ⟨⟨by decide, rfl, fun _ => a1, fun h => (h (.inl rfl)).elim⟩, fun h => by omega, fun _ => rfl⟩) hV (S0 types) [] hl0 (fun i => by simp) (fun x hx => by
      have hT := F.ty x hx
      rw [getD_of hx] at hT
      have e : (S0 types).getD x [] = [0] := by
        unfold S0
        rw [getD_of (show x < (types.map Ob.st0).length by rw [List.length_map]; exact hx), List.getElem_map, hT]
        rfl
      refine ⟨?_, ?_⟩
      · rw [e]
        exact Ob.st0_ok (typ := 1) (by unfold Ob.Ty; omega)
      · unfold val
        rw [e]; rfl)
    exact ⟨t, g1, fun i hi _ => g2 i hi⟩
end Sr

namespace Sr
open Rl Hs Ca
theorem caLaw {N : Nat} (hN : 70000 < N) (hL : alibkeep_causalLives N = some true) (types : List Int) (l : List Event) : alibkeep_CausalAlone N types l = some true := by
  refine Wp.eq ?_
  unfold alibkeep_CausalAlone
  obtain ⟨⟨c, e⟩, hc, hcs⟩ := calls9_wp (N := N) (by omega) types l
  obtain ⟨h, hh, _⟩ := calls_rn (types := types) (l := l) (N := N) (by omega)
  refine .seq (Check_wp (types := types) (l := l) hN) fun r _ hr => .seq (find_wp (by omega) hc) fun r3 _ ⟨f1, _, f3⟩ => .bdO hh ?_
  rw [f1]
  refine .seq (P := fun v => v = decide (r.2.2 ≠ 0 ∨ e ≠ 0 ∨ h.2.2 ≠ 0)) (.bdO hL (.condT rfl (.bdO (okd (by simp; omega) (by simp)) (.one ?_)))) fun v _ hv => ?_
  · rw [Bool.not_true, Bool.false_or, ← decide_not]
    refine decide_eq_decide.2 ⟨fun h1 => ?_, fun h1 h2 => ?_⟩
    · apply Classical.byContradiction
      intro h2
      have a : r.2.2 = 0 := Classical.byContradiction fun h3 => h2 (.inl h3)
      have b : e = 0 := Classical.byContradiction fun h3 => h2 (.inr (.inl h3))
      have d : h.2.2 = 0 := Classical.byContradiction fun h3 => h2 (.inr (.inr h3))
      exact h1 fun x hx => by
        rcases List.mem_cons.1 hx with rfl | hx
        · exact a
        · rcases List.mem_cons.1 hx with rfl | hx
          · exact b
          · rw [List.mem_singleton.1 hx]; exact d
    · rcases h1 with h1 | h1 | h1
      · exact h1 (h2 _ (.head _))
      · exact h1 (h2 _ (.tail _ (.head _)))
      · exact h1 (h2 _ (.tail _ (.tail _ (.head _))))
  · subst hv
    refine .cond (fun _ => .bdO hL (.one rfl)) fun h1 => ?_
    have h1 := of_decide_eq_false h1
    have a : r.2.2 = 0 := Classical.byContradiction fun h3 => h1 (.inl h3)
    have b : e = 0 := Classical.byContradiction fun h3 => h1 (.inr (.inl h3))
    rcases hcs with ⟨_, H, hcalls⟩ | ⟨h2, _⟩
    · rcases hr with ⟨_, c2, hc2, F, ha, hb⟩ | ⟨h2, _⟩
      · rw [hcalls] at hc2 hh
        obtain rfl : c = c2 := by cases hc2; rfl
        obtain rfl : h = (c, 0, 0) := by cases hh; rfl
        obtain ⟨t1, t2, op, R⟩ := rn_of (by omega) hcalls
        have hle := F.le
        refine .elim (P := fun t => match t with | .inl _ => ∀ m, m < c.length → (c.getD m Call.z).who = (c.getD 0 Call.z).who | .inr b => b = true) (.iter c.length (fun k v => v = (k : Int) ∧ ∀ m, m < k → (c.getD m Call.z).who = (c.getD 0 Call.z).who) (by omega) ⟨rfl, fun i h => absurd h (Nat.not_lt_zero _)⟩ ?_ ?_) (fun _ _ hone => ?_) (fun b _ h => .one h)
        · rintro k v hk ⟨rfl, hr⟩
          simp only [alibkeep_CausalAlone_L3]
          refine .condT (decide_eq_true (by omega)) (.ixD Call.z (by omega) (by omega) (.ixD Call.z (by omega) (by omega) ?_))
          simp only [Int.toNat_natCast, Int.toNat_zero]
          refine .cond (fun _ => .one rfl) fun h => .ck64 (by omega) (.one ⟨by simp, fun m hm => ?_⟩)
          rcases Nat.lt_or_ge m k with h1 | h1
          · exact hr m h1
          · obtain rfl : m = k := by omega
            simpa using h
        · rintro v ⟨rfl, hr⟩
          simp only [alibkeep_CausalAlone_L3]
          exact .condF (decide_eq_false (by omega)) (.one hr)
        · have hone : ∀ m, m < c.length → (c.getD m Call.z).who = (c.getD 0 Call.z).who := hone
          have Ft := (f3 b H).iff
          have ta : r3.2.1 = true → r.1 = true := fun h => by
            obtain ⟨u, g⟩ := Ft.1 h
            exact ha.2 (gd_causes R F (g.mono fun i j => prS_bf R.wf))
          have ab : r.1 = true → r.2.1 = true := fun h => hb.2 (views_weak (ha.1 h).2)
          have bt : r.2.1 = true → r3.2.1 = true := fun h => Ft.2 (alone_gd R F hone (hb.1 h))
          refine .one ?_
          cases h3 : r3.2.1 with
          | true => rw [ab (ta h3), ta h3]; rfl
          | false =>
            cases h2 : r.2.1 with
            | true => rw [bt h2] at h3; cases h3
            | false =>
              cases h1 : r.1 with
              | true => rw [ab h1] at h2; cases h2
              | false => rfl
      · exact (h2 a).elim
    · exact (h2 b).elim
end Sr

end Go.Proofs.Ytpakplmpihhmbaa
