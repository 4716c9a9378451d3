/- SearchFront, plainly. -/
import Derived.Test.YtpakplmpihhmbaaL6
import Derived.Test.YtpakplmpihhmbaaL7
set_option linter.unusedVariables false
set_option linter.unusedSimpArgs false
set_option linter.unusedSectionVars false
set_option maxRecDepth 100000
namespace Go.Proofs.Ytpakplmpihhmbaa
open Go.RowKit
namespace Sr
open Rl Hs
/-- A begin's calls, and those of more. -/
structure Pre (n : Nat) (a b : List Call) : Prop where
  len : a.length ≤ b.length
  old : ∀ m, m < a.length → ((b.getD m Call.z).who = (a.getD m Call.z).who ∧ (b.getD m Call.z).thing = (a.getD m Call.z).thing ∧ (b.getD m Call.z).kind = (a.getD m Call.z).kind ∧ (b.getD m Call.z).arg = (a.getD m Call.z).arg ∧ (b.getD m Call.z).from_ = (a.getD m Call.z).from_) ∧ ((a.getD m Call.z).to_ ≠ -1 → b.getD m Call.z = a.getD m Call.z) ∧ ((a.getD m Call.z).to_ = -1 → (b.getD m Call.z).to_ = -1 ∨ (n : Int) ≤ (b.getD m Call.z).to_)
  new : ∀ m, a.length ≤ m → m < b.length → (n : Int) ≤ (b.getD m Call.z).from_
theorem Pre.refl (n : Nat) (a : List Call) : Pre n a a := ⟨Nat.le_refl _, fun m _ => ⟨⟨rfl, rfl, rfl, rfl, rfl⟩, fun _ => rfl, fun h => .inl h⟩, fun m h1 h2 => absurd h2 (by omega)⟩
theorem Pre.step {N : Nat} {types : List Int} {l : List Event} {n k : Nat} {a b b' : List Call} {op op' : List Int} {v : Event} (P : Pre n a b) (W : WF types l k b op) (hn : n ≤ k) (S : StpX N types b op (k : Int) v b' op') : Pre n a b' := by
  have hlen := P.len
  rcases S.how with ⟨_, _, _, _, rfl, _⟩ | ⟨_, m0, hm, hml, _, _, rfl, _⟩
  · refine ⟨by simp; omega, fun m hm => ?_, fun m h1 h2 => ?_⟩
    · rw [getD_app, if_pos (by omega)]
      exact P.old m hm
    · rw [getD_app]
      by_cases h : m < b.length
      · rw [if_pos h]; exact P.new m h1 h
      · rw [List.length_append, List.length_singleton] at h2
        rw [if_neg h, if_pos (by omega)]
        simp only [begC]; omega
  · have hpend : (b.getD m0 Call.z).to_ = -1 := by
      obtain ⟨h1, h2⟩ := S.who
      exact ((W.pen v.who.toNat (by omega)).2.2 m0 hm).2
    refine ⟨by rw [List.length_set]; exact hlen, fun m hm2 => ?_, fun m h1 h2 => ?_⟩
    · rw [getD_set2 hml]
      by_cases e : m = m0
      · subst e
        rw [if_pos rfl]
        obtain ⟨o1, o2, _⟩ := P.old m hm2
        have ht : (a.getD m Call.z).to_ = -1 := by
          apply Classical.byContradiction
          intro h
          have := o2 h
          rw [this] at hpend
          exact h hpend
        exact ⟨o1, fun h => (h ht).elim, fun _ => .inr (by simp only [endC]; omega)⟩
      · rw [if_neg e]; exact P.old m hm2
    · rw [List.length_set] at h2
      rw [getD_set2 hml]
      by_cases e : m = m0
      · subst e
        rw [if_pos rfl]
        exact P.new m h1 h2
      · rw [if_neg e]; exact P.new m h1 h2
theorem Rn.pre {N : Nat} {types : List Int} {l : List Event} {k : Nat} {out : List Call} {op : List Int} (R : Rn N types l k out op) : ∀ n, n ≤ k → ∃ a oa, Rn N types l n a oa ∧ Pre n a out := by
  induction R with
  | zero => exact fun n hn => ⟨[], [], by obtain rfl : n = 0 := by omega
                                          exact .zero, .refl n []⟩
  | @succ k out out' op op' R hk S ih =>
    intro n hn
    rcases Nat.lt_or_ge n (k + 1) with h | h
    · obtain ⟨a, oa, h1, h2⟩ := ih n (by omega)
      exact ⟨a, oa, h1, h2.step R.wf (by omega) S⟩
    · obtain rfl : n = k + 1 := by omega
      exact ⟨out', op', .succ R hk S, .refl _ _⟩
theorem Rn.take {N : Nat} {types : List Int} {l : List Event} {n m : Nat} {a : List Call} {oa : List Int} (R : Rn N types l n a oa) (h : n ≤ m) : Rn N types (l.take m) n a oa := by
  induction R with
  | zero => exact .zero
  | @succ k out out' op op' R hk S ih =>
    refine .succ (ih (by omega)) (by rw [List.length_take]; omega) ?_
    have e : (l.take m).getD k Event.z = l.getD k Event.z := by
      rw [List.getD_eq_getElem?_getD, List.getElem?_take, if_pos (by omega), ← List.getD_eq_getElem?_getD]
    rw [e]; exact S
theorem Ac.free {c : List Call} {q : Nat → Nat → Bool} : ∀ {t : List Step} {w : List Nat}, Ac c q w t → ∀ i ∈ nums t, ∀ j ∈ w, q i j = false
  | [], _, _, i, hi, _, _ => by simp [nums] at hi
  | s :: t, w, ⟨k, h1, h2, h3, h4, h5, h6⟩, i, hi, j, hj => by
    have e : nums (s :: t) = k :: nums t := by simp [nums, h1]
    rw [e] at hi
    rcases List.mem_cons.1 hi with rfl | hi
    · exact h4 j hj
    · exact Ac.free h6 i hi j (List.mem_append.2 (.inl hj))
theorem pl_ac {types : List Int} {c : List Call} {q : Nat → Nat → Bool} : ∀ {t : List Step} {S : List (List Int)} {w : List Nat}, Pl types c q S w t → Ac c q w t
  | [], _, _, _ => trivial
  | s :: t, S, w, ⟨i, n, h1, h2, h3, h4, h5, _, h7⟩ => ⟨i, h1, h2, h3, h4, h5, pl_ac h7⟩
theorem bfA_pre {n : Nat} {a c : List Call} (P : Pre n a c) {i j : Nat} (h : bfA a i j = true) : bfA c i j = true := by
  unfold bfA at h ⊢
  have h := of_decide_eq_true h
  obtain ⟨h1, h2, h3, h4⟩ := h
  have hl := P.len
  obtain ⟨_, o2, _⟩ := P.old i h1
  obtain ⟨⟨_, _, _, _, o5⟩, _, _⟩ := P.old j h2
  rw [o2 h3, o5]
  exact decide_eq_true ⟨by omega, by omega, h3, h4⟩
theorem pl_front {types : List Int} {n : Nat} {a c : List Call} (P : Pre n a c) : ∀ {t : List Step} {S : List (List Int)} {w : List Nat}, Pl types c (bfA c) S w t → Pl types a (bfA a) S w (t.takeWhile fun s => decide (s.call < (a.length : Int)))
  | [], _, _, _ => trivial
  | s :: t, S, w, ⟨i, m, h1, h2, h3, h4, h5, h6, h7⟩ => by
    rw [List.takeWhile_cons]
    by_cases h : s.call < (a.length : Int)
    · rw [if_pos (decide_eq_true h)]
      have hi : i < a.length := by omega
      obtain ⟨⟨_, o1, o3, o4, _⟩, o2, _⟩ := P.old i hi
      refine ⟨i, m, h1, hi, h3, fun j hj => ?_, fun ht => ?_, ?_, ?_⟩
      · cases hb : bfA a i j with
        | false => rfl
        | true => rw [← h4 j hj]; exact (bfA_pre P hb).symm
      · have e := o2 ht
        rw [← e]
        exact h5 (by rw [e]; exact ht)
      · rw [← o1, ← o3, ← o4]; exact h6
      · rw [← o1]; exact pl_front P h7
    · rw [if_neg (by simpa using h)]
      trivial
theorem gd_front {N : Nat} {types : List Int} {l : List Event} {n : Nat} {a c : List Call} {oa : List Int} (P : Pre n a c) (W : WF types l n a oa) {S : List (List Int)} {x : List Step} (g : Gd types c (bfA c) S [] x) : ∃ x', Gd types a (bfA a) S [] x' := by
  refine ⟨x.takeWhile fun s => decide (s.call < (a.length : Int)), pl_front P g.1, fun i hi ht => ?_⟩
  obtain ⟨_, o2, _⟩ := P.old i hi
  have hl := P.len
  have e := o2 ht
  have hm := g.2 i (by omega) (by rw [e]; exact ht)
  rw [List.nil_append] at hm ⊢
  have hx := List.takeWhile_append_dropWhile (p := fun s : Step => decide (s.call < (a.length : Int))) (l := x)
  rw [← hx] at hm
  have hA := pl_ac g.1
  rw [← hx, Ac.app] at hA
  have hm2 : i ∈ nums (x.takeWhile fun s => decide (s.call < (a.length : Int))) ∨ i ∈ nums (x.dropWhile fun s => decide (s.call < (a.length : Int))) := by
    unfold nums at hm ⊢
    rw [List.map_append] at hm
    exact List.mem_append.1 hm
  rcases hm2 with hm2 | hm2
  · exact hm2
  · exfalso
    cases hd : x.dropWhile fun s => decide (s.call < (a.length : Int)) with
    | nil => rw [hd] at hm2; simp [nums] at hm2
    | cons y r =>
      rw [hd] at hm2 hA
      have hy : ¬ y.call < (a.length : Int) := by
        have := List.head?_dropWhile_not (p := fun s : Step => decide (s.call < (a.length : Int))) x
        rw [hd] at this
        simpa using this
      obtain ⟨k, k1, k2, _, _, _, k6⟩ := hA.2
      have e2 : nums (y :: r) = k :: nums r := by simp [nums, k1]
      rw [e2] at hm2
      rcases List.mem_cons.1 hm2 with rfl | hm2
      · omega
      · have hq := Ac.free k6 i hm2 k (by simp)
        have hto := (W.one i hi).to
        have hfr := P.new k (by omega) k2
        have : bfA c i k = true := by
          unfold bfA
          rw [e]
          refine decide_eq_true ⟨by omega, k2, ht, ?_⟩
          rcases hto with ⟨h1, _⟩ | h1
          · exact (ht h1).elim
          · omega
        rw [this] at hq
        cases hq
theorem calls9_of {N : Nat} {types : List Int} {l : List Event} {c : List Call} (h : history_Calls N types l = some (c, 0, 0)) (hl : c.length ≤ 9) : search_Calls N types l = some (c, 0) := by
  unfold search_Calls
  rw [bd_of h]
  exact (cond_no rfl).trans (cond_no (decide_eq_false (by simp only; omega)))
theorem rn_of {N : Nat} {types : List Int} {l : List Event} {c : List Call} (hN : 300 < N) (h : history_Calls N types l = some (c, 0, 0)) : history_Types N types = some 0 ∧ l.length ≤ 200 ∧ ∃ op, Rn N types l l.length c op := by
  obtain ⟨r, h1, h2⟩ := calls_rn (types := types) (l := l) hN
  rw [h] at h1
  cases h1
  obtain ⟨g1, _, g3, _, g5⟩ := h2 rfl
  exact ⟨g1, g3, g5⟩
theorem frontLaw {N : Nat} (hN : 5000 < N) (hL : alibkeep_searchLives N = some true) (types : List Int) (l : List Event) (n : Int) : alibkeep_SearchFront N types l n = some true := by
  refine Wp.eq ?_
  unfold alibkeep_SearchFront
  obtain ⟨⟨c, e⟩, hc, hcs⟩ := calls9_wp (N := N) (by omega) types l
  refine .seq (find_wp (by omega) hc) fun r _ ⟨f1, f2, f3⟩ => .bdO hL (.cond (fun _ => .bdO hL (.one rfl)) fun hg => ?_)
  simp only [Bool.or_eq_false_iff, Bool.not_true, Bool.false_or, Bool.not_eq_false', decide_eq_true_eq, decide_eq_false_iff_not] at hg
  obtain ⟨⟨⟨hg1, hg2⟩, hg3⟩, hg4⟩ := hg
  have h0 : e = 0 := by omega
  obtain ⟨n, rfl⟩ : ∃ m : Nat, n = m := ⟨n.toNat, by omega⟩
  rw [Int.toNat_natCast]
  rcases hcs with ⟨_, H, hcalls⟩ | ⟨h2, _⟩
  · have hF := f3 h0 H
    rw [hg2] at hF
    obtain ⟨x, gx⟩ : ∃ x, Gd types c (bfA c) (S0 types) [] x := by
      rcases hF with ⟨_, g, _⟩ | ⟨h, _⟩
      · exact ⟨_, g⟩
      · cases h
    obtain ⟨t1, t2, op, R⟩ := rn_of (by omega) hcalls
    obtain ⟨a, oa, Ra, P⟩ := Rn.pre R n (by omega)
    have hlt : (l.take n).length = n := by rw [List.length_take]; omega
    have Rt := Rn.take Ra (Nat.le_refl n)
    have hca : history_Calls N types (l.take n) = some (a, 0, 0) := calls_of (by omega) t1 (by rw [hlt]; omega) (op := oa) (by rw [hlt]; exact Rt)
    have hal : a.length ≤ 9 := Nat.le_trans P.len H.few
    have hsa := calls9_of hca hal
    have Ha : Hc N types (l.take n) a := by
      obtain ⟨r, h1, h2⟩ := calls9_wp (N := N) (by omega) types (l.take n)
      rw [hsa] at h1
      cases h1
      rcases h2 with ⟨_, h, _⟩ | ⟨h, _⟩
      · exact h
      · exact (h rfl).elim
    refine .ck (by simp [slB]; omega) (.seq (find_wp (by omega) hsa) fun r2 _ ⟨k1, _, k3⟩ => .one ?_)
    obtain ⟨x', gx'⟩ := gd_front (N := N) P Ra.wf gx
    rcases k3 rfl Ha with ⟨h, _⟩ | ⟨_, _, hno⟩
    · rw [k1, h]; rfl
    · exact (hno x' gx').elim
  · exact (h2 h0).elim
end Sr

end Go.Proofs.Ytpakplmpihhmbaa
