/- By people, by causes. -/
import Derived.Test.YtpakplmpihhmbaaW8
set_option linter.unusedVariables false
set_option linter.unusedSimpArgs false
set_option linter.unusedSectionVars false
set_option maxRecDepth 100000
namespace Go.Proofs.Ytpakplmpihhmbaa
open Go.RowKit
namespace Sr
open Rl Hs
theorem nums_at {t : List Step} {n : Nat} (h : n < t.length) : (nums t)[n]? = some t[n].call.toNat := by unfold nums; rw [List.getElem?_map, List.getElem?_eq_getElem h]; rfl
theorem ac_idx {c : List Call} {q : Nat → Nat → Bool} {t : List Step} (A : Ac c q [] t) {i j : Nat} (hi : i ∈ nums t) (hj : j ∈ nums t) (h : q i j = true) (hne : i ≠ j) : (nums t).idxOf i < (nums t).idxOf j := by
  have hn := List.idxOf_lt_length_of_mem hi
  have hnj := List.idxOf_lt_length_of_mem hj
  apply Classical.byContradiction
  intro hlt
  have gi : (nums t)[(nums t).idxOf i] = i := List.getElem_idxOf hn
  have gj : (nums t)[(nums t).idxOf j] = j := List.getElem_idxOf hnj
  have hlt2 : (nums t).idxOf j < (nums t).idxOf i := by
    rcases Nat.lt_trichotomy ((nums t).idxOf i) ((nums t).idxOf j) with h1 | h1 | h1
    · exact (hlt h1).elim
    · exfalso
      apply hne
      rw [← gi, ← gj]
      simp only [h1]
    · exact h1
  have hl : (nums t).length = t.length := by simp [nums]
  have hn2 : (nums t).idxOf i < t.length := by omega
  rw [← List.take_append_drop ((nums t).idxOf i) t, List.drop_eq_getElem_cons hn2, Ac.app] at A
  obtain ⟨k, h1, h2, h3, h4, _⟩ := A.2
  have hk : k = i := by
    have h5 := nums_at hn2
    rw [List.getElem?_eq_getElem hn, gi, h1, Int.toNat_natCast] at h5
    exact (Option.some.inj h5).symm
  subst hk
  have hm : j ∈ [] ++ nums (t.take ((nums t).idxOf k)) := by
    have e : nums (t.take ((nums t).idxOf k)) = (nums t).take ((nums t).idxOf k) := by unfold nums; rw [List.map_take]
    rw [List.nil_append, e, List.mem_take_iff_getElem]
    exact ⟨(nums t).idxOf j, by omega, gj⟩
  rw [h4 j hm] at h
  cases h
/-- A register's step. -/
theorem nx_reg {s : List Int} {kind arg : Int} {n : List Int} {res : Int} (h : Ob.nx 1 s kind arg = some (n, res)) : (kind = 1 ∧ n = [arg] ∧ res = 0) ∨ (kind ≠ 1 ∧ n = s ∧ res = s.getD 0 0) := by
  have h1 := (Ob.nx_ok h).2.2.1
  unfold Ob.stp at h1
  rw [if_pos rfl] at h1
  by_cases hk : kind = 1
  · rw [if_pos hk] at h1
    cases h1
    exact .inl ⟨hk, rfl, rfl⟩
  · rw [if_neg hk] at h1
    cases h1
    exact .inr ⟨hk, rfl, rfl⟩
def val (S : List (List Int)) (x : Nat) : Int := (S.getD x []).getD 0 0
theorem val_set {S : List (List Int)} {x : Nat} (h : x < S.length) (n : List Int) (y : Nat) : val (S.set x n) y = if y = x then n.getD 0 0 else val S y := by
  unfold val
  rw [getD_set h]
  split <;> rfl
/-- What a read tells comes of a write ahead of it. -/
theorem pl_rd {types : List Int} {c : List Call} {q : Nat → Nat → Bool} (hty : ∀ j, j < types.length → types.getD j 0 = 1) (hth : ∀ m, m < c.length → 0 ≤ (c.getD m Call.z).thing ∧ (c.getD m Call.z).thing < types.length) : ∀ (t : List Step) (S : List (List Int)) (w : List Nat), S.length = types.length → Pl types c q S w t →
    (∀ x, x < types.length → val S x = 0 ∨ ∃ m ∈ w, m < c.length ∧ (c.getD m Call.z).kind = 1 ∧ (c.getD m Call.z).thing.toNat = x ∧ (c.getD m Call.z).arg = val S x) →
    ∀ j ∈ nums t, (c.getD j Call.z).kind = 2 → (c.getD j Call.z).to_ ≠ -1 → ∃ a b, nums t = a ++ j :: b ∧ ((c.getD j Call.z).res = 0 ∨ ∃ m ∈ w ++ a, m < c.length ∧ (c.getD m Call.z).kind = 1 ∧ (c.getD m Call.z).thing.toNat = (c.getD j Call.z).thing.toNat ∧ (c.getD m Call.z).arg = (c.getD j Call.z).res)
  | [], _, _, _, _, _, j, hj => by simp [nums] at hj
  | s :: t, S, w, hl, ⟨i, n, h1, h2, h3, h4, h5, h6, h7⟩, hI, j, hj => by
    intro hk hto
    have e : nums (s :: t) = i :: nums t := by simp [nums, h1]
    obtain ⟨t0, t1⟩ := hth i h2
    have hx : (c.getD i Call.z).thing.toNat < types.length := by omega
    rw [hty _ hx] at h6
    rw [e] at hj ⊢
    rcases List.mem_cons.1 hj with rfl | hj
    · refine ⟨[], nums t, rfl, ?_⟩
      rcases nx_reg h6 with ⟨g1, _⟩ | ⟨_, _, g3⟩
      · omega
      · have h8 := h5 hto
        have hv : val S (c.getD j Call.z).thing.toNat = (c.getD j Call.z).res := by rw [← h8, g3]; rfl
        rcases hI _ hx with h | ⟨m, m1, m2, m3, m4, m5⟩
        · exact .inl (by rw [← hv]; exact h)
        · exact .inr ⟨m, by simpa using m1, m2, m3, m4, by rw [m5]; exact hv⟩
    · obtain ⟨a, b, h8, h9⟩ := pl_rd hty hth t (S.set _ n) (w ++ [i]) (by rw [List.length_set]; exact hl) h7 (fun x hx2 => by
        rw [val_set (by omega)]
        by_cases ex : x = (c.getD i Call.z).thing.toNat
        · rw [if_pos ex]
          rcases nx_reg h6 with ⟨g1, g2, _⟩ | ⟨_, g2, _⟩
          · refine .inr ⟨i, by simp, h2, g1, ex.symm, ?_⟩
            rw [g2]; rfl
          · rw [g2]
            rcases hI x hx2 with h | ⟨m, m1, m2, m3, m4, m5⟩
            · refine .inl ?_
              rw [ex] at h; exact h
            · refine .inr ⟨m, by simp [m1], m2, m3, m4, ?_⟩
              rw [m5, ex]; rfl
        · rw [if_neg ex]
          rcases hI x hx2 with h | ⟨m, m1, m2, m3, m4, m5⟩
          · exact .inl h
          · exact .inr ⟨m, by simp [m1], m2, m3, m4, m5⟩) j hj hk hto
      refine ⟨i :: a, b, by rw [h8]; rfl, ?_⟩
      rcases h9 with h9 | ⟨m, m1, m2⟩
      · exact .inl h9
      · refine .inr ⟨m, ?_, m2⟩
        simpa [or_assoc] using m1
open Ca in
/-- An order of all is each one's view. -/
theorem pl_fd {types : List Int} {c : List Call} {q Q : Nat → Nat → Bool} {nd : Nat → Bool} {L : List Nat} (hty : ∀ j, j < types.length → types.getD j 0 = 1) (hth : ∀ m, m < c.length → 0 ≤ (c.getD m Call.z).thing ∧ (c.getD m Call.z).thing < types.length)
    (hto : ∀ m, m < c.length → (c.getD m Call.z).to_ ≠ -1) (hQ : ∀ i j, Q i j = true → L.idxOf i < L.idxOf j) (hnd : ∀ i, nd i = true → i ∈ L) (hw : ∀ i, i < c.length → (c.getD i Call.z).kind = 1 → nd i = true) :
    ∀ (t : List Step) (S : List (List Int)) (w : List Nat) (p : Nat → Bool) (v : Nat → Int), L = w ++ nums t → S.length = types.length → Pl types c q S w t → (∀ i, p i = (decide (i ∈ w) && nd i)) → (∀ x, x < types.length → v x = val S x) → Ca.Fd c Q nd p v
  | [], S, w, p, v, hL, hl, _, hp, hv => by
    refine .done fun i => ?_
    rw [hp]
    cases hn : nd i with
    | false => simp
    | true =>
      have := hnd i hn
      rw [hL] at this
      have : i ∈ w := by simpa [nums] using this
      simp [this]
  | s :: t, S, w, p, v, hL, hl, ⟨i, n, h1, h2, h3, h4, h5, h6, h7⟩, hp, hv => by
    have e : nums (s :: t) = i :: nums t := by simp [nums, h1]
    rw [e] at hL
    have hL2 : L = (w ++ [i]) ++ nums t := by rw [hL]; simp
    obtain ⟨t0, t1⟩ := hth i h2
    have hx : (c.getD i Call.z).thing.toNat < types.length := by omega
    rw [hty _ hx] at h6
    have ih := fun p v => pl_fd hty hth hto hQ hnd hw t (S.set (c.getD i Call.z).thing.toNat n) (w ++ [i]) p v hL2 (by rw [List.length_set]; exact hl) h7
    have hback : ∀ j, Q i j = true → p j = false := fun j hj => by
      rw [hp]
      have h8 := hQ i j hj
      have e1 : L.idxOf i = w.length := by rw [hL, List.idxOf_append, if_neg h3]; simp
      have : j ∉ w := fun hjw => by
        have e2 : L.idxOf j = w.idxOf j := by rw [hL, List.idxOf_append, if_pos hjw]
        have := List.idxOf_lt_length_of_mem hjw
        omega
      simp [this]
    have hpi : p i = false := by rw [hp]; simp [h3]
    by_cases hn : nd i = true
    · refine .step i h2 hn hpi hback (fun hk => ?_) (ih _ _ (fun j => ?_) fun x hx2 => ?_)
      · rcases nx_reg h6 with ⟨g1, _⟩ | ⟨_, _, g3⟩
        · omega
        · rw [hv _ hx, ← h5 (hto i h2), g3]; rfl
      · rw [hp]
        by_cases ej : i = j
        · subst ej; simp [hn]
        · have : ¬ j = i := fun h => ej h.symm
          simp [ej, this]
      · rw [val_set (by omega)]
        unfold stV
        rcases nx_reg h6 with ⟨g1, g2, _⟩ | ⟨g1, g2, _⟩
        · by_cases ex : x = (c.getD i Call.z).thing.toNat
          · rw [if_pos ⟨g1, ex⟩, if_pos ex, g2]; rfl
          · rw [if_neg (fun h => ex h.2), if_neg ex]; exact hv x hx2
        · rw [if_neg (fun h => g1 h.1)]
          by_cases ex : x = (c.getD i Call.z).thing.toNat
          · rw [if_pos ex, g2, hv x hx2, ex]; rfl
          · rw [if_neg ex]; exact hv x hx2
    · have hn : nd i = false := by simpa using hn
      have hk : (c.getD i Call.z).kind ≠ 1 := fun h => by rw [hw i h2 h] at hn; cases hn
      refine ih _ _ (fun j => ?_) fun x hx2 => ?_
      · rw [hp]
        by_cases ej : j = i
        · subst ej; simp [hn]
        · simp [ej]
      · rw [val_set (by omega)]
        rcases nx_reg h6 with ⟨g1, _⟩ | ⟨g1, g2, _⟩
        · exact (hk g1).elim
        · by_cases ex : x = (c.getD i Call.z).thing.toNat
          · rw [if_pos ex, g2, hv x hx2, ex]; rfl
          · rw [if_neg ex]; exact hv x hx2
open Ca in
theorem fd_mono {c : List Call} {Q Q' : Nat → Nat → Bool} {nd p : Nat → Bool} {v : Nat → Int} (h : ∀ i j, Q' i j = true → Q i j = true) (f : Ca.Fd c Q nd p v) : Ca.Fd c Q' nd p v := by
  induction f with
  | done h => exact .done h
  | step i h1 h2 h3 h4 h5 _ ih => exact .step i h1 h2 h3 (fun j hj => h4 j (h i j hj)) h5 ih
/-- Arguments and results are as they may be. -/
theorem rn_arg {N : Nat} {types : List Int} {l : List Event} {k : Nat} {out : List Call} {op : List Int} (R : Rn N types l k out op) : ∀ m, m < out.length → history_Argument N (out.getD m Call.z).kind (out.getD m Call.z).arg = some true ∧ ((out.getD m Call.z).to_ ≠ -1 → history_result N (out.getD m Call.z).kind (out.getD m Call.z).res = some true) := by
  induction R with
  | zero => exact fun m h => absurd h (Nat.not_lt_zero _)
  | @succ k out out' op op' R hk S ih =>
    intro m hm
    rcases S.how with ⟨_, _, ha, _, rfl, _⟩ | ⟨_, m0, _, hml, _, hr, rfl, _⟩
    · rw [List.length_append, List.length_singleton] at hm
      rw [getD_app]
      by_cases h : m < out.length
      · rw [if_pos h]; exact ih m h
      · rw [if_neg h, if_pos (by omega)]
        exact ⟨ha, fun h => (h rfl).elim⟩
    · rw [List.length_set] at hm
      rw [getD_set2 hml]
      by_cases e : m = m0
      · subst e
        rw [if_pos rfl]
        exact ⟨(ih m hm).1, fun _ => hr⟩
      · rw [if_neg e]; exact ih m hm
theorem arg_pos {N : Nat} {a : Int} (h : history_Argument N 1 a = some true) : 1 ≤ a ∧ a ≤ 1000 := by
  have e : history_Argument N 1 a = some ((decide (1 ≤ a)) && (decide (a ≤ 1000))) := rfl
  rw [e] at h
  simpa using h
open Ca in
theorem gd_causes {N : Nat} {types : List Int} {l : List Event} {k : Nat} {c : List Call} {op : List Int} (R : Rn N types l k c op) (F : Few types c) {t : List Step} (g : Gd types c (prS c) (S0 types) [] t) : Acy c ∧ Vw c (war (caB c) c.length) := by
  have W := R.wf
  have hth : ∀ m, m < c.length → 0 ≤ (c.getD m Call.z).thing ∧ (c.getD m Call.z).thing < types.length := fun m hm => (W.one m hm).thing
  have A := pl_ac g.1
  have hall : ∀ i, i < c.length → i ∈ nums t := fun i hi => by
    have := g.2 i hi (F.to i hi)
    simpa using this
  have hnod : (nums t).Nodup := by
    have := (Ac.nod List.nodup_nil (by simp) A).1
    simpa using this
  have hl0 : (S0 types).length = types.length := by simp [S0]
  have hv0 : ∀ x, x < types.length → val (S0 types) x = 0 := fun x hx => by
    have := F.ty x hx
    rw [getD_of hx] at this
    unfold val S0
    rw [getD_of (show x < (types.map Ob.st0).length by rw [List.length_map]; exact hx), List.getElem_map, this]
    rfl
  have hca : ∀ i j, caB c i j = true → (nums t).idxOf i < (nums t).idxOf j := by
    intro i j h
    unfold caB at h
    rcases Bool.or_eq_true_iff.1 h with h | h
    · obtain ⟨h1, h2, h3, h4⟩ := of_decide_eq_true h
      have hij : i < j := by
        rcases Nat.lt_trichotomy i j with h6 | h6 | h6
        · exact h6
        · subst h6; omega
        · have := (W.two j i h6 h1).fr
          omega
      exact ac_idx A (hall i h1) (hall j h2) (decide_eq_true ⟨h1, h2, h3, hij⟩) (by omega)
    · obtain ⟨h1, h2, h3, h4, h5, h6⟩ := of_decide_eq_true h
      obtain ⟨a, b, e, h7⟩ := pl_rd F.ty hth t (S0 types) [] hl0 g.1 (fun x hx => .inl (hv0 x hx)) j (hall j h2) h4 (F.to j h2)
      have hpos := arg_pos (N := N) (a := (c.getD i Call.z).arg) (by have := (rn_arg R i h1).1; rw [h3] at this; exact this)
      rcases h7 with h7 | ⟨m, m1, m2, m3, m4, m5⟩
      · omega
      · have hm : m = i := by
          have hthing : (c.getD m Call.z).thing = (c.getD i Call.z).thing := by
            have a1 := (hth m m2).1
            have a2 := (hth i h1).1
            have a3 := (hth j h2).1
            omega
          rcases Nat.lt_trichotomy m i with h8 | h8 | h8
          · exact (F.wr i m h8 h1 ⟨h3, m3, hthing.symm, by omega⟩).elim
          · exact h8
          · exact (F.wr m i h8 m2 ⟨m3, h3, hthing, by omega⟩).elim
        subst hm
        rw [List.nil_append] at m1
        rw [e] at hnod
        have hja : j ∉ a := fun h => by
          have := (List.nodup_append.1 hnod).2.2 j h j (.head _)
          exact this rfl
        rw [e, List.idxOf_append, if_pos m1, List.idxOf_append, if_neg hja]
        have := List.idxOf_lt_length_of_mem m1
        omega
  have hwar : ∀ i j, war (caB c) c.length i j = true → (nums t).idxOf i < (nums t).idxOf j := fun i j h =>
    of_decide_eq_true (war_least (q := fun i j => decide ((nums t).idxOf i < (nums t).idxOf j)) (fun i j h => decide_eq_true (hca i j h)) (fun i m j _ a b => decide_eq_true (by have := of_decide_eq_true a; have := of_decide_eq_true b; omega)) c.length (Nat.le_refl _) i j h)
  refine ⟨fun ⟨i, hi, h⟩ => Nat.lt_irrefl _ (hwar i i h), fun w hw => ?_⟩
  refine pl_fd F.ty hth F.to hwar (fun i h => hall i ?_) (fun i hi hk => ?_) t (S0 types) [] _ _ (by simp) hl0 g.1 (fun i => by simp) fun x hx => (hv0 x hx).symm
  · unfold ndO at h
    exact of_decide_eq_true (Bool.and_eq_true_iff.1 h).1
  · unfold ndO
    rw [decide_eq_true hi, decide_eq_true hk]; rfl
open Ca in
theorem views_weak {c : List Call} (h : Vw c (war (caB c) c.length)) : Vw c (prB c) := fun w hw => fd_mono (fun i j hij => war_up (Nat.zero_le _) (by
  show caB c i j = true
  unfold caB
  rw [hij]; rfl)) (h w hw)
end Sr

end Go.Proofs.Ytpakplmpihhmbaa
