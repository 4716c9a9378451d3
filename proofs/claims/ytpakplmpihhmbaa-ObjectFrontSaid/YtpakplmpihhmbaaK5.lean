/- What is played; ObjectFront, plainly. -/
import Derived.Test.YtpakplmpihhmbaaK3
set_option linter.unusedVariables false
set_option linter.unusedSimpArgs false
set_option linter.unusedSectionVars false
set_option maxRecDepth 100000
namespace Go.Proofs.Ytpakplmpihhmbaa
open Go.RowKit
namespace Ob
/-- An answer is a number that may be held, or 0, or -1. -/
theorem stp_res {typ : Int} {s : List Int} {kind arg : Int} (hO : OkS typ s) (hA : Asked typ kind arg) {n : List Int} {res : Int} (h : stp typ s kind arg = some (n, res)) : -1 ≤ res ∧ res ≤ 1000 := by
  have hb : ∀ k, -1 ≤ s.getD k 0 ∧ s.getD k 0 ≤ 1000 := by
    intro k
    by_cases hk : k < s.length
    · have hm : s.getD k 0 ∈ s := by rw [getD_of hk]; exact List.getElem_mem hk
      rcases hO with ⟨_, v, rfl, h1, h2⟩ | ⟨_, _, hn⟩ | ⟨_, _, hn, _⟩
      · rw [List.mem_singleton.1 hm]; omega
      · have := hn _ hm; unfold Num at this; omega
      · have := hn _ hm; unfold Num at this; omega
    · rw [List.getD_eq_getElem?_getD, List.getElem?_eq_none (by omega)]; decide
  have b0 := hb 0
  have b1 := hb (s.length - 1)
  unfold stp at h
  repeat' split at h
  all_goals first | (cases h; omega) | (cases h; split <;> omega) | (simp only [Option.some.injEq, Prod.mk.injEq] at h; obtain ⟨_, rfl⟩ := h; first | omega | (split <;> omega)) | (cases h)
end Ob
namespace Ob
instance (typ : Int) : Decidable (Ty typ) := by unfold Ty; infer_instance
open Classical in
/-- A step that may be: the state behind, and the answer. -/
noncomputable def nx (typ : Int) (s : List Int) (kind arg : Int) : Option (List Int × Int) := if OkS typ s ∧ Asked typ kind arg then stp typ s kind arg else none
theorem nx_ok {typ : Int} {s : List Int} {kind arg : Int} {n : List Int} {res : Int} (h : nx typ s kind arg = some (n, res)) : OkS typ s ∧ Asked typ kind arg ∧ stp typ s kind arg = some (n, res) ∧ OkS typ n := by
  unfold nx at h
  split at h
  · rename_i h1
    exact ⟨h1.1, h1.2, h, (stp_ok h1.1 h1.2 h).1⟩
  · cases h
theorem step_nx {N : Nat} (hN : 300 < N) (typ : Int) (s : List Int) (kind arg : Int) : (∃ n res, nx typ s kind arg = some (n, res) ∧ object_Step N typ s kind arg = some (n, res, 0)) ∨ (nx typ s kind arg = none ∧ ∃ e, e ≠ 0 ∧ object_Step N typ s kind arg = some ([], 0, e)) := by
  obtain ⟨r, h1, h⟩ := step_eq hN typ s kind arg
  rcases h with ⟨hO, hA, ⟨n, res, h, rfl⟩ | ⟨h, rfl⟩⟩ | ⟨hn, e, he, rfl⟩
  · exact .inl ⟨n, res, by unfold nx; rw [if_pos ⟨hO, hA⟩]; exact h, h1⟩
  · exact .inr ⟨by unfold nx; rw [if_pos ⟨hO, hA⟩]; exact h, 2, by decide, h1⟩
  · exact .inr ⟨by unfold nx; rw [if_neg hn], e, he, h1⟩
/-- What is done, one behind the other: the state behind, if all may be. -/
noncomputable def run (typ : Int) : List Int → List Do → Option (List Int)
  | s, [] => some s
  | s, d :: l => match nx typ s d.kind d.arg with
    | some (n, res) => if res = d.res then run typ n l else none
    | none => none
theorem run_app (typ : Int) : ∀ (l m : List Do) (s : List Int), run typ s (l ++ m) = (run typ s l).bind fun t => run typ t m
  | [], m, s => rfl
  | d :: l, m, s => by
    simp only [List.cons_append, run]
    cases h : nx typ s d.kind d.arg with
    | none => rfl
    | some p =>
      obtain ⟨n, res⟩ := p
      simp only
      split
      · exact run_app typ l m n
      · rfl
/-- The state at first. -/
def st0 (typ : Int) : List Int := if typ = 1 ∨ typ = 5 then [0] else []
theorem st0_ok {typ : Int} (h : Ty typ) : OkS typ (st0 typ) := by
  unfold Ty at h
  unfold st0
  have : typ = 1 ∨ typ = 2 ∨ typ = 3 ∨ typ = 4 ∨ typ = 5 := by omega
  rcases this with rfl | rfl | rfl | rfl | rfl
  · exact .inl ⟨.inl rfl, 0, rfl, by decide, by decide⟩
  · exact .inr (.inl ⟨.inl rfl, by simp, by simp⟩)
  · exact .inr (.inl ⟨.inr rfl, by simp, by simp⟩)
  · exact .inr (.inr ⟨rfl, by simp, by simp, by simp [Inc]⟩)
  · exact .inl ⟨.inr rfl, 0, rfl, by decide, by decide⟩
theorem start_ok (N : Nat) (typ : Int) : object_Start N typ = some (if Ty typ then (st0 typ, 0) else ([], 1)) := by
  by_cases h : Ty typ
  · rw [if_pos h]
    unfold Ty at h
    have : typ = 1 ∨ typ = 2 ∨ typ = 3 ∨ typ = 4 ∨ typ = 5 := by omega
    rcases this with rfl | rfl | rfl | rfl | rfl <;> rfl
  · rw [if_neg h]
    have e : ∀ n : Int, 1 ≤ n → n ≤ 5 → ¬ typ = n := fun n h1 h2 e => h ⟨by omega, by omega⟩
    unfold object_Start object_of
    simp [e, bd]
/-- How much of it may be. -/
theorem play_wp {N : Nat} (hN : 300 < N) (typ : Int) {l : List Do} (hl : l.length < N) (hl2 : l.length ≤ 9223372036854775806) : Wp (object_Play N typ l) fun r => (Ty typ ∧ r.2 = 0 ∧ ∃ k : Nat, r.1 = k ∧ k ≤ l.length ∧ (∃ t, run typ (st0 typ) (l.take k) = some t) ∧ (k < l.length → run typ (st0 typ) (l.take (k + 1)) = none)) ∨ (¬ Ty typ ∧ r = (0, 1)) := by
  unfold object_Play
  refine .bdO (start_ok N typ) ?_
  by_cases h : Ty typ
  · rw [if_pos h]
    refine .condF rfl ?_
    refine .elim (P := fun t => match t with | .inl _ => ∃ t, run typ (st0 typ) l = some t | .inr r => r.2 = 0 ∧ ∃ k : Nat, r.1 = k ∧ k ≤ l.length ∧ (∃ t, run typ (st0 typ) (l.take k) = some t) ∧ (k < l.length → run typ (st0 typ) (l.take (k + 1)) = none))
      (.iter l.length (fun k st => st.2 = (k : Int) ∧ run typ (st0 typ) (l.take k) = some st.1) hl ⟨rfl, rfl⟩ ?_ ?_) (fun _ _ h2 => .one (.inl ⟨h, rfl, l.length, rfl, Nat.le_refl _, by rw [List.take_length]; exact h2, fun h => absurd h (Nat.lt_irrefl _)⟩)) (fun r _ h2 => .one (.inl ⟨h, h2⟩))
    · rintro k ⟨t, v⟩ hk ⟨hv, hr⟩
      simp only at hv hr
      subst hv
      simp only [object_Play_L3]
      refine .condT (decide_eq_true (by omega)) (.ix hk ?_)
      have e1 : l.take (k + 1) = l.take k ++ [l[k]] := (List.take_append_getElem hk).symm
      have e2 : run typ (st0 typ) (l.take (k + 1)) = run typ t [l[k]] := by rw [e1, run_app, hr]; rfl
      rcases step_nx hN typ t l[k].kind l[k].arg with ⟨n, res, h1, h2⟩ | ⟨h1, e, he, h2⟩
      · refine .bdO h2 (.cond (fun h3 => .one ⟨rfl, k, rfl, by omega, ⟨t, hr⟩, fun _ => ?_⟩) fun h3 => .ck64 (by omega) (.one ⟨by simp, ?_⟩))
        · rw [e2]
          have : res ≠ l[k].res := by simpa using h3
          simp only [run, h1, if_neg this]
        · have : res = l[k].res := by simpa using h3
          rw [e2]
          simp only [run, h1, if_pos this]
      · refine .bdO h2 (.condT (by simp [he]) (.one ⟨rfl, k, rfl, by omega, ⟨t, hr⟩, fun _ => ?_⟩))
        rw [e2]
        simp only [run, h1]
    · rintro ⟨t, v⟩ ⟨hv, hr⟩
      simp only at hv hr
      subst hv
      simp only [object_Play_L3]
      refine .condF (decide_eq_false (by omega)) (.one ⟨t, ?_⟩)
      rwa [List.take_length] at hr
  · rw [if_neg h]
    exact .condT rfl (.one (.inr ⟨h, rfl⟩))
theorem run_take_none {typ : Int} {s : List Int} {l : List Do} {j k : Nat} (hjk : j ≤ k) (h : run typ s (l.take j) = none) : run typ s (l.take k) = none := by
  have : l.take k = l.take j ++ (l.take k).drop j := by
    have := (List.take_append_drop j (l.take k)).symm
    rwa [List.take_take, Nat.min_eq_left hjk] at this
  rw [this, run_app, h]; rfl
theorem play_uniq {typ : Int} {s : List Int} {l : List Do} {j k : Nat} (hj : j ≤ l.length) (hk : k ≤ l.length) (h1 : ∃ t, run typ s (l.take j) = some t) (h2 : j < l.length → run typ s (l.take (j + 1)) = none) (h3 : ∃ t, run typ s (l.take k) = some t) (h4 : k < l.length → run typ s (l.take (k + 1)) = none) : j = k := by
  obtain ⟨t, h1⟩ := h1
  obtain ⟨u, h3⟩ := h3
  rcases Nat.lt_trichotomy j k with h | h | h
  · have := run_take_none (show j + 1 ≤ k by omega) (h2 (by omega))
    rw [this] at h3; cases h3
  · exact h
  · have := run_take_none (show k + 1 ≤ j by omega) (h4 (by omega))
    rw [this] at h1; cases h1
theorem frontLaw {N : Nat} (hN : 140737488355328 < N) (hL : alibkeep_objectLives N = some true) (typ : Int) (l : List Do) (hl : limB 24 (l.length + 1) = true) (more : Do) : alibkeep_ObjectFront N typ l more = some true := by
  refine Wp.eq ?_
  have hl' : l.length + 1 ≤ 140737488355328 := by
    simp only [limB, decide_eq_true_eq] at hl
    omega
  have hl0 : limB 24 l.length = true := by
    simp only [limB, decide_eq_true_eq] at hl ⊢
    exact ⟨by omega, by omega⟩
  unfold alibkeep_ObjectFront
  refine .seq (play_wp (by omega) typ (l := l) (by omega) (by omega)) fun r _ hr => .bdO hL ?_
  rcases hr with ⟨hT, hz, k, hk, hkl, hk1, hk2⟩ | ⟨hT, rfl⟩
  · obtain ⟨rk, rz⟩ := r
    simp only at hz hk
    subst hz; subst hk
    refine .condF rfl ?_
    have pl : ∀ d : Do, Wp (object_Play N typ (l ++ [d])) fun r => r.2 = 0 ∧ ∃ m : Nat, r.1 = m ∧ m ≤ l.length + 1 ∧ (k < l.length → m = k) ∧ (k = l.length → (m = l.length ∧ run typ (st0 typ) (l ++ [d]) = none) ∨ (m = l.length + 1 ∧ ∃ t, run typ (st0 typ) (l ++ [d]) = some t)) := by
      intro d
      refine (play_wp (by omega) typ (l := l ++ [d]) (by simp; omega) (by simp; omega)).mono fun r hr => ?_
      rcases hr with ⟨_, hz, m, hm, hml, hm1, hm2⟩ | ⟨h, _⟩
      · rw [List.length_append, List.length_singleton] at hml hm2
        refine ⟨hz, m, hm, hml, fun hkl2 => ?_, fun hkl2 => ?_⟩
        · have e1 : (l ++ [d]).take k = l.take k := List.take_append_of_le_length (by omega)
          have e2 : (l ++ [d]).take (k + 1) = l.take (k + 1) := List.take_append_of_le_length (by omega)
          refine play_uniq (l := l ++ [d]) (by simp; omega) (by simp; omega) hm1 (fun h => hm2 (by simpa using h)) (by rw [e1]; exact hk1) (fun _ => by rw [e2]; exact hk2 hkl2)
        · subst hkl2
          have e1 : (l ++ [d]).take l.length = l := by simp
          have e2 : (l ++ [d]).take (l.length + 1) = l ++ [d] := List.take_of_length_le (by simp)
          cases hc : run typ (st0 typ) (l ++ [d]) with
          | none =>
            left
            refine ⟨play_uniq (l := l ++ [d]) (by simp; omega) (by simp) hm1 (fun h => hm2 (by simpa using h)) (by rw [e1]; rw [List.take_length] at hk1; exact hk1) (fun _ => by rw [e2]; exact hc), rfl⟩
          | some t =>
            right
            refine ⟨play_uniq (l := l ++ [d]) (by simp; omega) (by simp) hm1 (fun h => hm2 (by simpa using h)) (by rw [e2]; exact ⟨t, hc⟩) (fun h => absurd h (by simp)), t, rfl⟩
      · exact (h hT).elim
    refine .seq (P := fun (m : Int × Int) => m.2 = 0 ∧ ∃ j : Nat, m.1 = j ∧ j ≤ l.length + 1 ∧ (k < l.length → j = k) ∧ (k = l.length → (j = l.length ∧ run typ (st0 typ) (l ++ [more]) = none) ∨ (j = l.length + 1 ∧ ∃ t, run typ (st0 typ) (l ++ [more]) = some t))) (.ck hl0 (.ck hl (.seq (pl more) fun r _ hr => .one hr))) ?_
    rintro ⟨m, f⟩ _ ⟨hf, j, hj, hj1, hj2, hj3⟩
    simp only at hf hj
    subst hf; subst hj
    have g1 : ok64 ((k : Int) + 1) = true := ok64_of (by omega)
    simp only
    rw [g1, Bool.or_true]
    refine .ck rfl (.condF ?_ (.cond (fun _ => .one rfl) fun h => ?_))
    · rw [← Bool.not_eq_true]
      intro hh
      simp only [Bool.or_eq_true, Bool.and_eq_true, decide_eq_true_eq, Bool.not_eq_true', decide_eq_false_iff_not, decide_true, Bool.not_true, Bool.false_eq_true, false_or] at hh
      rcases Nat.lt_or_ge k l.length with h2 | h2
      · have := hj2 h2
        clear hj3 hj2
        omega
      · have hkl2 : k = l.length := by omega
        rcases hj3 hkl2 with ⟨h, _⟩ | ⟨h, _⟩
        · clear hj3 hj2
          omega
        · clear hj3 hj2
          omega
    · have h := of_decide_eq_false h
      have hkl2 : k = l.length := by
        rcases Nat.lt_or_ge k l.length with h2 | h2
        · have := hj2 h2; omega
        · omega
      obtain ⟨t, ht⟩ : ∃ t, run typ (st0 typ) (l ++ [more]) = some t := by
        rcases hj3 hkl2 with ⟨h2, _⟩ | ⟨_, h2⟩
        · omega
        · exact h2
      -- its answer is a number that may be held, or -1
      rw [run_app] at ht
      obtain ⟨u, hu⟩ := hk1
      rw [hkl2, List.take_length] at hu
      rw [hu] at ht
      have ht : run typ u [more] = some t := ht
      cases hn : nx typ u more.kind more.arg with
      | none => simp [run, hn] at ht
      | some p =>
        obtain ⟨n, res⟩ := p
        have hres : res = more.res := by
          simp only [run, hn] at ht
          split at ht
          · assumption
          · cases ht
        have hb : -1 ≤ res ∧ res ≤ 1000 := by
          obtain ⟨o1, o2, o3, _⟩ := nx_ok hn
          exact stp_res o1 o2 o3
        refine .ck64 (by omega) (.seq (P := fun (m : Int × Int) => m.2 = 0 ∧ m.1 = (l.length : Int)) (.ck hl0 (.ck hl (.seq (pl ⟨more.kind, more.arg, more.res + 1⟩) fun r _ hr => .one ?_))) ?_)
        · obtain ⟨hz, m2, e2, _, _, h3⟩ := hr
          refine ⟨hz, ?_⟩
          rcases h3 hkl2 with ⟨h4, _⟩ | ⟨_, t2, h4⟩
          · simp only; omega
          · rw [run_app, hu] at h4
            have h4 : run typ u [⟨more.kind, more.arg, more.res + 1⟩] = some t2 := h4
            simp only [run, hn] at h4
            rw [if_neg (by omega)] at h4
            cases h4
        · rintro ⟨a, b⟩ _ ⟨h1, h2⟩
          simp only at h1 h2
          subst h1; subst h2
          exact .one (by simp)
  · exact .condT rfl (.bdO hL (.one rfl))
end Ob

end Go.Proofs.Ytpakplmpihhmbaa
