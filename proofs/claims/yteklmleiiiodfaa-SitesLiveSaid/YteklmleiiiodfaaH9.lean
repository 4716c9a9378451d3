/- SitesLive, plainly. -/
import Derived.Test.YteklmleiiiodfaaH8
set_option linter.unusedVariables false
set_option linter.unusedSimpArgs false
set_option linter.unusedSectionVars false
set_option maxRecDepth 100000
namespace Go.Proofs.Yteklmleiiiodfaa
open Go.RowKit
namespace Si
open Hs
theorem play_more {N : Nat} (hN : 5000 < N) {n : Int} {fast : Bool} {people : List (List Ask)} {acts : List Act} (hl : ∀ l ∈ people, l.length < N ∧ l.length ≤ 9223372036854775807) (ha : acts.length < N ∧ acts.length ≤ 9223372036854775807) {ev : List Event} {si : List Site} (h : sites_Play_1 N n fast people acts = some (ev, si, 0)) {acts2 : List Act} (h2 : acts2.length ≤ 1000) (h3 : ∀ a ∈ acts2, OkA people.length n.toNat a) :
    sites_Play_1 N n fast people acts2 = some ((run fast (m0 n.toNat people) acts2).events, (run fast (m0 n.toNat people) acts2).sites, 0) := by
  obtain ⟨e0, _, hp⟩ := play_all hN n fast hl
  obtain ⟨e, he, hP⟩ := hp acts ha.1 ha.2
  rw [h] at hP
  have e1 : e = 0 := by
    by_cases e1 : e = 0
    · exact e1
    · rw [if_neg e1] at hP; cases hP; exact (e1 rfl).elim
  have e00 : e0 = 0 := by
    by_cases e00 : e0 = 0
    · exact e00
    · rw [if_pos e00] at he; omega
  subst e00
  obtain ⟨e', he', hP'⟩ := hp acts2 (by omega) (by omega)
  rw [if_neg (by simp), if_neg (by omega), if_pos h3] at he'
  subst he'
  rw [if_pos rfl] at hP'
  exact hP'
theorem ok00 {N : Nat} (hN : 300 < N) : alibkeep_ok N [0, 0] = some true := by
  obtain ⟨M, rfl⟩ : ∃ M, N = M + 3 := ⟨N - 3, by omega⟩
  rfl
theorem count_range {l : List Site} : (List.range l.length).countP (fun s => (l.getD s Site.z).down) = l.countP (·.down) := by
  have e : l = (List.range l.length).map fun s => l.getD s Site.z := by
    apply List.ext_getElem (by simp)
    intro i h1 h2
    rw [List.getElem_map, List.getElem_range, getD_of h1]
  conv => rhs; rw [e]
  rw [List.countP_map]
  rfl
theorem liveLaw {N : Nat} (hN : 5000 < N) (hL : alibkeep_sitesLives N = some true) (n : Int) (fast : Bool) (people : List (List Ask)) (acts : List Act) (hl : ∀ l ∈ people, l.length < N ∧ l.length ≤ 9223372036854775807) (ha : acts.length < N ∧ acts.length ≤ 9223372036854775807) (hs : ∀ q ∈ people, q.length ≤ 10000000000000) : alibkeep_SitesLive N n fast people acts = some true := by
  refine Wp.eq ?_
  unfold alibkeep_SitesLive
  rcases play_res hN n fast acts hl ha with ⟨e, he, hP⟩ | ⟨hP, hn, h8, hok, hlen, hact⟩
  · exact .bdO hP (.bdO hL (.condT (by simp [he]) (.bdO hL (.one (by simp [he])))))
  have h12 := play_sum hN hl hs ha hP h8
  obtain ⟨nn, rfl⟩ : ∃ q : Nat, n = q := ⟨n.toNat, by omega⟩
  rw [Int.toNat_natCast] at hP hact
  have hask := asks_of hok
  obtain ⟨g, A, hr, hp⟩ := run_zz (zz0 N fast (n := nn) h8 (by omega) hask) hact
  obtain ⟨r0, p0⟩ := asksum nn people
  rw [r0] at hr
  rw [p0] at hp
  obtain ⟨S, hS⟩ : ∃ S, S = (people.map List.length).sum := ⟨_, rfl⟩
  rw [← hS] at hr hp h12
  obtain ⟨X, hX⟩ : ∃ X, X = run fast (m0 nn people) acts := ⟨_, rfl⟩
  rw [← hX] at hr hp A hP
  have hsl := A.z.sl
  have hpl := A.z.pl
  refine .bdO hP (.bdO hL (.condF (by simp [hsl]) ?_))
  refine .seq (P := fun d => d = ((X.sites.countP (·.down) : Nat) : Int)) (.iter X.sites.length (fun k st => st = ((((X.sites.take k).countP (·.down) : Nat) : Int), (k : Int))) (by omega) rfl ?_ ?_) fun d _ hd => ?_
  · rintro k st hk rfl
    simp only [alibkeep_SitesLive_L31]
    have e : (X.sites.take (k + 1)).countP (·.down) = (X.sites.take k).countP (·.down) + if X.sites[k].down then 1 else 0 := by
      rw [← List.take_append_getElem hk, List.countP_append, List.countP_singleton]
    have hle : (X.sites.take k).countP (·.down) ≤ (X.sites.take k).length := List.countP_le_length
    rw [List.length_take] at hle
    refine .condT (decide_eq_true (by omega)) (.ix hk (.cond (fun h => .ck64 (by omega) (.ck64 (by omega) (.one ?_))) fun h => .ck64 (by omega) (.one ?_)))
    · show (_, _) = (_, _)
      rw [e, if_pos h]; simp
    · show (_, _) = (_, _)
      rw [e, if_neg (by rw [h]; decide)]; simp
  · rintro st rfl
    simp only [alibkeep_SitesLive_L31]
    exact .condF (decide_eq_false (by omega)) (.one (by rw [List.take_length]))
  subst hd
  refine .seq (P := fun d => d = (S : Int)) (.iter people.length (fun k st => st = (((((people.take k).map List.length).sum : Nat) : Int), (k : Int))) (by omega) rfl ?_ ?_) fun d _ hd => ?_
  · rintro k st hk rfl
    simp only [alibkeep_SitesLive_L33]
    have e : ((people.take (k + 1)).map List.length).sum = ((people.take k).map List.length).sum + people[k].length := by
      rw [← List.take_append_getElem hk, List.map_append, List.sum_append_nat]; simp
    have hle : ((people.take (k + 1)).map List.length).sum + ((people.drop (k + 1)).map List.length).sum = S := by
      rw [hS, ← List.sum_append_nat, ← List.map_append, List.take_append_drop]
    refine .condT (decide_eq_true (by omega)) (.ix hk (.ck64 (by omega) (.ck64 (by omega) (.one ?_))))
    show (_, _) = (_, _)
    rw [e]; simp
  · rintro st rfl
    simp only [alibkeep_SitesLive_L33]
    exact .condF (decide_eq_false (by omega)) (.one (by rw [List.take_length, hS]))
  subst hd
  have hnn : nn ≤ 5 := by omega
  have hmul : nn * S ≤ 60 := Nat.mul_le_mul hnn h12
  obtain ⟨L, hLd⟩ : ∃ L, L = 2 * (nn * S) := ⟨_, rfl⟩
  have hLi : (2 * (nn : Int)) * (S : Int) = (L : Int) := by
    rw [hLd]; push_cast; rw [Int.mul_assoc]
  refine .ck (limB_of ⟨Nat.le_trans (m := 2000) (by omega) (by decide), by omega⟩) ?_
  have hpsl : ∀ k, k ≤ S → (passes people.length L k).length ≤ 12 * 248 := fun k hk => by
    rw [passes_len]
    exact Nat.mul_le_mul (by omega) (by omega)
  refine .seq (P := fun al => al = acts ++ passes people.length L S) (.iter S (fun k st => st = (acts ++ passes people.length L k, (k : Int))) (by omega) (by simp [passes]) ?_ ?_) fun al _ hal => ?_
  · rintro k st hk rfl
    simp only [alibkeep_SitesLive_L55]
    have h1 := hpsl k (by omega)
    refine .condT (decide_eq_true (by omega)) ?_
    refine .seq (P := fun r => r = acts ++ passes people.length L (k + 1)) (.seq (P := fun r => r = acts ++ passes people.length L k ++ callsL people.length) (.iter people.length (fun j st => st = (acts ++ passes people.length L k ++ callsL j, (j : Int))) (by omega) (by simp [callsL]) ?_ ?_) fun r _ hr2 => ?_) fun r _ hr2 => .ck64 (by omega) (.one ?_)
    · rintro j st hj rfl
      simp only [alibkeep_SitesLive_L59]
      refine .condT (decide_eq_true (by omega)) (.ck (limB_of ⟨?_, ?_⟩) (.ck64 (by omega) (.one ?_)))
      · simp only [List.length_append, callsL_len, List.length_singleton]; exact Nat.le_trans (m := 20000) (by omega) (by decide)
      · simp only [List.length_append, callsL_len, List.length_singleton]; omega
      · show (_, _) = (_, _)
        rw [callsL_succ]; simp
    · rintro st rfl
      simp only [alibkeep_SitesLive_L59]
      exact .condF (decide_eq_false (by omega)) (.one rfl)
    · subst hr2
      rw [hLi]
      refine .ck64 (by omega) (.ck64 (by omega) (.bdO (letters_eq (by omega) (by omega)) (.ck (limB_of ⟨?_, ?_⟩) (.one ?_))))
      · simp only [List.length_append, callsL_len, lettersL_len]; exact Nat.le_trans (m := 20000) (by omega) (by decide)
      · simp only [List.length_append, callsL_len, lettersL_len]; omega
      · show _ = acts ++ (passes people.length L k ++ (callsL people.length ++ lettersL L))
        simp
    · subst hr2
      show (_, _) = (_, _)
      simp
  · rintro st rfl
    simp only [alibkeep_SitesLive_L55]
    exact .condF (decide_eq_false (by omega)) (.one rfl)
  subst hal
  have hcl : X.sites.countP (·.down) ≤ nn := by
    have := List.countP_le_length (p := fun s : Site => s.down) (l := X.sites)
    omega
  refine .ck64 (by omega) (.cond (fun _ => .one rfl) fun hc => ?_)
  simp only [Bool.or_eq_false_iff, decide_eq_false_iff_not] at hc
  obtain ⟨hc1, hc2⟩ := hc
  -- fewer than half are down
  have hup : Up nn X := by
    have e1 : (List.range nn).countP (fun s => (X.site s).down) = X.sites.countP (·.down) := by rw [← hsl]; exact count_range
    have e2 := List.length_eq_countP_add_countP (fun s => (X.site s).down) (l := List.range nn)
    rw [List.length_range, e1] at e2
    have e3 : (List.range nn).countP (fun s => !(X.site s).down) = (List.range nn).countP (fun a => decide ¬ (X.site a).down = true) := List.countP_congr fun s _ => by
      cases (X.site s).down <;> simp
    unfold Up Most
    omega
  have hprog : ∀ w, w < people.length → (X.who w).program.length ≤ S := fun w hw => by
    have h1 : rem (X.who w) ≤ rems X := sum_ge (f := rem) (who_mem (by omega))
    cases hq : (X.who w).pending with
    | false =>
      have : rem (X.who w) = (X.who w).program.length := by unfold rem; rw [hq]; simp
      have hr' : rems X + g.c.length = S := by simpa using hr
      omega
    | true =>
      obtain ⟨i, P⟩ := A.z.pend w hw hq
      have := P.ilt
      have h2 : (X.who w).program.length ≤ rem (X.who w) + 1 := by unfold rem; rw [hq]; simp; omega
      have hr' : rems X + g.c.length = S := by simpa using hr
      omega
  obtain ⟨g1, A1, _, l1, _⟩ := pass_all A (L := L) (by omega) hup hprog S (Nat.le_refl _)
  have hact2 : ∀ a ∈ acts ++ passes people.length L S, OkA people.length nn a := fun a h => by
    rcases List.mem_append.1 h with h | h
    · exact hact a h
    · exact passes_ok _ _ _ _ a h
  have hP2 := play_more hN hl ha hP (acts2 := acts ++ passes people.length L S) (by omega) (by rw [Int.toNat_natCast]; exact hact2)
  rw [Int.toNat_natCast] at hP2
  obtain ⟨g2, A2, hr2, _⟩ := run_zz (zz0 N fast (n := nn) h8 (by omega) hask) hact2
  rw [r0, ← hS] at hr2
  have hrun : run fast (m0 nn people) (acts ++ passes people.length L S) = run fast X (passes people.length L S) := by rw [run_app, ← hX]
  rw [hrun] at hP2 A2 hr2
  generalize run fast X (passes people.length L S) = Y at hP2 A2 hr2 l1
  have hpl2 := A2.z.pl
  have hnil : ∀ w, w < people.length → (Y.who w).program = [] := fun w hw => List.eq_nil_of_length_eq_zero (by have := l1 w hw; omega)
  have hnone : ∀ w, w < people.length → (Y.who w).pending = false := fun w hw => by
    cases hq : (Y.who w).pending with
    | false => rfl
    | true =>
      obtain ⟨i, P⟩ := A2.z.pend w hw hq
      obtain ⟨a, rest, h1, _⟩ := P.cal.2.2
      rw [hnil w hw] at h1; cases h1
  have hrem : rems Y = 0 := by
    unfold rems
    have : Y.people.map rem = Y.people.map fun _ => 0 := by
      refine List.map_congr_left fun p hp => ?_
      obtain ⟨w, hw, rfl⟩ := List.getElem_of_mem hp
      have := hnil w (by omega)
      unfold M.who at this
      rw [getD_of hw] at this
      unfold rem; rw [this]; simp
    rw [this]
    induction Y.people with
    | nil => rfl
    | cons a l ih => simpa using ih
  have hcS : g2.c.length = S := by
    have : rems Y + g2.c.length = S + 0 := hr2
    omega
  have R := A2.z.run
  have hcnt := R.wf.cnt
  have hle2 : g2.c.countP (fun c => !decide (c.to_ = -1)) ≤ g2.c.length := List.countP_le_length
  have hcalls := calls_of (by omega) (types1 (by omega)) (by omega) R
  have hall : ∀ i, i < g2.c.length → (g2.c.getD i Call.z).to_ ≠ -1 := fun i hi h => by
    have O := R.wf.one i hi
    have hwn := A2.z.wn i hi
    have hwn : (g2.c.getD i Call.z).who < people.length := hwn
    rcases O.to with ⟨_, h2, _⟩ | ⟨h2, _⟩
    · have hb := O.who
      have := A2.z.wait (w := (g2.c.getD i Call.z).who.toNat) (by omega) h2
      rw [hnone _ (by omega)] at this; cases this
    · have := O.fr.1; omega
  refine .bdO hP2 (.bdO hcalls (.bdO (ok00 (by omega)) (.bdO (a := false) ?_ (.one ?_))))
  · rw [decide_eq_true (by rw [hcS])]
    show slices_ContainsFunc_api_Call_api_Call N g2.c = some false
    unfold slices_ContainsFunc_api_Call_api_Call slices_IndexFunc_api_Call_api_Call
    refine Wp.eq (.seq (P := fun r => r = -1) (.elim (P := fun t => match t with | .inl _ => True | .inr _ => False) (.iter g2.c.length (fun k v => v = (k : Int)) (by omega) rfl ?_ ?_) (fun _ _ _ => .one rfl) (fun _ _ h => h.elim)) fun r _ hr => .one (by rw [hr]; rfl))
    · rintro k v hk rfl
      simp only [slices_IndexFunc_api_Call_api_Call_L3]
      have h1 := hall k hk
      rw [getD_of hk] at h1
      exact .condT (decide_eq_true (by omega)) (.ix hk (.bdO (a := ()) rfl (.condF (decide_eq_false h1) (.ck64 (by omega) (.one (by simp))))))
    · rintro v rfl
      simp only [slices_IndexFunc_api_Call_api_Call_L3]
      exact .condF (decide_eq_false (by omega)) (.one trivial)
  · show ((true && decide ((g2.c.length : Int) = (S : Int))) && !false) = true
    rw [decide_eq_true (by omega)]; rfl
end Si

end Go.Proofs.Yteklmleiiiodfaa
