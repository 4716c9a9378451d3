/- What is joined, plainly. -/
import Derived.Test.YtpakplmpihhmbaaLB5
import Derived.Test.YtpakplmpihhmbaaLO1
set_option linter.unusedVariables false
set_option linter.unusedSimpArgs false
set_option linter.unusedSectionVars false
set_option maxRecDepth 100000
namespace Go.Proofs.Ytpakplmpihhmbaa
open Go.RowKit
namespace Lc
open Hs Rl Sr
/-- One stands ahead of another one in a list. -/
def prn : List Nat → Nat → Nat → Bool
  | [], _, _ => false
  | s :: r, i, j => (decide (s = i) && decide (j ∈ r)) || prn r i j
theorem prn_mem : ∀ {u : List Nat} {i j : Nat}, prn u i j = true → i ∈ u ∧ j ∈ u
  | s :: r, i, j, h => by
    simp only [prn, Bool.or_eq_true, Bool.and_eq_true, decide_eq_true_eq] at h
    rcases h with ⟨rfl, h⟩ | h
    · exact ⟨.head _, .tail _ h⟩
    · exact ⟨.tail _ (prn_mem h).1, .tail _ (prn_mem h).2⟩
theorem prn_or : ∀ {u : List Nat} {i j : Nat}, i ∈ u → j ∈ u → i ≠ j → prn u i j = true ∨ prn u j i = true
  | s :: r, i, j, hi, hj, hne => by
    simp only [prn, Bool.or_eq_true, Bool.and_eq_true, decide_eq_true_eq]
    rcases List.mem_cons.1 hi with hi' | hi'
    · rcases List.mem_cons.1 hj with hj' | hj'
      · exact (hne (hi'.trans hj'.symm)).elim
      · exact .inl (.inl ⟨hi'.symm, hj'⟩)
    · rcases List.mem_cons.1 hj with hj' | hj'
      · exact .inr (.inl ⟨hj'.symm, hi'⟩)
      · rcases prn_or hi' hj' hne with h | h
        · exact .inl (.inr h)
        · exact .inr (.inr h)
theorem idx_ne {s i : Nat} {r : List Nat} (h : s ≠ i) : (s :: r).idxOf i = r.idxOf i + 1 := by
  rw [List.idxOf_cons]; cases he : (s == i) with
  | true => exact absurd (by simpa using he) h
  | false => rfl
theorem prn_idx : ∀ {u : List Nat} {i j : Nat}, u.Nodup → prn u i j = true → u.idxOf i < u.idxOf j
  | s :: r, i, j, hn, h => by
    obtain ⟨h1, h2⟩ := List.nodup_cons.1 hn
    simp only [prn, Bool.or_eq_true, Bool.and_eq_true, decide_eq_true_eq] at h
    rcases h with ⟨rfl, h⟩ | h
    · rw [List.idxOf_cons_self, idx_ne (i := j) (fun e => h1 (by rw [e]; exact h))]
      omega
    · obtain ⟨g1, g2⟩ := prn_mem h
      rw [idx_ne (i := i) (fun e => h1 (by rw [e]; exact g1)), idx_ne (i := j) (fun e => h1 (by rw [e]; exact g2))]
      have := prn_idx h2 h
      omega
theorem prn_sub {u t : List Nat} (h : List.Sublist u t) : ∀ {i j : Nat}, prn u i j = true → prn t i j = true := by
  induction h with
  | slnil => exact fun h => h
  | cons a _ ih => intro i j hh; simp only [prn, Bool.or_eq_true]; exact .inr (ih hh)
  | cons_cons a hs ih =>
    intro i j hh
    simp only [prn, Bool.or_eq_true, Bool.and_eq_true, decide_eq_true_eq] at hh ⊢
    rcases hh with ⟨h1, h2⟩ | h1
    · exact .inl ⟨h1, hs.subset h2⟩
    · exact .inr (ih h1)
theorem prn_pw {R : Nat → Nat → Prop} : ∀ {u : List Nat} {i j : Nat}, u.Pairwise R → prn u i j = true → R i j
  | s :: r, i, j, hp, h => by
    obtain ⟨h1, h2⟩ := List.pairwise_cons.1 hp
    simp only [prn, Bool.or_eq_true, Bool.and_eq_true, decide_eq_true_eq] at h
    rcases h with ⟨rfl, h⟩ | h
    · exact h1 j h
    · exact prn_pw h2 h
theorem pw_prn : ∀ (u : List Nat), u.Pairwise fun i j => prn u i j = true
  | [] => .nil
  | s :: r => by
    refine List.pairwise_cons.2 ⟨fun j hj => ?_, (pw_prn r).imp fun h => ?_⟩
    · simp only [prn, Bool.or_eq_true, Bool.and_eq_true, decide_eq_true_eq]; exact .inl ⟨trivial, hj⟩
    · simp only [prn, Bool.or_eq_true]; exact .inr h
theorem prn_snoc (s : Nat) : ∀ (u : List Nat) (i j : Nat), prn (u ++ [s]) i j = (prn u i j || (decide (i ∈ u) && decide (s = j)))
  | [], i, j => by simp [prn]
  | a :: r, i, j => by
    rw [List.cons_append]
    apply Bool.eq_iff_iff.2
    simp only [prn, prn_snoc s r i j, Bool.or_eq_true, Bool.and_eq_true, decide_eq_true_eq, List.mem_append, List.mem_singleton, List.mem_cons, List.not_mem_nil, or_false]
    constructor
    · rintro (⟨h1, h2 | h2⟩ | h | ⟨h1, h2⟩)
      · exact .inl (.inl ⟨h1, h2⟩)
      · exact .inr ⟨.inl h1.symm, h2.symm⟩
      · exact .inl (.inr h)
      · exact .inr ⟨.inr h1, h2⟩
    · rintro ((⟨h1, h2⟩ | h) | ⟨h1 | h1, h2⟩)
      · exact .inl ⟨h1, .inl h2⟩
      · exact .inr (.inl h)
      · exact .inl ⟨h1.symm, .inr h2.symm⟩
      · exact .inr (.inr ⟨h1, h2⟩)
/-- The lists that are joined: right of form. -/
structure Form (c : List Call) (w : List (List Step)) : Prop where
  at_ : ∀ z, z < w.length → ∀ s ∈ w.getD z [], 0 ≤ s.call ∧ s.call < c.length ∧ (c.getD s.call.toNat Call.z).thing = (z : Int)
  nd : (nums w.flatten).Nodup
/-- What must come ahead of what. -/
def qJ (c : List Call) (w : List (List Step)) (i j : Nat) : Bool := bfA c i j || w.any fun u => prn (nums u) i j
/-- All that are ahead, joined. -/
structure Join (c : List Call) (w : List (List Step)) (x : List Step) : Prop where
  mem : ∀ s, s ∈ x ↔ s ∈ w.flatten
  nd : (nums x).Nodup
  pw : (nums x).Pairwise fun i j => qJ c w j i = false
theorem nums_mem {u : List Step} {i : Nat} : i ∈ nums u ↔ ∃ s ∈ u, s.call.toNat = i := by unfold nums; exact List.mem_map
theorem nums_app (a b : List Step) : nums (a ++ b) = nums a ++ nums b := by unfold nums; exact List.map_append
theorem Form.inj {c : List Call} {w : List (List Step)} (F : Form c w) {s t : Step} (hs : s ∈ w.flatten) (ht : t ∈ w.flatten) (h : s.call.toNat = t.call.toNat) : s = t := by
  obtain ⟨i, hi, rfl⟩ := List.mem_iff_getElem.1 hs
  obtain ⟨j, hj, rfl⟩ := List.mem_iff_getElem.1 ht
  have h1 : (nums w.flatten)[i]? = (nums w.flatten)[j]? := by
    unfold nums
    rw [List.getElem?_map, List.getElem?_map, List.getElem?_eq_getElem hi, List.getElem?_eq_getElem hj]
    simp [h]
  have := (List.getElem?_inj (by unfold nums; rw [List.length_map]; exact hi) F.nd).1 h1
  subst this; rfl
theorem Form.mem {c : List Call} {w : List (List Step)} (F : Form c w) {s : Step} (hs : s ∈ w.flatten) : ∃ z, z < w.length ∧ s ∈ w.getD z [] ∧ 0 ≤ s.call ∧ s.call < c.length ∧ (c.getD s.call.toNat Call.z).thing = (z : Int) := by
  obtain ⟨u, hu, hs⟩ := List.mem_flatten.1 hs
  obtain ⟨z, hz, rfl⟩ := List.mem_iff_getElem.1 hu
  have e : w.getD z [] = w[z] := getD_of hz
  exact ⟨z, hz, by rw [e]; exact hs, F.at_ z hz s (by rw [e]; exact hs)⟩
theorem mem_flat {w : List (List Step)} {z : Nat} (hz : z < w.length) {s : Step} (h : s ∈ w.getD z []) : s ∈ w.flatten := by
  rw [getD_of hz] at h
  exact List.mem_flatten.2 ⟨_, List.getElem_mem hz, h⟩
theorem Form.sub {c : List Call} {w : List (List Step)} (F : Form c w) {z : Nat} (hz : z < w.length) : (nums (w.getD z [])).Nodup := by
  rw [getD_of hz]
  have : List.Sublist (nums w[z]) (nums w.flatten) := by
    unfold nums
    exact (List.sublist_flatten_of_mem (List.getElem_mem hz)).map _
  exact F.nd.sublist this
/-- Each part stands as it stood. -/
theorem Join.part {c : List Call} {w : List (List Step)} {x : List Step} (F : Form c w) (J : Join c w x) {z : Nat} (hz : z < w.length) : x.filter (fun s => decide (thN c s = z)) = w.getD z [] := by
  have hmem : ∀ s, s ∈ x.filter (fun s => decide (thN c s = z)) ↔ s ∈ w.getD z [] := by
    intro s
    rw [List.mem_filter, J.mem, decide_eq_true_eq]
    constructor
    · rintro ⟨h1, h2⟩
      obtain ⟨y, hy, h3, _, _, h4⟩ := F.mem h1
      unfold thN at h2
      rw [h4] at h2
      obtain rfl : y = z := by omega
      exact h3
    · intro h
      refine ⟨mem_flat hz h, ?_⟩
      have := (F.at_ z hz s h).2.2
      unfold thN; rw [this]; omega
  have hndx : (nums (x.filter fun s => decide (thN c s = z))).Nodup := J.nd.sublist (by unfold nums; exact List.filter_sublist.map _)
  have hsub : List.Sublist (nums (x.filter fun s => decide (thN c s = z))) (nums x) := by unfold nums; exact List.filter_sublist.map _
  have hq : ∀ i j, prn (nums (w.getD z [])) i j = true → qJ c w i j = true := by
    intro i j h
    unfold qJ
    rw [Bool.or_eq_true]
    right
    rw [List.any_eq_true]
    exact ⟨w.getD z [], by rw [getD_of hz]; exact List.getElem_mem hz, h⟩
  have hnn : ∀ i, i ∈ nums (x.filter fun s => decide (thN c s = z)) ↔ i ∈ nums (w.getD z []) := by
    intro i; rw [nums_mem, nums_mem]
    exact ⟨fun ⟨s, h1, h2⟩ => ⟨s, (hmem s).1 h1, h2⟩, fun ⟨s, h1, h2⟩ => ⟨s, (hmem s).2 h1, h2⟩⟩
  -- the numbers are the same
  have hnum : nums (x.filter fun s => decide (thN c s = z)) = nums (w.getD z []) := by
    refine List.Perm.eq_of_pairwise (le := fun i j => qJ c w i j = true) ?_ ?_ ?_ ((List.perm_ext_iff_of_nodup hndx (F.sub hz)).2 hnn)
    · intro a b ha hb h1 h2
      apply Classical.byContradiction
      intro hne
      have ha' := hsub.subset ha
      have hb' := hsub.subset ((hnn b).2 hb)
      rcases prn_or ha' hb' hne with h | h
      · have := prn_pw J.pw h
        rw [h2] at this; cases this
      · have := prn_pw J.pw h
        rw [h1] at this; cases this
    · have hp := (J.pw.sublist hsub)
      have hne : (nums (x.filter fun s => decide (thN c s = z))).Pairwise (· ≠ ·) := hndx
      refine (hp.and hne).imp_of_mem fun {i j} hi hj h => ?_
      rcases prn_or ((hnn i).1 hi) ((hnn j).1 hj) h.2 with h3 | h3
      · exact hq i j h3
      · rw [hq j i h3] at h; exact absurd h.1 (by decide)
    · exact (pw_prn _).imp fun h => hq _ _ h
  -- and so are the steps
  have hl : (x.filter fun s => decide (thN c s = z)).length = (w.getD z []).length := by
    have := congrArg List.length hnum
    unfold nums at this
    simpa using this
  apply List.ext_getElem hl
  intro i h1 h2
  have e1 : (nums (x.filter fun s => decide (thN c s = z)))[i]? = (nums (w.getD z []))[i]? := by rw [hnum]
  unfold nums at e1
  rw [List.getElem?_map, List.getElem?_map, List.getElem?_eq_getElem h1, List.getElem?_eq_getElem h2] at e1
  have hm1 := List.getElem_mem h1
  have hm2 := List.getElem_mem h2
  exact F.inj (mem_flat hz ((hmem _).1 hm1)) (mem_flat hz hm2) (by simpa using e1)
/-- Right parts make a right whole. -/
theorem Join.right {N : Nat} {types : List Int} {l : List Event} {c : List Call} {w : List (List Step)} {x : List Step} (K : Chk N types l c) (hw : w.length = types.length) (F : Form c w) (J : Join c w x) (h : ∀ z, z < types.length → ThO types c z (w.getD z [])) : LinT types c x := by
  have hinc : ∀ s ∈ x, InC c s := fun s hs => by
    obtain ⟨z, hz, h1, _⟩ := F.mem ((J.mem s).1 hs)
    exact (h z (by omega)).inc s h1
  refine lin_whole K.th hinc ?_ fun z hz => by rw [J.part F (by omega)]; exact h z hz
  have hp : x.Pairwise fun a b => qJ c w b.call.toNat a.call.toNat = false := by
    have := J.pw; unfold nums at this; rwa [List.pairwise_map] at this
  have hn : x.Pairwise fun a b => a.call.toNat ≠ b.call.toNat := by
    have := J.nd; unfold nums at this; unfold List.Nodup at this; rwa [List.pairwise_map] at this
  refine (hp.and hn).imp fun {a b} hh => ⟨fun e => hh.2 (by rw [e]), ?_⟩
  have := hh.1
  unfold qJ at this
  exact (Bool.or_eq_false_iff.1 this).1
/-- Where all parts are right nothing is round. -/
theorem noround {N : Nat} {types : List Int} {l : List Event} {c : List Call} {op : List Int} {w : List (List Step)} (K : Chk N types l c) (R : Rn N types l l.length c op) (hw : w.length = types.length) (h : ∀ z, z < types.length → ThO types c z (w.getD z [])) : ∃ f : Nat → Nat, ∀ i j, qJ c w i j = true → f i < f j := by
  obtain ⟨t, t1, t2, t3⟩ := join_th (hft R) h
  have hlin : LinT types c t := lin_whole K.th (fun s hs => (t1 s hs).1) t2 fun z hz => by rw [t3 z hz]; exact h z hz
  have hnd : (nums t).Nodup := by
    unfold nums List.Nodup
    rw [List.pairwise_map]
    refine t2.imp_of_mem fun {a b} ha hb h2 e => h2.1 ?_
    have := (t1 a ha).1.rng
    have := (t1 b hb).1.rng
    omega
  have hpw : (nums t).Pairwise fun i j => bfA c j i = false := by
    unfold nums
    rw [List.pairwise_map]
    exact t2.imp fun h => h.2
  refine ⟨fun i => if i ∈ nums t then (nums t).idxOf i else t.length, fun i j hq => ?_⟩
  have hlt : ∀ i, i ∈ nums t → (nums t).idxOf i < t.length := fun i hi => by
    have := List.idxOf_lt_length_of_mem hi
    unfold nums at this ⊢
    simpa using this
  have fin : i ∈ nums t → (j ∈ nums t → prn (nums t) i j = true) → (if i ∈ nums t then (nums t).idxOf i else t.length) < (if j ∈ nums t then (nums t).idxOf j else t.length) := by
    intro hi hj
    rw [if_pos hi]
    by_cases h3 : j ∈ nums t
    · rw [if_pos h3]; exact prn_idx hnd (hj h3)
    · rw [if_neg h3]; exact hlt i hi
  unfold qJ at hq
  rcases Bool.or_eq_true_iff.1 hq with hb | hb
  · have hb' := hb
    unfold bfA at hb'
    obtain ⟨g1, g2, g3, g4⟩ := of_decide_eq_true hb'
    have hi := hlin.cm i g1 g3
    refine fin hi fun hj => ?_
    have hne : i ≠ j := fun e => by
      subst e
      have := (hft R i g1).2 g3
      omega
    rcases prn_or hi hj hne with h3 | h3
    · exact h3
    · have := prn_pw hpw h3
      rw [hb] at this; cases this
  · obtain ⟨u, hu, hp⟩ := List.any_eq_true.1 hb
    obtain ⟨z, hz, rfl⟩ := List.mem_iff_getElem.1 hu
    have e := t3 z (by omega)
    have hs : List.Sublist (nums w[z]) (nums t) := by
      rw [getD_of hz] at e
      rw [← e]; unfold nums; exact List.filter_sublist.map _
    have hp2 := prn_sub hs hp
    exact fin (prn_mem hp2).1 fun _ => hp2
end Lc

end Go.Proofs.Ytpakplmpihhmbaa
