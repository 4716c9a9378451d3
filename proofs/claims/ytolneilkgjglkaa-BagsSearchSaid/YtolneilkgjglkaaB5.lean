/- A set, number by number. -/
import Derived.Test.YtolneilkgjglkaaB4
import Derived.Test.YtolneilkgjglkaaB2
set_option linter.unusedVariables false
set_option linter.unusedSimpArgs false
set_option linter.unusedSectionVars false
set_option maxRecDepth 100000
namespace Go.Proofs.Ytolneilkgjglkaa
open Go.RowKit
namespace Ob
/-- What a step does to a set: who is in it behind. -/
def inn (kind arg : Int) (P : Int → Prop) (x : Int) : Prop := if kind = 7 then x = arg ∨ P x else if kind = 8 then x ≠ arg ∧ P x else P x
open Classical in
noncomputable def ans (kind arg : Int) (P : Int → Prop) : Int := if kind = 7 then (if P arg then 0 else 1) else (if P arg then 1 else 0)
theorem set_step {s : List Int} {kind arg : Int} (hO : OkS 4 s) (hA : Asked 4 kind arg) {n : List Int} {res : Int} (h : stp 4 s kind arg = some (n, res)) :
    (∀ x, x ∈ n ↔ inn kind arg (· ∈ s) x) ∧ res = ans kind arg (· ∈ s) := by
  obtain ⟨hl, hs⟩ : s.length ≤ 50 ∧ Inc s := by
    rcases hO with ⟨h, _⟩ | ⟨h, _⟩ | ⟨_, h1, _, h2⟩
    · omega
    · omega
    · exact ⟨h1, h2⟩
  have hinv := tyK_inv hA.2.1 hA.1
  unfold stp at h
  rw [if_neg (by decide), if_neg (by decide), if_neg (by decide), if_neg (by decide)] at h
  unfold inn ans
  by_cases h7 : kind = 7
  · subst h7
    rw [if_pos rfl] at h
    by_cases hm : arg ∈ s
    · rw [if_pos hm] at h
      cases h
      refine ⟨fun x => ?_, ?_⟩
      · rw [if_pos rfl]
        exact ⟨.inr, fun h => h.elim (fun e => e ▸ hm) id⟩
      · rw [if_pos rfl, if_pos hm]
    · rw [if_neg hm] at h
      split at h
      · cases h
      · obtain ⟨rfl, rfl⟩ : ins s arg = n ∧ 1 = res := by simpa [ins] using h
        exact ⟨fun x => by rw [if_pos rfl]; exact ins_mem, by rw [if_pos rfl, if_neg hm]⟩
  · rw [if_neg h7] at h
    by_cases h8 : kind = 8
    · subst h8
      rw [if_pos rfl] at h
      by_cases hm : arg ∈ s
      · rw [if_pos hm] at h
        obtain ⟨rfl, rfl⟩ : del s arg = n ∧ 1 = res := by simpa [del] using h
        exact ⟨fun x => by rw [if_neg (by decide), if_pos rfl]; exact del_mem (by omega) hs hm, by rw [if_neg (by decide), if_pos hm]⟩
      · rw [if_neg hm] at h
        cases h
        refine ⟨fun x => ?_, ?_⟩
        · rw [if_neg (by decide), if_pos rfl]
          exact ⟨fun h => ⟨fun e => hm (e ▸ h), h⟩, fun h => h.2⟩
        · rw [if_neg (by decide), if_neg hm]
    · rw [if_neg h8] at h
      cases h
      refine ⟨fun x => ?_, ?_⟩
      · rw [if_neg h7, if_neg h8]
      · rw [if_neg h7]
        by_cases hm : arg ∈ s
        · rw [if_pos hm, if_pos hm]
        · rw [if_neg hm, if_neg hm]
theorem ok2 {N : Nat} (hN : 300 < N) (a b : Int) : alibkeep_ok N [a, b] = some (decide (a = 0 ∧ b = 0)) := by
  obtain ⟨M, rfl⟩ : ∃ M, N = M + 3 := ⟨N - 3, by omega⟩
  by_cases h1 : a = 0
  · subst h1
    by_cases h2 : b = 0
    · subst h2; rfl
    · have : decide ((0 : Int) = 0 ∧ b = 0) = false := decide_eq_false fun h => h2 h.2
      rw [this]
      simp [alibkeep_ok, alibkeep_ok_L3, iter, bd, ix, ck, ok64, h2]
  · have : decide (a = 0 ∧ b = 0) = false := decide_eq_false fun h => h1 h.1
    rw [this]
    simp [alibkeep_ok, alibkeep_ok_L3, iter, bd, ix, ck, ok64, h1]
end Ob

namespace Sr
open Rl Hs
/-- A set, number by number. -/
def nb (b : Bool) (kind : Int) : Bool × Int := if kind = 7 then (true, if b then 0 else 1) else if kind = 8 then (false, if b then 1 else 0) else (b, if b then 1 else 0)
def runb : Bool → List Do → Bool
  | _, [] => true
  | b, d :: l => decide ((nb b d.kind).2 = d.res) && runb (nb b d.kind).1 l
def fo (n : Int) (l : List Do) : List Do := l.filter fun d => decide (d.arg = n)
theorem stp4 {S : List Int} (hl : S.length + 1 ≤ 50) (kind arg : Int) : ∃ n r, Ob.stp 4 S kind arg = some (n, r) ∧ n.length ≤ S.length + 1 := by
  have key := congrArg List.length (List.takeWhile_append_dropWhile (p := (· < arg)) (l := S))
  rw [List.length_append] at key
  unfold Ob.stp
  rw [if_neg (by decide), if_neg (by decide), if_neg (by decide), if_neg (by decide)]
  by_cases h7 : kind = 7
  · rw [if_pos h7]
    by_cases hm : arg ∈ S
    · rw [if_pos hm]; exact ⟨_, _, rfl, by omega⟩
    · rw [if_neg hm, if_neg (by omega)]
      refine ⟨_, _, rfl, ?_⟩
      simp only [List.length_append, List.length_singleton]
      omega
  · rw [if_neg h7]
    by_cases h8 : kind = 8
    · rw [if_pos h8]
      by_cases hm : arg ∈ S
      · rw [if_pos hm]
        refine ⟨_, _, rfl, ?_⟩
        simp only [List.length_append, List.length_drop]
        omega
      · rw [if_neg hm]; exact ⟨_, _, rfl, by omega⟩
    · rw [if_neg h8]; exact ⟨_, _, rfl, by omega⟩
theorem nb_of {S n : List Int} {kind arg r : Int} (h1 : ∀ x, x ∈ n ↔ Ob.inn kind arg (· ∈ S) x) (h2 : r = Ob.ans kind arg (· ∈ S)) : nb (decide (arg ∈ S)) kind = (decide (arg ∈ n), r) := by
  have h1 := h1 arg
  unfold Ob.inn at h1
  unfold Ob.ans at h2
  subst h2
  unfold nb
  by_cases h7 : kind = 7
  · rw [if_pos h7] at h1 ⊢
    rw [if_pos h7, decide_eq_true (h1.2 (.inl rfl))]
    by_cases hm : arg ∈ S
    · rw [decide_eq_true hm, if_pos hm]; rfl
    · rw [decide_eq_false hm, if_neg hm]; rfl
  · rw [if_neg h7] at h1 ⊢
    rw [if_neg h7]
    by_cases h8 : kind = 8
    · rw [if_pos h8] at h1 ⊢
      rw [decide_eq_false (fun h => (h1.1 h).1 rfl)]
      by_cases hm : arg ∈ S
      · rw [decide_eq_true hm, if_pos hm]; rfl
      · rw [decide_eq_false hm, if_neg hm]; rfl
    · rw [if_neg h8] at h1 ⊢
      by_cases hm : arg ∈ S
      · rw [decide_eq_true hm, decide_eq_true (h1.2 hm), if_pos hm]; rfl
      · rw [decide_eq_false hm, decide_eq_false (fun h => hm (h1.1 h)), if_neg hm]; rfl
theorem inn_other {S n : List Int} {kind arg : Int} (h1 : ∀ x, x ∈ n ↔ Ob.inn kind arg (· ∈ S) x) {x : Int} (hx : x ≠ arg) : decide (x ∈ n) = decide (x ∈ S) := by
  refine decide_eq_decide.2 ((h1 x).trans ?_)
  unfold Ob.inn
  split
  · exact ⟨fun h => h.resolve_left hx, .inr⟩
  · split
    · exact ⟨fun h => h.2, fun h => ⟨hx, h⟩⟩
    · exact Iff.rfl
theorem run4 : ∀ {l : List Do} {S : List Int}, Ob.OkS 4 S → S.length + l.length ≤ 50 → (∀ d ∈ l, Ob.Asked 4 d.kind d.arg) → ((∃ s', Ob.run 4 S l = some s') ↔ ∀ n, runb (decide (n ∈ S)) (fo n l) = true)
  | [], S, _, _, _ => ⟨fun _ n => rfl, fun _ => ⟨S, rfl⟩⟩
  | d :: l, S, hO, hl, hA => by
    have hAd := hA d (.head _)
    rw [List.length_cons] at hl
    obtain ⟨n', r, hst, hlen⟩ := stp4 (S := S) (by omega) d.kind d.arg
    have hO' := (Ob.stp_ok hO hAd hst).1
    obtain ⟨m1, m2⟩ := Ob.set_step hO hAd hst
    have hnx : Ob.nx 4 S d.kind d.arg = some (n', r) := by unfold Ob.nx; rw [if_pos ⟨hO, hAd⟩]; exact hst
    have ih := run4 (l := l) (S := n') hO' (by omega) (fun x hx => hA x (.tail _ hx))
    have e1 := nb_of m1 m2
    have hc1 : fo d.arg (d :: l) = d :: fo d.arg l := by unfold fo; rw [List.filter_cons, if_pos (by simp)]
    have hc2 : ∀ n, n ≠ d.arg → fo n (d :: l) = fo n l := fun n hn => by unfold fo; rw [List.filter_cons, if_neg (by simpa using Ne.symm hn)]
    have hr1 : runb (decide (d.arg ∈ S)) (fo d.arg (d :: l)) = (decide (r = d.res) && runb (decide (d.arg ∈ n')) (fo d.arg l)) := by
      rw [hc1]
      show (decide ((nb _ d.kind).2 = d.res) && runb (nb _ d.kind).1 _) = _
      rw [e1]
    simp only [Ob.run, hnx]
    constructor
    · rintro ⟨s', h⟩ n
      split at h
      · rename_i hr
        by_cases e : n = d.arg
        · subst e
          rw [hr1, decide_eq_true hr, ih.1 ⟨s', h⟩]; rfl
        · rw [hc2 n e, ← inn_other m1 e]; exact ih.1 ⟨s', h⟩ n
      · cases h
    · intro h
      have h0 := h d.arg
      rw [hr1, Bool.and_eq_true, decide_eq_true_eq] at h0
      rw [if_pos h0.1]
      refine ih.2 fun n => ?_
      by_cases e : n = d.arg
      · subst e; exact h0.2
      · have := h n
        rw [hc2 n e, ← inn_other m1 e] at this; exact this
theorem objl0 {c : List Call} (hth : ∀ i, i < c.length → (c.getD i Call.z).thing = 0) : ∀ {t : List Step}, (∀ s ∈ t, InC c s) → objl c 0 t = t.map (D c)
  | [], _ => rfl
  | s :: t, h => by
    have hr := (h s (.head _)).rng
    have := hth s.call.toNat (by omega)
    unfold objl
    rw [if_pos (by rw [this]; rfl), objl0 hth (fun x hx => h x (.tail _ hx))]
    rfl
/-- A right order of a set. -/
structure Lin4 (c : List Call) (t : List Step) : Prop where
  inc : ∀ s ∈ t, InC c s
  pw : t.Pairwise (Bef (bfA c))
  cm : Cm c (nums t)
  run : ∀ n, runb false (fo n (t.map (D c))) = true
theorem lin4 {c : List Call} {rel : Rel} (X : Cx [4] c rel (bfA c)) (hA : ∀ i, i < c.length → Ob.Asked 4 (c.getD i Call.z).kind (c.getD i Call.z).arg) {t : List Step} : Gd [4] c (bfA c) (S0 [4]) [] t ↔ Lin4 c t := by
  have hth : ∀ i, i < c.length → (c.getD i Call.z).thing = 0 := fun i hi => by
    have := X.th i hi
    simp only [List.length_singleton] at this
    omega
  have hcl := X.cl
  have base : (∀ s ∈ t, InC c s) → t.length ≤ c.length → ((∀ x, x < [(4 : Int)].length → ∃ s', Ob.run ([(4 : Int)].getD x 0) ((S0 [4]).getD x []) (objl c x t) = some s') ↔ ∀ n, runb false (fo n (t.map (D c))) = true) := by
    intro h hlen
    have hS : (S0 [4]).getD 0 [] = [] := by simp [S0, Ob.st0]
    have hrun := run4 (l := t.map (D c)) (S := []) (by have := S0_ok X; have := this.2 0 (by simp); rw [hS] at this; exact this) (by rw [List.length_map, List.length_nil]; omega) (fun d hd => by
      obtain ⟨s, hs, rfl⟩ := List.mem_map.1 hd
      have := (h s hs).rng
      exact hA _ (by omega))
    have e0 : ∀ n : Int, decide (n ∈ ([] : List Int)) = false := fun n => decide_eq_false (by simp)
    constructor
    · intro hx n
      have := hx 0 (by simp)
      rw [hS, objl0 hth h] at this
      rw [← e0 n]
      exact hrun.1 this n
    · intro hn x hx
      have : x = 0 := by simp only [List.length_singleton] at hx; omega
      subst this
      rw [hS, objl0 hth h]
      exact hrun.2 fun n => by rw [e0 n]; exact hn n
  unfold Gd
  rw [pl_iff X (by simp [S0]), List.nil_append]
  constructor
  · rintro ⟨⟨ha, hx⟩, hc⟩
    obtain ⟨h1, h2⟩ := ac0.1 ha
    exact ⟨h1, h2, hc, (base h1 ha.len).1 hx⟩
  · rintro ⟨h1, h2, h3, h4⟩
    have ha := ac0.2 ⟨h1, h2⟩
    exact ⟨⟨ha, (base h1 ha.len).2 h4⟩, h3⟩
theorem fo_map (c : List Call) (n : Int) (t : List Step) : fo n (t.map (D c)) = (t.filter fun s => decide ((c.getD s.call.toNat Call.z).arg = n)).map (D c) := by
  unfold fo; rw [List.filter_map]; rfl
def gA (n : Int) : Int → Int → Int → Bool := fun _ _ a => decide (a = n)
variable {N : Nat} {types : List Int} {p : List Event} {k : Nat} {out out' : List Call} {op op' : List Int} {idx pos : List Nat}
/-- Of the whole, that of one number. -/
theorem lin_part {n : Int} (P : SubH N types (gA n) p k out out' op op' idx pos) {t : List Step} (L : Lin4 out t) : ∃ t', Lin4 out' t' := by
  have hmem : ∀ s ∈ t.filter (fun s => decide ((out.getD s.call.toNat Call.z).arg = n)), InC out s ∧ gC (gA n) (out.getD s.call.toNat Call.z) = true := fun s hs => by
    obtain ⟨h1, h2⟩ := List.mem_filter.1 hs
    exact ⟨L.inc s h1, h2⟩
  have e : ((t.filter (fun s => decide ((out.getD s.call.toNat Call.z).arg = n))).map (dnS idx)).map (D out') = (t.filter (fun s => decide ((out.getD s.call.toNat Call.z).arg = n))).map (D out) := by
    rw [List.map_map]
    refine List.map_congr_left fun s hs => ?_
    exact (dn_in P (hmem s hs).1 (hmem s hs).2).2.2
  refine ⟨(t.filter (fun s => decide ((out.getD s.call.toNat Call.z).arg = n))).map (dnS idx), fun s hs => ?_, dn_pw P hmem (L.pw.sublist List.filter_sublist), cm_dn P fun i hi hg ha => ?_, fun m => ?_⟩
  · obtain ⟨x, hx, rfl⟩ := List.mem_map.1 hs
    exact (dn_in P (hmem x hx).1 (hmem x hx).2).1
  · obtain ⟨s, hs, e⟩ := List.mem_map.1 (L.cm i hi ha)
    refine List.mem_map.2 ⟨s, List.mem_filter.2 ⟨hs, ?_⟩, e⟩
    rw [e]; exact hg
  · rw [e]
    by_cases h : m = n
    · subst h
      have := L.run m
      rw [fo_map] at this
      unfold fo
      rw [List.filter_eq_self.2]
      · exact this
      · intro d hd
        obtain ⟨s, hs, rfl⟩ := List.mem_map.1 hd
        exact (List.mem_filter.1 hs).2
    · have : fo m ((t.filter (fun s => decide ((out.getD s.call.toNat Call.z).arg = n))).map (D out)) = [] := by
        refine filter_none fun d hd => ?_
        obtain ⟨s, hs, rfl⟩ := List.mem_map.1 hd
        have := of_decide_eq_true (List.mem_filter.1 hs).2
        exact decide_eq_false fun z => h (z.symm.trans this)
      rw [this]; rfl
/-- Of those of all numbers, that of the whole. -/
theorem lin_whole (hft : ∀ i, i < out.length → 0 ≤ (out.getD i Call.z).from_ ∧ ((out.getD i Call.z).to_ ≠ -1 → (out.getD i Call.z).from_ ≤ (out.getD i Call.z).to_)) {ks : List Int} (hk : ks.Nodup) (hks : ∀ i, i < out.length → (out.getD i Call.z).arg ∈ ks)
    (h : ∀ n ∈ ks, ∃ p out' op' idx pos t', SubH N types (gA n) p k out out' op op' idx pos ∧ Lin4 out' t') : ∃ t, Lin4 out t := by
  have h2 : ∀ n, ∃ u, n ∈ ks → (∀ s ∈ u, InC out s ∧ (out.getD s.call.toNat Call.z).arg = n) ∧ u.Pairwise (Bef (bfA out)) ∧ (∀ i, i < out.length → (out.getD i Call.z).arg = n → (out.getD i Call.z).to_ ≠ -1 → i ∈ nums u) ∧ runb false (u.map (D out)) = true := by
    intro n
    by_cases hn : n ∈ ks
    · obtain ⟨p, out', op', idx, pos, t', P, L⟩ := h n hn
      have e : (t'.map (upS idx)).map (D out) = t'.map (D out') := by
        rw [List.map_map]
        exact List.map_congr_left fun s hs => (up_in P (L.inc s hs)).2.2
      have harg : ∀ s ∈ t'.map (upS idx), InC out s ∧ (out.getD s.call.toNat Call.z).arg = n := fun s hs => by
        obtain ⟨x, hx, rfl⟩ := List.mem_map.1 hs
        obtain ⟨a1, a2, _⟩ := up_in P (L.inc x hx)
        exact ⟨a1, of_decide_eq_true a2⟩
      refine ⟨t'.map (upS idx), fun _ => ⟨harg, up_pw P L.inc L.pw, fun i hi hg ha => cm_up P L.cm i hi (decide_eq_true hg) ha, ?_⟩⟩
      have hr := L.run n
      rw [← e] at hr
      unfold fo at hr
      rw [List.filter_eq_self.2] at hr
      · exact hr
      · intro d hd
        obtain ⟨s, hs, rfl⟩ := List.mem_map.1 hd
        exact decide_eq_true (harg s hs).2
    · exact ⟨[], fun h => (hn h).elim⟩
  obtain ⟨ts, hts⟩ := Classical.axiomOfChoice h2
  obtain ⟨t, t1, t2, t3⟩ := join_ex hft (fun z => (out.getD z.toNat Call.z).arg) ks hk ts (fun n hn s hs => ⟨((hts n hn).1 s hs).2, ((hts n hn).1 s hs).1⟩) (fun n hn => (hts n hn).2.1)
  refine ⟨t, fun s hs => ?_, t3, fun i hi ha => ?_, fun n => ?_⟩
  · obtain ⟨a, b⟩ := t1 s hs
    exact ((hts _ a).1 s b).1
  · have hn := hks i hi
    have := (hts _ hn).2.2.1 i hi rfl ha
    obtain ⟨s, hs, e⟩ := List.mem_map.1 this
    rw [← t2 _ hn] at hs
    exact List.mem_map.2 ⟨s, (List.mem_filter.1 hs).1, e⟩
  · rw [fo_map]
    by_cases hn : n ∈ ks
    · rw [t2 n hn]; exact (hts n hn).2.2.2
    · rw [filter_none (l := t)]
      · rfl
      · intro s hs
        exact decide_eq_false fun e => hn (e ▸ (t1 s hs).1)
end Sr

end Go.Proofs.Ytolneilkgjglkaa
