/- RegularTurned, plainly. -/
import Derived.Test.YteklmleiiiodfaaR5
import Derived.Test.YteklmleiiiodfaaR4
import Derived.Test.YteklmleiiiodfaaL5
import Derived.Test.YteklmleiiiodfaaL7
set_option linter.unusedVariables false
set_option linter.unusedSimpArgs false
set_option linter.unusedSectionVars false
set_option maxRecDepth 100000
namespace Go.Proofs.Yteklmleiiiodfaa
open Go.RowKit
namespace Sr
open Rl Hs
/-- Arguments and results are as they may be. -/
theorem rn_arg {N : Nat} {types : List Int} {l : List Event} {k : Nat} {out : List Call} {op : List Int} (R : Rn N types l k out op) : ∀ m, m < out.length → history_Argument N (out.getD m Call.z).kind (out.getD m Call.z).arg = some true ∧ ((out.getD m Call.z).to_ ≠ -1 → history_result N (out.getD m Call.z).kind (out.getD m Call.z).res = some true) := by
  induction R with
  | zero => exact fun m h => absurd h (Nat.not_lt_zero _)
  | @succ k out out' op op' R hk S ih =>
    intro m hm
    rcases S.how with ⟨_, _, ha, _, rfl, _⟩ | ⟨_, m0, _, hml, _, hr, rfl, _⟩
    · rw [List.length_append, List.length_singleton] at hm
      rw [getD_app]
      by_cases h : m < out.length
      · rw [if_pos h]; exact ih m h
      · rw [if_neg h, if_pos (by omega)]
        exact ⟨ha, fun h => (h rfl).elim⟩
    · rw [List.length_set] at hm
      rw [getD_set2 hml]
      by_cases e : m = m0
      · subst e
        rw [if_pos rfl]
        exact ⟨(ih m hm).1, fun _ => hr⟩
      · rw [if_neg e]; exact ih m hm
end Sr

namespace Rg
open Rl Hs Sr
theorem wrk_of {w : List Call} (hL : Lin w) {res : Int} {j : Nat} (h : (w.getD j Call.z).arg = res) : ∀ {k : Nat}, j < k → k ≤ w.length → wrk w res k = ((j + 1 : Nat) : Int)
  | 0, hj, _ => absurd hj (Nat.not_lt_zero _)
  | k + 1, hj, hk => by
    unfold wrk
    by_cases e : j = k
    · subst e; rw [if_pos h]
    · rw [if_neg fun e2 => (hL j k (by omega) (by omega)).1 (by rw [h, e2]), wrk_of hL h (by omega) (by omega)]
theorem wrk_zero {w : List Call} (h1 : ∀ x ∈ w, 1 ≤ x.arg) : ∀ k, k ≤ w.length → wrk w 0 k = 0
  | 0, _ => rfl
  | k + 1, hk => by
    unfold wrk
    rw [if_neg fun e => by have := h1 (w.getD k Call.z) (by rw [getD_of (by omega)]; exact List.getElem_mem _); omega, wrk_zero h1 k (by omega)]
/-- The value that was written last. -/
def lw (c : List Call) (v : Int) (t : List Step) : Int := t.foldl (fun v s => if (c.getD s.call.toNat Call.z).kind = 1 then (c.getD s.call.toNat Call.z).arg else v) v
theorem lw_mem (c : List Call) : ∀ (t : List Step) (v : Int), lw c v t = v ∨ ∃ t1 s t2, t = t1 ++ s :: t2 ∧ (c.getD s.call.toNat Call.z).kind = 1 ∧ lw c v t = (c.getD s.call.toNat Call.z).arg
  | [], v => .inl rfl
  | s :: t, v => by
    have e : lw c v (s :: t) = lw c (if (c.getD s.call.toNat Call.z).kind = 1 then (c.getD s.call.toNat Call.z).arg else v) t := rfl
    rw [e]
    rcases lw_mem c t (if (c.getD s.call.toNat Call.z).kind = 1 then (c.getD s.call.toNat Call.z).arg else v) with h | ⟨t1, s', t2, rfl, h1, h2⟩
    · rw [h]
      split
      · rename_i hk
        exact .inr ⟨[], s, t, rfl, hk, rfl⟩
      · exact .inl rfl
    · exact .inr ⟨s :: t1, s', t2, rfl, h1, h2⟩
theorem lw_app (c : List Call) (v : Int) (a b : List Step) : lw c v (a ++ b) = lw c (lw c v a) b := List.foldl_append
/-- What is read is what was written last. -/
theorem pl_reg {c : List Call} {q : Nat → Nat → Bool} (hth : ∀ m, m < c.length → (c.getD m Call.z).thing = 0) : ∀ {t : List Step} {v : Int} {w : List Nat}, Pl [1] c q [[v]] w t → ∀ t1 s t2, t = t1 ++ s :: t2 → (c.getD s.call.toNat Call.z).kind = 2 → s.res = lw c v t1
  | [], _, _, _, t1, s, t2, e, _ => by simp at e
  | a :: t, v, w, ⟨i, n, h1, h2, h3, h4, h5, h6, h7⟩, t1, s, t2, e, hk => by
    have ht := hth i h2
    rw [ht] at h6 h7
    have hx : Ob.nx 1 [v] (c.getD i Call.z).kind (c.getD i Call.z).arg = some (n, a.res) := h6
    obtain ⟨_, _, hs, _⟩ := Ob.nx_ok hx
    unfold Ob.stp at hs
    rw [if_pos rfl] at hs
    have hi : (c.getD a.call.toNat Call.z) = c.getD i Call.z := by rw [h1, Int.toNat_natCast]
    cases t1 with
    | nil =>
      obtain ⟨rfl, rfl⟩ : a = s ∧ t = t2 := by simpa using e
      rw [hi] at hk
      rw [if_neg (by omega)] at hs
      have := congrArg Prod.snd (Option.some.inj hs)
      exact this.symm
    | cons b t1 =>
      obtain ⟨rfl, rfl⟩ : a = b ∧ t = t1 ++ s :: t2 := by simpa using e
      have e1 : lw c v (a :: t1) = lw c (if (c.getD a.call.toNat Call.z).kind = 1 then (c.getD a.call.toNat Call.z).arg else v) t1 := rfl
      rw [e1, hi]
      have h7' : Pl [1] c q [n] (w ++ [i]) (t1 ++ s :: t2) := h7
      by_cases hk1 : (c.getD i Call.z).kind = 1
      · rw [if_pos hk1] at hs ⊢
        obtain rfl := congrArg Prod.fst (Option.some.inj hs)
        exact pl_reg hth h7' t1 s t2 rfl hk
      · rw [if_neg hk1] at hs ⊢
        obtain rfl := congrArg Prod.fst (Option.some.inj hs)
        exact pl_reg hth h7' t1 s t2 rfl hk
theorem ac_at {c : List Call} {q : Nat → Nat → Bool} {x y : List Step} {s : Step} (h : Ac c q [] (x ++ s :: y)) : ∃ i : Nat, s.call = i ∧ i < c.length ∧ i ∉ nums x ∧ (∀ j, j ∈ nums x → q i j = false) ∧ ((c.getD i Call.z).to_ ≠ -1 → s.res = (c.getD i Call.z).res) := by
  obtain ⟨_, i, h1, h2, h3, h4, h5, _⟩ := Ac.app.1 h
  exact ⟨i, h1, h2, by simpa using h3, by simpa using h4, h5⟩
theorem pl_ac' {types : List Int} {c : List Call} {q : Nat → Nat → Bool} : ∀ {t : List Step} {S : List (List Int)} {w : List Nat}, Pl types c q S w t → Ac c q w t
  | [], _, _, _ => trivial
  | s :: t, S, w, ⟨i, n, h1, h2, h3, h4, h5, h6, h7⟩ => ⟨i, h1, h2, h3, h4, h5, pl_ac' h7⟩
/-- Where two reads are turned there is no right order. -/
theorem no_order {c : List Call} (hth : ∀ m, m < c.length → (c.getD m Call.z).thing = 0) (hL : Lin (ws c)) (hpos : ∀ x ∈ ws c, 1 ≤ x.arg) {i j : Nat} (hi : i < c.length) (hj : j < c.length) (ri : isRead (c.getD i Call.z)) (rj : isRead (c.getD j Call.z)) (hp : prec (c.getD i Call.z) (c.getD j Call.z)) (hlt : wrk (ws c) (c.getD j Call.z).res (ws c).length < wrk (ws c) (c.getD i Call.z).res (ws c).length) (h0 : 0 ≤ wrk (ws c) (c.getD j Call.z).res (ws c).length) (u : List Step) : ¬ Sr.Gd [1] c (bfA c) (S0 [1]) [] u := by
  rintro ⟨hpl, hcm⟩
  have hac := pl_ac' hpl
  have hpl' : Pl [1] c (bfA c) [[0]] [] u := hpl
  have hi1 := hcm i hi ri.2
  have hj1 := hcm j hj rj.2
  rw [List.nil_append] at hi1 hj1
  obtain ⟨sa, ha, ha2⟩ := List.mem_map.1 hi1
  obtain ⟨u1, u2, rfl⟩ := List.append_of_mem ha
  obtain ⟨i', a1, a2, a3, a4, a5⟩ := ac_at hac
  obtain rfl : i' = i := by omega
  -- b stands behind a
  have hjb : j ∈ nums u2 := by
    unfold nums at hj1 ⊢
    rw [List.map_append, List.map_cons] at hj1
    rcases List.mem_append.1 hj1 with h | h
    · have := a4 j h
      unfold bfA at this
      exact absurd ⟨hi, hj, hp.1, hp.2⟩ (of_decide_eq_false this)
    · rcases List.mem_cons.1 h with h | h
      · rw [ha2] at h
        subst h
        omega
      · exact h
  obtain ⟨sb, hb, hb2⟩ := List.mem_map.1 hjb
  obtain ⟨v1, v2, rfl⟩ := List.append_of_mem hb
  have resA := pl_reg hth hpl' u1 sa _ rfl (by rw [ha2]; exact ri.1)
  have eb : u1 ++ sa :: (v1 ++ sb :: v2) = (u1 ++ sa :: v1) ++ sb :: v2 := by simp
  have resB := pl_reg hth hpl' (u1 ++ sa :: v1) sb v2 eb (by rw [hb2]; exact rj.1)
  have hacB : Ac c (bfA c) [] ((u1 ++ sa :: v1) ++ sb :: v2) := by rw [← eb]; exact hac
  obtain ⟨j', b1, b2, b3, b4, b5⟩ := ac_at hacB
  obtain rfl : j' = j := by omega
  have rA := a5 ri.2
  have rB := b5 rj.2
  rw [resA] at rA
  have e1 : lw c 0 (u1 ++ sa :: v1) = lw c (lw c 0 u1) v1 := by
    rw [lw_app]
    show lw c (if (c.getD sa.call.toNat Call.z).kind = 1 then _ else _) v1 = _
    rw [ha2, if_neg (by have := ri.1; omega)]
  rw [resB, e1, rA] at rB
  -- the write of the first one
  rcases lw_mem c u1 0 with h | ⟨x1, s1, x2, hx, k1, k2⟩
  · rw [h] at rA
    rw [← rA, wrk_zero hpos _ (Nat.le_refl _)] at hlt
    omega
  rcases lw_mem c v1 (c.getD i' Call.z).res with h | ⟨y1, s2, y2, hy, m1, m2⟩
  · rw [h] at rB
    rw [← rB] at hlt
    omega
  rw [k2] at rA
  rw [m2] at rB
  -- both writes, by their places
  have hacP : Ac c (bfA c) [] (x1 ++ s1 :: (x2 ++ sa :: (v1 ++ sb :: v2))) := by
    have : x1 ++ s1 :: (x2 ++ sa :: (v1 ++ sb :: v2)) = u1 ++ sa :: (v1 ++ sb :: v2) := by rw [hx]; simp
    rw [this]; exact hac
  have hacQ : Ac c (bfA c) [] ((u1 ++ sa :: y1) ++ s2 :: (y2 ++ sb :: v2)) := by
    have : (u1 ++ sa :: y1) ++ s2 :: (y2 ++ sb :: v2) = u1 ++ sa :: (v1 ++ sb :: v2) := by rw [hy]; simp
    rw [this]; exact hac
  obtain ⟨p, p1, p2, _, _, _⟩ := ac_at hacP
  obtain ⟨p', q1, q2, q3, q4, _⟩ := ac_at hacQ
  have hps : s1.call.toNat = p := by omega
  have hqs : s2.call.toNat = p' := by omega
  rw [hps] at k1 rA
  rw [hqs] at m1 rB
  have hpm : p ∈ nums (u1 ++ sa :: y1) := by
    unfold nums
    refine List.mem_map.2 ⟨s1, List.mem_append_left _ ?_, hps⟩
    rw [hx]; simp
  have hq := q4 p hpm
  have inw : ∀ m, m < c.length → (c.getD m Call.z).kind = 1 → ∃ k, k < (ws c).length ∧ (ws c).getD k Call.z = c.getD m Call.z := by
    intro m hm hk
    have : c.getD m Call.z ∈ ws c := by
      unfold ws
      refine List.mem_filter.2 ⟨by rw [getD_of hm]; exact List.getElem_mem hm, decide_eq_true hk⟩
    obtain ⟨k, hk1, hk2⟩ := List.getElem_of_mem this
    exact ⟨k, hk1, by rw [getD_of hk1]; exact hk2⟩
  obtain ⟨k, f1, f2⟩ := inw p p2 k1
  obtain ⟨k', g1, g2⟩ := inw p' q2 m1
  have wA := wrk_of hL (j := k) (res := (c.getD i' Call.z).res) (by rw [f2]; exact rA) f1 (Nat.le_refl _)
  have wB := wrk_of hL (j := k') (res := (c.getD j' Call.z).res) (by rw [g2]; exact rB) g1 (Nat.le_refl _)
  rw [wA, wB] at hlt
  have hkk : k' < k := by omega
  have := (hL k' k hkk f1).2
  rw [g2, f2] at this
  unfold bfA at hq
  exact of_decide_eq_false hq ⟨q2, p2, this.1, this.2⟩
theorem lives : alibkeep_regularLives 18446744073709551616 = some true := by kernel_rfl
theorem turnedLaw {N : Nat} (hN : 5000 < N) (hL : alibkeep_regularLives N = some true) (l : List Event) : alibkeep_RegularTurned N l = some true := by
  refine Wp.eq ?_
  unfold alibkeep_RegularTurned
  obtain ⟨⟨c, e1, e2⟩, hc, hrn⟩ := calls_rn (N := N) (types := [1]) (l := l) (by omega)
  obtain ⟨_, hc', hHis⟩ := calls_wp (N := N) (types := [1]) (l := l) (by omega)
  rw [hc] at hc'
  cases hc'
  simp only at hrn hHis
  have hlen : e2 = 0 → c.length ≤ 200 := fun h => by
    obtain ⟨_, _, h2, _, op, R⟩ := hrn h
    have := R.wf.len
    omega
  have hT : Wp (regular_Turned N l) fun r => (r.2.2.2 ≠ 0 ∧ r.1 = 0 ∧ r.2.1 = 0 ∧ r.2.2.1 = false) ∨ (r.2.2.2 = 0 ∧ e2 = 0 ∧ Lin (ws c) ∧ Tn c (ws c) (r.1, r.2.1, r.2.2.1)) := by
    unfold regular_Turned
    refine .seq (read_wp (by omega) hc hlen) fun r _ hr => ?_
    rcases hr with ⟨h, rfl⟩ | ⟨h, hLi, rfl⟩ | ⟨_, _, rfl⟩
    · exact .condT (by simpa using h) (.one (.inl ⟨h, rfl, rfl, rfl⟩))
    · refine .condF rfl (.ck rfl (.seq (turned_wp (by omega) (hlen h) ?_) fun t _ ht => .one (.inr ⟨rfl, h, hLi, ht⟩)))
      have := List.length_filter_le (fun x : Call => decide (x.kind = 1)) c
      have := hlen h
      show (ws c).length ≤ 200
      unfold ws; omega
    · exact .condT rfl (.one (.inl ⟨by simp, rfl, rfl, rfl⟩))
  refine .seq hT fun r _ hr => .bdO hc ?_
  have hv : Wp (bd (alibkeep_regularLives N) fun (r12 : Bool) =>
      bif (!r12) == false then
        bd (alibkeep_ok N ([r.2.2.2, e2] : List Int)) fun (r14 : Bool) => some (((!r12) || (!r14)) || (!r.2.2.1))
      else some (((!r12) || false) || (!r.2.2.1))) fun b => b = (!decide (r.2.2.2 = 0 ∧ e2 = 0) || !r.2.2.1) := by
    refine .bdO hL (.condT rfl (.bdO (Sr.okd (by simp; omega) (by simp)) (.one ?_)))
    simp [Bool.not_and]
  refine .seq hv fun b _ hb => .cond (fun h => .bdO hL (.one ?_)) fun h => ?_
  · rcases hr with ⟨_, h1, h2, _⟩ | ⟨h1, h2, _, ht⟩
    · rw [h1, h2]; rfl
    · rcases ht with ⟨ht, _⟩ | ⟨i, j, ht, _⟩
      · have ht1 : r.1 = 0 := congrArg Prod.fst ht
        have ht2 : r.2.1 = 0 := congrArg (fun x => x.2.1) ht
        rw [ht1, ht2]; rfl
      · have ht3 : r.2.2.1 = true := congrArg (fun x => x.2.2) ht
        rw [hb, ht3] at h
        simp [h1, h2] at h
  · rw [hb] at h
    simp only [Bool.or_eq_false_iff, Bool.not_eq_false', decide_eq_true_eq] at h
    obtain ⟨⟨h1, h2⟩, h3⟩ := h
    rcases hr with ⟨h4, _⟩ | ⟨_, _, hLi, ht⟩
    · exact (h4 h1).elim
    rcases ht with ⟨ht, _⟩ | ⟨i, j, ht, hi, hj, ri, rj, gi, gj, hp, hlt⟩
    · have : r.2.2.1 = false := congrArg (fun x => x.2.2) ht
      rw [this] at h3; cases h3
    have ht1 : r.1 = i := congrArg Prod.fst ht
    have ht2 : r.2.1 = j := congrArg (fun x => x.2.1) ht
    rw [ht1, ht2]
    have wi : ix c (i : Int) = some (c.getD i Call.z) := by rw [ix_of hi, getD_of hi]
    have wj : ix c (j : Int) = some (c.getD j Call.z) := by rw [ix_of hj, getD_of hj]
    have c1 : (((decide ((i : Int) < 0) || decide ((j : Int) < 0)) || decide ((c.length : Int) ≤ (i : Int))) || decide ((c.length : Int) ≤ (j : Int))) = false := by simp; omega
    obtain ⟨ki, ti⟩ := ri
    obtain ⟨kj, tj⟩ := rj
    have hres : (c.getD i Call.z).res ≠ (c.getD j Call.z).res := by
      intro e; rw [e] at hlt; omega
    simp only [c1, wi, wj]
    have b1 : (!decide ((c.getD i Call.z).kind = 2)) = false := by rw [decide_eq_true ki]; rfl
    have b2 : (!decide ((c.getD j Call.z).kind = 2)) = false := by rw [decide_eq_true kj]; rfl
    have b3 : decide ((c.getD i Call.z).to_ = -1) = false := decide_eq_false ti
    have b4 : decide ((c.getD j Call.z).from_ ≤ (c.getD i Call.z).to_) = false := decide_eq_false (by have := hp.2; omega)
    have b5 : decide ((c.getD i Call.z).res = (c.getD j Call.z).res) = false := decide_eq_false hres
    refine .bdO (a := c.getD i Call.z) rfl ?_
    rw [b1]
    refine .bdO (a := c.getD j Call.z) rfl ?_
    rw [b2]
    refine .bdO (a := c.getD i Call.z) rfl ?_
    rw [b3]
    refine .bdO (a := c.getD i Call.z) rfl (.bdO (a := c.getD j Call.z) rfl ?_)
    rw [b4]
    refine .bdO (a := c.getD i Call.z) rfl (.bdO (a := c.getD j Call.z) rfl ?_)
    rw [b5]
    refine .condF rfl ?_
    obtain ⟨⟨c9, e9⟩, hc9, hcs⟩ := calls9_wp (N := N) (by omega) [1] l
    refine .seq (find_wp (by omega) hc9) fun q _ ⟨f1, f2, f3⟩ => .one ?_
    rcases hcs with ⟨z, Hx, hh⟩ | ⟨z, _⟩
    · simp only at z Hx hh
      subst z
      rw [hc] at hh
      have hco : c = c9 := congrArg Prod.fst (Option.some.inj hh)
      subst hco
      obtain ⟨hty, _, h200, _, op, R⟩ := hrn h2
      have hth : ∀ m, m < c.length → (c.getD m Call.z).thing = 0 := fun m hm => by
        have := (R.wf.one m hm).thing
        have h1 : ([1] : List Int).length = 1 := rfl
        omega
      have hpos : ∀ x ∈ ws c, 1 ≤ x.arg := fun x hx => by
        obtain ⟨hx1, hx2⟩ := List.mem_filter.1 hx
        obtain ⟨m, hm, rfl⟩ := List.getElem_of_mem hx1
        have h5 := (rn_arg R m hm).1
        rw [getD_of hm] at h5
        have hk : c[m].kind = 1 := by simpa using hx2
        rw [hk, Ob.argument_ok] at h5
        simp at h5
        exact h5.1
      have hno := no_order hth hLi hpos hi hj ⟨ki, ti⟩ ⟨kj, tj⟩ hp hlt (by
        have := gj
        unfold judge at this
        simp only [Bool.and_eq_true, decide_eq_true_eq] at this
        exact this.1)
      have : q.2.1 = false := by
        rcases f3 rfl Hx with ⟨_, h5, _⟩ | ⟨h5, _⟩
        · exact (hno _ h5).elim
        · exact h5
      simp [this]
    · have : q.2.2 ≠ 0 := by rw [f1]; exact z
      simp [this]
end Rg

end Go.Proofs.Yteklmleiiiodfaa
